/-
  Layer 8: ghost and reference side by side.
-/
import Derived.Test.YtleoicjpcdmfkaaLa18
set_option linter.unusedSimpArgs false
set_option linter.unusedVariables false
namespace Go.Proofs.Ytleoicjpcdmfkaa
open Go Ab
open Heap (get put next skip)

theorem set3_lk (es : List (K3 × Int)) (p : K3) (w : Int) : set3 (lkD es) p w = lkD (stD es p w) := by
  funext q
  unfold set3
  rw [lkD_stD]

theorem set3_wr (es : List (K3 × Int)) (p : K3) (i : Int) (h : -9223372036854775808 ≤ i ∧ i < 9223372036854775808) : set3 (fun q => IntKind.i64.wrap (lkD es q)) p i = fun q => IntKind.i64.wrap (lkD (stD es p (IntKind.u64.wrap i)) q) := by
  funext q
  unfold set3
  rw [lkD_stD]
  split
  · rw [wrap_back h.1 h.2]
  · rfl

theorem setI_now (bs : List Int) (sl : Int) : setI (nowL bs) sl ((bs.length + 1 : Nat) : Int) = nowL (bs ++ [sl]) := by
  funext q
  unfold setI
  rw [nowL_push]

section
variable {H : Type} [Heap H]
attribute [local irreducible] wpG wpOG wpTG stepG CallsG cfunc bfunc tmOf upd

structure Bth8 (h : H) (l g p c m nm s u : Nat) (r wr lr sr : Nat) (rv wv lv sv : Value) (row : Array Value) (ew el : List (K3 × Int)) (bs : List Int) (c0 c1 c2 c3 c4 st fa : Int) (k : Nat) : Prop where
  G : GhostAt h l g p c m nm s r (lkD ew) (fun q => IntKind.i64.wrap (lkD el q)) (nowL bs) rv bs.length row c0 c1 c2 c3 c4 st fa
  R : Ref8 h u wr lr sr wv lv sv ew el bs fa st
  su : s < u
  ss : s < sr
  sr' : s < r ∧ r < next h
  d : r ≠ u ∧ r ≠ wr ∧ r ≠ lr ∧ r ≠ sr
  b : ew.length ≤ k ∧ el.length ≤ k ∧ bs.length ≤ k

def Bth8X (h : H) (l g p c m nm s u k : Nat) (st fa : Int) : Prop := ∃ r wr lr sr rv wv lv sv row ew el bs c0 c1 c2 c3 c4, Bth8 h l g p c m nm s u r wr lr sr rv wv lv sv row ew el bs c0 c1 c2 c3 c4 st fa k

end
end Go.Proofs.Ytleoicjpcdmfkaa
