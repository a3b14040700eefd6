/-
  THE ABSTRACT MACHINE: accesses as cells.
-/
import Derived.Test.YtleoicjpcdmfkaaAb26
set_option linter.unusedSimpArgs false
set_option linter.unusedVariables false
namespace Ab
open Go
open Heap (get put next skip)

/-- The cells of an access. -/
def actV (k a b c d e f : Int) (g : Bool) (i j : Int) (l : Bool) : Array Value :=
  #[.int .i64 k, .int .i64 a, .int .i64 b, .int .i64 c, .int .i64 d, .int .u64 e, .int .i64 f, .bool g, .int .u64 i, .int .i64 j, .bool l]

def actL : List LT := [.int .i64, .int .i64, .int .i64, .int .i64, .int .i64, .int .u64, .int .i64, .bool, .int .u64, .int .i64, .bool]

theorem actV_of {cs : Array Value} (h : okL actL cs.toList) : ∃ k a b c d e f g i j l, cs = actV k a b c d e f g i j l ∧ (Lit.int .i64 d).wf = true ∧ (Lit.int .u64 e).wf = true ∧ (Lit.int .u64 i).wf = true ∧ (Lit.int .i64 j).wf = true := by
  obtain ⟨l0⟩ := cs
  obtain ⟨k, _, rfl, _, h⟩ := okL_int h
  obtain ⟨a, _, rfl, _, h⟩ := okL_int h
  obtain ⟨b, _, rfl, _, h⟩ := okL_int h
  obtain ⟨c, _, rfl, _, h⟩ := okL_int h
  obtain ⟨d, _, rfl, hd, h⟩ := okL_int h
  obtain ⟨e, _, rfl, he, h⟩ := okL_int h
  obtain ⟨f, _, rfl, _, h⟩ := okL_int h
  obtain ⟨g, _, rfl, h1⟩ := okL_bool h
  obtain ⟨i, _, rfl, hi, h⟩ := okL_int h1
  obtain ⟨j, _, rfl, hj, h⟩ := okL_int h
  obtain ⟨l, _, rfl, h2⟩ := okL_bool h
  cases okL_nil h2
  exact ⟨k, a, b, c, d, e, f, g, i, j, l, rfl, hd, he, hi, hj⟩

/-! ### so that simp leaves alone what comes later -/

section
variable {H : Type} [Heap H]
omit [Heap H] in
@[congr] theorem ocase_congr {x y : Option (Value × H)} (K : Tok → Value → H → Prop) (h : x = y) : ocase x K = ocase y K := by rw [h]
@[congr] theorem ccase_congr {x y : Value} (T F : Tok → Prop) (h : x = y) : ccase x T F = ccase y T F := by rw [h]
@[congr] theorem gcaseG_congr {x y : Option Bool} (T F : Tok → Prop) (h : x = y) : gcaseG x T F = gcaseG y T F := by rw [h]
@[congr] theorem seqK_congr (t : Tok) {x y : AExit} (T F : Tok → Prop) (h : x = y) : seqK t x T F = seqK t y T F := by rw [h]
@[congr] theorem CallsG_congr (t : Tok) (tab : FuncId → Option AFunc) (f : FuncId) {a b : Array Value} {h h' : H} (K : Tok → Value → H → Prop) (e1 : a = b) (e2 : h = h') : CallsG t tab f a h K = CallsG t tab f b h' K := by rw [e1, e2]
@[congr] theorem stepG_congr (t : Tok) (tab : FuncId → Option AFunc) (n id : Nat) (op : AOp) (e : Env) {h h' : H} (K : Tok → Value → H → Prop) (e2 : h = h') : stepG t tab n id op e h K = stepG t tab n id op e h' K := by rw [e2]
@[congr] theorem wpOG_congr (t : Tok) (tab : FuncId → Option AFunc) (n base i : Nat) (l : List BOper) (e : Env) {h h' : H} (K : Tok → Env → H → Prop) (e2 : h = h') : wpOG t tab n base i l e h K = wpOG t tab n base i l e h' K := by rw [e2]
@[congr] theorem wpTG_congr (t : Tok) (tab : FuncId → Option AFunc) (n base i : Nat) (l : List BOper) (e : Env) {h h' : H} (K : Tok → List (Rec H) → Env → H → Prop) (e2 : h = h') : wpTG t tab n base i l e h K = wpTG t tab n base i l e h' K := by rw [e2]
@[congr] theorem wpG_congr (t : Tok) (tab : FuncId → Option AFunc) (n : Nat) (c : BCode) (e : Env) {h h' : H} (K : Tok → AExit → Env → H → Prop) (e2 : h = h') : wpG t tab n c e h K = wpG t tab n c e h' K := by rw [e2]
end

section
variable {H : Type} [Heap H]
theorem Row.lt {h : H} {r sz : Nat} {rv : Value} {n : Nat} {cs : Array Value} (hr : Row h r sz rv n cs) : 0 < n → r < next h := fun q => by
  rcases hr with ⟨_, q2, _⟩ | ⟨_, _, _, _, q3⟩
  · omega
  · exact q3

end
end Ab
