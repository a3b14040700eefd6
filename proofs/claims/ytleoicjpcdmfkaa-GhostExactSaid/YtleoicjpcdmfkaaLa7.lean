/-
  The references' rows: of words by places, of births.
-/
import Derived.Test.YtleoicjpcdmfkaaLa4
import Derived.Test.YtleoicjpcdmfkaaAb26
set_option linter.unusedSimpArgs false
set_option linter.unusedVariables false
namespace Go.Proofs.Ytleoicjpcdmfkaa
open Go Ab
open Heap (get put next skip)

abbrev K3 := Int × Int × Int

def p3 (p : K3) : List Value := [.int .i64 p.1, .int .i64 p.2.1, .int .i64 p.2.2]
def c4r (x : K3 × Int) : List Value := [.int .i64 x.1.1, .int .i64 x.1.2.1, .int .i64 x.1.2.2, .int .u64 x.2]
theorem c4r_len (x : K3 × Int) : (c4r x).length = 4 := rfl
def i1r (x : Int) : List Value := [.int .i64 x]
theorem i1r_len (x : Int) : (i1r x).length = 1 := rfl

theorem eq3 (a b c x y z : Int) : ((a == x) && ((b == y) && (c == z))) = decide ((a, b, c) = (x, y, z)) := by
  rw [Bool.eq_iff_iff]
  simp

section
variable {H : Type} [Heap H]
attribute [local irreducible] wpG wpOG wpTG stepG CallsG cfunc bfunc tmOf upd

def GetI (h0 : H) (u r off : Nat) (p : K3) (es : List (K3 × Int)) (m : Nat) (e : Env) (h : H) : Prop :=
  ∃ k q : Nat, m = es.length - k ∧ k ≤ es.length ∧ e 0 = .pointer (some ⟨u, off, none⟩) ∧ e 3 = .pointer (some ⟨q, 0, none⟩) ∧ e 5 = .int .i64 (k : Int) ∧ next h0 ≤ q ∧ next h0 ≤ next h ∧ get h q = some (.cells (p3 p).toArray .rw) ∧ Same h0 h ∧
    lkD es p = lkD (es.drop k) p

/-- revenantref04's Get -/
theorem k66 {h : H} {u off r : Nat} {us : Array Value} {rv : Value} {es : List (K3 × Int)} (hu : get h u = some (.cells us .rw)) (hun : u < next h) (hrv : us[off]? = some rv) (hr : Row h r 4 rv es.length (rowsOf c4r es)) (hlen : es.length < 1000000) (a b c : Int) :
    Fresh h → CallsTo tt 66 #[.pointer (some ⟨u, off, none⟩), .agg #[.int .i64 a, .int .i64 b, .int .i64 c]] h fun v h1 => v = .int .u64 (lkD es (a, b, c)) ∧ Same h h1 := by
  refine toCall c66 (by simp [b66]) fun hf => ?_
  simp (maxSteps := 4000000) (disch := first | decide | omega | rfl) only [b66, ↓sa0, ↓sa1, sb0, sb1, sb2, sb3, sb4, sb5, guardIs, fillV, cellsN, setAll, loadC, loadCs, aresL, ares1, tupV, one, binV, unV, eqV, eqH, allEq, leafEq, shapeL, LK.is, ↓reduceIte, reduceCtorEq, Nat.reduceAdd, Nat.reduceSub, Nat.reduceMul, Nat.reduceLT, Nat.reduceLeDiff, Nat.reduceEqDiff, bne, dynB, heapsB, wanted, AOp.eff, AOp.makes, Int.reduceEq, Int.reduceLT, Int.reduceLE, Int.reduceBEq, Int.reduceBNe, boundV, natV_cast]
  refine g_loop (GetI h u r off (a, b, c) es) es.length ?_ fun m e h1 hf1 hI => ?_
  · refine ⟨0, next h, by omega, by omega, by simp (maxSteps := 4000000) (disch := first | decide | omega | rfl) only [↓sa0, ↓sa1, sb0, sb1, sb2, sb3, sb4, sb5, guardIs, fillV, cellsN, setAll, loadC, loadCs, aresL, ares1, tupV, one, binV, unV, eqV, eqH, allEq, leafEq, shapeL, LK.is, ↓reduceIte, reduceCtorEq, Nat.reduceAdd, Nat.reduceSub, Nat.reduceMul, Nat.reduceLT, Nat.reduceLeDiff, Nat.reduceEqDiff, bne, dynB, heapsB, wanted, AOp.eff, AOp.makes, Int.reduceEq, Int.reduceLT, Int.reduceLE, Int.reduceBEq, Int.reduceBNe, boundV, natV_cast], by simp (maxSteps := 4000000) (disch := first | decide | omega | rfl) only [↓sa0, ↓sa1, sb0, sb1, sb2, sb3, sb4, sb5, guardIs, fillV, cellsN, setAll, loadC, loadCs, aresL, ares1, tupV, one, binV, unV, eqV, eqH, allEq, leafEq, shapeL, LK.is, ↓reduceIte, reduceCtorEq, Nat.reduceAdd, Nat.reduceSub, Nat.reduceMul, Nat.reduceLT, Nat.reduceLeDiff, Nat.reduceEqDiff, bne, dynB, heapsB, wanted, AOp.eff, AOp.makes, Int.reduceEq, Int.reduceLT, Int.reduceLE, Int.reduceBEq, Int.reduceBNe, boundV, natV_cast], by simp (maxSteps := 4000000) (disch := first | decide | omega | rfl) only [↓sa0, ↓sa1, sb0, sb1, sb2, sb3, sb4, sb5, guardIs, fillV, cellsN, setAll, loadC, loadCs, aresL, ares1, tupV, one, binV, unV, eqV, eqH, allEq, leafEq, shapeL, LK.is, ↓reduceIte, reduceCtorEq, Nat.reduceAdd, Nat.reduceSub, Nat.reduceMul, Nat.reduceLT, Nat.reduceLeDiff, Nat.reduceEqDiff, bne, dynB, heapsB, wanted, AOp.eff, AOp.makes, Int.reduceEq, Int.reduceLT, Int.reduceLE, Int.reduceBEq, Int.reduceBNe, boundV, natV_cast]; rfl, ?_, ?_, ?_, fun b hb => ?_, rfl⟩
    all_goals try simp (maxSteps := 4000000) (disch := first | decide | omega | rfl) only [p3, ↓sa0, ↓sa1, sb0, sb1, sb2, sb3, sb4, sb5, guardIs, fillV, cellsN, setAll, loadC, loadCs, aresL, ares1, tupV, one, binV, unV, eqV, eqH, allEq, leafEq, shapeL, LK.is, ↓reduceIte, reduceCtorEq, Nat.reduceAdd, Nat.reduceSub, Nat.reduceMul, Nat.reduceLT, Nat.reduceLeDiff, Nat.reduceEqDiff, bne, dynB, heapsB, wanted, AOp.eff, AOp.makes, Int.reduceEq, Int.reduceLT, Int.reduceLE, Int.reduceBEq, Int.reduceBNe, boundV, natV_cast]
    all_goals omega
  obtain ⟨k, q, hm, hk, e0, e3, e5, hq, hn, hgq, hs, hlk⟩ := hI
  unfold Same at hs
  obtain ⟨base, rfl, hb⟩ := hr.form
  unfold p3 at hgq
  have hu1 : get h1 u = some (.cells us .rw) := by rw [hs u hun]; exact hu
  rcases (by omega : k = es.length ∨ k < es.length) with c | hlt
  · have d1 : decide ((k : Int) < (es.length : Int)) = false := by simp; omega
    simp (maxSteps := 4000000) (disch := first | decide | omega | rfl) only [e0, e3, e5, hu1, hrv, d1, ↓sa0, ↓sa1, sb0, sb1, sb2, sb3, sb4, sb5, guardIs, fillV, cellsN, setAll, loadC, loadCs, aresL, ares1, tupV, one, binV, unV, eqV, eqH, allEq, leafEq, shapeL, LK.is, ↓reduceIte, reduceCtorEq, Nat.reduceAdd, Nat.reduceSub, Nat.reduceMul, Nat.reduceLT, Nat.reduceLeDiff, Nat.reduceEqDiff, bne, dynB, heapsB, wanted, AOp.eff, AOp.makes, Int.reduceEq, Int.reduceLT, Int.reduceLE, Int.reduceBEq, Int.reduceBNe, boundV, natV_cast]
    refine ⟨?_, fun b hb => by simp (maxSteps := 4000000) (disch := first | decide | omega | rfl) only [hs, ↓sa0, ↓sa1, sb0, sb1, sb2, sb3, sb4, sb5, guardIs, fillV, cellsN, setAll, loadC, loadCs, aresL, ares1, tupV, one, binV, unV, eqV, eqH, allEq, leafEq, shapeL, LK.is, ↓reduceIte, reduceCtorEq, Nat.reduceAdd, Nat.reduceSub, Nat.reduceMul, Nat.reduceLT, Nat.reduceLeDiff, Nat.reduceEqDiff, bne, dynB, heapsB, wanted, AOp.eff, AOp.makes, Int.reduceEq, Int.reduceLT, Int.reduceLE, Int.reduceBEq, Int.reduceBNe, boundV, natV_cast]⟩
    rw [hlk, c]
    simp [lkD]
  · have d1 : decide ((k : Int) < (es.length : Int)) = true := by simp; omega
    have hb' := hb (by omega)
    clear hb
    obtain ⟨rfl, hg, hsz, hrn⟩ := hb'
    obtain ⟨⟨⟨x, y, z⟩, w⟩, hx⟩ : ∃ x, es[k]? = some x := ⟨_, List.getElem?_eq_getElem hlt⟩
    have hg1 : get h1 r = some (.cells (rowsOf c4r es) (.gr 4)) := by rw [hs r hrn]; exact hg
    have x1 := rowsOf_extract c4r_len hx (a := 0) (b := 3) (by omega)
    have x2 := rowsOf_get c4r_len hx (j := 3) (by omega)
    simp only [c4r, List.drop_zero, List.take_succ_cons, List.take_zero, List.getElem?_cons_succ, List.getElem?_cons_zero, Nat.add_zero, Nat.reduceSub] at x1 x2
    have hle : k * 4 + 3 ≤ (rowsOf c4r es).size := by omega
    have hdrop : lkD (es.drop k) (a, b, c) = if (x, y, z) = (a, b, c) then w else lkD (es.drop (k + 1)) (a, b, c) := by
      rw [List.drop_eq_getElem_cons hlt]
      rw [List.getElem?_eq_getElem hlt] at hx
      rw [Option.some.inj hx]
      rfl
    have hnext := wrap_next (show k < 1000000000 by omega)
    cases hd : decide ((x, y, z) = (a, b, c))
    · have hd' := hd
      rw [← eq3] at hd'
      rw [if_neg (of_decide_eq_false hd)] at hdrop
      simp (maxSteps := 4000000) (disch := first | decide | omega | rfl) only [e0, e3, e5, hu1, hrv, d1, hlt, hg1, x1, hle, hgq, hd', hnext, ↓sa0, ↓sa1, sb0, sb1, sb2, sb3, sb4, sb5, guardIs, fillV, cellsN, setAll, loadC, loadCs, aresL, ares1, tupV, one, binV, unV, eqV, eqH, allEq, leafEq, shapeL, LK.is, ↓reduceIte, reduceCtorEq, Nat.reduceAdd, Nat.reduceSub, Nat.reduceMul, Nat.reduceLT, Nat.reduceLeDiff, Nat.reduceEqDiff, bne, dynB, heapsB, wanted, AOp.eff, AOp.makes, Int.reduceEq, Int.reduceLT, Int.reduceLE, Int.reduceBEq, Int.reduceBNe, boundV, natV_cast]
      refine ⟨es.length - (k + 1), by omega, k + 1, q, rfl, by omega, ?_, ?_, ?_, ?_, ?_, ?_, fun b hb => ?_, by rw [hlk, hdrop]⟩
      all_goals try simp (maxSteps := 4000000) (disch := first | decide | omega | rfl) only [e0, e3, e5, hgq, hs, p3, ↓sa0, ↓sa1, sb0, sb1, sb2, sb3, sb4, sb5, guardIs, fillV, cellsN, setAll, loadC, loadCs, aresL, ares1, tupV, one, binV, unV, eqV, eqH, allEq, leafEq, shapeL, LK.is, ↓reduceIte, reduceCtorEq, Nat.reduceAdd, Nat.reduceSub, Nat.reduceMul, Nat.reduceLT, Nat.reduceLeDiff, Nat.reduceEqDiff, bne, dynB, heapsB, wanted, AOp.eff, AOp.makes, Int.reduceEq, Int.reduceLT, Int.reduceLE, Int.reduceBEq, Int.reduceBNe, boundV, natV_cast]
      all_goals omega
    · have hd' := hd
      rw [← eq3] at hd'
      rw [if_pos (of_decide_eq_true hd)] at hdrop
      simp (maxSteps := 4000000) (disch := first | decide | omega | rfl) only [e0, e3, e5, hu1, hrv, d1, hlt, hg1, x1, x2, hle, hgq, hd', ↓sa0, ↓sa1, sb0, sb1, sb2, sb3, sb4, sb5, guardIs, fillV, cellsN, setAll, loadC, loadCs, aresL, ares1, tupV, one, binV, unV, eqV, eqH, allEq, leafEq, shapeL, LK.is, ↓reduceIte, reduceCtorEq, Nat.reduceAdd, Nat.reduceSub, Nat.reduceMul, Nat.reduceLT, Nat.reduceLeDiff, Nat.reduceEqDiff, bne, dynB, heapsB, wanted, AOp.eff, AOp.makes, Int.reduceEq, Int.reduceLT, Int.reduceLE, Int.reduceBEq, Int.reduceBNe, boundV, natV_cast]
      refine ⟨by rw [hlk, hdrop], fun b hb => by simp (maxSteps := 4000000) (disch := first | decide | omega | rfl) only [hs, ↓sa0, ↓sa1, sb0, sb1, sb2, sb3, sb4, sb5, guardIs, fillV, cellsN, setAll, loadC, loadCs, aresL, ares1, tupV, one, binV, unV, eqV, eqH, allEq, leafEq, shapeL, LK.is, ↓reduceIte, reduceCtorEq, Nat.reduceAdd, Nat.reduceSub, Nat.reduceMul, Nat.reduceLT, Nat.reduceLeDiff, Nat.reduceEqDiff, bne, dynB, heapsB, wanted, AOp.eff, AOp.makes, Int.reduceEq, Int.reduceLT, Int.reduceLE, Int.reduceBEq, Int.reduceBNe, boundV, natV_cast]⟩

/-- An association list, part of which was looked through. -/
theorem stD_take (es : List (K3 × Int)) (p : K3) (w : Int) (k : Nat) (hk : k < es.length) (hne : (es[k]'hk).1 ≠ p) (h : stD es p w = es.take k ++ stD (es.drop k) p w) : stD es p w = es.take (k + 1) ++ stD (es.drop (k + 1)) p w := by
  rw [h, List.drop_eq_getElem_cons hk]
  generalize he : es[k] = x at hne
  obtain ⟨x, u⟩ := x
  simp only [stD]
  rw [if_neg hne, List.take_add_one, List.getElem?_eq_getElem hk, he]
  simp

theorem stD_found (es : List (K3 × Int)) (p : K3) (w : Int) (k : Nat) (hk : k < es.length) (he : (es[k]'hk).1 = p) (h : stD es p w = es.take k ++ stD (es.drop k) p w) : stD es p w = es.set k (p, w) := by
  rw [h, List.drop_eq_getElem_cons hk]
  generalize he' : es[k] = x at he
  obtain ⟨x, u⟩ := x
  simp only [stD]
  rw [if_pos he, List.set_eq_take_append_cons_drop, if_pos hk]

def SetI (h0 : H) (u r off : Nat) (p : K3) (w : Int) (es : List (K3 × Int)) (m : Nat) (e : Env) (h : H) : Prop :=
  ∃ k q : Nat, m = es.length - k ∧ k ≤ es.length ∧ e 0 = .pointer (some ⟨u, off, none⟩) ∧ e 2 = .int .u64 w ∧ e 4 = .pointer (some ⟨q, 0, none⟩) ∧ e 6 = .int .i64 (k : Int) ∧ next h0 ≤ q ∧ next h0 ≤ next h ∧ get h q = some (.cells (p3 p).toArray .rw) ∧ Same h0 h ∧
    stD es p w = es.take k ++ stD (es.drop k) p w

theorem setIfInBounds_same {us : Array Value} {off : Nat} {rv : Value} (h : us[off]? = some rv) : us.setIfInBounds off rv = us := by
  obtain ⟨h1, h2⟩ := Array.getElem?_eq_some_iff.1 h
  refine Array.ext (by simp) fun i q1 q2 => ?_
  rw [Array.getElem_setIfInBounds]
  split
  · rename_i q; subst q; exact h2.symm
  · rfl

theorem stD_len (p : K3) (w : Int) : ∀ es : List (K3 × Int), (stD es p w).length ≤ es.length + 1
  | [] => by simp [stD]
  | (x, v) :: es => by
    simp only [stD]
    split
    · simp
    · have := stD_len p w es
      simp; omega

set_option maxHeartbeats 4000000 in
/-- revenantref04's Set -/
theorem k68 {h : H} {u off r : Nat} {us : Array Value} {rv : Value} {es : List (K3 × Int)} (hu : get h u = some (.cells us .rw)) (hun : u < next h) (hrv : us[off]? = some rv) (hr : Row h r 4 rv es.length (rowsOf c4r es)) (hne : 0 < es.length → r ≠ u) (hlen : es.length < 1000000) (a b c w : Int) :
    Fresh h → CallsTo tt 68 #[.pointer (some ⟨u, off, none⟩), .agg #[.int .i64 a, .int .i64 b, .int .i64 c], .int .u64 w] h fun _ h1 =>
      ∃ r' rv', get h1 u = some (.cells (us.setIfInBounds off rv') .rw) ∧ Row h1 r' 4 rv' (stD es (a, b, c) w).length (rowsOf c4r (stD es (a, b, c) w)) ∧ ((0 < es.length ∧ r' = r) ∨ next h ≤ r') ∧ ∀ b, b < next h → b ≠ u → (0 < es.length → b ≠ r) → get h1 b = get h b := by
  refine toCall c68 (by simp [b68]) fun hf => ?_
  simp (maxSteps := 4000000) (disch := first | decide | omega | rfl) only [b68, ↓sa0, ↓sa1, sb0, sb1, sb2, sb3, sb4, sb5, guardIs, fillV, cellsN, setAll, loadC, loadCs, aresL, ares1, tupV, one, binV, unV, eqV, eqH, allEq, leafEq, shapeL, LK.is, ↓reduceIte, reduceCtorEq, Nat.reduceAdd, Nat.reduceSub, Nat.reduceMul, Nat.reduceLT, Nat.reduceLeDiff, Nat.reduceEqDiff, bne, dynB, heapsB, wanted, AOp.eff, AOp.makes, Int.reduceEq, Int.reduceLT, Int.reduceLE, Int.reduceBEq, Int.reduceBNe, boundV, natV_cast]
  refine g_loop (SetI h u r off (a, b, c) w es) es.length ?_ fun m e h1 hf1 hI => ?_
  · refine ⟨0, next h, by omega, by omega, by simp (maxSteps := 4000000) (disch := first | decide | omega | rfl) only [↓sa0, ↓sa1, sb0, sb1, sb2, sb3, sb4, sb5, guardIs, fillV, cellsN, setAll, loadC, loadCs, aresL, ares1, tupV, one, binV, unV, eqV, eqH, allEq, leafEq, shapeL, LK.is, ↓reduceIte, reduceCtorEq, Nat.reduceAdd, Nat.reduceSub, Nat.reduceMul, Nat.reduceLT, Nat.reduceLeDiff, Nat.reduceEqDiff, bne, dynB, heapsB, wanted, AOp.eff, AOp.makes, Int.reduceEq, Int.reduceLT, Int.reduceLE, Int.reduceBEq, Int.reduceBNe, boundV, natV_cast], by simp (maxSteps := 4000000) (disch := first | decide | omega | rfl) only [↓sa0, ↓sa1, sb0, sb1, sb2, sb3, sb4, sb5, guardIs, fillV, cellsN, setAll, loadC, loadCs, aresL, ares1, tupV, one, binV, unV, eqV, eqH, allEq, leafEq, shapeL, LK.is, ↓reduceIte, reduceCtorEq, Nat.reduceAdd, Nat.reduceSub, Nat.reduceMul, Nat.reduceLT, Nat.reduceLeDiff, Nat.reduceEqDiff, bne, dynB, heapsB, wanted, AOp.eff, AOp.makes, Int.reduceEq, Int.reduceLT, Int.reduceLE, Int.reduceBEq, Int.reduceBNe, boundV, natV_cast], by simp (maxSteps := 4000000) (disch := first | decide | omega | rfl) only [↓sa0, ↓sa1, sb0, sb1, sb2, sb3, sb4, sb5, guardIs, fillV, cellsN, setAll, loadC, loadCs, aresL, ares1, tupV, one, binV, unV, eqV, eqH, allEq, leafEq, shapeL, LK.is, ↓reduceIte, reduceCtorEq, Nat.reduceAdd, Nat.reduceSub, Nat.reduceMul, Nat.reduceLT, Nat.reduceLeDiff, Nat.reduceEqDiff, bne, dynB, heapsB, wanted, AOp.eff, AOp.makes, Int.reduceEq, Int.reduceLT, Int.reduceLE, Int.reduceBEq, Int.reduceBNe, boundV, natV_cast], by simp (maxSteps := 4000000) (disch := first | decide | omega | rfl) only [↓sa0, ↓sa1, sb0, sb1, sb2, sb3, sb4, sb5, guardIs, fillV, cellsN, setAll, loadC, loadCs, aresL, ares1, tupV, one, binV, unV, eqV, eqH, allEq, leafEq, shapeL, LK.is, ↓reduceIte, reduceCtorEq, Nat.reduceAdd, Nat.reduceSub, Nat.reduceMul, Nat.reduceLT, Nat.reduceLeDiff, Nat.reduceEqDiff, bne, dynB, heapsB, wanted, AOp.eff, AOp.makes, Int.reduceEq, Int.reduceLT, Int.reduceLE, Int.reduceBEq, Int.reduceBNe, boundV, natV_cast]; rfl, ?_, ?_, ?_, fun b hb => ?_, rfl⟩
    all_goals try simp (maxSteps := 4000000) (disch := first | decide | omega | rfl) only [p3, ↓sa0, ↓sa1, sb0, sb1, sb2, sb3, sb4, sb5, guardIs, fillV, cellsN, setAll, loadC, loadCs, aresL, ares1, tupV, one, binV, unV, eqV, eqH, allEq, leafEq, shapeL, LK.is, ↓reduceIte, reduceCtorEq, Nat.reduceAdd, Nat.reduceSub, Nat.reduceMul, Nat.reduceLT, Nat.reduceLeDiff, Nat.reduceEqDiff, bne, dynB, heapsB, wanted, AOp.eff, AOp.makes, Int.reduceEq, Int.reduceLT, Int.reduceLE, Int.reduceBEq, Int.reduceBNe, boundV, natV_cast]
    all_goals omega
  obtain ⟨k, q, hm, hk, e0, e2, e4, e6, hq, hn, hgq, hs, hst⟩ := hI
  unfold Same at hs
  obtain ⟨base, rfl, hb⟩ := hr.form
  unfold p3 at hgq
  have hu1 : get h1 u = some (.cells us .rw) := by rw [hs u hun]; exact hu
  have hoff : off < us.size := (Array.getElem?_eq_some_iff.1 hrv).1
  have hoff' : off + 1 ≤ us.size := hoff
  rcases (by omega : k = es.length ∨ k < es.length) with c' | hlt
  · have d1 : decide ((k : Int) < (es.length : Int)) = false := by simp; omega
    simp (maxSteps := 4000000) (disch := first | decide | omega | rfl) only [e0, e2, e4, e6, hu1, hrv, d1, hgq, ↓sa0, ↓sa1, sb0, sb1, sb2, sb3, sb4, sb5, guardIs, fillV, cellsN, setAll, loadC, loadCs, aresL, ares1, tupV, one, binV, unV, eqV, eqH, allEq, leafEq, shapeL, LK.is, ↓reduceIte, reduceCtorEq, Nat.reduceAdd, Nat.reduceSub, Nat.reduceMul, Nat.reduceLT, Nat.reduceLeDiff, Nat.reduceEqDiff, bne, dynB, heapsB, wanted, AOp.eff, AOp.makes, Int.reduceEq, Int.reduceLT, Int.reduceLE, Int.reduceBEq, Int.reduceBNe, boundV, natV_cast]
    refine ocase_append (xs := #[.int .i64 a, .int .i64 b, .int .i64 c, .int .u64 w]) (r := r) (hr.keep (by simp (maxSteps := 4000000) (disch := first | decide | omega | rfl) only [↓sa0, ↓sa1, sb0, sb1, sb2, sb3, sb4, sb5, guardIs, fillV, cellsN, setAll, loadC, loadCs, aresL, ares1, tupV, one, binV, unV, eqV, eqH, allEq, leafEq, shapeL, LK.is, ↓reduceIte, reduceCtorEq, Nat.reduceAdd, Nat.reduceSub, Nat.reduceMul, Nat.reduceLT, Nat.reduceLeDiff, Nat.reduceEqDiff, bne, dynB, heapsB, wanted, AOp.eff, AOp.makes, Int.reduceEq, Int.reduceLT, Int.reduceLE, Int.reduceBEq, Int.reduceBNe, boundV, natV_cast]; omega) fun q1 q2 => by simp (maxSteps := 4000000) (disch := first | decide | omega | rfl) only [hs, ↓sa0, ↓sa1, sb0, sb1, sb2, sb3, sb4, sb5, guardIs, fillV, cellsN, setAll, loadC, loadCs, aresL, ares1, tupV, one, binV, unV, eqV, eqH, allEq, leafEq, shapeL, LK.is, ↓reduceIte, reduceCtorEq, Nat.reduceAdd, Nat.reduceSub, Nat.reduceMul, Nat.reduceLT, Nat.reduceLeDiff, Nat.reduceEqDiff, bne, dynB, heapsB, wanted, AOp.eff, AOp.makes, Int.reduceEq, Int.reduceLT, Int.reduceLE, Int.reduceBEq, Int.reduceBNe, boundV, natV_cast]) (by simp (maxSteps := 4000000) (disch := first | decide | omega | rfl) only [↓sa0, ↓sa1, sb0, sb1, sb2, sb3, sb4, sb5, guardIs, fillV, cellsN, setAll, loadC, loadCs, aresL, ares1, tupV, one, binV, unV, eqV, eqH, allEq, leafEq, shapeL, LK.is, ↓reduceIte, reduceCtorEq, Nat.reduceAdd, Nat.reduceSub, Nat.reduceMul, Nat.reduceLT, Nat.reduceLeDiff, Nat.reduceEqDiff, bne, dynB, heapsB, wanted, AOp.eff, AOp.makes, Int.reduceEq, Int.reduceLT, Int.reduceLE, Int.reduceBEq, Int.reduceBNe, boundV, natV_cast]) rfl (by simp [one]) (by omega) (by unfold roomy; omega) (by simp (maxSteps := 4000000) (disch := first | decide | omega | rfl) only [↓sa0, ↓sa1, sb0, sb1, sb2, sb3, sb4, sb5, guardIs, fillV, cellsN, setAll, loadC, loadCs, aresL, ares1, tupV, one, binV, unV, eqV, eqH, allEq, leafEq, shapeL, LK.is, ↓reduceIte, reduceCtorEq, Nat.reduceAdd, Nat.reduceSub, Nat.reduceMul, Nat.reduceLT, Nat.reduceLeDiff, Nat.reduceEqDiff, bne, dynB, heapsB, wanted, AOp.eff, AOp.makes, Int.reduceEq, Int.reduceLT, Int.reduceLE, Int.reduceBEq, Int.reduceBNe, boundV, natV_cast]; omega) fun h' n1 r1 f1 => ?_
    simp (maxSteps := 4000000) (disch := first | decide | omega | rfl) only [↓sa0, ↓sa1, sb0, sb1, sb2, sb3, sb4, sb5, guardIs, fillV, cellsN, setAll, loadC, loadCs, aresL, ares1, tupV, one, binV, unV, eqV, eqH, allEq, leafEq, shapeL, LK.is, ↓reduceIte, reduceCtorEq, Nat.reduceAdd, Nat.reduceSub, Nat.reduceMul, Nat.reduceLT, Nat.reduceLeDiff, Nat.reduceEqDiff, bne, dynB, heapsB, wanted, AOp.eff, AOp.makes, Int.reduceEq, Int.reduceLT, Int.reduceLE, Int.reduceBEq, Int.reduceBNe, boundV, natV_cast] at n1 f1
    have hu2 : get h' u = some (.cells us .rw) := by
      simp (maxSteps := 4000000) (disch := first | decide | omega | rfl) only [f1, hu1, ↓sa0, ↓sa1, sb0, sb1, sb2, sb3, sb4, sb5, guardIs, fillV, cellsN, setAll, loadC, loadCs, aresL, ares1, tupV, one, binV, unV, eqV, eqH, allEq, leafEq, shapeL, LK.is, ↓reduceIte, reduceCtorEq, Nat.reduceAdd, Nat.reduceSub, Nat.reduceMul, Nat.reduceLT, Nat.reduceLeDiff, Nat.reduceEqDiff, bne, dynB, heapsB, wanted, AOp.eff, AOp.makes, Int.reduceEq, Int.reduceLT, Int.reduceLE, Int.reduceBEq, Int.reduceBNe, boundV, natV_cast]
    simp (maxSteps := 4000000) (disch := first | decide | omega | rfl) only [e0, hu2, hoff', ↓sa0, ↓sa1, sb0, sb1, sb2, sb3, sb4, sb5, guardIs, fillV, cellsN, setAll, loadC, loadCs, aresL, ares1, tupV, one, binV, unV, eqV, eqH, allEq, leafEq, shapeL, LK.is, ↓reduceIte, reduceCtorEq, Nat.reduceAdd, Nat.reduceSub, Nat.reduceMul, Nat.reduceLT, Nat.reduceLeDiff, Nat.reduceEqDiff, bne, dynB, heapsB, wanted, AOp.eff, AOp.makes, Int.reduceEq, Int.reduceLT, Int.reduceLE, Int.reduceBEq, Int.reduceBNe, boundV, natV_cast]
    have e1 : stD es (a, b, c) w = es ++ [((a, b, c), w)] := by
      rw [hst, c']
      simp [stD]
    rw [e1, rowsOf_push, List.length_append]
    refine ⟨_, _, rfl, r1.keep (by simp (maxSteps := 4000000) (disch := first | decide | omega | rfl) only [↓sa0, ↓sa1, sb0, sb1, sb2, sb3, sb4, sb5, guardIs, fillV, cellsN, setAll, loadC, loadCs, aresL, ares1, tupV, one, binV, unV, eqV, eqH, allEq, leafEq, shapeL, LK.is, ↓reduceIte, reduceCtorEq, Nat.reduceAdd, Nat.reduceSub, Nat.reduceMul, Nat.reduceLT, Nat.reduceLeDiff, Nat.reduceEqDiff, bne, dynB, heapsB, wanted, AOp.eff, AOp.makes, Int.reduceEq, Int.reduceLT, Int.reduceLE, Int.reduceBEq, Int.reduceBNe, boundV, natV_cast]) fun q1 q2 => by simp (maxSteps := 4000000) (disch := first | decide | omega | rfl) only [↓sa0, ↓sa1, sb0, sb1, sb2, sb3, sb4, sb5, guardIs, fillV, cellsN, setAll, loadC, loadCs, aresL, ares1, tupV, one, binV, unV, eqV, eqH, allEq, leafEq, shapeL, LK.is, ↓reduceIte, reduceCtorEq, Nat.reduceAdd, Nat.reduceSub, Nat.reduceMul, Nat.reduceLT, Nat.reduceLeDiff, Nat.reduceEqDiff, bne, dynB, heapsB, wanted, AOp.eff, AOp.makes, Int.reduceEq, Int.reduceLT, Int.reduceLE, Int.reduceBEq, Int.reduceBNe, boundV, natV_cast], .inr (by omega), fun b b1 b2 b3 => ?_⟩
    simp (maxSteps := 4000000) (disch := first | decide | omega | rfl) only [f1, hs, ↓sa0, ↓sa1, sb0, sb1, sb2, sb3, sb4, sb5, guardIs, fillV, cellsN, setAll, loadC, loadCs, aresL, ares1, tupV, one, binV, unV, eqV, eqH, allEq, leafEq, shapeL, LK.is, ↓reduceIte, reduceCtorEq, Nat.reduceAdd, Nat.reduceSub, Nat.reduceMul, Nat.reduceLT, Nat.reduceLeDiff, Nat.reduceEqDiff, bne, dynB, heapsB, wanted, AOp.eff, AOp.makes, Int.reduceEq, Int.reduceLT, Int.reduceLE, Int.reduceBEq, Int.reduceBNe, boundV, natV_cast]
  · have d1 : decide ((k : Int) < (es.length : Int)) = true := by simp; omega
    have hb' := hb (by omega)
    clear hb
    obtain ⟨rfl, hg, hsz, hrn⟩ := hb'
    obtain ⟨⟨⟨x, y, z⟩, w0⟩, hx⟩ : ∃ x, es[k]? = some x := ⟨_, List.getElem?_eq_getElem hlt⟩
    have hg1 : get h1 r = some (.cells (rowsOf c4r es) (.gr 4)) := by rw [hs r hrn]; exact hg
    have x1 := rowsOf_extract c4r_len hx (a := 0) (b := 3) (by omega)
    simp only [c4r, List.drop_zero, List.take_succ_cons, List.take_zero, Nat.add_zero, Nat.reduceSub] at x1
    have hle : k * 4 + 3 ≤ (rowsOf c4r es).size := by omega
    have hle2 : k * 4 + 3 + 1 ≤ (rowsOf c4r es).size := by omega
    have hnext := wrap_next (show k < 1000000000 by omega)
    have hx2 : es[k] = ((x, y, z), w0) := by
      rw [List.getElem?_eq_getElem hlt] at hx
      exact Option.some.inj hx
    cases hd : decide ((x, y, z) = (a, b, c))
    · have hd' := hd
      rw [← eq3] at hd'
      have hst' := stD_take es (a, b, c) w k hlt (by rw [hx2]; exact of_decide_eq_false hd) hst
      simp (maxSteps := 4000000) (disch := first | decide | omega | rfl) only [e0, e4, e6, hu1, hrv, d1, hlt, hg1, x1, hle, hgq, hd', hnext, ↓sa0, ↓sa1, sb0, sb1, sb2, sb3, sb4, sb5, guardIs, fillV, cellsN, setAll, loadC, loadCs, aresL, ares1, tupV, one, binV, unV, eqV, eqH, allEq, leafEq, shapeL, LK.is, ↓reduceIte, reduceCtorEq, Nat.reduceAdd, Nat.reduceSub, Nat.reduceMul, Nat.reduceLT, Nat.reduceLeDiff, Nat.reduceEqDiff, bne, dynB, heapsB, wanted, AOp.eff, AOp.makes, Int.reduceEq, Int.reduceLT, Int.reduceLE, Int.reduceBEq, Int.reduceBNe, boundV, natV_cast]
      refine ⟨es.length - (k + 1), by omega, k + 1, q, rfl, by omega, ?_, ?_, ?_, ?_, ?_, ?_, ?_, fun b hb => ?_, hst'⟩
      all_goals try simp (maxSteps := 4000000) (disch := first | decide | omega | rfl) only [e0, e2, e4, e6, hgq, hs, p3, ↓sa0, ↓sa1, sb0, sb1, sb2, sb3, sb4, sb5, guardIs, fillV, cellsN, setAll, loadC, loadCs, aresL, ares1, tupV, one, binV, unV, eqV, eqH, allEq, leafEq, shapeL, LK.is, ↓reduceIte, reduceCtorEq, Nat.reduceAdd, Nat.reduceSub, Nat.reduceMul, Nat.reduceLT, Nat.reduceLeDiff, Nat.reduceEqDiff, bne, dynB, heapsB, wanted, AOp.eff, AOp.makes, Int.reduceEq, Int.reduceLT, Int.reduceLE, Int.reduceBEq, Int.reduceBNe, boundV, natV_cast]
      all_goals omega
    · have hd' := hd
      rw [← eq3] at hd'
      have hst' := stD_found es (a, b, c) w k hlt (by rw [hx2]; exact of_decide_eq_true hd) hst
      have hrs := rowsOf_set (f := c4r) c4r_len hx (y := ((a, b, c), w)) (j := 3) (v := .int .u64 w) (by omega) (by
        have := of_decide_eq_true hd
        simp only [Prod.mk.injEq] at this
        obtain ⟨rfl, rfl, rfl⟩ := this
        rfl)
      have hru := hne (by omega)
      simp (maxSteps := 4000000) (disch := first | decide | omega | rfl) only [e0, e2, e4, e6, hu1, hrv, d1, hlt, hg1, x1, hle, hle2, hgq, hd', hrs, ↓sa0, ↓sa1, sb0, sb1, sb2, sb3, sb4, sb5, guardIs, fillV, cellsN, setAll, loadC, loadCs, aresL, ares1, tupV, one, binV, unV, eqV, eqH, allEq, leafEq, shapeL, LK.is, ↓reduceIte, reduceCtorEq, Nat.reduceAdd, Nat.reduceSub, Nat.reduceMul, Nat.reduceLT, Nat.reduceLeDiff, Nat.reduceEqDiff, bne, dynB, heapsB, wanted, AOp.eff, AOp.makes, Int.reduceEq, Int.reduceLT, Int.reduceLE, Int.reduceBEq, Int.reduceBNe, boundV, natV_cast]
      rw [hst', List.length_set]
      refine ⟨r, _, by rw [setIfInBounds_same hrv], .inr ⟨rfl, by omega, by simp (maxSteps := 4000000) (disch := first | decide | omega | rfl) only [↓sa0, ↓sa1, sb0, sb1, sb2, sb3, sb4, sb5, guardIs, fillV, cellsN, setAll, loadC, loadCs, aresL, ares1, tupV, one, binV, unV, eqV, eqH, allEq, leafEq, shapeL, LK.is, ↓reduceIte, reduceCtorEq, Nat.reduceAdd, Nat.reduceSub, Nat.reduceMul, Nat.reduceLT, Nat.reduceLeDiff, Nat.reduceEqDiff, bne, dynB, heapsB, wanted, AOp.eff, AOp.makes, Int.reduceEq, Int.reduceLT, Int.reduceLE, Int.reduceBEq, Int.reduceBNe, boundV, natV_cast], by rw [rowsOf_size c4r_len, List.length_set], by simp (maxSteps := 4000000) (disch := first | decide | omega | rfl) only [↓sa0, ↓sa1, sb0, sb1, sb2, sb3, sb4, sb5, guardIs, fillV, cellsN, setAll, loadC, loadCs, aresL, ares1, tupV, one, binV, unV, eqV, eqH, allEq, leafEq, shapeL, LK.is, ↓reduceIte, reduceCtorEq, Nat.reduceAdd, Nat.reduceSub, Nat.reduceMul, Nat.reduceLT, Nat.reduceLeDiff, Nat.reduceEqDiff, bne, dynB, heapsB, wanted, AOp.eff, AOp.makes, Int.reduceEq, Int.reduceLT, Int.reduceLE, Int.reduceBEq, Int.reduceBNe, boundV, natV_cast]; omega⟩, .inl ⟨by omega, rfl⟩, fun b b1 b2 b3 => ?_⟩
      have := b3 (by omega)
      simp (maxSteps := 4000000) (disch := first | decide | omega | rfl) only [hs, ↓sa0, ↓sa1, sb0, sb1, sb2, sb3, sb4, sb5, guardIs, fillV, cellsN, setAll, loadC, loadCs, aresL, ares1, tupV, one, binV, unV, eqV, eqH, allEq, leafEq, shapeL, LK.is, ↓reduceIte, reduceCtorEq, Nat.reduceAdd, Nat.reduceSub, Nat.reduceMul, Nat.reduceLT, Nat.reduceLeDiff, Nat.reduceEqDiff, bne, dynB, heapsB, wanted, AOp.eff, AOp.makes, Int.reduceEq, Int.reduceLT, Int.reduceLE, Int.reduceBEq, Int.reduceBNe, boundV, natV_cast]

/-! ### births -/

/-- Who a slot ever was. -/
def allT (bs : List Int) (k : Nat) (sl : Int) : List Int := ((List.range k).filter fun i => bs[i]? == some sl).map fun i => ((i + 1 : Nat) : Int)
def nowL (bs : List Int) (sl : Int) : Int := (allT bs bs.length sl).getLast?.getD 0

theorem allT_succ (bs : List Int) (k : Nat) (sl x : Int) (hx : bs[k]? = some x) : allT bs (k + 1) sl = if (x == sl) = true then allT bs k sl ++ [((k + 1 : Nat) : Int)] else allT bs k sl := by
  unfold allT
  rw [List.range_succ, List.filter_append, List.map_append]
  by_cases h : x = sl
  · subst h
    rw [if_pos (by simp)]
    simp [hx]
  · rw [if_neg (by simpa using h)]
    simp [hx, h]

theorem allT_push (bs : List Int) (k : Nat) (sl x : Int) (hk : k ≤ bs.length) : allT (bs ++ [x]) k sl = allT bs k sl := by
  unfold allT
  congr 1
  apply List.filter_congr
  intro i hi
  have : i < bs.length := by have := List.mem_range.1 hi; omega
  rw [List.getElem?_append_left this]

theorem nowL_push (bs : List Int) (sl x : Int) : nowL (bs ++ [x]) sl = if sl = x then ((bs.length + 1 : Nat) : Int) else nowL bs sl := by
  unfold nowL
  rw [List.length_append, List.length_singleton, allT_succ (bs ++ [x]) bs.length sl x (by simp), allT_push _ _ _ _ (Nat.le_refl _)]
  by_cases h : x = sl
  · subst h
    simp
  · rw [if_neg (by simpa using h), if_neg fun q => h q.symm]

theorem allT_len (bs : List Int) (k : Nat) (sl : Int) : (allT bs k sl).length ≤ k := by
  unfold allT
  rw [List.length_map]
  have := List.length_filter_le (fun i => bs[i]? == some sl) (List.range k)
  simpa using this

/-- revenantref06's Born -/
theorem k69 {h : H} {u off r : Nat} {us : Array Value} {rv : Value} {bs : List Int} (hu : get h u = some (.cells us .rw)) (hun : u < next h) (hrv : us[off]? = some rv) (hr : Row h r 1 rv bs.length (rowsOf i1r bs)) (hne : 0 < bs.length → r ≠ u) (hlen : bs.length < 1000000) (sl : Int) :
    Fresh h → CallsTo tt 69 #[.pointer (some ⟨u, off, none⟩), .int .i64 sl] h fun v h1 =>
      (sl < 1 ∧ v = .int .i64 0 ∧ Same h h1) ∨ (1 ≤ sl ∧ v = .int .i64 ((bs.length + 1 : Nat) : Int) ∧ ∃ r' rv', get h1 u = some (.cells (us.setIfInBounds off rv') .rw) ∧ Row h1 r' 1 rv' (bs.length + 1) (rowsOf i1r (bs ++ [sl])) ∧ next h ≤ r' ∧
        ∀ b, b < next h → b ≠ u → (0 < bs.length → b ≠ r) → get h1 b = get h b) := by
  refine toCall c69 (by simp [b69]) fun hf => ?_
  have hoff : off < us.size := (Array.getElem?_eq_some_iff.1 hrv).1
  have hoff' : off + 1 ≤ us.size := hoff
  cases hc : decide (sl < 1)
  · have hc' : 1 ≤ sl := by have := of_decide_eq_false hc; omega
    simp (maxSteps := 4000000) (disch := first | decide | omega | rfl) only [b69, hc, hu, hrv, ↓sa0, ↓sa1, sb0, sb1, sb2, sb3, sb4, sb5, guardIs, fillV, cellsN, setAll, loadC, loadCs, aresL, ares1, tupV, one, binV, unV, eqV, eqH, allEq, leafEq, shapeL, LK.is, ↓reduceIte, reduceCtorEq, Nat.reduceAdd, Nat.reduceSub, Nat.reduceMul, Nat.reduceLT, Nat.reduceLeDiff, Nat.reduceEqDiff, bne, dynB, heapsB, wanted, AOp.eff, AOp.makes, Int.reduceEq, Int.reduceLT, Int.reduceLE, Int.reduceBEq, Int.reduceBNe, boundV, natV_cast]
    refine ocase_append (xs := #[.int .i64 sl]) (r := r) (hr.keep (by simp (maxSteps := 4000000) (disch := first | decide | omega | rfl) only [↓sa0, ↓sa1, sb0, sb1, sb2, sb3, sb4, sb5, guardIs, fillV, cellsN, setAll, loadC, loadCs, aresL, ares1, tupV, one, binV, unV, eqV, eqH, allEq, leafEq, shapeL, LK.is, ↓reduceIte, reduceCtorEq, Nat.reduceAdd, Nat.reduceSub, Nat.reduceMul, Nat.reduceLT, Nat.reduceLeDiff, Nat.reduceEqDiff, bne, dynB, heapsB, wanted, AOp.eff, AOp.makes, Int.reduceEq, Int.reduceLT, Int.reduceLE, Int.reduceBEq, Int.reduceBNe, boundV, natV_cast]; omega) fun q1 q2 => by simp (maxSteps := 4000000) (disch := first | decide | omega | rfl) only [↓sa0, ↓sa1, sb0, sb1, sb2, sb3, sb4, sb5, guardIs, fillV, cellsN, setAll, loadC, loadCs, aresL, ares1, tupV, one, binV, unV, eqV, eqH, allEq, leafEq, shapeL, LK.is, ↓reduceIte, reduceCtorEq, Nat.reduceAdd, Nat.reduceSub, Nat.reduceMul, Nat.reduceLT, Nat.reduceLeDiff, Nat.reduceEqDiff, bne, dynB, heapsB, wanted, AOp.eff, AOp.makes, Int.reduceEq, Int.reduceLT, Int.reduceLE, Int.reduceBEq, Int.reduceBNe, boundV, natV_cast]) (by simp (maxSteps := 4000000) (disch := first | decide | omega | rfl) only [↓sa0, ↓sa1, sb0, sb1, sb2, sb3, sb4, sb5, guardIs, fillV, cellsN, setAll, loadC, loadCs, aresL, ares1, tupV, one, binV, unV, eqV, eqH, allEq, leafEq, shapeL, LK.is, ↓reduceIte, reduceCtorEq, Nat.reduceAdd, Nat.reduceSub, Nat.reduceMul, Nat.reduceLT, Nat.reduceLeDiff, Nat.reduceEqDiff, bne, dynB, heapsB, wanted, AOp.eff, AOp.makes, Int.reduceEq, Int.reduceLT, Int.reduceLE, Int.reduceBEq, Int.reduceBNe, boundV, natV_cast]) rfl (by simp [one]) (by omega) (by unfold roomy; omega) (by simp (maxSteps := 4000000) (disch := first | decide | omega | rfl) only [↓sa0, ↓sa1, sb0, sb1, sb2, sb3, sb4, sb5, guardIs, fillV, cellsN, setAll, loadC, loadCs, aresL, ares1, tupV, one, binV, unV, eqV, eqH, allEq, leafEq, shapeL, LK.is, ↓reduceIte, reduceCtorEq, Nat.reduceAdd, Nat.reduceSub, Nat.reduceMul, Nat.reduceLT, Nat.reduceLeDiff, Nat.reduceEqDiff, bne, dynB, heapsB, wanted, AOp.eff, AOp.makes, Int.reduceEq, Int.reduceLT, Int.reduceLE, Int.reduceBEq, Int.reduceBNe, boundV, natV_cast]; omega) fun h' n1 r1 f1 => ?_
    simp (maxSteps := 4000000) (disch := first | decide | omega | rfl) only [↓sa0, ↓sa1, sb0, sb1, sb2, sb3, sb4, sb5, guardIs, fillV, cellsN, setAll, loadC, loadCs, aresL, ares1, tupV, one, binV, unV, eqV, eqH, allEq, leafEq, shapeL, LK.is, ↓reduceIte, reduceCtorEq, Nat.reduceAdd, Nat.reduceSub, Nat.reduceMul, Nat.reduceLT, Nat.reduceLeDiff, Nat.reduceEqDiff, bne, dynB, heapsB, wanted, AOp.eff, AOp.makes, Int.reduceEq, Int.reduceLT, Int.reduceLE, Int.reduceBEq, Int.reduceBNe, boundV, natV_cast] at n1 f1
    have hu2 : get h' u = some (.cells us .rw) := by
      simp (maxSteps := 4000000) (disch := first | decide | omega | rfl) only [f1, hu, ↓sa0, ↓sa1, sb0, sb1, sb2, sb3, sb4, sb5, guardIs, fillV, cellsN, setAll, loadC, loadCs, aresL, ares1, tupV, one, binV, unV, eqV, eqH, allEq, leafEq, shapeL, LK.is, ↓reduceIte, reduceCtorEq, Nat.reduceAdd, Nat.reduceSub, Nat.reduceMul, Nat.reduceLT, Nat.reduceLeDiff, Nat.reduceEqDiff, bne, dynB, heapsB, wanted, AOp.eff, AOp.makes, Int.reduceEq, Int.reduceLT, Int.reduceLE, Int.reduceBEq, Int.reduceBNe, boundV, natV_cast]
    have hsame : (us.setIfInBounds off (.slice (some ⟨next h + 1 + 2 + 7, 0, none⟩) (bs.length + 1) (bs.length + 1)))[off]? = some (.slice (some ⟨next h + 1 + 2 + 7, 0, none⟩) (bs.length + 1) (bs.length + 1)) := by simp [hoff]
    simp (maxSteps := 4000000) (disch := first | decide | omega | rfl) only [hu2, hoff', hsame, ↓sa0, ↓sa1, sb0, sb1, sb2, sb3, sb4, sb5, guardIs, fillV, cellsN, setAll, loadC, loadCs, aresL, ares1, tupV, one, binV, unV, eqV, eqH, allEq, leafEq, shapeL, LK.is, ↓reduceIte, reduceCtorEq, Nat.reduceAdd, Nat.reduceSub, Nat.reduceMul, Nat.reduceLT, Nat.reduceLeDiff, Nat.reduceEqDiff, bne, dynB, heapsB, wanted, AOp.eff, AOp.makes, Int.reduceEq, Int.reduceLT, Int.reduceLE, Int.reduceBEq, Int.reduceBNe, boundV, natV_cast]
    refine .inr ⟨hc', next h + 1 + 2 + 7, _, rfl, ?_, by omega, fun b b1 b2 b3 => ?_⟩
    · rw [rowsOf_push]
      exact r1.keep (by simp (maxSteps := 4000000) (disch := first | decide | omega | rfl) only [↓sa0, ↓sa1, sb0, sb1, sb2, sb3, sb4, sb5, guardIs, fillV, cellsN, setAll, loadC, loadCs, aresL, ares1, tupV, one, binV, unV, eqV, eqH, allEq, leafEq, shapeL, LK.is, ↓reduceIte, reduceCtorEq, Nat.reduceAdd, Nat.reduceSub, Nat.reduceMul, Nat.reduceLT, Nat.reduceLeDiff, Nat.reduceEqDiff, bne, dynB, heapsB, wanted, AOp.eff, AOp.makes, Int.reduceEq, Int.reduceLT, Int.reduceLE, Int.reduceBEq, Int.reduceBNe, boundV, natV_cast]; omega) fun q1 q2 => by simp (maxSteps := 4000000) (disch := first | decide | omega | rfl) only [↓sa0, ↓sa1, sb0, sb1, sb2, sb3, sb4, sb5, guardIs, fillV, cellsN, setAll, loadC, loadCs, aresL, ares1, tupV, one, binV, unV, eqV, eqH, allEq, leafEq, shapeL, LK.is, ↓reduceIte, reduceCtorEq, Nat.reduceAdd, Nat.reduceSub, Nat.reduceMul, Nat.reduceLT, Nat.reduceLeDiff, Nat.reduceEqDiff, bne, dynB, heapsB, wanted, AOp.eff, AOp.makes, Int.reduceEq, Int.reduceLT, Int.reduceLE, Int.reduceBEq, Int.reduceBNe, boundV, natV_cast]
    · simp (maxSteps := 4000000) (disch := first | decide | omega | rfl) only [f1, ↓sa0, ↓sa1, sb0, sb1, sb2, sb3, sb4, sb5, guardIs, fillV, cellsN, setAll, loadC, loadCs, aresL, ares1, tupV, one, binV, unV, eqV, eqH, allEq, leafEq, shapeL, LK.is, ↓reduceIte, reduceCtorEq, Nat.reduceAdd, Nat.reduceSub, Nat.reduceMul, Nat.reduceLT, Nat.reduceLeDiff, Nat.reduceEqDiff, bne, dynB, heapsB, wanted, AOp.eff, AOp.makes, Int.reduceEq, Int.reduceLT, Int.reduceLE, Int.reduceBEq, Int.reduceBNe, boundV, natV_cast]
  · have hc' : sl < 1 := of_decide_eq_true hc
    simp (maxSteps := 4000000) (disch := first | decide | omega | rfl) only [b69, hc, ↓sa0, ↓sa1, sb0, sb1, sb2, sb3, sb4, sb5, guardIs, fillV, cellsN, setAll, loadC, loadCs, aresL, ares1, tupV, one, binV, unV, eqV, eqH, allEq, leafEq, shapeL, LK.is, ↓reduceIte, reduceCtorEq, Nat.reduceAdd, Nat.reduceSub, Nat.reduceMul, Nat.reduceLT, Nat.reduceLeDiff, Nat.reduceEqDiff, bne, dynB, heapsB, wanted, AOp.eff, AOp.makes, Int.reduceEq, Int.reduceLT, Int.reduceLE, Int.reduceBEq, Int.reduceBNe, boundV, natV_cast]
    exact .inl ⟨hc', fun b hb => by simp (maxSteps := 4000000) (disch := first | decide | omega | rfl) only [↓sa0, ↓sa1, sb0, sb1, sb2, sb3, sb4, sb5, guardIs, fillV, cellsN, setAll, loadC, loadCs, aresL, ares1, tupV, one, binV, unV, eqV, eqH, allEq, leafEq, shapeL, LK.is, ↓reduceIte, reduceCtorEq, Nat.reduceAdd, Nat.reduceSub, Nat.reduceMul, Nat.reduceLT, Nat.reduceLeDiff, Nat.reduceEqDiff, bne, dynB, heapsB, wanted, AOp.eff, AOp.makes, Int.reduceEq, Int.reduceLT, Int.reduceLE, Int.reduceBEq, Int.reduceBNe, boundV, natV_cast]⟩


end
end Go.Proofs.Ytleoicjpcdmfkaa
