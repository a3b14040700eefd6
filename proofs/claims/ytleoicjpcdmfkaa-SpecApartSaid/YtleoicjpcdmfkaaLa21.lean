/-
  The layer 'spec': states as cells; where a key is.
-/
import Derived.Test.YtleoicjpcdmfkaaLa1
import Derived.Test.YtleoicjpcdmfkaaAb27
set_option linter.unusedSimpArgs false
set_option linter.unusedVariables false
namespace Go.Proofs.Ytleoicjpcdmfkaa
open Go Ab
open Heap (get put next skip)

/-- A pair as cells. -/
def p2r (x : Int × Int) : List Value := [.int .u64 x.1, .int .u64 x.2]
theorem p2r_len (x : Int × Int) : (p2r x).length = 2 := rfl

/-- A state as cells: a number, and sixteen pairs. -/
def stA (n : Nat) (qs : List (Int × Int)) : Array Value := ((.int .i64 (n : Int)) :: qs.flatMap p2r).toArray

/-- A state of these pairs: all behind them is 0. -/
def padL (ps : List (Int × Int)) : List (Int × Int) := ps ++ List.replicate (16 - ps.length) (0, 0)
def stP (ps : List (Int × Int)) : Array Value := stA ps.length (padL ps)

theorem padL_len {ps : List (Int × Int)} (h : ps.length ≤ 16) : (padL ps).length = 16 := by simp [padL]; omega

theorem stA_size (n : Nat) (qs : List (Int × Int)) : (stA n qs).size = 1 + qs.length * 2 := by
  have := flatMap_len p2r_len qs
  simp [stA, this]
  omega

theorem stP_size {ps : List (Int × Int)} (h : ps.length ≤ 16) : (stP ps).size = 33 := by
  unfold stP
  rw [stA_size, padL_len h]

theorem stA_0 (n : Nat) (qs : List (Int × Int)) : (stA n qs)[0]? = some (.int .i64 (n : Int)) := rfl

theorem stA_get (n : Nat) {qs : List (Int × Int)} {i : Nat} {x : Int × Int} (h : qs[i]? = some x) {j : Nat} (hj : j < 2) : (stA n qs)[1 + i * 2 + j]? = (p2r x)[j]? := by
  have h1 := rowsOf_get p2r_len h hj
  have h2 : (stA n qs)[1 + i * 2 + j]? = (rowsOf p2r qs)[i * 2 + j]? := by
    rw [show 1 + i * 2 + j = (i * 2 + j) + 1 by omega]
    simp [stA, rowsOf]
  rw [h2, h1]

theorem padL_get {ps : List (Int × Int)} {i : Nat} (h : i < ps.length) : (padL ps)[i]? = ps[i]? := by
  unfold padL
  rw [List.getElem?_append_left h]

theorem setAll_size : ∀ (xs : List Value) (cs : Array Value) (off : Nat), (setAll cs off xs).size = cs.size
  | [], cs, off => rfl
  | v :: r, cs, off => by
    show (setAll (cs.setIfInBounds off v) (off + 1) r).size = cs.size
    rw [setAll_size r]
    simp

theorem setAll_get : ∀ (xs : List Value) (cs : Array Value) (off i : Nat), off + xs.length ≤ cs.size → (setAll cs off xs)[i]? = if off ≤ i ∧ i < off + xs.length then xs[i - off]? else cs[i]?
  | [], cs, off, i, h => by
    show cs[i]? = _
    rw [if_neg]
    simp only [List.length_nil]
    omega
  | v :: r, cs, off, i, h => by
    simp only [List.length_cons] at h ⊢
    show (setAll (cs.setIfInBounds off v) (off + 1) r)[i]? = _
    rw [setAll_get r _ _ _ (by simp; omega), Array.getElem?_setIfInBounds]
    by_cases q : i = off
    · subst q
      rw [if_neg (by omega), if_pos rfl, if_pos (by omega), if_pos (by omega), Nat.sub_self]
      rfl
    · by_cases q2 : off + 1 ≤ i ∧ i < off + 1 + r.length
      · rw [if_pos q2, if_pos (by omega)]
        obtain ⟨d, rfl⟩ : ∃ d, i = off + 1 + d := ⟨i - (off + 1), by omega⟩
        rw [show off + 1 + d - (off + 1) = d by omega, show off + 1 + d - off = d + 1 by omega]
        rfl
      · rw [if_neg q2, if_neg (fun r => q r.symm), if_neg (by omega)]

theorem setAll_full {cs xs : Array Value} (h : xs.size = cs.size) : setAll cs 0 xs.toList = xs := by
  refine Array.ext (by rw [setAll_size, h]) fun i h1 h2 => ?_
  refine Option.some.inj ?_
  rw [← Array.getElem?_eq_getElem h1, ← Array.getElem?_eq_getElem h2, setAll_get _ _ _ _ (by simp [h]), if_pos (by simp; exact h2)]
  simp

theorem stP_extract {ps : List (Int × Int)} (h : ps.length ≤ 16) : (stP ps).extract 0 33 = stP ps := by
  have := stP_size h
  rw [← this]
  simp

theorem stP_one {ps : List (Int × Int)} : (stP ps).toList.all one = true := by
  unfold stP stA
  simp only [List.toList_toArray, List.all_cons, List.all_flatMap]
  simp [one, p2r]

/-- No pairs. -/
theorem stP_nil : stP [] = #[.int .i64 0, .int .u64 0, .int .u64 0, .int .u64 0, .int .u64 0, .int .u64 0, .int .u64 0, .int .u64 0, .int .u64 0, .int .u64 0, .int .u64 0, .int .u64 0, .int .u64 0, .int .u64 0, .int .u64 0, .int .u64 0, .int .u64 0, .int .u64 0, .int .u64 0, .int .u64 0, .int .u64 0, .int .u64 0, .int .u64 0, .int .u64 0, .int .u64 0, .int .u64 0, .int .u64 0, .int .u64 0, .int .u64 0, .int .u64 0, .int .u64 0, .int .u64 0, .int .u64 0] := rfl

/-- How many keys are smaller. -/
def ixOf (ps : List (Int × Int)) (k : Int) : Nat := (ps.takeWhile fun x => decide (x.1 < k)).length
def hasK (ps : List (Int × Int)) (k : Int) : Bool := match ps[ixOf ps k]? with
  | some x => x.1 == k
  | none => false

theorem ixOf_le (ps : List (Int × Int)) (k : Int) : ixOf ps k ≤ ps.length := by
  unfold ixOf
  exact (List.takeWhile_sublist _).length_le

theorem ixOf_eq {k : Int} : ∀ {ps : List (Int × Int)} {i : Nat}, (∀ j x, j < i → ps[j]? = some x → x.1 < k) → (∀ x, ps[i]? = some x → ¬ x.1 < k) → i ≤ ps.length → ixOf ps k = i
  | [], i, _, _, h => by simp at h; subst h; rfl
  | y :: ps, 0, _, h2, _ => by
    have := h2 y rfl
    simp [ixOf, this]
  | y :: ps, i + 1, h1, h2, h3 => by
    have hy := h1 0 y (by omega) rfl
    have ih := ixOf_eq (ps := ps) (i := i) (k := k) (fun j x hj hx => h1 (j + 1) x (by omega) hx) (fun x hx => h2 x hx) (by simpa using h3)
    unfold ixOf at ih ⊢
    simp [hy, ih]

section
variable {H : Type} [Heap H]
attribute [local irreducible] wpG wpOG wpTG stepG CallsG cfunc bfunc tmOf upd

def FinI (h0 : H) (ps : List (Int × Int)) (key : Int) (m : Nat) (e : Env) (h : H) : Prop :=
  ∃ (k q : Nat), m = ps.length - k ∧ k ≤ ps.length ∧ e 1 = .int .u64 key ∧ e 2 = .pointer (some ⟨q, 0, none⟩) ∧ e 8 = .int .i64 (ps.length : Int) ∧ e 9 = .int .i64 (k : Int) ∧ next h0 ≤ q ∧ next h0 ≤ next h ∧ get h q = some (.cells (stP ps) .rw) ∧ Same h0 h ∧
    ∀ j x, j < k → ps[j]? = some x → x.1 < key

set_option maxRecDepth 20000 in
/-- spec.find -/
theorem k72 (h : H) {ps : List (Int × Int)} (hl : ps.length ≤ 16) (key : Int) :
    Fresh h → CallsTo tt 72 #[.agg (stP ps), .int .u64 key] h fun v h1 => v = .tuple #[.int .i64 (ixOf ps key : Int), .bool (hasK ps key)] ∧ Same h h1 := by
  refine toCall c72 (by simp [b72]) fun hf => ?_
  have hsz := stP_size hl
  have h0 : (stP ps)[0]? = some (.int .i64 (ps.length : Int)) := stA_0 _ _
  simp (maxSteps := 4000000) (disch := first | decide | omega | rfl) only [b72, hsz, h0, ↓sa0, ↓sa1, sb0, sb1, sb2, sb3, sb4, sb5, guardIs, fillV, cellsN, setAll, loadC, loadCs, aresL, ares1, tupV, one, binV, unV, eqV, eqH, allEq, leafEq, shapeL, LK.is, ↓reduceIte, reduceCtorEq, Nat.reduceAdd, Nat.reduceSub, Nat.reduceMul, Nat.reduceLT, Nat.reduceLeDiff, Nat.reduceEqDiff, bne, dynB, heapsB, wanted, AOp.eff, AOp.makes, Int.reduceEq, Int.reduceLT, Int.reduceLE, Int.reduceBEq, Int.reduceBNe, boundV, natV_cast]
  refine g_loop (FinI h ps key) ps.length ?_ fun m e h1 hf1 hI => ?_
  · refine ⟨0, next h, by omega, by omega, by simp (maxSteps := 4000000) (disch := first | decide | omega | rfl) only [↓sa0, ↓sa1, sb0, sb1, sb2, sb3, sb4, sb5, guardIs, fillV, cellsN, setAll, loadC, loadCs, aresL, ares1, tupV, one, binV, unV, eqV, eqH, allEq, leafEq, shapeL, LK.is, ↓reduceIte, reduceCtorEq, Nat.reduceAdd, Nat.reduceSub, Nat.reduceMul, Nat.reduceLT, Nat.reduceLeDiff, Nat.reduceEqDiff, bne, dynB, heapsB, wanted, AOp.eff, AOp.makes, Int.reduceEq, Int.reduceLT, Int.reduceLE, Int.reduceBEq, Int.reduceBNe, boundV, natV_cast], by simp (maxSteps := 4000000) (disch := first | decide | omega | rfl) only [↓sa0, ↓sa1, sb0, sb1, sb2, sb3, sb4, sb5, guardIs, fillV, cellsN, setAll, loadC, loadCs, aresL, ares1, tupV, one, binV, unV, eqV, eqH, allEq, leafEq, shapeL, LK.is, ↓reduceIte, reduceCtorEq, Nat.reduceAdd, Nat.reduceSub, Nat.reduceMul, Nat.reduceLT, Nat.reduceLeDiff, Nat.reduceEqDiff, bne, dynB, heapsB, wanted, AOp.eff, AOp.makes, Int.reduceEq, Int.reduceLT, Int.reduceLE, Int.reduceBEq, Int.reduceBNe, boundV, natV_cast], by simp (maxSteps := 4000000) (disch := first | decide | omega | rfl) only [↓sa0, ↓sa1, sb0, sb1, sb2, sb3, sb4, sb5, guardIs, fillV, cellsN, setAll, loadC, loadCs, aresL, ares1, tupV, one, binV, unV, eqV, eqH, allEq, leafEq, shapeL, LK.is, ↓reduceIte, reduceCtorEq, Nat.reduceAdd, Nat.reduceSub, Nat.reduceMul, Nat.reduceLT, Nat.reduceLeDiff, Nat.reduceEqDiff, bne, dynB, heapsB, wanted, AOp.eff, AOp.makes, Int.reduceEq, Int.reduceLT, Int.reduceLE, Int.reduceBEq, Int.reduceBNe, boundV, natV_cast], by simp (maxSteps := 4000000) (disch := first | decide | omega | rfl) only [↓sa0, ↓sa1, sb0, sb1, sb2, sb3, sb4, sb5, guardIs, fillV, cellsN, setAll, loadC, loadCs, aresL, ares1, tupV, one, binV, unV, eqV, eqH, allEq, leafEq, shapeL, LK.is, ↓reduceIte, reduceCtorEq, Nat.reduceAdd, Nat.reduceSub, Nat.reduceMul, Nat.reduceLT, Nat.reduceLeDiff, Nat.reduceEqDiff, bne, dynB, heapsB, wanted, AOp.eff, AOp.makes, Int.reduceEq, Int.reduceLT, Int.reduceLE, Int.reduceBEq, Int.reduceBNe, boundV, natV_cast]; rfl, by omega, (by first | omega | (simp (maxSteps := 4000000) (disch := first | decide | omega | rfl) only [↓sa0, ↓sa1, sb0, sb1, sb2, sb3, sb4, sb5, guardIs, fillV, cellsN, setAll, loadC, loadCs, aresL, ares1, tupV, one, binV, unV, eqV, eqH, allEq, leafEq, shapeL, LK.is, ↓reduceIte, reduceCtorEq, Nat.reduceAdd, Nat.reduceSub, Nat.reduceMul, Nat.reduceLT, Nat.reduceLeDiff, Nat.reduceEqDiff, bne, dynB, heapsB, wanted, AOp.eff, AOp.makes, Int.reduceEq, Int.reduceLT, Int.reduceLE, Int.reduceBEq, Int.reduceBNe, boundV, natV_cast]; done) | (simp (maxSteps := 4000000) (disch := first | decide | omega | rfl) only [↓sa0, ↓sa1, sb0, sb1, sb2, sb3, sb4, sb5, guardIs, fillV, cellsN, setAll, loadC, loadCs, aresL, ares1, tupV, one, binV, unV, eqV, eqH, allEq, leafEq, shapeL, LK.is, ↓reduceIte, reduceCtorEq, Nat.reduceAdd, Nat.reduceSub, Nat.reduceMul, Nat.reduceLT, Nat.reduceLeDiff, Nat.reduceEqDiff, bne, dynB, heapsB, wanted, AOp.eff, AOp.makes, Int.reduceEq, Int.reduceLT, Int.reduceLE, Int.reduceBEq, Int.reduceBNe, boundV, natV_cast]; omega)), by simp (maxSteps := 4000000) (disch := first | decide | omega | rfl) only [↓sa0, ↓sa1, sb0, sb1, sb2, sb3, sb4, sb5, guardIs, fillV, cellsN, setAll, loadC, loadCs, aresL, ares1, tupV, one, binV, unV, eqV, eqH, allEq, leafEq, shapeL, LK.is, ↓reduceIte, reduceCtorEq, Nat.reduceAdd, Nat.reduceSub, Nat.reduceMul, Nat.reduceLT, Nat.reduceLeDiff, Nat.reduceEqDiff, bne, dynB, heapsB, wanted, AOp.eff, AOp.makes, Int.reduceEq, Int.reduceLT, Int.reduceLE, Int.reduceBEq, Int.reduceBNe, boundV, natV_cast], fun b hb => by simp (maxSteps := 4000000) (disch := first | decide | omega | rfl) only [↓sa0, ↓sa1, sb0, sb1, sb2, sb3, sb4, sb5, guardIs, fillV, cellsN, setAll, loadC, loadCs, aresL, ares1, tupV, one, binV, unV, eqV, eqH, allEq, leafEq, shapeL, LK.is, ↓reduceIte, reduceCtorEq, Nat.reduceAdd, Nat.reduceSub, Nat.reduceMul, Nat.reduceLT, Nat.reduceLeDiff, Nat.reduceEqDiff, bne, dynB, heapsB, wanted, AOp.eff, AOp.makes, Int.reduceEq, Int.reduceLT, Int.reduceLE, Int.reduceBEq, Int.reduceBNe, boundV, natV_cast], fun j x hj => by omega⟩
  obtain ⟨k, q, hm, hk, e1, e2, e8, e9, hq, hn, hgq, hs, hlt⟩ := hI
  unfold Same at hs
  rcases (by omega : k = ps.length ∨ k < ps.length) with c | c
  · have d1 : decide ((k : Int) < (ps.length : Int)) = false := by simp; omega
    simp (maxSteps := 4000000) (disch := first | decide | omega | rfl) only [e1, e2, e8, e9, d1, hgq, h0, ↓sa0, ↓sa1, sb0, sb1, sb2, sb3, sb4, sb5, guardIs, fillV, cellsN, setAll, loadC, loadCs, aresL, ares1, tupV, one, binV, unV, eqV, eqH, allEq, leafEq, shapeL, LK.is, ↓reduceIte, reduceCtorEq, Nat.reduceAdd, Nat.reduceSub, Nat.reduceMul, Nat.reduceLT, Nat.reduceLeDiff, Nat.reduceEqDiff, bne, dynB, heapsB, wanted, AOp.eff, AOp.makes, Int.reduceEq, Int.reduceLT, Int.reduceLE, Int.reduceBEq, Int.reduceBNe, boundV, natV_cast]
    have hix : ixOf ps key = ps.length := by
      refine ixOf_eq (fun j x hj hx => hlt j x (by omega) hx) (fun x hx => ?_) (Nat.le_refl _)
      rw [List.getElem?_eq_none (Nat.le_refl _)] at hx
      cases hx
    have hhas : hasK ps key = false := by
      unfold hasK
      rw [hix, List.getElem?_eq_none (Nat.le_refl _)]
    rw [hix, hhas]
    exact ⟨rfl, fun b hb => by simp (maxSteps := 4000000) (disch := first | decide | omega | rfl) only [hs, ↓sa0, ↓sa1, sb0, sb1, sb2, sb3, sb4, sb5, guardIs, fillV, cellsN, setAll, loadC, loadCs, aresL, ares1, tupV, one, binV, unV, eqV, eqH, allEq, leafEq, shapeL, LK.is, ↓reduceIte, reduceCtorEq, Nat.reduceAdd, Nat.reduceSub, Nat.reduceMul, Nat.reduceLT, Nat.reduceLeDiff, Nat.reduceEqDiff, bne, dynB, heapsB, wanted, AOp.eff, AOp.makes, Int.reduceEq, Int.reduceLT, Int.reduceLE, Int.reduceBEq, Int.reduceBNe, boundV, natV_cast]⟩
  · have d1 : decide ((k : Int) < (ps.length : Int)) = true := by simp; omega
    obtain ⟨⟨x, y⟩, hx⟩ : ∃ x, ps[k]? = some x := ⟨_, List.getElem?_eq_getElem c⟩
    have hg := stA_get ps.length ((padL_get c).trans hx) (j := 0) (by omega)
    have hg' : (stP ps)[1 + k * 2]? = some (.int .u64 x) := hg
    have k16 : k < 16 := by omega
    have hnext := wrap_next (show k < 1000000000 by omega)
    cases hge : decide (x ≥ key)
    · simp (maxSteps := 4000000) (disch := first | decide | omega | rfl) only [e1, e2, e8, e9, d1, hgq, h0, hg', k16, hge, hnext, ↓sa0, ↓sa1, sb0, sb1, sb2, sb3, sb4, sb5, guardIs, fillV, cellsN, setAll, loadC, loadCs, aresL, ares1, tupV, one, binV, unV, eqV, eqH, allEq, leafEq, shapeL, LK.is, ↓reduceIte, reduceCtorEq, Nat.reduceAdd, Nat.reduceSub, Nat.reduceMul, Nat.reduceLT, Nat.reduceLeDiff, Nat.reduceEqDiff, bne, dynB, heapsB, wanted, AOp.eff, AOp.makes, Int.reduceEq, Int.reduceLT, Int.reduceLE, Int.reduceBEq, Int.reduceBNe, boundV, natV_cast]
      refine ⟨ps.length - (k + 1), by omega, k + 1, q, rfl, by omega, by simp (maxSteps := 4000000) (disch := first | decide | omega | rfl) only [e1, ↓sa0, ↓sa1, sb0, sb1, sb2, sb3, sb4, sb5, guardIs, fillV, cellsN, setAll, loadC, loadCs, aresL, ares1, tupV, one, binV, unV, eqV, eqH, allEq, leafEq, shapeL, LK.is, ↓reduceIte, reduceCtorEq, Nat.reduceAdd, Nat.reduceSub, Nat.reduceMul, Nat.reduceLT, Nat.reduceLeDiff, Nat.reduceEqDiff, bne, dynB, heapsB, wanted, AOp.eff, AOp.makes, Int.reduceEq, Int.reduceLT, Int.reduceLE, Int.reduceBEq, Int.reduceBNe, boundV, natV_cast], by simp (maxSteps := 4000000) (disch := first | decide | omega | rfl) only [e2, ↓sa0, ↓sa1, sb0, sb1, sb2, sb3, sb4, sb5, guardIs, fillV, cellsN, setAll, loadC, loadCs, aresL, ares1, tupV, one, binV, unV, eqV, eqH, allEq, leafEq, shapeL, LK.is, ↓reduceIte, reduceCtorEq, Nat.reduceAdd, Nat.reduceSub, Nat.reduceMul, Nat.reduceLT, Nat.reduceLeDiff, Nat.reduceEqDiff, bne, dynB, heapsB, wanted, AOp.eff, AOp.makes, Int.reduceEq, Int.reduceLT, Int.reduceLE, Int.reduceBEq, Int.reduceBNe, boundV, natV_cast], by simp (maxSteps := 4000000) (disch := first | decide | omega | rfl) only [e8, ↓sa0, ↓sa1, sb0, sb1, sb2, sb3, sb4, sb5, guardIs, fillV, cellsN, setAll, loadC, loadCs, aresL, ares1, tupV, one, binV, unV, eqV, eqH, allEq, leafEq, shapeL, LK.is, ↓reduceIte, reduceCtorEq, Nat.reduceAdd, Nat.reduceSub, Nat.reduceMul, Nat.reduceLT, Nat.reduceLeDiff, Nat.reduceEqDiff, bne, dynB, heapsB, wanted, AOp.eff, AOp.makes, Int.reduceEq, Int.reduceLT, Int.reduceLE, Int.reduceBEq, Int.reduceBNe, boundV, natV_cast], by simp (maxSteps := 4000000) (disch := first | decide | omega | rfl) only [↓sa0, ↓sa1, sb0, sb1, sb2, sb3, sb4, sb5, guardIs, fillV, cellsN, setAll, loadC, loadCs, aresL, ares1, tupV, one, binV, unV, eqV, eqH, allEq, leafEq, shapeL, LK.is, ↓reduceIte, reduceCtorEq, Nat.reduceAdd, Nat.reduceSub, Nat.reduceMul, Nat.reduceLT, Nat.reduceLeDiff, Nat.reduceEqDiff, bne, dynB, heapsB, wanted, AOp.eff, AOp.makes, Int.reduceEq, Int.reduceLT, Int.reduceLE, Int.reduceBEq, Int.reduceBNe, boundV, natV_cast], hq, (by first | omega | (simp (maxSteps := 4000000) (disch := first | decide | omega | rfl) only [↓sa0, ↓sa1, sb0, sb1, sb2, sb3, sb4, sb5, guardIs, fillV, cellsN, setAll, loadC, loadCs, aresL, ares1, tupV, one, binV, unV, eqV, eqH, allEq, leafEq, shapeL, LK.is, ↓reduceIte, reduceCtorEq, Nat.reduceAdd, Nat.reduceSub, Nat.reduceMul, Nat.reduceLT, Nat.reduceLeDiff, Nat.reduceEqDiff, bne, dynB, heapsB, wanted, AOp.eff, AOp.makes, Int.reduceEq, Int.reduceLT, Int.reduceLE, Int.reduceBEq, Int.reduceBNe, boundV, natV_cast]; done) | (simp (maxSteps := 4000000) (disch := first | decide | omega | rfl) only [↓sa0, ↓sa1, sb0, sb1, sb2, sb3, sb4, sb5, guardIs, fillV, cellsN, setAll, loadC, loadCs, aresL, ares1, tupV, one, binV, unV, eqV, eqH, allEq, leafEq, shapeL, LK.is, ↓reduceIte, reduceCtorEq, Nat.reduceAdd, Nat.reduceSub, Nat.reduceMul, Nat.reduceLT, Nat.reduceLeDiff, Nat.reduceEqDiff, bne, dynB, heapsB, wanted, AOp.eff, AOp.makes, Int.reduceEq, Int.reduceLT, Int.reduceLE, Int.reduceBEq, Int.reduceBNe, boundV, natV_cast]; omega)), by simp (maxSteps := 4000000) (disch := first | decide | omega | rfl) only [hgq, ↓sa0, ↓sa1, sb0, sb1, sb2, sb3, sb4, sb5, guardIs, fillV, cellsN, setAll, loadC, loadCs, aresL, ares1, tupV, one, binV, unV, eqV, eqH, allEq, leafEq, shapeL, LK.is, ↓reduceIte, reduceCtorEq, Nat.reduceAdd, Nat.reduceSub, Nat.reduceMul, Nat.reduceLT, Nat.reduceLeDiff, Nat.reduceEqDiff, bne, dynB, heapsB, wanted, AOp.eff, AOp.makes, Int.reduceEq, Int.reduceLT, Int.reduceLE, Int.reduceBEq, Int.reduceBNe, boundV, natV_cast], fun b hb => by simp (maxSteps := 4000000) (disch := first | decide | omega | rfl) only [hs, ↓sa0, ↓sa1, sb0, sb1, sb2, sb3, sb4, sb5, guardIs, fillV, cellsN, setAll, loadC, loadCs, aresL, ares1, tupV, one, binV, unV, eqV, eqH, allEq, leafEq, shapeL, LK.is, ↓reduceIte, reduceCtorEq, Nat.reduceAdd, Nat.reduceSub, Nat.reduceMul, Nat.reduceLT, Nat.reduceLeDiff, Nat.reduceEqDiff, bne, dynB, heapsB, wanted, AOp.eff, AOp.makes, Int.reduceEq, Int.reduceLT, Int.reduceLE, Int.reduceBEq, Int.reduceBNe, boundV, natV_cast], fun j z hj hz => ?_⟩
      rcases (by omega : j < k ∨ j = k) with q1 | rfl
      · exact hlt j z q1 hz
      · rw [hx] at hz
        cases hz
        have := of_decide_eq_false hge
        omega
    · simp (maxSteps := 4000000) (disch := first | decide | omega | rfl) only [e1, e2, e8, e9, d1, hgq, h0, hg', k16, hge, ↓sa0, ↓sa1, sb0, sb1, sb2, sb3, sb4, sb5, guardIs, fillV, cellsN, setAll, loadC, loadCs, aresL, ares1, tupV, one, binV, unV, eqV, eqH, allEq, leafEq, shapeL, LK.is, ↓reduceIte, reduceCtorEq, Nat.reduceAdd, Nat.reduceSub, Nat.reduceMul, Nat.reduceLT, Nat.reduceLeDiff, Nat.reduceEqDiff, bne, dynB, heapsB, wanted, AOp.eff, AOp.makes, Int.reduceEq, Int.reduceLT, Int.reduceLE, Int.reduceBEq, Int.reduceBNe, boundV, natV_cast]
      have hix : ixOf ps key = k := by
        refine ixOf_eq hlt (fun z hz => ?_) (by omega)
        rw [hx] at hz
        cases hz
        have := of_decide_eq_true hge
        omega
      have hhas : hasK ps key = (x == key) := by
        unfold hasK
        rw [hix, hx]
      rw [hix, hhas]
      exact ⟨rfl, fun b hb => by simp (maxSteps := 4000000) (disch := first | decide | omega | rfl) only [hs, ↓sa0, ↓sa1, sb0, sb1, sb2, sb3, sb4, sb5, guardIs, fillV, cellsN, setAll, loadC, loadCs, aresL, ares1, tupV, one, binV, unV, eqV, eqH, allEq, leafEq, shapeL, LK.is, ↓reduceIte, reduceCtorEq, Nat.reduceAdd, Nat.reduceSub, Nat.reduceMul, Nat.reduceLT, Nat.reduceLeDiff, Nat.reduceEqDiff, bne, dynB, heapsB, wanted, AOp.eff, AOp.makes, Int.reduceEq, Int.reduceLT, Int.reduceLE, Int.reduceBEq, Int.reduceBNe, boundV, natV_cast]⟩
end
end Go.Proofs.Ytleoicjpcdmfkaa
