/-
  Layer 9's ideal beside the reference: what is kept, and the reference's Set.
-/
import Derived.Test.YtleoicjpcdmfkaaLa8
import Derived.Test.YtleoicjpcdmfkaaAb27
set_option linter.unusedSimpArgs false
set_option linter.unusedVariables false
namespace Go.Proofs.Ytleoicjpcdmfkaa
open Go Ab
open Heap (get put next skip)

theorem ofK_whr {k s p id k' s' p' id' : Int} (h9 : k ≠ 9) (h9' : k' ≠ 9) : ofK k' s' p' id' = ofK k s p id ↔ whr k' s' p' id' = whr k s p id := by
  unfold ofK whr
  have e : (k == 9) = false := by simpa using h9
  have e' : (k' == 9) = false := by simpa using h9'
  rw [e, e']
  have isC5 : ∀ k p, isC k p = true → k = 5 := fun k p h => by
    unfold isC at h
    simp only [Bool.and_eq_true, beq_iff_eq] at h
    exact h.1
  cases c : isC k p <;> cases c' : isC k' p' <;> simp
  · constructor
    · rintro ⟨rfl, _, rfl, _⟩
      have := isC5 _ _ c'
      subst this
      rw [c] at c'
      cases c'
    · rintro ⟨rfl, _⟩
      exact absurd rfl h9
  · constructor
    · rintro ⟨rfl, _, rfl, _⟩
      have := isC5 _ _ c
      subst this
      rw [c] at c'
      cases c'
    · rintro ⟨rfl, _⟩
      exact absurd rfl h9'
  · omega

section
variable {H : Type} [Heap H]
attribute [local irreducible] wpG wpOG wpTG stepG CallsG cfunc bfunc tmOf upd

/-- revenantref09's Set -/
theorem k67 {h : H} {u wr lr sr : Nat} {wv lv sv : Value} {ew el : List (K3 × Int)} (hu : get h u = some (.cells #[wv, lv, sv] .rw)) (hw : Row h wr 4 wv ew.length (rowsOf c4r ew)) (hl : Row h lr 4 lv el.length (rowsOf c4r el))
    (hun : u < next h) (d1 : u < wr) (d2 : u < lr) (d3 : wr ≠ lr) (d4 : wr < next h) (d5 : lr < next h) (n1 : ew.length < 1000000) (n2 : el.length < 1000000) (k s p id x y : Int) :
    Fresh h → CallsTo tt 67 #[.pointer (some ⟨u, 0, none⟩), .agg #[.int .i64 k, .int .i64 s, .int .i64 p], .int .i64 id, .int .u64 x, .int .i64 y] h fun _ h1 =>
      ∃ wr' lr' wv' lv', get h1 u = some (.cells #[wv', lv', sv] .rw) ∧ Row h1 wr' 4 wv' (stD ew (whr k s p id) x).length (rowsOf c4r (stD ew (whr k s p id) x)) ∧ Row h1 lr' 4 lv' (stD el (whr k s p id) (IntKind.u64.wrap y)).length (rowsOf c4r (stD el (whr k s p id) (IntKind.u64.wrap y))) ∧
        (wr' = wr ∨ next h ≤ wr') ∧ (lr' = lr ∨ next h ≤ lr') ∧ wr' ≠ lr' ∧ wr' < next h1 ∧ lr' < next h1 ∧ ∀ b, b < next h → b ≠ u → b ≠ wr → b ≠ lr → get h1 b = get h b := by
  refine toCall c67 (by simp [b67]) fun hf => ?_
  have pos : ∀ (es : List (K3 × Int)) (p : K3) (w : Int), 0 < (stD es p w).length := fun es p w => by
    cases es with
    | nil => simp [stD]
    | cons a l => simp only [stD]; split <;> simp
  simp (maxSteps := 4000000) (disch := first | decide | omega | rfl) only [b67, ↓sa0, ↓sa1, sb0, sb1, sb2, sb3, sb4, sb5, guardIs, fillV, cellsN, setAll, loadC, loadCs, aresL, ares1, tupV, one, binV, unV, eqV, eqH, allEq, leafEq, shapeL, LK.is, ↓reduceIte, reduceCtorEq, Nat.reduceAdd, Nat.reduceSub, Nat.reduceMul, Nat.reduceLT, Nat.reduceLeDiff, Nat.reduceEqDiff, bne, dynB, heapsB, wanted, AOp.eff, AOp.makes, Int.reduceEq, Int.reduceLT, Int.reduceLE, Int.reduceBEq, Int.reduceBNe, boundV, natV_cast]
  refine CallsG.of (k65 _ _ _ _ _) fun v h1 hf0 ⟨hv, s1⟩ hf1 n1' => ?_
  subst hv
  simp (maxSteps := 4000000) (disch := first | decide | omega | rfl) only [Same, ↓sa0, ↓sa1, sb0, sb1, sb2, sb3, sb4, sb5, guardIs, fillV, cellsN, setAll, loadC, loadCs, aresL, ares1, tupV, one, binV, unV, eqV, eqH, allEq, leafEq, shapeL, LK.is, ↓reduceIte, reduceCtorEq, Nat.reduceAdd, Nat.reduceSub, Nat.reduceMul, Nat.reduceLT, Nat.reduceLeDiff, Nat.reduceEqDiff, bne, dynB, heapsB, wanted, AOp.eff, AOp.makes, Int.reduceEq, Int.reduceLT, Int.reduceLE, Int.reduceBEq, Int.reduceBNe, boundV, natV_cast] at n1' s1
  generalize hq : whr k s p id = q
  obtain ⟨qa, qb, qc⟩ := q
  unfold p3
  simp (maxSteps := 4000000) (disch := first | decide | omega | rfl) only [↓sa0, ↓sa1, sb0, sb1, sb2, sb3, sb4, sb5, guardIs, fillV, cellsN, setAll, loadC, loadCs, aresL, ares1, tupV, one, binV, unV, eqV, eqH, allEq, leafEq, shapeL, LK.is, ↓reduceIte, reduceCtorEq, Nat.reduceAdd, Nat.reduceSub, Nat.reduceMul, Nat.reduceLT, Nat.reduceLeDiff, Nat.reduceEqDiff, bne, dynB, heapsB, wanted, AOp.eff, AOp.makes, Int.reduceEq, Int.reduceLT, Int.reduceLE, Int.reduceBEq, Int.reduceBNe, boundV, natV_cast]
  refine CallsG.of (k68 (r := wr) (us := #[wv, lv, sv]) (rv := wv) (es := ew) (by simp (maxSteps := 4000000) (disch := first | decide | omega | rfl) only [s1, hu, ↓sa0, ↓sa1, sb0, sb1, sb2, sb3, sb4, sb5, guardIs, fillV, cellsN, setAll, loadC, loadCs, aresL, ares1, tupV, one, binV, unV, eqV, eqH, allEq, leafEq, shapeL, LK.is, ↓reduceIte, reduceCtorEq, Nat.reduceAdd, Nat.reduceSub, Nat.reduceMul, Nat.reduceLT, Nat.reduceLeDiff, Nat.reduceEqDiff, bne, dynB, heapsB, wanted, AOp.eff, AOp.makes, Int.reduceEq, Int.reduceLT, Int.reduceLE, Int.reduceBEq, Int.reduceBNe, boundV, natV_cast]) (by omega) rfl (hw.keep (by omega) fun q1 q2 => by simp (maxSteps := 4000000) (disch := first | decide | omega | rfl) only [s1, ↓sa0, ↓sa1, sb0, sb1, sb2, sb3, sb4, sb5, guardIs, fillV, cellsN, setAll, loadC, loadCs, aresL, ares1, tupV, one, binV, unV, eqV, eqH, allEq, leafEq, shapeL, LK.is, ↓reduceIte, reduceCtorEq, Nat.reduceAdd, Nat.reduceSub, Nat.reduceMul, Nat.reduceLT, Nat.reduceLeDiff, Nat.reduceEqDiff, bne, dynB, heapsB, wanted, AOp.eff, AOp.makes, Int.reduceEq, Int.reduceLT, Int.reduceLE, Int.reduceBEq, Int.reduceBNe, boundV, natV_cast]) (by omega) n1 qa qb qc x) fun v h2 hf0 ⟨wr', wv', hu2, hw2, hd2, f2⟩ hf2 n2' => ?_
  simp (maxSteps := 4000000) (disch := first | decide | omega | rfl) only [↓sa0, ↓sa1, sb0, sb1, sb2, sb3, sb4, sb5, guardIs, fillV, cellsN, setAll, loadC, loadCs, aresL, ares1, tupV, one, binV, unV, eqV, eqH, allEq, leafEq, shapeL, LK.is, ↓reduceIte, reduceCtorEq, Nat.reduceAdd, Nat.reduceSub, Nat.reduceMul, Nat.reduceLT, Nat.reduceLeDiff, Nat.reduceEqDiff, bne, dynB, heapsB, wanted, AOp.eff, AOp.makes, Int.reduceEq, Int.reduceLT, Int.reduceLE, Int.reduceBEq, Int.reduceBNe, boundV, natV_cast] at n2' hu2 hd2 f2
  simp (maxSteps := 4000000) (disch := first | decide | omega | rfl) only [f2, s1, ↓sa0, ↓sa1, sb0, sb1, sb2, sb3, sb4, sb5, guardIs, fillV, cellsN, setAll, loadC, loadCs, aresL, ares1, tupV, one, binV, unV, eqV, eqH, allEq, leafEq, shapeL, LK.is, ↓reduceIte, reduceCtorEq, Nat.reduceAdd, Nat.reduceSub, Nat.reduceMul, Nat.reduceLT, Nat.reduceLeDiff, Nat.reduceEqDiff, bne, dynB, heapsB, wanted, AOp.eff, AOp.makes, Int.reduceEq, Int.reduceLT, Int.reduceLE, Int.reduceBEq, Int.reduceBNe, boundV, natV_cast]
  refine CallsG.of (k65 _ _ _ _ _) fun v h3 hf0 ⟨hv, s3⟩ hf3 n3 => ?_
  rw [hq] at hv
  subst hv
  unfold p3
  simp (maxSteps := 4000000) (disch := first | decide | omega | rfl) only [Same, ↓sa0, ↓sa1, sb0, sb1, sb2, sb3, sb4, sb5, guardIs, fillV, cellsN, setAll, loadC, loadCs, aresL, ares1, tupV, one, binV, unV, eqV, eqH, allEq, leafEq, shapeL, LK.is, ↓reduceIte, reduceCtorEq, Nat.reduceAdd, Nat.reduceSub, Nat.reduceMul, Nat.reduceLT, Nat.reduceLeDiff, Nat.reduceEqDiff, bne, dynB, heapsB, wanted, AOp.eff, AOp.makes, Int.reduceEq, Int.reduceLT, Int.reduceLE, Int.reduceBEq, Int.reduceBNe, boundV, natV_cast] at n3 s3
  simp (maxSteps := 4000000) (disch := first | decide | omega | rfl) only [↓sa0, ↓sa1, sb0, sb1, sb2, sb3, sb4, sb5, guardIs, fillV, cellsN, setAll, loadC, loadCs, aresL, ares1, tupV, one, binV, unV, eqV, eqH, allEq, leafEq, shapeL, LK.is, ↓reduceIte, reduceCtorEq, Nat.reduceAdd, Nat.reduceSub, Nat.reduceMul, Nat.reduceLT, Nat.reduceLeDiff, Nat.reduceEqDiff, bne, dynB, heapsB, wanted, AOp.eff, AOp.makes, Int.reduceEq, Int.reduceLT, Int.reduceLE, Int.reduceBEq, Int.reduceBNe, boundV, natV_cast]
  refine CallsG.of (k68 (r := lr) (us := #[wv', lv, sv]) (rv := lv) (es := el) (by simp (maxSteps := 4000000) (disch := first | decide | omega | rfl) only [s3, hu2, ↓sa0, ↓sa1, sb0, sb1, sb2, sb3, sb4, sb5, guardIs, fillV, cellsN, setAll, loadC, loadCs, aresL, ares1, tupV, one, binV, unV, eqV, eqH, allEq, leafEq, shapeL, LK.is, ↓reduceIte, reduceCtorEq, Nat.reduceAdd, Nat.reduceSub, Nat.reduceMul, Nat.reduceLT, Nat.reduceLeDiff, Nat.reduceEqDiff, bne, dynB, heapsB, wanted, AOp.eff, AOp.makes, Int.reduceEq, Int.reduceLT, Int.reduceLE, Int.reduceBEq, Int.reduceBNe, boundV, natV_cast]) (by omega) rfl (hl.keep (by omega) fun q1 q2 => by simp (maxSteps := 4000000) (disch := first | decide | omega | rfl) only [s3, f2, s1, ↓sa0, ↓sa1, sb0, sb1, sb2, sb3, sb4, sb5, guardIs, fillV, cellsN, setAll, loadC, loadCs, aresL, ares1, tupV, one, binV, unV, eqV, eqH, allEq, leafEq, shapeL, LK.is, ↓reduceIte, reduceCtorEq, Nat.reduceAdd, Nat.reduceSub, Nat.reduceMul, Nat.reduceLT, Nat.reduceLeDiff, Nat.reduceEqDiff, bne, dynB, heapsB, wanted, AOp.eff, AOp.makes, Int.reduceEq, Int.reduceLT, Int.reduceLE, Int.reduceBEq, Int.reduceBNe, boundV, natV_cast]) (by omega) n2 qa qb qc (IntKind.u64.wrap y)) fun v h4 hf0 ⟨lr', lv', hu4, hl4, hd4, f4⟩ hf4 n4 => ?_
  simp (maxSteps := 4000000) (disch := first | decide | omega | rfl) only [↓sa0, ↓sa1, sb0, sb1, sb2, sb3, sb4, sb5, guardIs, fillV, cellsN, setAll, loadC, loadCs, aresL, ares1, tupV, one, binV, unV, eqV, eqH, allEq, leafEq, shapeL, LK.is, ↓reduceIte, reduceCtorEq, Nat.reduceAdd, Nat.reduceSub, Nat.reduceMul, Nat.reduceLT, Nat.reduceLeDiff, Nat.reduceEqDiff, bne, dynB, heapsB, wanted, AOp.eff, AOp.makes, Int.reduceEq, Int.reduceLT, Int.reduceLE, Int.reduceBEq, Int.reduceBNe, boundV, natV_cast] at n4 hu4 hd4 f4
  simp (maxSteps := 4000000) (disch := first | decide | omega | rfl) only [↓sa0, ↓sa1, sb0, sb1, sb2, sb3, sb4, sb5, guardIs, fillV, cellsN, setAll, loadC, loadCs, aresL, ares1, tupV, one, binV, unV, eqV, eqH, allEq, leafEq, shapeL, LK.is, ↓reduceIte, reduceCtorEq, Nat.reduceAdd, Nat.reduceSub, Nat.reduceMul, Nat.reduceLT, Nat.reduceLeDiff, Nat.reduceEqDiff, bne, dynB, heapsB, wanted, AOp.eff, AOp.makes, Int.reduceEq, Int.reduceLT, Int.reduceLE, Int.reduceBEq, Int.reduceBNe, boundV, natV_cast]
  have hwne : wr' ≠ u := by omega
  have hwlt : wr' < next h2 := hw2.lt (pos _ _ _)
  have hllt : lr' < next h4 := hl4.lt (pos _ _ _)
  refine ⟨wr', lr', wv', lv', hu4, hw2.keep (by omega) fun q1 q2 => ?_, hl4, by omega, by omega, by omega, by omega, by omega, fun b b1 b2 b3 b4 => ?_⟩
  · have hlr : wr' ≠ lr := by omega
    clear hd2 hd4
    simp (maxSteps := 4000000) (disch := first | decide | omega | rfl) only [f4, s3, ↓sa0, ↓sa1, sb0, sb1, sb2, sb3, sb4, sb5, guardIs, fillV, cellsN, setAll, loadC, loadCs, aresL, ares1, tupV, one, binV, unV, eqV, eqH, allEq, leafEq, shapeL, LK.is, ↓reduceIte, reduceCtorEq, Nat.reduceAdd, Nat.reduceSub, Nat.reduceMul, Nat.reduceLT, Nat.reduceLeDiff, Nat.reduceEqDiff, bne, dynB, heapsB, wanted, AOp.eff, AOp.makes, Int.reduceEq, Int.reduceLT, Int.reduceLE, Int.reduceBEq, Int.reduceBNe, boundV, natV_cast]
  · clear hd2 hd4
    simp (maxSteps := 4000000) (disch := first | decide | omega | rfl) only [f4, s3, f2, s1, ↓sa0, ↓sa1, sb0, sb1, sb2, sb3, sb4, sb5, guardIs, fillV, cellsN, setAll, loadC, loadCs, aresL, ares1, tupV, one, binV, unV, eqV, eqH, allEq, leafEq, shapeL, LK.is, ↓reduceIte, reduceCtorEq, Nat.reduceAdd, Nat.reduceSub, Nat.reduceMul, Nat.reduceLT, Nat.reduceLeDiff, Nat.reduceEqDiff, bne, dynB, heapsB, wanted, AOp.eff, AOp.makes, Int.reduceEq, Int.reduceLT, Int.reduceLE, Int.reduceBEq, Int.reduceBNe, boundV, natV_cast]

/-- The ideal beside the reference. -/
structure Both (h : H) (w l i nm s u : Nat) (r wr lr sr : Nat) (rv wv lv sv : Value) (W L : K4 → Int) (N : Int → Int) (row : Array Value) (ew el : List (K3 × Int)) (bs : List Int) (c0 c1 c2 c3 c4 : Int) (k : Nat) (cnt : Int) : Prop where
  I : IdealAt h w l i nm s r W L N rv bs.length row c0 c1 c2 c3 c4
  hu : get h u = some (.cells #[wv, lv, sv] .rw)
  su : s < u
  hw : Row h wr 4 wv ew.length (rowsOf c4r ew)
  hl : Row h lr 4 lv el.length (rowsOf c4r el)
  hs : Row h sr 1 sv bs.length (rowsOf i1r bs)
  d1 : s < r ∧ r ≠ u ∧ u < wr ∧ u < lr ∧ u < sr
  d2 : r < next h ∧ wr < next h ∧ lr < next h ∧ sr < next h
  d3 : r ≠ wr ∧ r ≠ lr ∧ r ≠ sr ∧ wr ≠ lr ∧ wr ≠ sr ∧ lr ≠ sr
  hN : ∀ sl, N sl = nowL bs sl
  hW : ∀ k s p id, k ≠ 9 → W (ofK k s p id) = lkD ew (whr k s p id)
  hL : ∀ k s p id, k ≠ 9 → L (ofK k s p id) = IntKind.i64.wrap (lkD el (whr k s p id))
  b : ew.length ≤ k ∧ el.length ≤ k ∧ bs.length ≤ k
  cn : c0 + c1 + c2 + c4 = cnt ∧ 0 ≤ c0 ∧ c0 ≤ k ∧ 0 ≤ c1 ∧ c1 ≤ k ∧ 0 ≤ c2 ∧ c2 ≤ k ∧ 0 ≤ c4 ∧ c4 ≤ k

def BothX (h : H) (w l i nm s u k : Nat) (cnt : Int) : Prop := ∃ r wr lr sr rv wv lv sv W L N row ew el bs c0 c1 c2 c3 c4, Both h w l i nm s u r wr lr sr rv wv lv sv W L N row ew el bs c0 c1 c2 c3 c4 k cnt

end
end Go.Proofs.Ytleoicjpcdmfkaa
