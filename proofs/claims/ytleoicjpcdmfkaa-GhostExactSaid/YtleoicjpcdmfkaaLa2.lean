/-
  The layer 'ideal': its memory, and what each of its functions does to it.
-/
import Derived.Test.YtleoicjpcdmfkaaLa1
set_option linter.unusedSimpArgs false
set_option linter.unusedVariables false
namespace Go.Proofs.Ytleoicjpcdmfkaa
open Go Ab
open Heap (get put next skip)

section
variable {H : Type} [Heap H]
attribute [local irreducible] wpG wpOG wpTG stepG CallsG cfunc bfunc tmOf upd

def ptrV (b : Nat) : Value := .pointer (some ⟨b, 0, none⟩)

/-- An ideal memory at block i. -/
structure IdealAt (h : H) (w l i nm s r : Nat) (W L : K4 → Int) (N : Int → Int) (rv : Value) (n : Nat) (row : Array Value) (c0 c1 c2 c3 c4 : Int) : Prop where
  o1 : w < l
  o2 : l < i
  o3 : i < nm
  o4 : nm < s
  o5 : s < next h
  o6 : 0 < n → s < r ∧ r < next h
  hi : get h i = some (.cells #[.map (some w), .map (some l), .pointer (some ⟨s, 0, none⟩), .int .i64 c0, .int .i64 c1, .int .i64 c2, .int .i64 c3, .int .i64 c4] .rw)
  hw : Map4 .u64 (get h w) W
  hl : Map4 .i64 (get h l) L
  hs : get h s = some (.cells #[.map (some nm), rv] .rw)
  hm : MapI .i64 (get h nm) N
  hr : Row h r 1 rv n row

/-- ideal.put -/
theorem k60 {h : H} {w l i nm s r : Nat} {W L : K4 → Int} {N : Int → Int} {rv : Value} {n : Nat} {row : Array Value} {c0 c1 c2 c3 c4 : Int} (I : IdealAt h w l i nm s r W L N rv n row c0 c1 c2 c3 c4) (q : K4) (x y : Int) (z : Bool) :
    Fresh h → CallsTo tt 60 #[.pointer (some ⟨i, 0, none⟩), kV q, .agg #[.int .u64 x, .int .i64 y, .bool z]] h fun _ h1 =>
      IdealAt h1 w l i nm s r (set4 W q x) (set4 L q y) N rv n row c0 c1 c2 c3 c4 ∧ ∀ b, b < next h → b ≠ w → b ≠ l → get h1 b = get h b := by
  obtain ⟨o1, o2, o3, o4, o5, o6, hi, hw, hl, hs, hm, hr⟩ := I
  obtain ⟨a, b, c, d⟩ := q
  obtain ⟨B1, e1, hw'⟩ := setB4 hw a b c d x
  obtain ⟨B2, e2, hl'⟩ := setB4 hl a b c d y
  refine toCall c60 (by simp [b60]) fun hf => ?_
  simp (maxSteps := 4000000) (disch := first | decide | omega | rfl) only [b60, kV, hi, e1, e2, ↓sa0, ↓sa1, sb0, sb1, sb2, sb3, sb4, sb5, guardIs, fillV, cellsN, setAll, loadC, loadCs, aresL, ares1, tupV, one, binV, unV, eqV, eqH, allEq, leafEq, shapeL, LK.is, ↓reduceIte, reduceCtorEq, Nat.reduceAdd, Nat.reduceSub, Nat.reduceMul, Nat.reduceLT, Nat.reduceLeDiff, Nat.reduceEqDiff, bne, dynB, heapsB, wanted, AOp.eff, AOp.makes, Int.reduceEq, Int.reduceLT, Int.reduceLE, Int.reduceBEq, Int.reduceBNe, boundV, natV_cast]
  refine ⟨⟨o1, o2, o3, o4, ?_, ?_, ?_, ?_, ?_, ?_, ?_, hr.keep ?_ fun q1 q2 => ?_⟩, fun b b1 b2 b3 => ?_⟩
  all_goals try simp (maxSteps := 4000000) (disch := first | decide | omega | rfl) only [hi, hs, ↓sa0, ↓sa1, sb0, sb1, sb2, sb3, sb4, sb5, guardIs, fillV, cellsN, setAll, loadC, loadCs, aresL, ares1, tupV, one, binV, unV, eqV, eqH, allEq, leafEq, shapeL, LK.is, ↓reduceIte, reduceCtorEq, Nat.reduceAdd, Nat.reduceSub, Nat.reduceMul, Nat.reduceLT, Nat.reduceLeDiff, Nat.reduceEqDiff, bne, dynB, heapsB, wanted, AOp.eff, AOp.makes, Int.reduceEq, Int.reduceLT, Int.reduceLE, Int.reduceBEq, Int.reduceBNe, boundV, natV_cast]
  all_goals first | omega | assumption

theorem IdealAt.keep {h h1 : H} {w l i nm s r : Nat} {W L : K4 → Int} {N : Int → Int} {rv : Value} {n : Nat} {row : Array Value} {c0 c1 c2 c3 c4 : Int} (I : IdealAt h w l i nm s r W L N rv n row c0 c1 c2 c3 c4) (hn : next h ≤ next h1)
    (hb : ∀ b, b < next h → b = w ∨ b = l ∨ b = i ∨ b = nm ∨ b = s ∨ (0 < n ∧ b = r) → get h1 b = get h b) : IdealAt h1 w l i nm s r W L N rv n row c0 c1 c2 c3 c4 := by
  obtain ⟨o1, o2, o3, o4, o5, o6, hi, hw, hl, hs, hm, hr⟩ := I
  refine ⟨o1, o2, o3, o4, by omega, by omega, ?_, ?_, ?_, ?_, ?_, hr.keep hn fun q1 q2 => hb r q2 (by omega)⟩
  · rw [hb i (by omega) (by omega)]; exact hi
  · rw [hb w (by omega) (by omega)]; exact hw
  · rw [hb l (by omega) (by omega)]; exact hl
  · rw [hb s (by omega) (by omega)]; exact hs
  · rw [hb nm (by omega) (by omega)]; exact hm

/-- ideal.Store -/
theorem k15 {h : H} {w l i nm s r : Nat} {W L : K4 → Int} {N : Int → Int} {rv : Value} {n : Nat} {row : Array Value} {c0 c1 c2 c3 c4 : Int} (I : IdealAt h w l i nm s r W L N rv n row c0 c1 c2 c3 c4) (k sl p id x y : Int) (z : Bool) :
    Fresh h → CallsTo tt 15 #[.pointer (some ⟨i, 0, none⟩), .agg #[.int .i64 k, .int .i64 sl, .int .i64 p, .int .i64 id], .agg #[.int .u64 x, .int .i64 y, .bool z]] h fun _ h1 =>
      IdealAt h1 w l i nm s r (set4 W (ofK k sl p id) x) (set4 L (ofK k sl p id) y) N rv n row c0 (IntKind.i64.wrap (c1 + 1)) c2 c3 c4 ∧ ∀ b, b < next h → b ≠ i → b ≠ w → b ≠ l → get h1 b = get h b := by
  obtain ⟨o1, o2, o3, o4, o5, o6, hi, hw, hl, hs, hm, hr⟩ := I
  refine toCall c15 (by simp [b15]) fun hf => ?_
  simp (maxSteps := 4000000) (disch := first | decide | omega | rfl) only [b15, hi, ↓sa0, ↓sa1, sb0, sb1, sb2, sb3, sb4, sb5, guardIs, fillV, cellsN, setAll, loadC, loadCs, aresL, ares1, tupV, one, binV, unV, eqV, eqH, allEq, leafEq, shapeL, LK.is, ↓reduceIte, reduceCtorEq, Nat.reduceAdd, Nat.reduceSub, Nat.reduceMul, Nat.reduceLT, Nat.reduceLeDiff, Nat.reduceEqDiff, bne, dynB, heapsB, wanted, AOp.eff, AOp.makes, Int.reduceEq, Int.reduceLT, Int.reduceLE, Int.reduceBEq, Int.reduceBNe, boundV, natV_cast]
  refine CallsG.of (k61 _ _ _ _ _) fun v h1 hf0 ⟨hv, hsm⟩ hf1 hn => ?_
  subst hv
  simp (maxSteps := 4000000) (disch := first | decide | omega | rfl) only [Same, hi, ↓sa0, ↓sa1, sb0, sb1, sb2, sb3, sb4, sb5, guardIs, fillV, cellsN, setAll, loadC, loadCs, aresL, ares1, tupV, one, binV, unV, eqV, eqH, allEq, leafEq, shapeL, LK.is, ↓reduceIte, reduceCtorEq, Nat.reduceAdd, Nat.reduceSub, Nat.reduceMul, Nat.reduceLT, Nat.reduceLeDiff, Nat.reduceEqDiff, bne, dynB, heapsB, wanted, AOp.eff, AOp.makes, Int.reduceEq, Int.reduceLT, Int.reduceLE, Int.reduceBEq, Int.reduceBNe, boundV, natV_cast] at hn hsm
  have I1 : IdealAt h1 w l i nm s r W L N rv n row c0 (IntKind.i64.wrap (c1 + 1)) c2 c3 c4 := by
    refine ⟨o1, o2, o3, o4, by omega, by omega, ?_, ?_, ?_, ?_, ?_, hr.keep (by omega) fun q1 q2 => ?_⟩
    all_goals simp (maxSteps := 4000000) (disch := first | decide | omega | rfl) only [hsm, hi, hs, ↓sa0, ↓sa1, sb0, sb1, sb2, sb3, sb4, sb5, guardIs, fillV, cellsN, setAll, loadC, loadCs, aresL, ares1, tupV, one, binV, unV, eqV, eqH, allEq, leafEq, shapeL, LK.is, ↓reduceIte, reduceCtorEq, Nat.reduceAdd, Nat.reduceSub, Nat.reduceMul, Nat.reduceLT, Nat.reduceLeDiff, Nat.reduceEqDiff, bne, dynB, heapsB, wanted, AOp.eff, AOp.makes, Int.reduceEq, Int.reduceLT, Int.reduceLE, Int.reduceBEq, Int.reduceBNe, boundV, natV_cast]
    all_goals assumption
  simp (maxSteps := 4000000) (disch := first | decide | omega | rfl) only [hsm, hi, kV, ↓sa0, ↓sa1, sb0, sb1, sb2, sb3, sb4, sb5, guardIs, fillV, cellsN, setAll, loadC, loadCs, aresL, ares1, tupV, one, binV, unV, eqV, eqH, allEq, leafEq, shapeL, LK.is, ↓reduceIte, reduceCtorEq, Nat.reduceAdd, Nat.reduceSub, Nat.reduceMul, Nat.reduceLT, Nat.reduceLeDiff, Nat.reduceEqDiff, bne, dynB, heapsB, wanted, AOp.eff, AOp.makes, Int.reduceEq, Int.reduceLT, Int.reduceLE, Int.reduceBEq, Int.reduceBNe, boundV, natV_cast]
  refine CallsG.of (k60 I1 (ofK k sl p id) x y z) fun v h2 hf0 ⟨I2, hb⟩ hf2 hn2 => ?_
  simp (maxSteps := 4000000) (disch := first | decide | omega | rfl) only [hsm, ↓sa0, ↓sa1, sb0, sb1, sb2, sb3, sb4, sb5, guardIs, fillV, cellsN, setAll, loadC, loadCs, aresL, ares1, tupV, one, binV, unV, eqV, eqH, allEq, leafEq, shapeL, LK.is, ↓reduceIte, reduceCtorEq, Nat.reduceAdd, Nat.reduceSub, Nat.reduceMul, Nat.reduceLT, Nat.reduceLeDiff, Nat.reduceEqDiff, bne, dynB, heapsB, wanted, AOp.eff, AOp.makes, Int.reduceEq, Int.reduceLT, Int.reduceLE, Int.reduceBEq, Int.reduceBNe, boundV, natV_cast]
  refine ⟨I2, fun b b1 b2 b3 b4 => ?_⟩
  simp (maxSteps := 4000000) (disch := first | decide | omega | rfl) only [hb, hsm, ↓sa0, ↓sa1, sb0, sb1, sb2, sb3, sb4, sb5, guardIs, fillV, cellsN, setAll, loadC, loadCs, aresL, ares1, tupV, one, binV, unV, eqV, eqH, allEq, leafEq, shapeL, LK.is, ↓reduceIte, reduceCtorEq, Nat.reduceAdd, Nat.reduceSub, Nat.reduceMul, Nat.reduceLT, Nat.reduceLeDiff, Nat.reduceEqDiff, bne, dynB, heapsB, wanted, AOp.eff, AOp.makes, Int.reduceEq, Int.reduceLT, Int.reduceLE, Int.reduceBEq, Int.reduceBNe, boundV, natV_cast]

/-- ideal.Load -/
theorem k16 {h : H} {w l i nm s r : Nat} {W L : K4 → Int} {N : Int → Int} {rv : Value} {n : Nat} {row : Array Value} {c0 c1 c2 c3 c4 : Int} (I : IdealAt h w l i nm s r W L N rv n row c0 c1 c2 c3 c4) (k sl p id : Int) :
    Fresh h → CallsTo tt 16 #[.pointer (some ⟨i, 0, none⟩), .agg #[.int .i64 k, .int .i64 sl, .int .i64 p, .int .i64 id]] h fun v h1 => v = .agg #[.int .u64 (W (ofK k sl p id)), .int .i64 (L (ofK k sl p id)), .bool false] ∧
      IdealAt h1 w l i nm s r W L N rv n row (IntKind.i64.wrap (c0 + 1)) c1 c2 c3 c4 ∧ ∀ b, b < next h → b ≠ i → get h1 b = get h b := by
  obtain ⟨o1, o2, o3, o4, o5, o6, hi, hw, hl, hs, hm, hr⟩ := I
  refine toCall c16 (by simp [b16]) fun hf => ?_
  simp (maxSteps := 4000000) (disch := first | decide | omega | rfl) only [b16, hi, ↓sa0, ↓sa1, sb0, sb1, sb2, sb3, sb4, sb5, guardIs, fillV, cellsN, setAll, loadC, loadCs, aresL, ares1, tupV, one, binV, unV, eqV, eqH, allEq, leafEq, shapeL, LK.is, ↓reduceIte, reduceCtorEq, Nat.reduceAdd, Nat.reduceSub, Nat.reduceMul, Nat.reduceLT, Nat.reduceLeDiff, Nat.reduceEqDiff, bne, dynB, heapsB, wanted, AOp.eff, AOp.makes, Int.reduceEq, Int.reduceLT, Int.reduceLE, Int.reduceBEq, Int.reduceBNe, boundV, natV_cast]
  refine CallsG.of (k61 _ _ _ _ _) fun v h1 hf0 ⟨hv, hsm⟩ hf1 hn => ?_
  subst hv
  simp (maxSteps := 4000000) (disch := first | decide | omega | rfl) only [Same, hi, ↓sa0, ↓sa1, sb0, sb1, sb2, sb3, sb4, sb5, guardIs, fillV, cellsN, setAll, loadC, loadCs, aresL, ares1, tupV, one, binV, unV, eqV, eqH, allEq, leafEq, shapeL, LK.is, ↓reduceIte, reduceCtorEq, Nat.reduceAdd, Nat.reduceSub, Nat.reduceMul, Nat.reduceLT, Nat.reduceLeDiff, Nat.reduceEqDiff, bne, dynB, heapsB, wanted, AOp.eff, AOp.makes, Int.reduceEq, Int.reduceLT, Int.reduceLE, Int.reduceBEq, Int.reduceBNe, boundV, natV_cast] at hn hsm
  have I1 : IdealAt h1 w l i nm s r W L N rv n row (IntKind.i64.wrap (c0 + 1)) c1 c2 c3 c4 := by
    refine ⟨o1, o2, o3, o4, by omega, by omega, ?_, ?_, ?_, ?_, ?_, hr.keep (by omega) fun q1 q2 => ?_⟩
    all_goals simp (maxSteps := 4000000) (disch := first | decide | omega | rfl) only [hsm, hi, hs, ↓sa0, ↓sa1, sb0, sb1, sb2, sb3, sb4, sb5, guardIs, fillV, cellsN, setAll, loadC, loadCs, aresL, ares1, tupV, one, binV, unV, eqV, eqH, allEq, leafEq, shapeL, LK.is, ↓reduceIte, reduceCtorEq, Nat.reduceAdd, Nat.reduceSub, Nat.reduceMul, Nat.reduceLT, Nat.reduceLeDiff, Nat.reduceEqDiff, bne, dynB, heapsB, wanted, AOp.eff, AOp.makes, Int.reduceEq, Int.reduceLT, Int.reduceLE, Int.reduceBEq, Int.reduceBNe, boundV, natV_cast]
    all_goals assumption
  simp (maxSteps := 4000000) (disch := first | decide | omega | rfl) only [hsm, hi, kV, lookB4 hw, lookB4 hl, ↓sa0, ↓sa1, sb0, sb1, sb2, sb3, sb4, sb5, guardIs, fillV, cellsN, setAll, loadC, loadCs, aresL, ares1, tupV, one, binV, unV, eqV, eqH, allEq, leafEq, shapeL, LK.is, ↓reduceIte, reduceCtorEq, Nat.reduceAdd, Nat.reduceSub, Nat.reduceMul, Nat.reduceLT, Nat.reduceLeDiff, Nat.reduceEqDiff, bne, dynB, heapsB, wanted, AOp.eff, AOp.makes, Int.reduceEq, Int.reduceLT, Int.reduceLE, Int.reduceBEq, Int.reduceBNe, boundV, natV_cast]
  refine ⟨I1.keep (by simp (maxSteps := 4000000) (disch := first | decide | omega | rfl) only [↓sa0, ↓sa1, sb0, sb1, sb2, sb3, sb4, sb5, guardIs, fillV, cellsN, setAll, loadC, loadCs, aresL, ares1, tupV, one, binV, unV, eqV, eqH, allEq, leafEq, shapeL, LK.is, ↓reduceIte, reduceCtorEq, Nat.reduceAdd, Nat.reduceSub, Nat.reduceMul, Nat.reduceLT, Nat.reduceLeDiff, Nat.reduceEqDiff, bne, dynB, heapsB, wanted, AOp.eff, AOp.makes, Int.reduceEq, Int.reduceLT, Int.reduceLE, Int.reduceBEq, Int.reduceBNe, boundV, natV_cast]; omega) fun b b1 b2 => ?_, fun b b1 b2 => ?_⟩
  · simp (maxSteps := 4000000) (disch := first | decide | omega | rfl) only [↓sa0, ↓sa1, sb0, sb1, sb2, sb3, sb4, sb5, guardIs, fillV, cellsN, setAll, loadC, loadCs, aresL, ares1, tupV, one, binV, unV, eqV, eqH, allEq, leafEq, shapeL, LK.is, ↓reduceIte, reduceCtorEq, Nat.reduceAdd, Nat.reduceSub, Nat.reduceMul, Nat.reduceLT, Nat.reduceLeDiff, Nat.reduceEqDiff, bne, dynB, heapsB, wanted, AOp.eff, AOp.makes, Int.reduceEq, Int.reduceLT, Int.reduceLE, Int.reduceBEq, Int.reduceBNe, boundV, natV_cast]
  · simp (maxSteps := 4000000) (disch := first | decide | omega | rfl) only [hsm, ↓sa0, ↓sa1, sb0, sb1, sb2, sb3, sb4, sb5, guardIs, fillV, cellsN, setAll, loadC, loadCs, aresL, ares1, tupV, one, binV, unV, eqV, eqH, allEq, leafEq, shapeL, LK.is, ↓reduceIte, reduceCtorEq, Nat.reduceAdd, Nat.reduceSub, Nat.reduceMul, Nat.reduceLT, Nat.reduceLeDiff, Nat.reduceEqDiff, bne, dynB, heapsB, wanted, AOp.eff, AOp.makes, Int.reduceEq, Int.reduceLT, Int.reduceLE, Int.reduceBEq, Int.reduceBNe, boundV, natV_cast]

/-- ideal.Swap -/
theorem k17 {h : H} {w l i nm s r : Nat} {W L : K4 → Int} {N : Int → Int} {rv : Value} {n : Nat} {row : Array Value} {c0 c1 c2 c3 c4 : Int} (I : IdealAt h w l i nm s r W L N rv n row c0 c1 c2 c3 c4) (k sl p id x0 y0 x y : Int) (z0 z : Bool) :
    Fresh h → CallsTo tt 17 #[.pointer (some ⟨i, 0, none⟩), .agg #[.int .i64 k, .int .i64 sl, .int .i64 p, .int .i64 id], .agg #[.int .u64 x0, .int .i64 y0, .bool z0], .agg #[.int .u64 x, .int .i64 y, .bool z]] h fun v h1 =>
      v = .bool (W (ofK k sl p id) == x0) ∧
      IdealAt h1 w l i nm s r (if (W (ofK k sl p id) == x0) = true then set4 W (ofK k sl p id) x else W) (if (W (ofK k sl p id) == x0) = true then set4 L (ofK k sl p id) y else L) N rv n row c0 c1 (IntKind.i64.wrap (c2 + 1)) (if (W (ofK k sl p id) == x0) = true then c3 else IntKind.i64.wrap (c3 + 1)) c4 ∧ ∀ b, b < next h → b ≠ i → b ≠ w → b ≠ l → get h1 b = get h b := by
  obtain ⟨o1, o2, o3, o4, o5, o6, hi, hw, hl, hs, hm, hr⟩ := I
  refine toCall c17 (by simp [b17]) fun hf => ?_
  simp (maxSteps := 4000000) (disch := first | decide | omega | rfl) only [b17, hi, ↓sa0, ↓sa1, sb0, sb1, sb2, sb3, sb4, sb5, guardIs, fillV, cellsN, setAll, loadC, loadCs, aresL, ares1, tupV, one, binV, unV, eqV, eqH, allEq, leafEq, shapeL, LK.is, ↓reduceIte, reduceCtorEq, Nat.reduceAdd, Nat.reduceSub, Nat.reduceMul, Nat.reduceLT, Nat.reduceLeDiff, Nat.reduceEqDiff, bne, dynB, heapsB, wanted, AOp.eff, AOp.makes, Int.reduceEq, Int.reduceLT, Int.reduceLE, Int.reduceBEq, Int.reduceBNe, boundV, natV_cast]
  refine CallsG.of (k61 _ _ _ _ _) fun v h1 hf0 ⟨hv, hsm⟩ hf1 hn => ?_
  subst hv
  simp (maxSteps := 4000000) (disch := first | decide | omega | rfl) only [Same, hi, ↓sa0, ↓sa1, sb0, sb1, sb2, sb3, sb4, sb5, guardIs, fillV, cellsN, setAll, loadC, loadCs, aresL, ares1, tupV, one, binV, unV, eqV, eqH, allEq, leafEq, shapeL, LK.is, ↓reduceIte, reduceCtorEq, Nat.reduceAdd, Nat.reduceSub, Nat.reduceMul, Nat.reduceLT, Nat.reduceLeDiff, Nat.reduceEqDiff, bne, dynB, heapsB, wanted, AOp.eff, AOp.makes, Int.reduceEq, Int.reduceLT, Int.reduceLE, Int.reduceBEq, Int.reduceBNe, boundV, natV_cast] at hn hsm
  have I1 : IdealAt h1 w l i nm s r W L N rv n row c0 c1 (IntKind.i64.wrap (c2 + 1)) c3 c4 := by
    refine ⟨o1, o2, o3, o4, by omega, by omega, ?_, ?_, ?_, ?_, ?_, hr.keep (by omega) fun q1 q2 => ?_⟩
    all_goals simp (maxSteps := 4000000) (disch := first | decide | omega | rfl) only [hsm, hi, hs, ↓sa0, ↓sa1, sb0, sb1, sb2, sb3, sb4, sb5, guardIs, fillV, cellsN, setAll, loadC, loadCs, aresL, ares1, tupV, one, binV, unV, eqV, eqH, allEq, leafEq, shapeL, LK.is, ↓reduceIte, reduceCtorEq, Nat.reduceAdd, Nat.reduceSub, Nat.reduceMul, Nat.reduceLT, Nat.reduceLeDiff, Nat.reduceEqDiff, bne, dynB, heapsB, wanted, AOp.eff, AOp.makes, Int.reduceEq, Int.reduceLT, Int.reduceLE, Int.reduceBEq, Int.reduceBNe, boundV, natV_cast]
    all_goals assumption
  have e : ∀ q : K4, (q.1, q.2.1, q.2.2.1, q.2.2.2) = q := fun _ => rfl
  cases hc : (W (ofK k sl p id) == x0)
  · simp (maxSteps := 4000000) (disch := first | decide | omega | rfl) only [hsm, hi, kV, lookB4 hw, e, hc, ↓sa0, ↓sa1, sb0, sb1, sb2, sb3, sb4, sb5, guardIs, fillV, cellsN, setAll, loadC, loadCs, aresL, ares1, tupV, one, binV, unV, eqV, eqH, allEq, leafEq, shapeL, LK.is, ↓reduceIte, reduceCtorEq, Nat.reduceAdd, Nat.reduceSub, Nat.reduceMul, Nat.reduceLT, Nat.reduceLeDiff, Nat.reduceEqDiff, bne, dynB, heapsB, wanted, AOp.eff, AOp.makes, Int.reduceEq, Int.reduceLT, Int.reduceLE, Int.reduceBEq, Int.reduceBNe, boundV, natV_cast]
    refine ⟨⟨o1, o2, o3, o4, ?_, ?_, ?_, ?_, ?_, ?_, ?_, hr.keep ?_ fun q1 q2 => ?_⟩, fun b b1 b2 b3 => ?_⟩
    all_goals try simp (maxSteps := 4000000) (disch := first | decide | omega | rfl) only [hsm, hi, hs, ↓sa0, ↓sa1, sb0, sb1, sb2, sb3, sb4, sb5, guardIs, fillV, cellsN, setAll, loadC, loadCs, aresL, ares1, tupV, one, binV, unV, eqV, eqH, allEq, leafEq, shapeL, LK.is, ↓reduceIte, reduceCtorEq, Nat.reduceAdd, Nat.reduceSub, Nat.reduceMul, Nat.reduceLT, Nat.reduceLeDiff, Nat.reduceEqDiff, bne, dynB, heapsB, wanted, AOp.eff, AOp.makes, Int.reduceEq, Int.reduceLT, Int.reduceLE, Int.reduceBEq, Int.reduceBNe, boundV, natV_cast]
    all_goals first | omega | assumption | (intros; simp (maxSteps := 4000000) (disch := first | decide | omega | rfl) only [hsm, ↓sa0, ↓sa1, sb0, sb1, sb2, sb3, sb4, sb5, guardIs, fillV, cellsN, setAll, loadC, loadCs, aresL, ares1, tupV, one, binV, unV, eqV, eqH, allEq, leafEq, shapeL, LK.is, ↓reduceIte, reduceCtorEq, Nat.reduceAdd, Nat.reduceSub, Nat.reduceMul, Nat.reduceLT, Nat.reduceLeDiff, Nat.reduceEqDiff, bne, dynB, heapsB, wanted, AOp.eff, AOp.makes, Int.reduceEq, Int.reduceLT, Int.reduceLE, Int.reduceBEq, Int.reduceBNe, boundV, natV_cast])
  · simp (maxSteps := 4000000) (disch := first | decide | omega | rfl) only [hsm, hi, kV, lookB4 hw, e, hc, ↓sa0, ↓sa1, sb0, sb1, sb2, sb3, sb4, sb5, guardIs, fillV, cellsN, setAll, loadC, loadCs, aresL, ares1, tupV, one, binV, unV, eqV, eqH, allEq, leafEq, shapeL, LK.is, ↓reduceIte, reduceCtorEq, Nat.reduceAdd, Nat.reduceSub, Nat.reduceMul, Nat.reduceLT, Nat.reduceLeDiff, Nat.reduceEqDiff, bne, dynB, heapsB, wanted, AOp.eff, AOp.makes, Int.reduceEq, Int.reduceLT, Int.reduceLE, Int.reduceBEq, Int.reduceBNe, boundV, natV_cast]
    refine CallsG.of (k60 (I1.keep (by simp (maxSteps := 4000000) (disch := first | decide | omega | rfl) only [↓sa0, ↓sa1, sb0, sb1, sb2, sb3, sb4, sb5, guardIs, fillV, cellsN, setAll, loadC, loadCs, aresL, ares1, tupV, one, binV, unV, eqV, eqH, allEq, leafEq, shapeL, LK.is, ↓reduceIte, reduceCtorEq, Nat.reduceAdd, Nat.reduceSub, Nat.reduceMul, Nat.reduceLT, Nat.reduceLeDiff, Nat.reduceEqDiff, bne, dynB, heapsB, wanted, AOp.eff, AOp.makes, Int.reduceEq, Int.reduceLT, Int.reduceLE, Int.reduceBEq, Int.reduceBNe, boundV, natV_cast]; omega) fun b b1 b2 => by simp (maxSteps := 4000000) (disch := first | decide | omega | rfl) only [↓sa0, ↓sa1, sb0, sb1, sb2, sb3, sb4, sb5, guardIs, fillV, cellsN, setAll, loadC, loadCs, aresL, ares1, tupV, one, binV, unV, eqV, eqH, allEq, leafEq, shapeL, LK.is, ↓reduceIte, reduceCtorEq, Nat.reduceAdd, Nat.reduceSub, Nat.reduceMul, Nat.reduceLT, Nat.reduceLeDiff, Nat.reduceEqDiff, bne, dynB, heapsB, wanted, AOp.eff, AOp.makes, Int.reduceEq, Int.reduceLT, Int.reduceLE, Int.reduceBEq, Int.reduceBNe, boundV, natV_cast]) (ofK k sl p id) x y z) fun v h2 hf0 ⟨I2, hb⟩ hf2 hn2 => ?_
    simp (maxSteps := 4000000) (disch := first | decide | omega | rfl) only [hsm, ↓sa0, ↓sa1, sb0, sb1, sb2, sb3, sb4, sb5, guardIs, fillV, cellsN, setAll, loadC, loadCs, aresL, ares1, tupV, one, binV, unV, eqV, eqH, allEq, leafEq, shapeL, LK.is, ↓reduceIte, reduceCtorEq, Nat.reduceAdd, Nat.reduceSub, Nat.reduceMul, Nat.reduceLT, Nat.reduceLeDiff, Nat.reduceEqDiff, bne, dynB, heapsB, wanted, AOp.eff, AOp.makes, Int.reduceEq, Int.reduceLT, Int.reduceLE, Int.reduceBEq, Int.reduceBNe, boundV, natV_cast] at hn2 hb
    simp (maxSteps := 4000000) (disch := first | decide | omega | rfl) only [hsm, ↓sa0, ↓sa1, sb0, sb1, sb2, sb3, sb4, sb5, guardIs, fillV, cellsN, setAll, loadC, loadCs, aresL, ares1, tupV, one, binV, unV, eqV, eqH, allEq, leafEq, shapeL, LK.is, ↓reduceIte, reduceCtorEq, Nat.reduceAdd, Nat.reduceSub, Nat.reduceMul, Nat.reduceLT, Nat.reduceLeDiff, Nat.reduceEqDiff, bne, dynB, heapsB, wanted, AOp.eff, AOp.makes, Int.reduceEq, Int.reduceLT, Int.reduceLE, Int.reduceBEq, Int.reduceBNe, boundV, natV_cast]
    refine ⟨I2.keep (by simp (maxSteps := 4000000) (disch := first | decide | omega | rfl) only [↓sa0, ↓sa1, sb0, sb1, sb2, sb3, sb4, sb5, guardIs, fillV, cellsN, setAll, loadC, loadCs, aresL, ares1, tupV, one, binV, unV, eqV, eqH, allEq, leafEq, shapeL, LK.is, ↓reduceIte, reduceCtorEq, Nat.reduceAdd, Nat.reduceSub, Nat.reduceMul, Nat.reduceLT, Nat.reduceLeDiff, Nat.reduceEqDiff, bne, dynB, heapsB, wanted, AOp.eff, AOp.makes, Int.reduceEq, Int.reduceLT, Int.reduceLE, Int.reduceBEq, Int.reduceBNe, boundV, natV_cast]; omega) fun b b1 b2 => by simp (maxSteps := 4000000) (disch := first | decide | omega | rfl) only [↓sa0, ↓sa1, sb0, sb1, sb2, sb3, sb4, sb5, guardIs, fillV, cellsN, setAll, loadC, loadCs, aresL, ares1, tupV, one, binV, unV, eqV, eqH, allEq, leafEq, shapeL, LK.is, ↓reduceIte, reduceCtorEq, Nat.reduceAdd, Nat.reduceSub, Nat.reduceMul, Nat.reduceLT, Nat.reduceLeDiff, Nat.reduceEqDiff, bne, dynB, heapsB, wanted, AOp.eff, AOp.makes, Int.reduceEq, Int.reduceLT, Int.reduceLE, Int.reduceBEq, Int.reduceBNe, boundV, natV_cast], fun b b1 b2 b3 b4 => ?_⟩
    simp (maxSteps := 4000000) (disch := first | decide | omega | rfl) only [hb, hsm, ↓sa0, ↓sa1, sb0, sb1, sb2, sb3, sb4, sb5, guardIs, fillV, cellsN, setAll, loadC, loadCs, aresL, ares1, tupV, one, binV, unV, eqV, eqH, allEq, leafEq, shapeL, LK.is, ↓reduceIte, reduceCtorEq, Nat.reduceAdd, Nat.reduceSub, Nat.reduceMul, Nat.reduceLT, Nat.reduceLeDiff, Nat.reduceEqDiff, bne, dynB, heapsB, wanted, AOp.eff, AOp.makes, Int.reduceEq, Int.reduceLT, Int.reduceLE, Int.reduceBEq, Int.reduceBNe, boundV, natV_cast]

/-- ideal.Add -/
theorem k18 {h : H} {w l i nm s r : Nat} {W L : K4 → Int} {N : Int → Int} {rv : Value} {n : Nat} {row : Array Value} {c0 c1 c2 c3 c4 : Int} (I : IdealAt h w l i nm s r W L N rv n row c0 c1 c2 c3 c4) (k sl p id x : Int) :
    Fresh h → CallsTo tt 18 #[.pointer (some ⟨i, 0, none⟩), .agg #[.int .i64 k, .int .i64 sl, .int .i64 p, .int .i64 id], .int .u64 x] h fun v h1 =>
      v = .int .u64 (W (ofK k sl p id)) ∧
      IdealAt h1 w l i nm s r (set4 W (ofK k sl p id) (IntKind.u64.wrap (W (ofK k sl p id) + x))) L N rv n row c0 c1 c2 c3 (IntKind.i64.wrap (c4 + 1)) ∧ ∀ b, b < next h → b ≠ i → b ≠ w → get h1 b = get h b := by
  obtain ⟨o1, o2, o3, o4, o5, o6, hi, hw, hl, hs, hm, hr⟩ := I
  refine toCall c18 (by simp [b18]) fun hf => ?_
  simp (maxSteps := 4000000) (disch := first | decide | omega | rfl) only [b18, hi, ↓sa0, ↓sa1, sb0, sb1, sb2, sb3, sb4, sb5, guardIs, fillV, cellsN, setAll, loadC, loadCs, aresL, ares1, tupV, one, binV, unV, eqV, eqH, allEq, leafEq, shapeL, LK.is, ↓reduceIte, reduceCtorEq, Nat.reduceAdd, Nat.reduceSub, Nat.reduceMul, Nat.reduceLT, Nat.reduceLeDiff, Nat.reduceEqDiff, bne, dynB, heapsB, wanted, AOp.eff, AOp.makes, Int.reduceEq, Int.reduceLT, Int.reduceLE, Int.reduceBEq, Int.reduceBNe, boundV, natV_cast]
  refine CallsG.of (k61 _ _ _ _ _) fun v h1 hf0 ⟨hv, hsm⟩ hf1 hn => ?_
  subst hv
  simp (maxSteps := 4000000) (disch := first | decide | omega | rfl) only [Same, hi, ↓sa0, ↓sa1, sb0, sb1, sb2, sb3, sb4, sb5, guardIs, fillV, cellsN, setAll, loadC, loadCs, aresL, ares1, tupV, one, binV, unV, eqV, eqH, allEq, leafEq, shapeL, LK.is, ↓reduceIte, reduceCtorEq, Nat.reduceAdd, Nat.reduceSub, Nat.reduceMul, Nat.reduceLT, Nat.reduceLeDiff, Nat.reduceEqDiff, bne, dynB, heapsB, wanted, AOp.eff, AOp.makes, Int.reduceEq, Int.reduceLT, Int.reduceLE, Int.reduceBEq, Int.reduceBNe, boundV, natV_cast] at hn hsm
  have e : ∀ q : K4, (q.1, q.2.1, q.2.2.1, q.2.2.2) = q := fun _ => rfl
  obtain ⟨B1, e1, hw'⟩ := setB4 hw (ofK k sl p id).1 (ofK k sl p id).2.1 (ofK k sl p id).2.2.1 (ofK k sl p id).2.2.2 (IntKind.u64.wrap (W (ofK k sl p id) + x))
  simp (maxSteps := 4000000) (disch := first | decide | omega | rfl) only [hsm, hi, kV, lookB4 hw, e, e1, ↓sa0, ↓sa1, sb0, sb1, sb2, sb3, sb4, sb5, guardIs, fillV, cellsN, setAll, loadC, loadCs, aresL, ares1, tupV, one, binV, unV, eqV, eqH, allEq, leafEq, shapeL, LK.is, ↓reduceIte, reduceCtorEq, Nat.reduceAdd, Nat.reduceSub, Nat.reduceMul, Nat.reduceLT, Nat.reduceLeDiff, Nat.reduceEqDiff, bne, dynB, heapsB, wanted, AOp.eff, AOp.makes, Int.reduceEq, Int.reduceLT, Int.reduceLE, Int.reduceBEq, Int.reduceBNe, boundV, natV_cast]
  refine ⟨⟨o1, o2, o3, o4, ?_, ?_, ?_, ?_, ?_, ?_, ?_, hr.keep ?_ fun q1 q2 => ?_⟩, fun b b1 b2 b3 => ?_⟩
  all_goals try simp (maxSteps := 4000000) (disch := first | decide | omega | rfl) only [hsm, hi, hs, ↓sa0, ↓sa1, sb0, sb1, sb2, sb3, sb4, sb5, guardIs, fillV, cellsN, setAll, loadC, loadCs, aresL, ares1, tupV, one, binV, unV, eqV, eqH, allEq, leafEq, shapeL, LK.is, ↓reduceIte, reduceCtorEq, Nat.reduceAdd, Nat.reduceSub, Nat.reduceMul, Nat.reduceLT, Nat.reduceLeDiff, Nat.reduceEqDiff, bne, dynB, heapsB, wanted, AOp.eff, AOp.makes, Int.reduceEq, Int.reduceLT, Int.reduceLE, Int.reduceBEq, Int.reduceBNe, boundV, natV_cast]
  all_goals first | omega | assumption

end
end Go.Proofs.Ytleoicjpcdmfkaa
