/-
  The layer 'spec': whether an op may be answered so; fixed answers.
-/
import Derived.Test.YtleoicjpcdmfkaaLa25
set_option linter.unusedSimpArgs false
set_option linter.unusedVariables false
namespace Go.Proofs.Ytleoicjpcdmfkaa
open Go Ab
open Heap (get put next skip)

def takesB (kd : Int) : Bool := (kd == 1) || ((kd == 4) || (kd == 5))
def refE (err : Int) (done : Bool) (val n : Int) : Bool := (err == n) && (!done && (val == 0))
def isRef (kd err : Int) (done : Bool) (val : Int) : Bool := if refE err done val 6 = true then takesB kd else if refE err done val 7 = true then takesB kd || (kd == 8) else false

def mayS (ps : List (Int × Int)) (kd key val err : Int) (done : Bool) (av : Int) : List (Int × Int) × Bool :=
  if isRef kd err done av = true then (ps, true)
  else if (doS ps kd key val).2.2.2 ≠ 0 then ([], false)
  else if ((err == 0) && ((done == (doS ps kd key val).2.1) && (av == if kd = 8 then av else (doS ps kd key val).2.2.1))) = true then ((doS ps kd key val).1, true) else ([], false)

section
variable {H : Type} [Heap H]
attribute [local irreducible] wpG wpOG wpTG stepG CallsG cfunc bfunc tmOf upd

set_option maxRecDepth 20000 in
set_option maxHeartbeats 8000000 in
/-- spec.isRefused -/
theorem k76 (h : H) (kd key val lv err : Int) (done : Bool) (av : Int) :
    Fresh h → CallsTo tt 76 #[.agg #[.int .i64 kd, .int .u64 key, .int .u64 val, .int .i64 lv], .agg #[.int .i64 err, .bool done, .int .u64 av]] h fun v h1 => v = .bool (isRef kd err done av) ∧ Same h h1 := by
  refine toCall c76 (by simp [b76]) fun hf => ?_
  unfold isRef
  cases h1 : (kd == 1)
  · cases h4 : (kd == 4)
    · cases h5 : (kd == 5)
      all_goals
        have ht : takesB kd = (kd == 5) := by unfold takesB; rw [h1, h4]; rfl
        rw [h5] at ht
        cases c6 : refE err done av 6
        · cases c7 : refE err done av 7
          · unfold refE at c6 c7
            simp (maxSteps := 4000000) (disch := first | decide | omega | rfl) only [b76, h1, h4, h5, c6, c7, ht, ↓sa0, ↓sa1, sb0, sb1, sb2, sb3, sb4, sb5, guardIs, fillV, cellsN, setAll, loadC, loadCs, aresL, ares1, tupV, one, binV, unV, eqV, eqH, allEq, leafEq, shapeL, LK.is, ↓reduceIte, reduceCtorEq, Nat.reduceAdd, Nat.reduceSub, Nat.reduceMul, Nat.reduceLT, Nat.reduceLeDiff, Nat.reduceEqDiff, bne, dynB, heapsB, wanted, AOp.eff, AOp.makes, Int.reduceEq, Int.reduceLT, Int.reduceLE, Int.reduceBEq, Int.reduceBNe, boundV, natV_cast]
            exact fun b hb => by simp (maxSteps := 4000000) (disch := first | decide | omega | rfl) only [↓sa0, ↓sa1, sb0, sb1, sb2, sb3, sb4, sb5, guardIs, fillV, cellsN, setAll, loadC, loadCs, aresL, ares1, tupV, one, binV, unV, eqV, eqH, allEq, leafEq, shapeL, LK.is, ↓reduceIte, reduceCtorEq, Nat.reduceAdd, Nat.reduceSub, Nat.reduceMul, Nat.reduceLT, Nat.reduceLeDiff, Nat.reduceEqDiff, bne, dynB, heapsB, wanted, AOp.eff, AOp.makes, Int.reduceEq, Int.reduceLT, Int.reduceLE, Int.reduceBEq, Int.reduceBNe, boundV, natV_cast]
          · cases h8 : (kd == 8)
            all_goals
              unfold refE at c6 c7
              simp (maxSteps := 4000000) (disch := first | decide | omega | rfl) only [b76, h1, h4, h5, h8, c6, c7, ht, Bool.or_false, Bool.or_true, Bool.true_or, Bool.or_self, ↓sa0, ↓sa1, sb0, sb1, sb2, sb3, sb4, sb5, guardIs, fillV, cellsN, setAll, loadC, loadCs, aresL, ares1, tupV, one, binV, unV, eqV, eqH, allEq, leafEq, shapeL, LK.is, ↓reduceIte, reduceCtorEq, Nat.reduceAdd, Nat.reduceSub, Nat.reduceMul, Nat.reduceLT, Nat.reduceLeDiff, Nat.reduceEqDiff, bne, dynB, heapsB, wanted, AOp.eff, AOp.makes, Int.reduceEq, Int.reduceLT, Int.reduceLE, Int.reduceBEq, Int.reduceBNe, boundV, natV_cast]
              exact fun b hb => by simp (maxSteps := 4000000) (disch := first | decide | omega | rfl) only [↓sa0, ↓sa1, sb0, sb1, sb2, sb3, sb4, sb5, guardIs, fillV, cellsN, setAll, loadC, loadCs, aresL, ares1, tupV, one, binV, unV, eqV, eqH, allEq, leafEq, shapeL, LK.is, ↓reduceIte, reduceCtorEq, Nat.reduceAdd, Nat.reduceSub, Nat.reduceMul, Nat.reduceLT, Nat.reduceLeDiff, Nat.reduceEqDiff, bne, dynB, heapsB, wanted, AOp.eff, AOp.makes, Int.reduceEq, Int.reduceLT, Int.reduceLE, Int.reduceBEq, Int.reduceBNe, boundV, natV_cast]
        · unfold refE at c6
          simp (maxSteps := 4000000) (disch := first | decide | omega | rfl) only [b76, h1, h4, h5, c6, ht, ↓sa0, ↓sa1, sb0, sb1, sb2, sb3, sb4, sb5, guardIs, fillV, cellsN, setAll, loadC, loadCs, aresL, ares1, tupV, one, binV, unV, eqV, eqH, allEq, leafEq, shapeL, LK.is, ↓reduceIte, reduceCtorEq, Nat.reduceAdd, Nat.reduceSub, Nat.reduceMul, Nat.reduceLT, Nat.reduceLeDiff, Nat.reduceEqDiff, bne, dynB, heapsB, wanted, AOp.eff, AOp.makes, Int.reduceEq, Int.reduceLT, Int.reduceLE, Int.reduceBEq, Int.reduceBNe, boundV, natV_cast]
          exact fun b hb => by simp (maxSteps := 4000000) (disch := first | decide | omega | rfl) only [↓sa0, ↓sa1, sb0, sb1, sb2, sb3, sb4, sb5, guardIs, fillV, cellsN, setAll, loadC, loadCs, aresL, ares1, tupV, one, binV, unV, eqV, eqH, allEq, leafEq, shapeL, LK.is, ↓reduceIte, reduceCtorEq, Nat.reduceAdd, Nat.reduceSub, Nat.reduceMul, Nat.reduceLT, Nat.reduceLeDiff, Nat.reduceEqDiff, bne, dynB, heapsB, wanted, AOp.eff, AOp.makes, Int.reduceEq, Int.reduceLT, Int.reduceLE, Int.reduceBEq, Int.reduceBNe, boundV, natV_cast]
    · have ht : takesB kd = true := by unfold takesB; rw [h4]; simp
      cases c6 : refE err done av 6
      · cases c7 : refE err done av 7
        all_goals
          unfold refE at c6 c7
          simp (maxSteps := 4000000) (disch := first | decide | omega | rfl) only [b76, h1, h4, c6, c7, ht, Bool.true_or, ↓sa0, ↓sa1, sb0, sb1, sb2, sb3, sb4, sb5, guardIs, fillV, cellsN, setAll, loadC, loadCs, aresL, ares1, tupV, one, binV, unV, eqV, eqH, allEq, leafEq, shapeL, LK.is, ↓reduceIte, reduceCtorEq, Nat.reduceAdd, Nat.reduceSub, Nat.reduceMul, Nat.reduceLT, Nat.reduceLeDiff, Nat.reduceEqDiff, bne, dynB, heapsB, wanted, AOp.eff, AOp.makes, Int.reduceEq, Int.reduceLT, Int.reduceLE, Int.reduceBEq, Int.reduceBNe, boundV, natV_cast]
          exact fun b hb => by simp (maxSteps := 4000000) (disch := first | decide | omega | rfl) only [↓sa0, ↓sa1, sb0, sb1, sb2, sb3, sb4, sb5, guardIs, fillV, cellsN, setAll, loadC, loadCs, aresL, ares1, tupV, one, binV, unV, eqV, eqH, allEq, leafEq, shapeL, LK.is, ↓reduceIte, reduceCtorEq, Nat.reduceAdd, Nat.reduceSub, Nat.reduceMul, Nat.reduceLT, Nat.reduceLeDiff, Nat.reduceEqDiff, bne, dynB, heapsB, wanted, AOp.eff, AOp.makes, Int.reduceEq, Int.reduceLT, Int.reduceLE, Int.reduceBEq, Int.reduceBNe, boundV, natV_cast]
      · unfold refE at c6
        simp (maxSteps := 4000000) (disch := first | decide | omega | rfl) only [b76, h1, h4, c6, ht, ↓sa0, ↓sa1, sb0, sb1, sb2, sb3, sb4, sb5, guardIs, fillV, cellsN, setAll, loadC, loadCs, aresL, ares1, tupV, one, binV, unV, eqV, eqH, allEq, leafEq, shapeL, LK.is, ↓reduceIte, reduceCtorEq, Nat.reduceAdd, Nat.reduceSub, Nat.reduceMul, Nat.reduceLT, Nat.reduceLeDiff, Nat.reduceEqDiff, bne, dynB, heapsB, wanted, AOp.eff, AOp.makes, Int.reduceEq, Int.reduceLT, Int.reduceLE, Int.reduceBEq, Int.reduceBNe, boundV, natV_cast]
        exact fun b hb => by simp (maxSteps := 4000000) (disch := first | decide | omega | rfl) only [↓sa0, ↓sa1, sb0, sb1, sb2, sb3, sb4, sb5, guardIs, fillV, cellsN, setAll, loadC, loadCs, aresL, ares1, tupV, one, binV, unV, eqV, eqH, allEq, leafEq, shapeL, LK.is, ↓reduceIte, reduceCtorEq, Nat.reduceAdd, Nat.reduceSub, Nat.reduceMul, Nat.reduceLT, Nat.reduceLeDiff, Nat.reduceEqDiff, bne, dynB, heapsB, wanted, AOp.eff, AOp.makes, Int.reduceEq, Int.reduceLT, Int.reduceLE, Int.reduceBEq, Int.reduceBNe, boundV, natV_cast]
  · have ht : takesB kd = true := by unfold takesB; rw [h1]; simp
    cases c6 : refE err done av 6
    · cases c7 : refE err done av 7
      all_goals
        unfold refE at c6 c7
        simp (maxSteps := 4000000) (disch := first | decide | omega | rfl) only [b76, h1, c6, c7, ht, Bool.true_or, ↓sa0, ↓sa1, sb0, sb1, sb2, sb3, sb4, sb5, guardIs, fillV, cellsN, setAll, loadC, loadCs, aresL, ares1, tupV, one, binV, unV, eqV, eqH, allEq, leafEq, shapeL, LK.is, ↓reduceIte, reduceCtorEq, Nat.reduceAdd, Nat.reduceSub, Nat.reduceMul, Nat.reduceLT, Nat.reduceLeDiff, Nat.reduceEqDiff, bne, dynB, heapsB, wanted, AOp.eff, AOp.makes, Int.reduceEq, Int.reduceLT, Int.reduceLE, Int.reduceBEq, Int.reduceBNe, boundV, natV_cast]
        exact fun b hb => by simp (maxSteps := 4000000) (disch := first | decide | omega | rfl) only [↓sa0, ↓sa1, sb0, sb1, sb2, sb3, sb4, sb5, guardIs, fillV, cellsN, setAll, loadC, loadCs, aresL, ares1, tupV, one, binV, unV, eqV, eqH, allEq, leafEq, shapeL, LK.is, ↓reduceIte, reduceCtorEq, Nat.reduceAdd, Nat.reduceSub, Nat.reduceMul, Nat.reduceLT, Nat.reduceLeDiff, Nat.reduceEqDiff, bne, dynB, heapsB, wanted, AOp.eff, AOp.makes, Int.reduceEq, Int.reduceLT, Int.reduceLE, Int.reduceBEq, Int.reduceBNe, boundV, natV_cast]
    · unfold refE at c6
      simp (maxSteps := 4000000) (disch := first | decide | omega | rfl) only [b76, h1, c6, ht, ↓sa0, ↓sa1, sb0, sb1, sb2, sb3, sb4, sb5, guardIs, fillV, cellsN, setAll, loadC, loadCs, aresL, ares1, tupV, one, binV, unV, eqV, eqH, allEq, leafEq, shapeL, LK.is, ↓reduceIte, reduceCtorEq, Nat.reduceAdd, Nat.reduceSub, Nat.reduceMul, Nat.reduceLT, Nat.reduceLeDiff, Nat.reduceEqDiff, bne, dynB, heapsB, wanted, AOp.eff, AOp.makes, Int.reduceEq, Int.reduceLT, Int.reduceLE, Int.reduceBEq, Int.reduceBNe, boundV, natV_cast]
      exact fun b hb => by simp (maxSteps := 4000000) (disch := first | decide | omega | rfl) only [↓sa0, ↓sa1, sb0, sb1, sb2, sb3, sb4, sb5, guardIs, fillV, cellsN, setAll, loadC, loadCs, aresL, ares1, tupV, one, binV, unV, eqV, eqH, allEq, leafEq, shapeL, LK.is, ↓reduceIte, reduceCtorEq, Nat.reduceAdd, Nat.reduceSub, Nat.reduceMul, Nat.reduceLT, Nat.reduceLeDiff, Nat.reduceEqDiff, bne, dynB, heapsB, wanted, AOp.eff, AOp.makes, Int.reduceEq, Int.reduceLT, Int.reduceLE, Int.reduceBEq, Int.reduceBNe, boundV, natV_cast]

theorem doS_len {ps : List (Int × Int)} (hl : ps.length ≤ 16) (kd key val : Int) : (doS ps kd key val).1.length ≤ 16 := by
  have plen : ∀ (k v : Int) (w d : Bool) (a : Int), (putR ps k v w d a).1.length ≤ 16 := fun k v w d a => by
    unfold putR
    split
    · cases hw : withS ps k v with
      | none => simp
      | some ps' => exact withS_len hl hw
    · exact hl
  unfold doS
  split
  · exact plen _ _ _ _ _
  split
  · exact plen _ _ _ _ _
  split
  · exact plen _ _ _ _ _
  split
  · exact withoutL_len hl
  split
  · exact withoutL_len hl
  split
  · exact hl
  split
  · exact hl
  split
  · exact hl
  · simp

set_option maxRecDepth 20000 in
set_option maxHeartbeats 8000000 in
/-- spec.May -/
theorem k39 (h : H) {ps : List (Int × Int)} (hl : ps.length ≤ 16) (kd key val lv err : Int) (done : Bool) (av : Int) :
    Fresh h → CallsTo tt 39 #[.agg (stP ps), .agg #[.int .i64 kd, .int .u64 key, .int .u64 val, .int .i64 lv], .agg #[.int .i64 err, .bool done, .int .u64 av]] h fun v h1 =>
      v = .tuple #[.agg (stP (mayS ps kd key val err done av).1), .bool (mayS ps kd key val err done av).2] ∧ Same h h1 := by
  refine toCall c39 (by simp [b39]) fun hf => ?_
  have hsz := stP_size hl
  have hex := stP_extract hl
  have hone := stP_one (ps := ps)
  have z0 := stP_size (ps := []) (by simp)
  have zx := stP_extract (ps := []) (by simp)
  have zone := stP_one (ps := [])
  have zf0 : setAll (stP []) 0 (stP []).toList = stP [] := setAll_full rfl
  have zf : setAll (stP []) 0 (stP ps).toList = stP ps := setAll_full (by rw [hsz, z0])
  have zz := stP_nil.symm
  simp (maxSteps := 4000000) (disch := first | decide | omega | rfl) only [b39, hsz, hex, zz, z0, ↓sa0, ↓sa1, sb0, sb1, sb2, sb3, sb4, sb5, guardIs, fillV, cellsN, setAll, loadC, loadCs, aresL, ares1, tupV, one, binV, unV, eqV, eqH, allEq, leafEq, shapeL, LK.is, ↓reduceIte, reduceCtorEq, Nat.reduceAdd, Nat.reduceSub, Nat.reduceMul, Nat.reduceLT, Nat.reduceLeDiff, Nat.reduceEqDiff, bne, dynB, heapsB, wanted, AOp.eff, AOp.makes, Int.reduceEq, Int.reduceLT, Int.reduceLE, Int.reduceBEq, Int.reduceBNe, boundV, natV_cast]
  refine CallsG.of (k76 _ _ _ _ _ _ _ _) fun v h1 hf0 ⟨hv, s1⟩ hf1 n1 => ?_
  subst hv
  simp (maxSteps := 4000000) (disch := first | decide | omega | rfl) only [Same, ↓sa0, ↓sa1, sb0, sb1, sb2, sb3, sb4, sb5, guardIs, fillV, cellsN, setAll, loadC, loadCs, aresL, ares1, tupV, one, binV, unV, eqV, eqH, allEq, leafEq, shapeL, LK.is, ↓reduceIte, reduceCtorEq, Nat.reduceAdd, Nat.reduceSub, Nat.reduceMul, Nat.reduceLT, Nat.reduceLeDiff, Nat.reduceEqDiff, bne, dynB, heapsB, wanted, AOp.eff, AOp.makes, Int.reduceEq, Int.reduceLT, Int.reduceLE, Int.reduceBEq, Int.reduceBNe, boundV, natV_cast] at n1 s1
  unfold mayS
  cases hr : isRef kd err done av
  rotate_left 1
  · simp (maxSteps := 4000000) (disch := first | decide | omega | rfl) only [hr, s1, hsz, hex, hone, z0, zf, ↓sa0, ↓sa1, sb0, sb1, sb2, sb3, sb4, sb5, guardIs, fillV, cellsN, setAll, loadC, loadCs, aresL, ares1, tupV, one, binV, unV, eqV, eqH, allEq, leafEq, shapeL, LK.is, ↓reduceIte, reduceCtorEq, Nat.reduceAdd, Nat.reduceSub, Nat.reduceMul, Nat.reduceLT, Nat.reduceLeDiff, Nat.reduceEqDiff, bne, dynB, heapsB, wanted, AOp.eff, AOp.makes, Int.reduceEq, Int.reduceLT, Int.reduceLE, Int.reduceBEq, Int.reduceBNe, boundV, natV_cast]
    exact fun b hb => by simp (maxSteps := 4000000) (disch := first | decide | omega | rfl) only [s1, ↓sa0, ↓sa1, sb0, sb1, sb2, sb3, sb4, sb5, guardIs, fillV, cellsN, setAll, loadC, loadCs, aresL, ares1, tupV, one, binV, unV, eqV, eqH, allEq, leafEq, shapeL, LK.is, ↓reduceIte, reduceCtorEq, Nat.reduceAdd, Nat.reduceSub, Nat.reduceMul, Nat.reduceLT, Nat.reduceLeDiff, Nat.reduceEqDiff, bne, dynB, heapsB, wanted, AOp.eff, AOp.makes, Int.reduceEq, Int.reduceLT, Int.reduceLE, Int.reduceBEq, Int.reduceBNe, boundV, natV_cast]
  simp (maxSteps := 4000000) (disch := first | decide | omega | rfl) only [hr, s1, hsz, hex, zz, z0, ↓sa0, ↓sa1, sb0, sb1, sb2, sb3, sb4, sb5, guardIs, fillV, cellsN, setAll, loadC, loadCs, aresL, ares1, tupV, one, binV, unV, eqV, eqH, allEq, leafEq, shapeL, LK.is, ↓reduceIte, reduceCtorEq, Nat.reduceAdd, Nat.reduceSub, Nat.reduceMul, Nat.reduceLT, Nat.reduceLeDiff, Nat.reduceEqDiff, bne, dynB, heapsB, wanted, AOp.eff, AOp.makes, Int.reduceEq, Int.reduceLT, Int.reduceLE, Int.reduceBEq, Int.reduceBNe, boundV, natV_cast]
  refine CallsG.of (k30 _ hl kd key val lv) fun v h2 hf0 ⟨hv, s2⟩ hf2 n2 => ?_
  subst hv
  simp (maxSteps := 4000000) (disch := first | decide | omega | rfl) only [Same, ↓sa0, ↓sa1, sb0, sb1, sb2, sb3, sb4, sb5, guardIs, fillV, cellsN, setAll, loadC, loadCs, aresL, ares1, tupV, one, binV, unV, eqV, eqH, allEq, leafEq, shapeL, LK.is, ↓reduceIte, reduceCtorEq, Nat.reduceAdd, Nat.reduceSub, Nat.reduceMul, Nat.reduceLT, Nat.reduceLeDiff, Nat.reduceEqDiff, bne, dynB, heapsB, wanted, AOp.eff, AOp.makes, Int.reduceEq, Int.reduceLT, Int.reduceLE, Int.reduceBEq, Int.reduceBNe, boundV, natV_cast] at n2 s2
  have hl2 := doS_len hl kd key val
  generalize hd : doS ps kd key val = r at hl2
  obtain ⟨qs, d, w, er⟩ := r
  have hsz2 := stP_size hl2
  have hex2 := stP_extract hl2
  have hone2 := stP_one (ps := qs)
  have zf2 : setAll (stP []) 0 (stP qs).toList = stP qs := setAll_full (by rw [hsz2, z0])
  simp only at hsz2 hex2 hone2 zf2
  simp only [doV]
  cases h8 : (kd == 8)
  · have e8 : ¬ kd = 8 := by simpa using h8
    rw [if_neg e8]
    cases he : (er == 0)
    · have e0 : er ≠ 0 := by simpa using he
      rw [if_pos e0]
      simp (maxSteps := 4000000) (disch := first | decide | omega | rfl) only [s2, s1, hsz2, hex2, hone2, z0, zf2, h8, he, zz, zone, zf0, zx, ↓sa0, ↓sa1, sb0, sb1, sb2, sb3, sb4, sb5, guardIs, fillV, cellsN, setAll, loadC, loadCs, aresL, ares1, tupV, one, binV, unV, eqV, eqH, allEq, leafEq, shapeL, LK.is, ↓reduceIte, reduceCtorEq, Nat.reduceAdd, Nat.reduceSub, Nat.reduceMul, Nat.reduceLT, Nat.reduceLeDiff, Nat.reduceEqDiff, bne, dynB, heapsB, wanted, AOp.eff, AOp.makes, Int.reduceEq, Int.reduceLT, Int.reduceLE, Int.reduceBEq, Int.reduceBNe, boundV, natV_cast]
      exact fun b hb => by simp (maxSteps := 4000000) (disch := first | decide | omega | rfl) only [s2, s1, ↓sa0, ↓sa1, sb0, sb1, sb2, sb3, sb4, sb5, guardIs, fillV, cellsN, setAll, loadC, loadCs, aresL, ares1, tupV, one, binV, unV, eqV, eqH, allEq, leafEq, shapeL, LK.is, ↓reduceIte, reduceCtorEq, Nat.reduceAdd, Nat.reduceSub, Nat.reduceMul, Nat.reduceLT, Nat.reduceLeDiff, Nat.reduceEqDiff, bne, dynB, heapsB, wanted, AOp.eff, AOp.makes, Int.reduceEq, Int.reduceLT, Int.reduceLE, Int.reduceBEq, Int.reduceBNe, boundV, natV_cast]
    · obtain rfl : er = 0 := by simpa using he
      rw [if_neg (by simp)]
      cases hq : ((err == 0) && ((done == d) && (av == w)))
      · simp (maxSteps := 4000000) (disch := first | decide | omega | rfl) only [s2, s1, hsz2, hex2, hone2, z0, zf2, h8, he, hq, zz, zone, zf0, zx, ↓sa0, ↓sa1, sb0, sb1, sb2, sb3, sb4, sb5, guardIs, fillV, cellsN, setAll, loadC, loadCs, aresL, ares1, tupV, one, binV, unV, eqV, eqH, allEq, leafEq, shapeL, LK.is, ↓reduceIte, reduceCtorEq, Nat.reduceAdd, Nat.reduceSub, Nat.reduceMul, Nat.reduceLT, Nat.reduceLeDiff, Nat.reduceEqDiff, bne, dynB, heapsB, wanted, AOp.eff, AOp.makes, Int.reduceEq, Int.reduceLT, Int.reduceLE, Int.reduceBEq, Int.reduceBNe, boundV, natV_cast]
        exact fun b hb => by simp (maxSteps := 4000000) (disch := first | decide | omega | rfl) only [s2, s1, ↓sa0, ↓sa1, sb0, sb1, sb2, sb3, sb4, sb5, guardIs, fillV, cellsN, setAll, loadC, loadCs, aresL, ares1, tupV, one, binV, unV, eqV, eqH, allEq, leafEq, shapeL, LK.is, ↓reduceIte, reduceCtorEq, Nat.reduceAdd, Nat.reduceSub, Nat.reduceMul, Nat.reduceLT, Nat.reduceLeDiff, Nat.reduceEqDiff, bne, dynB, heapsB, wanted, AOp.eff, AOp.makes, Int.reduceEq, Int.reduceLT, Int.reduceLE, Int.reduceBEq, Int.reduceBNe, boundV, natV_cast]
      · simp (maxSteps := 4000000) (disch := first | decide | omega | rfl) only [s2, s1, hsz2, hex2, hone2, z0, zf2, h8, he, hq, zz, ↓sa0, ↓sa1, sb0, sb1, sb2, sb3, sb4, sb5, guardIs, fillV, cellsN, setAll, loadC, loadCs, aresL, ares1, tupV, one, binV, unV, eqV, eqH, allEq, leafEq, shapeL, LK.is, ↓reduceIte, reduceCtorEq, Nat.reduceAdd, Nat.reduceSub, Nat.reduceMul, Nat.reduceLT, Nat.reduceLeDiff, Nat.reduceEqDiff, bne, dynB, heapsB, wanted, AOp.eff, AOp.makes, Int.reduceEq, Int.reduceLT, Int.reduceLE, Int.reduceBEq, Int.reduceBNe, boundV, natV_cast]
        exact fun b hb => by simp (maxSteps := 4000000) (disch := first | decide | omega | rfl) only [s2, s1, ↓sa0, ↓sa1, sb0, sb1, sb2, sb3, sb4, sb5, guardIs, fillV, cellsN, setAll, loadC, loadCs, aresL, ares1, tupV, one, binV, unV, eqV, eqH, allEq, leafEq, shapeL, LK.is, ↓reduceIte, reduceCtorEq, Nat.reduceAdd, Nat.reduceSub, Nat.reduceMul, Nat.reduceLT, Nat.reduceLeDiff, Nat.reduceEqDiff, bne, dynB, heapsB, wanted, AOp.eff, AOp.makes, Int.reduceEq, Int.reduceLT, Int.reduceLE, Int.reduceBEq, Int.reduceBNe, boundV, natV_cast]
  · obtain rfl : kd = 8 := by simpa using h8
    rw [if_pos rfl]
    cases he : (er == 0)
    · have e0 : er ≠ 0 := by simpa using he
      rw [if_pos e0]
      simp (maxSteps := 4000000) (disch := first | decide | omega | rfl) only [s2, s1, hsz2, hex2, hone2, z0, zf2, h8, he, zz, zone, zf0, zx, ↓sa0, ↓sa1, sb0, sb1, sb2, sb3, sb4, sb5, guardIs, fillV, cellsN, setAll, loadC, loadCs, aresL, ares1, tupV, one, binV, unV, eqV, eqH, allEq, leafEq, shapeL, LK.is, ↓reduceIte, reduceCtorEq, Nat.reduceAdd, Nat.reduceSub, Nat.reduceMul, Nat.reduceLT, Nat.reduceLeDiff, Nat.reduceEqDiff, bne, dynB, heapsB, wanted, AOp.eff, AOp.makes, Int.reduceEq, Int.reduceLT, Int.reduceLE, Int.reduceBEq, Int.reduceBNe, boundV, natV_cast]
      exact fun b hb => by simp (maxSteps := 4000000) (disch := first | decide | omega | rfl) only [s2, s1, ↓sa0, ↓sa1, sb0, sb1, sb2, sb3, sb4, sb5, guardIs, fillV, cellsN, setAll, loadC, loadCs, aresL, ares1, tupV, one, binV, unV, eqV, eqH, allEq, leafEq, shapeL, LK.is, ↓reduceIte, reduceCtorEq, Nat.reduceAdd, Nat.reduceSub, Nat.reduceMul, Nat.reduceLT, Nat.reduceLeDiff, Nat.reduceEqDiff, bne, dynB, heapsB, wanted, AOp.eff, AOp.makes, Int.reduceEq, Int.reduceLT, Int.reduceLE, Int.reduceBEq, Int.reduceBNe, boundV, natV_cast]
    · obtain rfl : er = 0 := by simpa using he
      rw [if_neg (by simp)]
      have hav : (av == av) = true := by simp
      cases hq : ((err == 0) && (done == d))
      · rw [hav, Bool.and_true, hq]
        simp (maxSteps := 4000000) (disch := first | decide | omega | rfl) only [s2, s1, hsz2, hex2, hone2, z0, zf2, h8, he, hq, zz, zone, zf0, zx, ↓sa0, ↓sa1, sb0, sb1, sb2, sb3, sb4, sb5, guardIs, fillV, cellsN, setAll, loadC, loadCs, aresL, ares1, tupV, one, binV, unV, eqV, eqH, allEq, leafEq, shapeL, LK.is, ↓reduceIte, reduceCtorEq, Nat.reduceAdd, Nat.reduceSub, Nat.reduceMul, Nat.reduceLT, Nat.reduceLeDiff, Nat.reduceEqDiff, bne, dynB, heapsB, wanted, AOp.eff, AOp.makes, Int.reduceEq, Int.reduceLT, Int.reduceLE, Int.reduceBEq, Int.reduceBNe, boundV, natV_cast]
        exact fun b hb => by simp (maxSteps := 4000000) (disch := first | decide | omega | rfl) only [s2, s1, ↓sa0, ↓sa1, sb0, sb1, sb2, sb3, sb4, sb5, guardIs, fillV, cellsN, setAll, loadC, loadCs, aresL, ares1, tupV, one, binV, unV, eqV, eqH, allEq, leafEq, shapeL, LK.is, ↓reduceIte, reduceCtorEq, Nat.reduceAdd, Nat.reduceSub, Nat.reduceMul, Nat.reduceLT, Nat.reduceLeDiff, Nat.reduceEqDiff, bne, dynB, heapsB, wanted, AOp.eff, AOp.makes, Int.reduceEq, Int.reduceLT, Int.reduceLE, Int.reduceBEq, Int.reduceBNe, boundV, natV_cast]
      · rw [hav, Bool.and_true, hq]
        simp (maxSteps := 4000000) (disch := first | decide | omega | rfl) only [s2, s1, hsz2, hex2, hone2, z0, zf2, h8, he, hq, zz, ↓sa0, ↓sa1, sb0, sb1, sb2, sb3, sb4, sb5, guardIs, fillV, cellsN, setAll, loadC, loadCs, aresL, ares1, tupV, one, binV, unV, eqV, eqH, allEq, leafEq, shapeL, LK.is, ↓reduceIte, reduceCtorEq, Nat.reduceAdd, Nat.reduceSub, Nat.reduceMul, Nat.reduceLT, Nat.reduceLeDiff, Nat.reduceEqDiff, bne, dynB, heapsB, wanted, AOp.eff, AOp.makes, Int.reduceEq, Int.reduceLT, Int.reduceLE, Int.reduceBEq, Int.reduceBNe, boundV, natV_cast]
        exact fun b hb => by simp (maxSteps := 4000000) (disch := first | decide | omega | rfl) only [s2, s1, ↓sa0, ↓sa1, sb0, sb1, sb2, sb3, sb4, sb5, guardIs, fillV, cellsN, setAll, loadC, loadCs, aresL, ares1, tupV, one, binV, unV, eqV, eqH, allEq, leafEq, shapeL, LK.is, ↓reduceIte, reduceCtorEq, Nat.reduceAdd, Nat.reduceSub, Nat.reduceMul, Nat.reduceLT, Nat.reduceLeDiff, Nat.reduceEqDiff, bne, dynB, heapsB, wanted, AOp.eff, AOp.makes, Int.reduceEq, Int.reduceLT, Int.reduceLE, Int.reduceBEq, Int.reduceBNe, boundV, natV_cast]
end
end Go.Proofs.Ytleoicjpcdmfkaa
