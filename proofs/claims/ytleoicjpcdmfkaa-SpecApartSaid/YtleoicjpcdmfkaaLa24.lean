/-
  The layer 'spec': an op at once.
-/
import Derived.Test.YtleoicjpcdmfkaaLa23
set_option linter.unusedSimpArgs false
set_option linter.unusedVariables false
namespace Go.Proofs.Ytleoicjpcdmfkaa
open Go Ab
open Heap (get put next skip)

/-- The state then, whether it is done, the value, and why there is none. -/
abbrev DoR := List (Int × Int) × Bool × Int × Int
def doV (r : DoR) : Value := .tuple #[.agg (stP r.1), .agg #[.int .i64 0, .bool r.2.1, .int .u64 r.2.2.1], .int .i64 r.2.2.2]
def putR (ps : List (Int × Int)) (k v : Int) (w d : Bool) (a : Int) : DoR := if w = true then (match withS ps k v with
  | some ps' => (ps', d, a, 0)
  | none => ([], false, 0, 6)) else (ps, d, a, 0)
def getV (ps : List (Int × Int)) (key : Int) : Int := if hasK ps key = true then ((ps[ixOf ps key]?).getD (0, 0)).2 else 0
def doS (ps : List (Int × Int)) (kd key val : Int) : DoR :=
  if kd = 1 then putR ps key 0 (!hasK ps key) (!hasK ps key) 0
  else if kd = 4 then putR ps key val true (hasK ps key) (getV ps key)
  else if kd = 5 then putR ps key val (!hasK ps key) (!hasK ps key) (getV ps key)
  else if kd = 2 then (withoutL ps key, hasK ps key, 0, 0)
  else if kd = 6 then (withoutL ps key, hasK ps key, getV ps key, 0)
  else if kd = 3 then (ps, hasK ps key, 0, 0)
  else if kd = 7 then (ps, hasK ps key, getV ps key, 0)
  else if kd = 8 then (ps, true, 0, 0)
  else ([], false, 0, 8)

theorem withL_len {ps : List (Int × Int)} {k v : Int} (hl : ps.length ≤ 16) (h : ¬ (hasK ps k = false ∧ ps.length = 16)) : (withL ps k v).length ≤ 16 := by
  unfold withL
  split
  · simpa using hl
  · rename_i q
    have := ixOf_le ps k
    have : ps.length ≠ 16 := fun r => h ⟨by simpa using q, r⟩
    simp
    omega

theorem withS_len {ps ps' : List (Int × Int)} {k v : Int} (hl : ps.length ≤ 16) (h : withS ps k v = some ps') : ps'.length ≤ 16 := by
  unfold withS at h
  split at h
  · cases h
  · rename_i q
    cases h
    exact withL_len hl q

theorem withoutL_len {ps : List (Int × Int)} {k : Int} (hl : ps.length ≤ 16) : (withoutL ps k).length ≤ 16 := by
  unfold withoutL
  split
  · have := List.length_eraseIdx_le ps (ixOf ps k)
    omega
  · exact hl

section
variable {H : Type} [Heap H]
attribute [local irreducible] wpG wpOG wpTG stepG CallsG cfunc bfunc tmOf upd

set_option maxRecDepth 20000 in
set_option maxHeartbeats 4000000 in
/-- spec.put -/
theorem k71 (h : H) {ps : List (Int × Int)} (hl : ps.length ≤ 16) (key val : Int) (w d : Bool) (a : Int) :
    Fresh h → CallsTo tt 71 #[.agg (stP ps), .agg #[.int .u64 key, .int .u64 val], .bool w, .agg #[.int .i64 0, .bool d, .int .u64 a]] h fun v h1 => v = doV (putR ps key val w d a) ∧ Same h h1 := by
  refine toCall c71 (by simp [b71]) fun hf => ?_
  have hsz := stP_size hl
  have hex := stP_extract hl
  have hone := stP_one (ps := ps)
  have z0 := stP_size (ps := []) (by simp)
  have zx := stP_extract (ps := []) (by simp)
  have zone := stP_one (ps := [])
  have zf0 : setAll (stP []) 0 (stP []).toList = stP [] := setAll_full rfl
  have zf : setAll (stP []) 0 (stP ps).toList = stP ps := setAll_full (by rw [hsz, z0])
  have zz := stP_nil.symm
  cases w
  · simp (maxSteps := 4000000) (disch := first | decide | omega | rfl) only [b71, hsz, hex, zz, z0, hone, zf, putR, doV, ↓sa0, ↓sa1, sb0, sb1, sb2, sb3, sb4, sb5, guardIs, fillV, cellsN, setAll, loadC, loadCs, aresL, ares1, tupV, one, binV, unV, eqV, eqH, allEq, leafEq, shapeL, LK.is, ↓reduceIte, reduceCtorEq, Nat.reduceAdd, Nat.reduceSub, Nat.reduceMul, Nat.reduceLT, Nat.reduceLeDiff, Nat.reduceEqDiff, bne, dynB, heapsB, wanted, AOp.eff, AOp.makes, Int.reduceEq, Int.reduceLT, Int.reduceLE, Int.reduceBEq, Int.reduceBNe, boundV, natV_cast]
    exact fun b hb => by simp (maxSteps := 4000000) (disch := first | decide | omega | rfl) only [↓sa0, ↓sa1, sb0, sb1, sb2, sb3, sb4, sb5, guardIs, fillV, cellsN, setAll, loadC, loadCs, aresL, ares1, tupV, one, binV, unV, eqV, eqH, allEq, leafEq, shapeL, LK.is, ↓reduceIte, reduceCtorEq, Nat.reduceAdd, Nat.reduceSub, Nat.reduceMul, Nat.reduceLT, Nat.reduceLeDiff, Nat.reduceEqDiff, bne, dynB, heapsB, wanted, AOp.eff, AOp.makes, Int.reduceEq, Int.reduceLT, Int.reduceLE, Int.reduceBEq, Int.reduceBNe, boundV, natV_cast]
  · simp (maxSteps := 4000000) (disch := first | decide | omega | rfl) only [b71, hsz, hex, zz, z0, ↓sa0, ↓sa1, sb0, sb1, sb2, sb3, sb4, sb5, guardIs, fillV, cellsN, setAll, loadC, loadCs, aresL, ares1, tupV, one, binV, unV, eqV, eqH, allEq, leafEq, shapeL, LK.is, ↓reduceIte, reduceCtorEq, Nat.reduceAdd, Nat.reduceSub, Nat.reduceMul, Nat.reduceLT, Nat.reduceLeDiff, Nat.reduceEqDiff, bne, dynB, heapsB, wanted, AOp.eff, AOp.makes, Int.reduceEq, Int.reduceLT, Int.reduceLE, Int.reduceBEq, Int.reduceBNe, boundV, natV_cast]
    refine CallsG.of (k36 _ hl key val) fun v h1 hf0 ⟨hv, s1⟩ hf1 n1 => ?_
    subst hv
    simp (maxSteps := 4000000) (disch := first | decide | omega | rfl) only [Same, ↓sa0, ↓sa1, sb0, sb1, sb2, sb3, sb4, sb5, guardIs, fillV, cellsN, setAll, loadC, loadCs, aresL, ares1, tupV, one, binV, unV, eqV, eqH, allEq, leafEq, shapeL, LK.is, ↓reduceIte, reduceCtorEq, Nat.reduceAdd, Nat.reduceSub, Nat.reduceMul, Nat.reduceLT, Nat.reduceLeDiff, Nat.reduceEqDiff, bne, dynB, heapsB, wanted, AOp.eff, AOp.makes, Int.reduceEq, Int.reduceLT, Int.reduceLE, Int.reduceBEq, Int.reduceBNe, boundV, natV_cast] at n1 s1
    unfold putR
    cases hw : withS ps key val with
    | none =>
      simp (maxSteps := 4000000) (disch := first | decide | omega | rfl) only [resV, s1, zz, z0, zone, zf0, zx, doV, ↓sa0, ↓sa1, sb0, sb1, sb2, sb3, sb4, sb5, guardIs, fillV, cellsN, setAll, loadC, loadCs, aresL, ares1, tupV, one, binV, unV, eqV, eqH, allEq, leafEq, shapeL, LK.is, ↓reduceIte, reduceCtorEq, Nat.reduceAdd, Nat.reduceSub, Nat.reduceMul, Nat.reduceLT, Nat.reduceLeDiff, Nat.reduceEqDiff, bne, dynB, heapsB, wanted, AOp.eff, AOp.makes, Int.reduceEq, Int.reduceLT, Int.reduceLE, Int.reduceBEq, Int.reduceBNe, boundV, natV_cast]
      exact fun b hb => by simp (maxSteps := 4000000) (disch := first | decide | omega | rfl) only [s1, ↓sa0, ↓sa1, sb0, sb1, sb2, sb3, sb4, sb5, guardIs, fillV, cellsN, setAll, loadC, loadCs, aresL, ares1, tupV, one, binV, unV, eqV, eqH, allEq, leafEq, shapeL, LK.is, ↓reduceIte, reduceCtorEq, Nat.reduceAdd, Nat.reduceSub, Nat.reduceMul, Nat.reduceLT, Nat.reduceLeDiff, Nat.reduceEqDiff, bne, dynB, heapsB, wanted, AOp.eff, AOp.makes, Int.reduceEq, Int.reduceLT, Int.reduceLE, Int.reduceBEq, Int.reduceBNe, boundV, natV_cast]
    | some ps' =>
      have hl2 := withS_len hl hw
      have hsz2 := stP_size hl2
      have hex2 := stP_extract hl2
      have hone2 := stP_one (ps := ps')
      have zf2 : setAll (stP []) 0 (stP ps').toList = stP ps' := setAll_full (by rw [hsz2, z0])
      simp (maxSteps := 4000000) (disch := first | decide | omega | rfl) only [resV, s1, zz, z0, hsz2, hex2, hone2, zf2, doV, ↓sa0, ↓sa1, sb0, sb1, sb2, sb3, sb4, sb5, guardIs, fillV, cellsN, setAll, loadC, loadCs, aresL, ares1, tupV, one, binV, unV, eqV, eqH, allEq, leafEq, shapeL, LK.is, ↓reduceIte, reduceCtorEq, Nat.reduceAdd, Nat.reduceSub, Nat.reduceMul, Nat.reduceLT, Nat.reduceLeDiff, Nat.reduceEqDiff, bne, dynB, heapsB, wanted, AOp.eff, AOp.makes, Int.reduceEq, Int.reduceLT, Int.reduceLE, Int.reduceBEq, Int.reduceBNe, boundV, natV_cast]
      exact fun b hb => by simp (maxSteps := 4000000) (disch := first | decide | omega | rfl) only [s1, ↓sa0, ↓sa1, sb0, sb1, sb2, sb3, sb4, sb5, guardIs, fillV, cellsN, setAll, loadC, loadCs, aresL, ares1, tupV, one, binV, unV, eqV, eqH, allEq, leafEq, shapeL, LK.is, ↓reduceIte, reduceCtorEq, Nat.reduceAdd, Nat.reduceSub, Nat.reduceMul, Nat.reduceLT, Nat.reduceLeDiff, Nat.reduceEqDiff, bne, dynB, heapsB, wanted, AOp.eff, AOp.makes, Int.reduceEq, Int.reduceLT, Int.reduceLE, Int.reduceBEq, Int.reduceBNe, boundV, natV_cast]

set_option maxRecDepth 20000 in
set_option maxHeartbeats 8000000 in
/-- spec.Do -/
theorem k30 (h : H) {ps : List (Int × Int)} (hl : ps.length ≤ 16) (kd key val lv : Int) :
    Fresh h → CallsTo tt 30 #[.agg (stP ps), .agg #[.int .i64 kd, .int .u64 key, .int .u64 val, .int .i64 lv]] h fun v h1 => v = doV (doS ps kd key val) ∧ Same h h1 := by
  refine toCall c30 (by simp [b30]) fun hf => ?_
  have hsz := stP_size hl
  have hex := stP_extract hl
  have hone := stP_one (ps := ps)
  have z0 := stP_size (ps := []) (by simp)
  have zx := stP_extract (ps := []) (by simp)
  have zone := stP_one (ps := [])
  have zf0 : setAll (stP []) 0 (stP []).toList = stP [] := setAll_full rfl
  have zf : setAll (stP []) 0 (stP ps).toList = stP ps := setAll_full (by rw [hsz, z0])
  have zz := stP_nil.symm
  simp (maxSteps := 4000000) (disch := first | decide | omega | rfl) only [b30, hsz, hex, zz, z0, ↓sa0, ↓sa1, sb0, sb1, sb2, sb3, sb4, sb5, guardIs, fillV, cellsN, setAll, loadC, loadCs, aresL, ares1, tupV, one, binV, unV, eqV, eqH, allEq, leafEq, shapeL, LK.is, ↓reduceIte, reduceCtorEq, Nat.reduceAdd, Nat.reduceSub, Nat.reduceMul, Nat.reduceLT, Nat.reduceLeDiff, Nat.reduceEqDiff, bne, dynB, heapsB, wanted, AOp.eff, AOp.makes, Int.reduceEq, Int.reduceLT, Int.reduceLE, Int.reduceBEq, Int.reduceBNe, boundV, natV_cast]
  refine CallsG.of (k32 _ hl key) fun v h1 hf0 ⟨hv, s1⟩ hf1 n1 => ?_
  have hgv : (if hasK ps key = true then ((ps[ixOf ps key]?).getD (0, 0)).2 else 0) = getV ps key := rfl
  rw [hgv] at hv
  subst hv
  simp (maxSteps := 4000000) (disch := first | decide | omega | rfl) only [Same, ↓sa0, ↓sa1, sb0, sb1, sb2, sb3, sb4, sb5, guardIs, fillV, cellsN, setAll, loadC, loadCs, aresL, ares1, tupV, one, binV, unV, eqV, eqH, allEq, leafEq, shapeL, LK.is, ↓reduceIte, reduceCtorEq, Nat.reduceAdd, Nat.reduceSub, Nat.reduceMul, Nat.reduceLT, Nat.reduceLeDiff, Nat.reduceEqDiff, bne, dynB, heapsB, wanted, AOp.eff, AOp.makes, Int.reduceEq, Int.reduceLT, Int.reduceLE, Int.reduceBEq, Int.reduceBNe, boundV, natV_cast] at n1 s1
  unfold doS
  have fin : ∀ r : DoR, r.1.length ≤ 16 → (stP r.1).size = 33 ∧ (stP r.1).extract 0 33 = stP r.1 ∧ (stP r.1).toList.all one = true ∧ setAll (stP []) 0 (stP r.1).toList = stP r.1 := fun r hr =>
    ⟨stP_size hr, stP_extract hr, stP_one, setAll_full (by rw [stP_size hr, z0])⟩
  have plen : ∀ (k v : Int) (w d : Bool) (a : Int), (putR ps k v w d a).1.length ≤ 16 := fun k v w d a => by
    unfold putR
    split
    · cases hw : withS ps k v with
      | none => simp
      | some ps' => exact withS_len hl hw
    · exact hl
  cases k1 : (kd == 1)
  rotate_left 1
  · obtain rfl : kd = 1 := by simpa using k1
    simp (maxSteps := 4000000) (disch := first | decide | omega | rfl) only [s1, hsz, hex, k1, ↓sa0, ↓sa1, sb0, sb1, sb2, sb3, sb4, sb5, guardIs, fillV, cellsN, setAll, loadC, loadCs, aresL, ares1, tupV, one, binV, unV, eqV, eqH, allEq, leafEq, shapeL, LK.is, ↓reduceIte, reduceCtorEq, Nat.reduceAdd, Nat.reduceSub, Nat.reduceMul, Nat.reduceLT, Nat.reduceLeDiff, Nat.reduceEqDiff, bne, dynB, heapsB, wanted, AOp.eff, AOp.makes, Int.reduceEq, Int.reduceLT, Int.reduceLE, Int.reduceBEq, Int.reduceBNe, boundV, natV_cast]
    refine CallsG.of (k71 _ hl key 0 (!hasK ps key) (!hasK ps key) 0) fun v h2 hf0 ⟨hv, s2⟩ hf2 n2 => ?_
    subst hv
    simp (maxSteps := 4000000) (disch := first | decide | omega | rfl) only [Same, ↓sa0, ↓sa1, sb0, sb1, sb2, sb3, sb4, sb5, guardIs, fillV, cellsN, setAll, loadC, loadCs, aresL, ares1, tupV, one, binV, unV, eqV, eqH, allEq, leafEq, shapeL, LK.is, ↓reduceIte, reduceCtorEq, Nat.reduceAdd, Nat.reduceSub, Nat.reduceMul, Nat.reduceLT, Nat.reduceLeDiff, Nat.reduceEqDiff, bne, dynB, heapsB, wanted, AOp.eff, AOp.makes, Int.reduceEq, Int.reduceLT, Int.reduceLE, Int.reduceBEq, Int.reduceBNe, boundV, natV_cast] at n2 s2
    obtain ⟨r1, r2, r3, r4⟩ := fin _ (plen key 0 (!hasK ps key) (!hasK ps key) 0)
    simp (maxSteps := 4000000) (disch := first | decide | omega | rfl) only [s2, s1, doV, r1, r2, r3, r4, z0, ↓sa0, ↓sa1, sb0, sb1, sb2, sb3, sb4, sb5, guardIs, fillV, cellsN, setAll, loadC, loadCs, aresL, ares1, tupV, one, binV, unV, eqV, eqH, allEq, leafEq, shapeL, LK.is, ↓reduceIte, reduceCtorEq, Nat.reduceAdd, Nat.reduceSub, Nat.reduceMul, Nat.reduceLT, Nat.reduceLeDiff, Nat.reduceEqDiff, bne, dynB, heapsB, wanted, AOp.eff, AOp.makes, Int.reduceEq, Int.reduceLT, Int.reduceLE, Int.reduceBEq, Int.reduceBNe, boundV, natV_cast]
    exact fun b hb => by simp (maxSteps := 4000000) (disch := first | decide | omega | rfl) only [s2, s1, ↓sa0, ↓sa1, sb0, sb1, sb2, sb3, sb4, sb5, guardIs, fillV, cellsN, setAll, loadC, loadCs, aresL, ares1, tupV, one, binV, unV, eqV, eqH, allEq, leafEq, shapeL, LK.is, ↓reduceIte, reduceCtorEq, Nat.reduceAdd, Nat.reduceSub, Nat.reduceMul, Nat.reduceLT, Nat.reduceLeDiff, Nat.reduceEqDiff, bne, dynB, heapsB, wanted, AOp.eff, AOp.makes, Int.reduceEq, Int.reduceLT, Int.reduceLE, Int.reduceBEq, Int.reduceBNe, boundV, natV_cast]
  cases k4 : (kd == 4)
  rotate_left 1
  · obtain rfl : kd = 4 := by simpa using k4
    simp (maxSteps := 4000000) (disch := first | decide | omega | rfl) only [s1, hsz, hex, k1, k4, ↓sa0, ↓sa1, sb0, sb1, sb2, sb3, sb4, sb5, guardIs, fillV, cellsN, setAll, loadC, loadCs, aresL, ares1, tupV, one, binV, unV, eqV, eqH, allEq, leafEq, shapeL, LK.is, ↓reduceIte, reduceCtorEq, Nat.reduceAdd, Nat.reduceSub, Nat.reduceMul, Nat.reduceLT, Nat.reduceLeDiff, Nat.reduceEqDiff, bne, dynB, heapsB, wanted, AOp.eff, AOp.makes, Int.reduceEq, Int.reduceLT, Int.reduceLE, Int.reduceBEq, Int.reduceBNe, boundV, natV_cast]
    refine CallsG.of (k71 _ hl key val true (hasK ps key) (getV ps key)) fun v h2 hf0 ⟨hv, s2⟩ hf2 n2 => ?_
    subst hv
    simp (maxSteps := 4000000) (disch := first | decide | omega | rfl) only [Same, ↓sa0, ↓sa1, sb0, sb1, sb2, sb3, sb4, sb5, guardIs, fillV, cellsN, setAll, loadC, loadCs, aresL, ares1, tupV, one, binV, unV, eqV, eqH, allEq, leafEq, shapeL, LK.is, ↓reduceIte, reduceCtorEq, Nat.reduceAdd, Nat.reduceSub, Nat.reduceMul, Nat.reduceLT, Nat.reduceLeDiff, Nat.reduceEqDiff, bne, dynB, heapsB, wanted, AOp.eff, AOp.makes, Int.reduceEq, Int.reduceLT, Int.reduceLE, Int.reduceBEq, Int.reduceBNe, boundV, natV_cast] at n2 s2
    obtain ⟨r1, r2, r3, r4⟩ := fin _ (plen key val true (hasK ps key) (getV ps key))
    simp (maxSteps := 4000000) (disch := first | decide | omega | rfl) only [s2, s1, doV, r1, r2, r3, r4, z0, ↓sa0, ↓sa1, sb0, sb1, sb2, sb3, sb4, sb5, guardIs, fillV, cellsN, setAll, loadC, loadCs, aresL, ares1, tupV, one, binV, unV, eqV, eqH, allEq, leafEq, shapeL, LK.is, ↓reduceIte, reduceCtorEq, Nat.reduceAdd, Nat.reduceSub, Nat.reduceMul, Nat.reduceLT, Nat.reduceLeDiff, Nat.reduceEqDiff, bne, dynB, heapsB, wanted, AOp.eff, AOp.makes, Int.reduceEq, Int.reduceLT, Int.reduceLE, Int.reduceBEq, Int.reduceBNe, boundV, natV_cast]
    exact fun b hb => by simp (maxSteps := 4000000) (disch := first | decide | omega | rfl) only [s2, s1, ↓sa0, ↓sa1, sb0, sb1, sb2, sb3, sb4, sb5, guardIs, fillV, cellsN, setAll, loadC, loadCs, aresL, ares1, tupV, one, binV, unV, eqV, eqH, allEq, leafEq, shapeL, LK.is, ↓reduceIte, reduceCtorEq, Nat.reduceAdd, Nat.reduceSub, Nat.reduceMul, Nat.reduceLT, Nat.reduceLeDiff, Nat.reduceEqDiff, bne, dynB, heapsB, wanted, AOp.eff, AOp.makes, Int.reduceEq, Int.reduceLT, Int.reduceLE, Int.reduceBEq, Int.reduceBNe, boundV, natV_cast]
  cases k5 : (kd == 5)
  rotate_left 1
  · obtain rfl : kd = 5 := by simpa using k5
    simp (maxSteps := 4000000) (disch := first | decide | omega | rfl) only [s1, hsz, hex, k1, k4, k5, ↓sa0, ↓sa1, sb0, sb1, sb2, sb3, sb4, sb5, guardIs, fillV, cellsN, setAll, loadC, loadCs, aresL, ares1, tupV, one, binV, unV, eqV, eqH, allEq, leafEq, shapeL, LK.is, ↓reduceIte, reduceCtorEq, Nat.reduceAdd, Nat.reduceSub, Nat.reduceMul, Nat.reduceLT, Nat.reduceLeDiff, Nat.reduceEqDiff, bne, dynB, heapsB, wanted, AOp.eff, AOp.makes, Int.reduceEq, Int.reduceLT, Int.reduceLE, Int.reduceBEq, Int.reduceBNe, boundV, natV_cast]
    refine CallsG.of (k71 _ hl key val (!hasK ps key) (!hasK ps key) (getV ps key)) fun v h2 hf0 ⟨hv, s2⟩ hf2 n2 => ?_
    subst hv
    simp (maxSteps := 4000000) (disch := first | decide | omega | rfl) only [Same, ↓sa0, ↓sa1, sb0, sb1, sb2, sb3, sb4, sb5, guardIs, fillV, cellsN, setAll, loadC, loadCs, aresL, ares1, tupV, one, binV, unV, eqV, eqH, allEq, leafEq, shapeL, LK.is, ↓reduceIte, reduceCtorEq, Nat.reduceAdd, Nat.reduceSub, Nat.reduceMul, Nat.reduceLT, Nat.reduceLeDiff, Nat.reduceEqDiff, bne, dynB, heapsB, wanted, AOp.eff, AOp.makes, Int.reduceEq, Int.reduceLT, Int.reduceLE, Int.reduceBEq, Int.reduceBNe, boundV, natV_cast] at n2 s2
    obtain ⟨r1, r2, r3, r4⟩ := fin _ (plen key val (!hasK ps key) (!hasK ps key) (getV ps key))
    simp (maxSteps := 4000000) (disch := first | decide | omega | rfl) only [s2, s1, doV, r1, r2, r3, r4, z0, ↓sa0, ↓sa1, sb0, sb1, sb2, sb3, sb4, sb5, guardIs, fillV, cellsN, setAll, loadC, loadCs, aresL, ares1, tupV, one, binV, unV, eqV, eqH, allEq, leafEq, shapeL, LK.is, ↓reduceIte, reduceCtorEq, Nat.reduceAdd, Nat.reduceSub, Nat.reduceMul, Nat.reduceLT, Nat.reduceLeDiff, Nat.reduceEqDiff, bne, dynB, heapsB, wanted, AOp.eff, AOp.makes, Int.reduceEq, Int.reduceLT, Int.reduceLE, Int.reduceBEq, Int.reduceBNe, boundV, natV_cast]
    exact fun b hb => by simp (maxSteps := 4000000) (disch := first | decide | omega | rfl) only [s2, s1, ↓sa0, ↓sa1, sb0, sb1, sb2, sb3, sb4, sb5, guardIs, fillV, cellsN, setAll, loadC, loadCs, aresL, ares1, tupV, one, binV, unV, eqV, eqH, allEq, leafEq, shapeL, LK.is, ↓reduceIte, reduceCtorEq, Nat.reduceAdd, Nat.reduceSub, Nat.reduceMul, Nat.reduceLT, Nat.reduceLeDiff, Nat.reduceEqDiff, bne, dynB, heapsB, wanted, AOp.eff, AOp.makes, Int.reduceEq, Int.reduceLT, Int.reduceLE, Int.reduceBEq, Int.reduceBNe, boundV, natV_cast]
  cases k2 : (kd == 2)
  rotate_left 1
  · obtain rfl : kd = 2 := by simpa using k2
    simp (maxSteps := 4000000) (disch := first | decide | omega | rfl) only [s1, hsz, hex, k1, k4, k5, k2, ↓sa0, ↓sa1, sb0, sb1, sb2, sb3, sb4, sb5, guardIs, fillV, cellsN, setAll, loadC, loadCs, aresL, ares1, tupV, one, binV, unV, eqV, eqH, allEq, leafEq, shapeL, LK.is, ↓reduceIte, reduceCtorEq, Nat.reduceAdd, Nat.reduceSub, Nat.reduceMul, Nat.reduceLT, Nat.reduceLeDiff, Nat.reduceEqDiff, bne, dynB, heapsB, wanted, AOp.eff, AOp.makes, Int.reduceEq, Int.reduceLT, Int.reduceLE, Int.reduceBEq, Int.reduceBNe, boundV, natV_cast]
    refine CallsG.of (k37 _ hl key) fun v h2 hf0 ⟨hv, s2⟩ hf2 n2 => ?_
    subst hv
    simp (maxSteps := 4000000) (disch := first | decide | omega | rfl) only [Same, ↓sa0, ↓sa1, sb0, sb1, sb2, sb3, sb4, sb5, guardIs, fillV, cellsN, setAll, loadC, loadCs, aresL, ares1, tupV, one, binV, unV, eqV, eqH, allEq, leafEq, shapeL, LK.is, ↓reduceIte, reduceCtorEq, Nat.reduceAdd, Nat.reduceSub, Nat.reduceMul, Nat.reduceLT, Nat.reduceLeDiff, Nat.reduceEqDiff, bne, dynB, heapsB, wanted, AOp.eff, AOp.makes, Int.reduceEq, Int.reduceLT, Int.reduceLE, Int.reduceBEq, Int.reduceBNe, boundV, natV_cast] at n2 s2
    obtain ⟨r1, r2, r3, r4⟩ := fin (withoutL ps key, true, 0, 0) (withoutL_len hl)
    simp (maxSteps := 4000000) (disch := first | decide | omega | rfl) only [s2, s1, doV, r1, r2, r3, r4, z0, ↓sa0, ↓sa1, sb0, sb1, sb2, sb3, sb4, sb5, guardIs, fillV, cellsN, setAll, loadC, loadCs, aresL, ares1, tupV, one, binV, unV, eqV, eqH, allEq, leafEq, shapeL, LK.is, ↓reduceIte, reduceCtorEq, Nat.reduceAdd, Nat.reduceSub, Nat.reduceMul, Nat.reduceLT, Nat.reduceLeDiff, Nat.reduceEqDiff, bne, dynB, heapsB, wanted, AOp.eff, AOp.makes, Int.reduceEq, Int.reduceLT, Int.reduceLE, Int.reduceBEq, Int.reduceBNe, boundV, natV_cast]
    exact fun b hb => by simp (maxSteps := 4000000) (disch := first | decide | omega | rfl) only [s2, s1, ↓sa0, ↓sa1, sb0, sb1, sb2, sb3, sb4, sb5, guardIs, fillV, cellsN, setAll, loadC, loadCs, aresL, ares1, tupV, one, binV, unV, eqV, eqH, allEq, leafEq, shapeL, LK.is, ↓reduceIte, reduceCtorEq, Nat.reduceAdd, Nat.reduceSub, Nat.reduceMul, Nat.reduceLT, Nat.reduceLeDiff, Nat.reduceEqDiff, bne, dynB, heapsB, wanted, AOp.eff, AOp.makes, Int.reduceEq, Int.reduceLT, Int.reduceLE, Int.reduceBEq, Int.reduceBNe, boundV, natV_cast]
  cases k6 : (kd == 6)
  rotate_left 1
  · obtain rfl : kd = 6 := by simpa using k6
    simp (maxSteps := 4000000) (disch := first | decide | omega | rfl) only [s1, hsz, hex, k1, k4, k5, k2, k6, ↓sa0, ↓sa1, sb0, sb1, sb2, sb3, sb4, sb5, guardIs, fillV, cellsN, setAll, loadC, loadCs, aresL, ares1, tupV, one, binV, unV, eqV, eqH, allEq, leafEq, shapeL, LK.is, ↓reduceIte, reduceCtorEq, Nat.reduceAdd, Nat.reduceSub, Nat.reduceMul, Nat.reduceLT, Nat.reduceLeDiff, Nat.reduceEqDiff, bne, dynB, heapsB, wanted, AOp.eff, AOp.makes, Int.reduceEq, Int.reduceLT, Int.reduceLE, Int.reduceBEq, Int.reduceBNe, boundV, natV_cast]
    refine CallsG.of (k37 _ hl key) fun v h2 hf0 ⟨hv, s2⟩ hf2 n2 => ?_
    subst hv
    simp (maxSteps := 4000000) (disch := first | decide | omega | rfl) only [Same, ↓sa0, ↓sa1, sb0, sb1, sb2, sb3, sb4, sb5, guardIs, fillV, cellsN, setAll, loadC, loadCs, aresL, ares1, tupV, one, binV, unV, eqV, eqH, allEq, leafEq, shapeL, LK.is, ↓reduceIte, reduceCtorEq, Nat.reduceAdd, Nat.reduceSub, Nat.reduceMul, Nat.reduceLT, Nat.reduceLeDiff, Nat.reduceEqDiff, bne, dynB, heapsB, wanted, AOp.eff, AOp.makes, Int.reduceEq, Int.reduceLT, Int.reduceLE, Int.reduceBEq, Int.reduceBNe, boundV, natV_cast] at n2 s2
    obtain ⟨r1, r2, r3, r4⟩ := fin (withoutL ps key, true, 0, 0) (withoutL_len hl)
    simp (maxSteps := 4000000) (disch := first | decide | omega | rfl) only [s2, s1, doV, r1, r2, r3, r4, z0, ↓sa0, ↓sa1, sb0, sb1, sb2, sb3, sb4, sb5, guardIs, fillV, cellsN, setAll, loadC, loadCs, aresL, ares1, tupV, one, binV, unV, eqV, eqH, allEq, leafEq, shapeL, LK.is, ↓reduceIte, reduceCtorEq, Nat.reduceAdd, Nat.reduceSub, Nat.reduceMul, Nat.reduceLT, Nat.reduceLeDiff, Nat.reduceEqDiff, bne, dynB, heapsB, wanted, AOp.eff, AOp.makes, Int.reduceEq, Int.reduceLT, Int.reduceLE, Int.reduceBEq, Int.reduceBNe, boundV, natV_cast]
    exact fun b hb => by simp (maxSteps := 4000000) (disch := first | decide | omega | rfl) only [s2, s1, ↓sa0, ↓sa1, sb0, sb1, sb2, sb3, sb4, sb5, guardIs, fillV, cellsN, setAll, loadC, loadCs, aresL, ares1, tupV, one, binV, unV, eqV, eqH, allEq, leafEq, shapeL, LK.is, ↓reduceIte, reduceCtorEq, Nat.reduceAdd, Nat.reduceSub, Nat.reduceMul, Nat.reduceLT, Nat.reduceLeDiff, Nat.reduceEqDiff, bne, dynB, heapsB, wanted, AOp.eff, AOp.makes, Int.reduceEq, Int.reduceLT, Int.reduceLE, Int.reduceBEq, Int.reduceBNe, boundV, natV_cast]
  cases k3 : (kd == 3)
  rotate_left 1
  · obtain rfl : kd = 3 := by simpa using k3
    simp (maxSteps := 4000000) (disch := first | decide | omega | rfl) only [s1, hsz, hex, k1, k4, k5, k2, k6, k3, doV, z0, hone, zf, ↓sa0, ↓sa1, sb0, sb1, sb2, sb3, sb4, sb5, guardIs, fillV, cellsN, setAll, loadC, loadCs, aresL, ares1, tupV, one, binV, unV, eqV, eqH, allEq, leafEq, shapeL, LK.is, ↓reduceIte, reduceCtorEq, Nat.reduceAdd, Nat.reduceSub, Nat.reduceMul, Nat.reduceLT, Nat.reduceLeDiff, Nat.reduceEqDiff, bne, dynB, heapsB, wanted, AOp.eff, AOp.makes, Int.reduceEq, Int.reduceLT, Int.reduceLE, Int.reduceBEq, Int.reduceBNe, boundV, natV_cast]
    exact fun b hb => by simp (maxSteps := 4000000) (disch := first | decide | omega | rfl) only [s1, ↓sa0, ↓sa1, sb0, sb1, sb2, sb3, sb4, sb5, guardIs, fillV, cellsN, setAll, loadC, loadCs, aresL, ares1, tupV, one, binV, unV, eqV, eqH, allEq, leafEq, shapeL, LK.is, ↓reduceIte, reduceCtorEq, Nat.reduceAdd, Nat.reduceSub, Nat.reduceMul, Nat.reduceLT, Nat.reduceLeDiff, Nat.reduceEqDiff, bne, dynB, heapsB, wanted, AOp.eff, AOp.makes, Int.reduceEq, Int.reduceLT, Int.reduceLE, Int.reduceBEq, Int.reduceBNe, boundV, natV_cast]
  cases k7 : (kd == 7)
  rotate_left 1
  · obtain rfl : kd = 7 := by simpa using k7
    simp (maxSteps := 4000000) (disch := first | decide | omega | rfl) only [s1, hsz, hex, k1, k4, k5, k2, k6, k3, k7, doV, z0, hone, zf, ↓sa0, ↓sa1, sb0, sb1, sb2, sb3, sb4, sb5, guardIs, fillV, cellsN, setAll, loadC, loadCs, aresL, ares1, tupV, one, binV, unV, eqV, eqH, allEq, leafEq, shapeL, LK.is, ↓reduceIte, reduceCtorEq, Nat.reduceAdd, Nat.reduceSub, Nat.reduceMul, Nat.reduceLT, Nat.reduceLeDiff, Nat.reduceEqDiff, bne, dynB, heapsB, wanted, AOp.eff, AOp.makes, Int.reduceEq, Int.reduceLT, Int.reduceLE, Int.reduceBEq, Int.reduceBNe, boundV, natV_cast]
    exact fun b hb => by simp (maxSteps := 4000000) (disch := first | decide | omega | rfl) only [s1, ↓sa0, ↓sa1, sb0, sb1, sb2, sb3, sb4, sb5, guardIs, fillV, cellsN, setAll, loadC, loadCs, aresL, ares1, tupV, one, binV, unV, eqV, eqH, allEq, leafEq, shapeL, LK.is, ↓reduceIte, reduceCtorEq, Nat.reduceAdd, Nat.reduceSub, Nat.reduceMul, Nat.reduceLT, Nat.reduceLeDiff, Nat.reduceEqDiff, bne, dynB, heapsB, wanted, AOp.eff, AOp.makes, Int.reduceEq, Int.reduceLT, Int.reduceLE, Int.reduceBEq, Int.reduceBNe, boundV, natV_cast]
  cases k8 : (kd == 8)
  rotate_left 1
  · obtain rfl : kd = 8 := by simpa using k8
    simp (maxSteps := 4000000) (disch := first | decide | omega | rfl) only [s1, hsz, hex, k1, k4, k5, k2, k6, k3, k7, k8, doV, z0, hone, zf, ↓sa0, ↓sa1, sb0, sb1, sb2, sb3, sb4, sb5, guardIs, fillV, cellsN, setAll, loadC, loadCs, aresL, ares1, tupV, one, binV, unV, eqV, eqH, allEq, leafEq, shapeL, LK.is, ↓reduceIte, reduceCtorEq, Nat.reduceAdd, Nat.reduceSub, Nat.reduceMul, Nat.reduceLT, Nat.reduceLeDiff, Nat.reduceEqDiff, bne, dynB, heapsB, wanted, AOp.eff, AOp.makes, Int.reduceEq, Int.reduceLT, Int.reduceLE, Int.reduceBEq, Int.reduceBNe, boundV, natV_cast]
    exact fun b hb => by simp (maxSteps := 4000000) (disch := first | decide | omega | rfl) only [s1, ↓sa0, ↓sa1, sb0, sb1, sb2, sb3, sb4, sb5, guardIs, fillV, cellsN, setAll, loadC, loadCs, aresL, ares1, tupV, one, binV, unV, eqV, eqH, allEq, leafEq, shapeL, LK.is, ↓reduceIte, reduceCtorEq, Nat.reduceAdd, Nat.reduceSub, Nat.reduceMul, Nat.reduceLT, Nat.reduceLeDiff, Nat.reduceEqDiff, bne, dynB, heapsB, wanted, AOp.eff, AOp.makes, Int.reduceEq, Int.reduceLT, Int.reduceLE, Int.reduceBEq, Int.reduceBNe, boundV, natV_cast]
  have e1 : ¬ kd = 1 := by simpa using k1
  have e4 : ¬ kd = 4 := by simpa using k4
  have e5 : ¬ kd = 5 := by simpa using k5
  have e2 : ¬ kd = 2 := by simpa using k2
  have e6 : ¬ kd = 6 := by simpa using k6
  have e3 : ¬ kd = 3 := by simpa using k3
  have e7 : ¬ kd = 7 := by simpa using k7
  have e8 : ¬ kd = 8 := by simpa using k8
  rw [if_neg e1, if_neg e4, if_neg e5, if_neg e2, if_neg e6, if_neg e3, if_neg e7, if_neg e8]
  simp (maxSteps := 4000000) (disch := first | decide | omega | rfl) only [s1, hsz, hex, k1, k4, k5, k2, k6, k3, k7, k8, zz, z0, zone, zf0, zx, doV, ↓sa0, ↓sa1, sb0, sb1, sb2, sb3, sb4, sb5, guardIs, fillV, cellsN, setAll, loadC, loadCs, aresL, ares1, tupV, one, binV, unV, eqV, eqH, allEq, leafEq, shapeL, LK.is, ↓reduceIte, reduceCtorEq, Nat.reduceAdd, Nat.reduceSub, Nat.reduceMul, Nat.reduceLT, Nat.reduceLeDiff, Nat.reduceEqDiff, bne, dynB, heapsB, wanted, AOp.eff, AOp.makes, Int.reduceEq, Int.reduceLT, Int.reduceLE, Int.reduceBEq, Int.reduceBNe, boundV, natV_cast]
  exact fun b hb => by simp (maxSteps := 4000000) (disch := first | decide | omega | rfl) only [s1, ↓sa0, ↓sa1, sb0, sb1, sb2, sb3, sb4, sb5, guardIs, fillV, cellsN, setAll, loadC, loadCs, aresL, ares1, tupV, one, binV, unV, eqV, eqH, allEq, leafEq, shapeL, LK.is, ↓reduceIte, reduceCtorEq, Nat.reduceAdd, Nat.reduceSub, Nat.reduceMul, Nat.reduceLT, Nat.reduceLeDiff, Nat.reduceEqDiff, bne, dynB, heapsB, wanted, AOp.eff, AOp.makes, Int.reduceEq, Int.reduceLT, Int.reduceLE, Int.reduceBEq, Int.reduceBNe, boundV, natV_cast]
end
end Go.Proofs.Ytleoicjpcdmfkaa
