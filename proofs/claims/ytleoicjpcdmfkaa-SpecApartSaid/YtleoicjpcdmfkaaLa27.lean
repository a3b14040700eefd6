/-
  The laws' own look at fixed answers: 'awake' of layer 21; when two states are the same.
-/
import Derived.Test.YtleoicjpcdmfkaaLa26
set_option linter.unusedSimpArgs false
set_option linter.unusedVariables false
namespace Go.Proofs.Ytleoicjpcdmfkaa
open Go Ab
open Heap (get put next skip)

theorem shape_ints : ∀ vs : List Value, (∀ v ∈ vs, LK.int.is v = true) → shapeL (List.replicate vs.length .int) vs = true
  | [], _ => rfl
  | v :: vs, h => by
    simp only [List.length_cons, List.replicate_succ, shapeL]
    rw [h v (by simp), shape_ints vs fun u hu => h u (by simp [hu])]
    rfl

theorem shP {ps : List (Int × Int)} (h : ps.length ≤ 16) : shapeL [.int, .int, .int, .int, .int, .int, .int, .int, .int, .int, .int, .int, .int, .int, .int, .int, .int, .int, .int, .int, .int, .int, .int, .int, .int, .int, .int, .int, .int, .int, .int, .int, .int] (stP ps).toList = true := by
  have h1 : (stP ps).toList.length = 33 := by rw [Array.length_toList]; exact stP_size h
  have := shape_ints (stP ps).toList fun v hv => by
    unfold stP at hv
    rw [stA_toList] at hv
    rcases List.mem_cons.1 hv with rfl | hv
    · rfl
    · obtain ⟨x, _, hx⟩ := List.mem_flatMap.1 hv
      simp only [p2r, List.mem_cons, List.not_mem_nil, or_false] at hx
      rcases hx with rfl | rfl <;> rfl
  rw [h1] at this
  exact this

theorem allEq_pairs : ∀ (qs rs : List (Int × Int)), qs.length = rs.length → allEq (qs.flatMap p2r) (rs.flatMap p2r) = some (decide (qs = rs))
  | [], [], _ => rfl
  | (a, b) :: qs, (c, d) :: rs, h => by
    have ih := allEq_pairs qs rs (by simpa using h)
    simp only [List.flatMap_cons, p2r, List.cons_append, List.nil_append, allEq, leafEq, if_true, Option.bind_some, ih, Option.map_some, Option.some.injEq]
    rw [Bool.eq_iff_iff]
    simp [and_assoc]
  | [], _ :: _, h => by simp at h
  | _ :: _, [], h => by simp at h

theorem padL_inj {ps qs : List (Int × Int)} (hl : ps.length = qs.length) (h : padL ps = padL qs) : ps = qs := by
  have h1 : (padL ps).take ps.length = ps := by unfold padL; simp
  have h2 : (padL qs).take qs.length = qs := by unfold padL; simp
  rw [← h1, ← h2, h, hl]

theorem alP {ps qs : List (Int × Int)} (h : ps.length ≤ 16) (h' : qs.length ≤ 16) : allEq (stP ps).toList (stP qs).toList = some (decide (ps = qs)) := by
  unfold stP
  rw [stA_toList, stA_toList]
  have ih := allEq_pairs (padL ps) (padL qs) (by rw [padL_len h, padL_len h'])
  simp only [allEq, leafEq, if_true, Option.bind_some, ih, Option.map_some, Option.some.injEq]
  rw [Bool.eq_iff_iff]
  simp only [Bool.and_eq_true, beq_iff_eq, decide_eq_true_eq]
  constructor
  · rintro ⟨h1, h2⟩
    exact padL_inj (by omega) h2
  · rintro rfl
    exact ⟨rfl, rfl⟩

section
variable {H : Type} [Heap H]
attribute [local irreducible] wpG wpOG wpTG stepG CallsG cfunc bfunc tmOf upd

set_option maxRecDepth 20000 in
set_option maxHeartbeats 8000000 in
theorem k29 (h : H) : Fresh h → CallsTo tt 29 #[] h fun v h1 => v = .bool true ∧ Same h h1 := by
  refine toCall c29 (by simp [b29]) fun hf => ?_
  have z0 := stP_size (ps := []) (by simp)
  have zx := stP_extract (ps := []) (by simp)
  have zone := stP_one (ps := [])
  have zf0 : setAll (stP []) 0 (stP []).toList = stP [] := setAll_full rfl
  have zz := stP_nil.symm
  have l1 : ([(1, 5)] : List (Int × Int)).length ≤ 16 := by decide
  have w0 := stP_size l1
  have wx := stP_extract l1
  have wone := stP_one (ps := [(1, 5)])
  have wf : setAll (stP []) 0 (stP [(1, 5)]).toList = stP [(1, 5)] := setAll_full (by rw [w0, z0])
  have wsh := shP l1
  have wal := alP l1 l1
  rw [decide_eq_true rfl] at wal
  simp (maxSteps := 4000000) (disch := first | decide | omega | rfl) only [b29, zz, z0, zone, zf0, zx, ↓sa0, ↓sa1, sb0, sb1, sb2, sb3, sb4, sb5, guardIs, fillV, cellsN, setAll, loadC, loadCs, aresL, ares1, tupV, one, binV, unV, eqV, eqH, allEq, leafEq, shapeL, LK.is, ↓reduceIte, reduceCtorEq, Nat.reduceAdd, Nat.reduceSub, Nat.reduceMul, Nat.reduceLT, Nat.reduceLeDiff, Nat.reduceEqDiff, bne, dynB, heapsB, wanted, AOp.eff, AOp.makes, Int.reduceEq, Int.reduceLT, Int.reduceLE, Int.reduceBEq, Int.reduceBNe, boundV, natV_cast]
  refine CallsG.of (k30 _ (ps := []) (by simp) 4 1 5 0) fun v h1 hf0 ⟨hv, s1⟩ hf1 n1 => ?_
  have d1 : doS [] 4 1 5 = ([(1, 5)], false, 0, 0) := rfl
  rw [d1] at hv
  simp only [doV] at hv
  subst hv
  simp (maxSteps := 4000000) (disch := first | decide | omega | rfl) only [Same, ↓sa0, ↓sa1, sb0, sb1, sb2, sb3, sb4, sb5, guardIs, fillV, cellsN, setAll, loadC, loadCs, aresL, ares1, tupV, one, binV, unV, eqV, eqH, allEq, leafEq, shapeL, LK.is, ↓reduceIte, reduceCtorEq, Nat.reduceAdd, Nat.reduceSub, Nat.reduceMul, Nat.reduceLT, Nat.reduceLeDiff, Nat.reduceEqDiff, bne, dynB, heapsB, wanted, AOp.eff, AOp.makes, Int.reduceEq, Int.reduceLT, Int.reduceLE, Int.reduceBEq, Int.reduceBNe, boundV, natV_cast] at n1 s1
  simp (maxSteps := 4000000) (disch := first | decide | omega | rfl) only [s1, z0, zz, w0, wone, wf, wx, ↓sa0, ↓sa1, sb0, sb1, sb2, sb3, sb4, sb5, guardIs, fillV, cellsN, setAll, loadC, loadCs, aresL, ares1, tupV, one, binV, unV, eqV, eqH, allEq, leafEq, shapeL, LK.is, ↓reduceIte, reduceCtorEq, Nat.reduceAdd, Nat.reduceSub, Nat.reduceMul, Nat.reduceLT, Nat.reduceLeDiff, Nat.reduceEqDiff, bne, dynB, heapsB, wanted, AOp.eff, AOp.makes, Int.reduceEq, Int.reduceLT, Int.reduceLE, Int.reduceBEq, Int.reduceBNe, boundV, natV_cast]
  refine CallsG.of (k30 _ l1 5 1 6 0) fun v h2 hf0 ⟨hv, s2⟩ hf2 n2 => ?_
  have d2 : doS [(1, 5)] 5 1 6 = ([(1, 5)], false, 5, 0) := rfl
  rw [d2] at hv
  simp only [doV] at hv
  subst hv
  simp (maxSteps := 4000000) (disch := first | decide | omega | rfl) only [Same, ↓sa0, ↓sa1, sb0, sb1, sb2, sb3, sb4, sb5, guardIs, fillV, cellsN, setAll, loadC, loadCs, aresL, ares1, tupV, one, binV, unV, eqV, eqH, allEq, leafEq, shapeL, LK.is, ↓reduceIte, reduceCtorEq, Nat.reduceAdd, Nat.reduceSub, Nat.reduceMul, Nat.reduceLT, Nat.reduceLeDiff, Nat.reduceEqDiff, bne, dynB, heapsB, wanted, AOp.eff, AOp.makes, Int.reduceEq, Int.reduceLT, Int.reduceLE, Int.reduceBEq, Int.reduceBNe, boundV, natV_cast] at n2 s2
  simp (maxSteps := 4000000) (disch := first | decide | omega | rfl) only [s2, s1, z0, zz, w0, wone, wf, wx, ↓sa0, ↓sa1, sb0, sb1, sb2, sb3, sb4, sb5, guardIs, fillV, cellsN, setAll, loadC, loadCs, aresL, ares1, tupV, one, binV, unV, eqV, eqH, allEq, leafEq, shapeL, LK.is, ↓reduceIte, reduceCtorEq, Nat.reduceAdd, Nat.reduceSub, Nat.reduceMul, Nat.reduceLT, Nat.reduceLeDiff, Nat.reduceEqDiff, bne, dynB, heapsB, wanted, AOp.eff, AOp.makes, Int.reduceEq, Int.reduceLT, Int.reduceLE, Int.reduceBEq, Int.reduceBNe, boundV, natV_cast]
  refine CallsG.of (k32 _ l1 1) fun v h3 hf0 ⟨hv, s3⟩ hf3 n3 => ?_
  have d3 : (if hasK [(1, 5)] 1 = true then (([(1, 5)] : List (Int × Int))[ixOf [(1, 5)] 1]?.getD (0, 0)).2 else 0) = 5 := rfl
  have d3' : hasK [(1, 5)] 1 = true := rfl
  rw [d3, d3'] at hv
  subst hv
  simp (maxSteps := 4000000) (disch := first | decide | omega | rfl) only [Same, ↓sa0, ↓sa1, sb0, sb1, sb2, sb3, sb4, sb5, guardIs, fillV, cellsN, setAll, loadC, loadCs, aresL, ares1, tupV, one, binV, unV, eqV, eqH, allEq, leafEq, shapeL, LK.is, ↓reduceIte, reduceCtorEq, Nat.reduceAdd, Nat.reduceSub, Nat.reduceMul, Nat.reduceLT, Nat.reduceLeDiff, Nat.reduceEqDiff, bne, dynB, heapsB, wanted, AOp.eff, AOp.makes, Int.reduceEq, Int.reduceLT, Int.reduceLE, Int.reduceBEq, Int.reduceBNe, boundV, natV_cast] at n3 s3
  simp (maxSteps := 4000000) (disch := first | decide | omega | rfl) only [s3, s2, s1, z0, zz, w0, wone, wf, wx, ↓sa0, ↓sa1, sb0, sb1, sb2, sb3, sb4, sb5, guardIs, fillV, cellsN, setAll, loadC, loadCs, aresL, ares1, tupV, one, binV, unV, eqV, eqH, allEq, leafEq, shapeL, LK.is, ↓reduceIte, reduceCtorEq, Nat.reduceAdd, Nat.reduceSub, Nat.reduceMul, Nat.reduceLT, Nat.reduceLeDiff, Nat.reduceEqDiff, bne, dynB, heapsB, wanted, AOp.eff, AOp.makes, Int.reduceEq, Int.reduceLT, Int.reduceLE, Int.reduceBEq, Int.reduceBNe, boundV, natV_cast]
  refine CallsG.of (k39 _ l1 1 2 0 0 6 false 0) fun v h4 hf0 ⟨hv, s4⟩ hf4 n4 => ?_
  have d4 : mayS [(1, 5)] 1 2 0 6 false 0 = ([(1, 5)], true) := rfl
  rw [d4] at hv
  subst hv
  simp (maxSteps := 4000000) (disch := first | decide | omega | rfl) only [Same, ↓sa0, ↓sa1, sb0, sb1, sb2, sb3, sb4, sb5, guardIs, fillV, cellsN, setAll, loadC, loadCs, aresL, ares1, tupV, one, binV, unV, eqV, eqH, allEq, leafEq, shapeL, LK.is, ↓reduceIte, reduceCtorEq, Nat.reduceAdd, Nat.reduceSub, Nat.reduceMul, Nat.reduceLT, Nat.reduceLeDiff, Nat.reduceEqDiff, bne, dynB, heapsB, wanted, AOp.eff, AOp.makes, Int.reduceEq, Int.reduceLT, Int.reduceLE, Int.reduceBEq, Int.reduceBNe, boundV, natV_cast] at n4 s4
  simp (maxSteps := 4000000) (disch := first | decide | omega | rfl) only [s4, s3, s2, s1, z0, zz, w0, wone, wf, wx, ↓sa0, ↓sa1, sb0, sb1, sb2, sb3, sb4, sb5, guardIs, fillV, cellsN, setAll, loadC, loadCs, aresL, ares1, tupV, one, binV, unV, eqV, eqH, allEq, leafEq, shapeL, LK.is, ↓reduceIte, reduceCtorEq, Nat.reduceAdd, Nat.reduceSub, Nat.reduceMul, Nat.reduceLT, Nat.reduceLeDiff, Nat.reduceEqDiff, bne, dynB, heapsB, wanted, AOp.eff, AOp.makes, Int.reduceEq, Int.reduceLT, Int.reduceLE, Int.reduceBEq, Int.reduceBNe, boundV, natV_cast]
  refine CallsG.of (k39 _ l1 7 1 0 0 0 false 0) fun v h5 hf0 ⟨hv, s5⟩ hf5 n5 => ?_
  have d5 : mayS [(1, 5)] 7 1 0 0 false 0 = ([], false) := rfl
  rw [d5] at hv
  subst hv
  simp (maxSteps := 4000000) (disch := first | decide | omega | rfl) only [Same, ↓sa0, ↓sa1, sb0, sb1, sb2, sb3, sb4, sb5, guardIs, fillV, cellsN, setAll, loadC, loadCs, aresL, ares1, tupV, one, binV, unV, eqV, eqH, allEq, leafEq, shapeL, LK.is, ↓reduceIte, reduceCtorEq, Nat.reduceAdd, Nat.reduceSub, Nat.reduceMul, Nat.reduceLT, Nat.reduceLeDiff, Nat.reduceEqDiff, bne, dynB, heapsB, wanted, AOp.eff, AOp.makes, Int.reduceEq, Int.reduceLT, Int.reduceLE, Int.reduceBEq, Int.reduceBNe, boundV, natV_cast] at n5 s5
  simp (maxSteps := 4000000) (disch := first | decide | omega | rfl) only [s5, s4, s3, s2, s1, z0, zz, w0, wone, wf, wx, wsh, wal, zone, zf0, ↓sa0, ↓sa1, sb0, sb1, sb2, sb3, sb4, sb5, guardIs, fillV, cellsN, setAll, loadC, loadCs, aresL, ares1, tupV, one, binV, unV, eqV, eqH, allEq, leafEq, shapeL, LK.is, ↓reduceIte, reduceCtorEq, Nat.reduceAdd, Nat.reduceSub, Nat.reduceMul, Nat.reduceLT, Nat.reduceLeDiff, Nat.reduceEqDiff, bne, dynB, heapsB, wanted, AOp.eff, AOp.makes, Int.reduceEq, Int.reduceLT, Int.reduceLE, Int.reduceBEq, Int.reduceBNe, boundV, natV_cast]
  exact fun b hb => by simp (maxSteps := 4000000) (disch := first | decide | omega | rfl) only [s5, s4, s3, s2, s1, ↓sa0, ↓sa1, sb0, sb1, sb2, sb3, sb4, sb5, guardIs, fillV, cellsN, setAll, loadC, loadCs, aresL, ares1, tupV, one, binV, unV, eqV, eqH, allEq, leafEq, shapeL, LK.is, ↓reduceIte, reduceCtorEq, Nat.reduceAdd, Nat.reduceSub, Nat.reduceMul, Nat.reduceLT, Nat.reduceLeDiff, Nat.reduceEqDiff, bne, dynB, heapsB, wanted, AOp.eff, AOp.makes, Int.reduceEq, Int.reduceLT, Int.reduceLE, Int.reduceBEq, Int.reduceBNe, boundV, natV_cast]
end
end Go.Proofs.Ytleoicjpcdmfkaa
