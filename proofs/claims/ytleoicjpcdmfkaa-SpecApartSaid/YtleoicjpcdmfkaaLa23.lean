/-
  The layer 'spec': with and without a pair.
-/
import Derived.Test.YtleoicjpcdmfkaaLa22
set_option linter.unusedSimpArgs false
set_option linter.unusedVariables false
namespace Go.Proofs.Ytleoicjpcdmfkaa
open Go Ab
open Heap (get put next skip)

def withL (ps : List (Int × Int)) (k v : Int) : List (Int × Int) := if hasK ps k = true then ps.set (ixOf ps k) (k, v) else ps.take (ixOf ps k) ++ (k, v) :: ps.drop (ixOf ps k)
def withS (ps : List (Int × Int)) (k v : Int) : Option (List (Int × Int)) := if hasK ps k = false ∧ ps.length = 16 then none else some (withL ps k v)
def withoutL (ps : List (Int × Int)) (k : Int) : List (Int × Int) := if hasK ps k = true then ps.eraseIdx (ixOf ps k) else ps
/-- A state, and why there is none. -/
def resV : Option (List (Int × Int)) → Value
  | some ps => .tuple #[.agg (stP ps), .int .i64 0]
  | none => .tuple #[.agg (stP []), .int .i64 6]

theorem hasK_lt {ps : List (Int × Int)} {k : Int} (h : hasK ps k = true) : ixOf ps k < ps.length := by
  unfold hasK at h
  split at h
  · rename_i x hx
    exact (List.getElem?_eq_some_iff.1 hx).1
  · cases h

theorem padL_set {ps : List (Int × Int)} {i : Nat} (x : Int × Int) (h : i < ps.length) : (padL ps).set i x = padL (ps.set i x) := by
  unfold padL
  rw [List.set_append_left _ _ h, List.length_set]

theorem padL_ins {ps : List (Int × Int)} {i : Nat} (x : Int × Int) (h : i ≤ ps.length) (hl : ps.length < 16) :
    ((padL ps).take (i + 1) ++ ((padL ps).drop i).take (ps.length - i) ++ (padL ps).drop (i + 1 + (ps.length - i))).set i x = padL (ps.take i ++ x :: ps.drop i) := by
  have hp : (padL ps).length = 16 := padL_len (by omega)
  obtain ⟨y, hy⟩ : ∃ y, (padL ps)[i]? = some y := ⟨_, List.getElem?_eq_getElem (by omega)⟩
  have e1 : (padL ps).take (i + 1) = ps.take i ++ [y] := by
    rw [List.take_add_one, hy]
    unfold padL
    rw [List.take_append_of_le_length h]
    rfl
  have e2 : ((padL ps).drop i).take (ps.length - i) = ps.drop i := by
    unfold padL
    rw [List.drop_append_of_le_length h, List.take_append_of_le_length (by simp), List.take_of_length_le (by simp)]
  have e3 : (padL ps).drop (i + 1 + (ps.length - i)) = List.replicate (16 - (ps.length + 1)) (0, 0) := by
    unfold padL
    rw [show i + 1 + (ps.length - i) = ps.length + 1 by omega, List.drop_append, List.drop_of_length_le (by omega), List.nil_append, List.drop_replicate]
    congr 1
    omega
  rw [e1, e2, e3, List.append_assoc, List.append_assoc, List.set_append_right _ _ (by simp; omega)]
  have hz : i - (ps.take i).length = 0 := by simp; omega
  rw [hz]
  unfold padL
  have hl2 : (ps.take i ++ x :: ps.drop i).length = ps.length + 1 := by simp; omega
  rw [hl2]
  simp

section
variable {H : Type} [Heap H]
attribute [local irreducible] wpG wpOG wpTG stepG CallsG cfunc bfunc tmOf upd

theorem a33 (h : (33 : Nat) ≤ 33) : True := trivial

set_option maxRecDepth 20000 in
set_option maxHeartbeats 4000000 in
/-- spec.Get -/
theorem k32 (h : H) {ps : List (Int × Int)} (hl : ps.length ≤ 16) (key : Int) :
    Fresh h → CallsTo tt 32 #[.agg (stP ps), .int .u64 key] h fun v h1 => v = .tuple #[.int .u64 (if hasK ps key = true then ((ps[ixOf ps key]?).getD (0, 0)).2 else 0), .bool (hasK ps key)] ∧ Same h h1 := by
  refine toCall c32 (by simp [b32]) fun hf => ?_
  have hsz := stP_size hl
  have hex := stP_extract hl
  simp (maxSteps := 4000000) (disch := first | decide | omega | rfl) only [b32, hsz, hex, ↓sa0, ↓sa1, sb0, sb1, sb2, sb3, sb4, sb5, guardIs, fillV, cellsN, setAll, loadC, loadCs, aresL, ares1, tupV, one, binV, unV, eqV, eqH, allEq, leafEq, shapeL, LK.is, ↓reduceIte, reduceCtorEq, Nat.reduceAdd, Nat.reduceSub, Nat.reduceMul, Nat.reduceLT, Nat.reduceLeDiff, Nat.reduceEqDiff, bne, dynB, heapsB, wanted, AOp.eff, AOp.makes, Int.reduceEq, Int.reduceLT, Int.reduceLE, Int.reduceBEq, Int.reduceBNe, boundV, natV_cast]
  refine CallsG.of (k72 _ hl key) fun v h1 hf0 ⟨hv, s1⟩ hf1 n1 => ?_
  subst hv
  simp (maxSteps := 4000000) (disch := first | decide | omega | rfl) only [Same, ↓sa0, ↓sa1, sb0, sb1, sb2, sb3, sb4, sb5, guardIs, fillV, cellsN, setAll, loadC, loadCs, aresL, ares1, tupV, one, binV, unV, eqV, eqH, allEq, leafEq, shapeL, LK.is, ↓reduceIte, reduceCtorEq, Nat.reduceAdd, Nat.reduceSub, Nat.reduceMul, Nat.reduceLT, Nat.reduceLeDiff, Nat.reduceEqDiff, bne, dynB, heapsB, wanted, AOp.eff, AOp.makes, Int.reduceEq, Int.reduceLT, Int.reduceLE, Int.reduceBEq, Int.reduceBNe, boundV, natV_cast] at n1 s1
  cases hc : hasK ps key
  · simp (maxSteps := 4000000) (disch := first | decide | omega | rfl) only [hc, ↓sa0, ↓sa1, sb0, sb1, sb2, sb3, sb4, sb5, guardIs, fillV, cellsN, setAll, loadC, loadCs, aresL, ares1, tupV, one, binV, unV, eqV, eqH, allEq, leafEq, shapeL, LK.is, ↓reduceIte, reduceCtorEq, Nat.reduceAdd, Nat.reduceSub, Nat.reduceMul, Nat.reduceLT, Nat.reduceLeDiff, Nat.reduceEqDiff, bne, dynB, heapsB, wanted, AOp.eff, AOp.makes, Int.reduceEq, Int.reduceLT, Int.reduceLE, Int.reduceBEq, Int.reduceBNe, boundV, natV_cast]
    exact fun b hb => by simp (maxSteps := 4000000) (disch := first | decide | omega | rfl) only [s1, ↓sa0, ↓sa1, sb0, sb1, sb2, sb3, sb4, sb5, guardIs, fillV, cellsN, setAll, loadC, loadCs, aresL, ares1, tupV, one, binV, unV, eqV, eqH, allEq, leafEq, shapeL, LK.is, ↓reduceIte, reduceCtorEq, Nat.reduceAdd, Nat.reduceSub, Nat.reduceMul, Nat.reduceLT, Nat.reduceLeDiff, Nat.reduceEqDiff, bne, dynB, heapsB, wanted, AOp.eff, AOp.makes, Int.reduceEq, Int.reduceLT, Int.reduceLE, Int.reduceBEq, Int.reduceBNe, boundV, natV_cast]
  · have hlt := hasK_lt hc
    obtain ⟨⟨x, y⟩, hx⟩ : ∃ x, ps[ixOf ps key]? = some x := ⟨_, List.getElem?_eq_getElem hlt⟩
    have hg := stA_get ps.length ((padL_get hlt).trans hx) (j := 1) (by omega)
    have hg' : (stP ps)[1 + ixOf ps key * 2 + 1]? = some (.int .u64 y) := hg
    have k16 : ixOf ps key < 16 := by omega
    simp (maxSteps := 4000000) (disch := first | decide | omega | rfl) only [hc, s1, hg', k16, hx, Option.getD_some, ↓sa0, ↓sa1, sb0, sb1, sb2, sb3, sb4, sb5, guardIs, fillV, cellsN, setAll, loadC, loadCs, aresL, ares1, tupV, one, binV, unV, eqV, eqH, allEq, leafEq, shapeL, LK.is, ↓reduceIte, reduceCtorEq, Nat.reduceAdd, Nat.reduceSub, Nat.reduceMul, Nat.reduceLT, Nat.reduceLeDiff, Nat.reduceEqDiff, bne, dynB, heapsB, wanted, AOp.eff, AOp.makes, Int.reduceEq, Int.reduceLT, Int.reduceLE, Int.reduceBEq, Int.reduceBNe, boundV, natV_cast]
    exact fun b hb => by simp (maxSteps := 4000000) (disch := first | decide | omega | rfl) only [s1, ↓sa0, ↓sa1, sb0, sb1, sb2, sb3, sb4, sb5, guardIs, fillV, cellsN, setAll, loadC, loadCs, aresL, ares1, tupV, one, binV, unV, eqV, eqH, allEq, leafEq, shapeL, LK.is, ↓reduceIte, reduceCtorEq, Nat.reduceAdd, Nat.reduceSub, Nat.reduceMul, Nat.reduceLT, Nat.reduceLeDiff, Nat.reduceEqDiff, bne, dynB, heapsB, wanted, AOp.eff, AOp.makes, Int.reduceEq, Int.reduceLT, Int.reduceLE, Int.reduceBEq, Int.reduceBNe, boundV, natV_cast]

set_option maxRecDepth 20000 in
set_option maxHeartbeats 4000000 in
/-- spec.With -/
theorem k36 (h : H) {ps : List (Int × Int)} (hl : ps.length ≤ 16) (key val : Int) :
    Fresh h → CallsTo tt 36 #[.agg (stP ps), .agg #[.int .u64 key, .int .u64 val]] h fun v h1 => v = resV (withS ps key val) ∧ Same h h1 := by
  refine toCall c36 (by simp [b36]) fun hf => ?_
  have hsz := stP_size hl
  have hex := stP_extract hl
  have h0 : (stP ps)[0]? = some (.int .i64 (ps.length : Int)) := stA_0 _ _
  have z0 := stP_size (ps := []) (by simp)
  have zx := stP_extract (ps := []) (by simp)
  have hone := stP_one (ps := ps)
  have zone := stP_one (ps := [])
  have zf : setAll (stP []) 0 (stP []).toList = stP [] := setAll_full rfl
  have zz := stP_nil.symm
  simp (maxSteps := 4000000) (disch := first | decide | omega | rfl) only [b36, hsz, hex, zz, ↓sa0, ↓sa1, sb0, sb1, sb2, sb3, sb4, sb5, guardIs, fillV, cellsN, setAll, loadC, loadCs, aresL, ares1, tupV, one, binV, unV, eqV, eqH, allEq, leafEq, shapeL, LK.is, ↓reduceIte, reduceCtorEq, Nat.reduceAdd, Nat.reduceSub, Nat.reduceMul, Nat.reduceLT, Nat.reduceLeDiff, Nat.reduceEqDiff, bne, dynB, heapsB, wanted, AOp.eff, AOp.makes, Int.reduceEq, Int.reduceLT, Int.reduceLE, Int.reduceBEq, Int.reduceBNe, boundV, natV_cast]
  refine CallsG.of (k72 _ hl key) fun v h1 hf0 ⟨hv, s1⟩ hf1 n1 => ?_
  subst hv
  simp (maxSteps := 4000000) (disch := first | decide | omega | rfl) only [Same, ↓sa0, ↓sa1, sb0, sb1, sb2, sb3, sb4, sb5, guardIs, fillV, cellsN, setAll, loadC, loadCs, aresL, ares1, tupV, one, binV, unV, eqV, eqH, allEq, leafEq, shapeL, LK.is, ↓reduceIte, reduceCtorEq, Nat.reduceAdd, Nat.reduceSub, Nat.reduceMul, Nat.reduceLT, Nat.reduceLeDiff, Nat.reduceEqDiff, bne, dynB, heapsB, wanted, AOp.eff, AOp.makes, Int.reduceEq, Int.reduceLT, Int.reduceLE, Int.reduceBEq, Int.reduceBNe, boundV, natV_cast] at n1 s1
  have hix := ixOf_le ps key
  unfold withS withL
  cases hc : hasK ps key
  · cases hfull : ((ps.length : Int) == 16)
    rotate_left 1
    · have hfull' : ps.length = 16 := by have := eq_of_beq hfull; omega
      simp (maxSteps := 4000000) (disch := first | decide | omega | rfl) only [hc, s1, hsz, h0, hfull, zz, z0, zone, zf, zx, resV, ↓sa0, ↓sa1, sb0, sb1, sb2, sb3, sb4, sb5, guardIs, fillV, cellsN, setAll, loadC, loadCs, aresL, ares1, tupV, one, binV, unV, eqV, eqH, allEq, leafEq, shapeL, LK.is, ↓reduceIte, reduceCtorEq, Nat.reduceAdd, Nat.reduceSub, Nat.reduceMul, Nat.reduceLT, Nat.reduceLeDiff, Nat.reduceEqDiff, bne, dynB, heapsB, wanted, AOp.eff, AOp.makes, Int.reduceEq, Int.reduceLT, Int.reduceLE, Int.reduceBEq, Int.reduceBNe, boundV, natV_cast]
      exact ⟨by simp [hfull'], fun b hb => by simp (maxSteps := 4000000) (disch := first | decide | omega | rfl) only [s1, ↓sa0, ↓sa1, sb0, sb1, sb2, sb3, sb4, sb5, guardIs, fillV, cellsN, setAll, loadC, loadCs, aresL, ares1, tupV, one, binV, unV, eqV, eqH, allEq, leafEq, shapeL, LK.is, ↓reduceIte, reduceCtorEq, Nat.reduceAdd, Nat.reduceSub, Nat.reduceMul, Nat.reduceLT, Nat.reduceLeDiff, Nat.reduceEqDiff, bne, dynB, heapsB, wanted, AOp.eff, AOp.makes, Int.reduceEq, Int.reduceLT, Int.reduceLE, Int.reduceBEq, Int.reduceBNe, boundV, natV_cast]⟩
    have hne : ps.length ≠ 16 := by intro q; rw [q] at hfull; cases hfull
    have hl15 : ps.length < 16 := by omega
    have hi15 : ixOf ps key < 16 := by omega
    have w1 := wrap_next (show ixOf ps key < 1000000000 by omega)
    have w2 := wrap_next (show ps.length < 1000000000 by omega)
    have c1 : ixOf ps key + 1 ≤ 16 := by omega
    have c2 : ps.length ≤ 16 := hl
    have c3 : 1 + 16 * 2 ≤ 33 := by omega
    simp (maxSteps := 4000000) (disch := first | decide | omega | rfl) only [↓g_copy2, hc, s1, hsz, h0, hfull, w1, c1, c2, c3, hix, Nat.le_refl, ↓sa0, ↓sa1, sb0, sb1, sb2, sb3, sb4, sb5, guardIs, fillV, cellsN, setAll, loadC, loadCs, aresL, ares1, tupV, one, binV, unV, eqV, eqH, allEq, leafEq, shapeL, LK.is, ↓reduceIte, reduceCtorEq, Nat.reduceAdd, Nat.reduceSub, Nat.reduceMul, Nat.reduceLT, Nat.reduceLeDiff, Nat.reduceEqDiff, bne, dynB, heapsB, wanted, AOp.eff, AOp.makes, Int.reduceEq, Int.reduceLT, Int.reduceLE, Int.reduceBEq, Int.reduceBNe, boundV, natV_cast]
    refine copyK_of (b := next h) (o1 := 1 + ixOf ps key * 2) (o2 := 1 + (ixOf ps key + 1) * 2) (A := stP ps) (fun q => by rw [if_neg (by omega)]) (fun q => by rw [if_neg (by omega)]) (by simp) (by omega) (by simp (maxSteps := 4000000) (disch := first | decide | omega | rfl) only [s1, ↓sa0, ↓sa1, sb0, sb1, sb2, sb3, sb4, sb5, guardIs, fillV, cellsN, setAll, loadC, loadCs, aresL, ares1, tupV, one, binV, unV, eqV, eqH, allEq, leafEq, shapeL, LK.is, ↓reduceIte, reduceCtorEq, Nat.reduceAdd, Nat.reduceSub, Nat.reduceMul, Nat.reduceLT, Nat.reduceLeDiff, Nat.reduceEqDiff, bne, dynB, heapsB, wanted, AOp.eff, AOp.makes, Int.reduceEq, Int.reduceLT, Int.reduceLE, Int.reduceBEq, Int.reduceBNe, boundV, natV_cast]) (fun q => by omega) (fun q => by omega) hone fun h2 n2 g2 f2 => ?_
    have hA : (if ps.length - ixOf ps key = 0 then stP ps else setAll (stP ps) (1 + (ixOf ps key + 1) * 2) ((stP ps).extract (1 + ixOf ps key * 2) (1 + ixOf ps key * 2 + (ps.length - ixOf ps key) * 2)).toList) =
        stA ps.length ((padL ps).take (ixOf ps key + 1) ++ ((padL ps).drop (ixOf ps key)).take (ps.length - ixOf ps key) ++ (padL ps).drop (ixOf ps key + 1 + (ps.length - ixOf ps key))) := by
      have hp := padL_len hl
      by_cases q : ps.length - ixOf ps key = 0
      · rw [if_pos q, q]
        simp [stP]
      · rw [if_neg q]
        unfold stP
        rw [stA_cut]
        have hm : (((padL ps).drop (ixOf ps key)).take (ps.length - ixOf ps key)).length = ps.length - ixOf ps key := by simp [hp]; omega
        have := stA_lay ps.length (qs := padL ps) (xs := ((padL ps).drop (ixOf ps key)).take (ps.length - ixOf ps key)) (i := ixOf ps key + 1) (by rw [hm, hp]; omega)
        rw [hm] at this
        exact this
    rw [hA] at g2
    have hins := padL_ins (key, val) hix hl15
    generalize hqs : (padL ps).take (ixOf ps key + 1) ++ ((padL ps).drop (ixOf ps key)).take (ps.length - ixOf ps key) ++ (padL ps).drop (ixOf ps key + 1 + (ps.length - ixOf ps key)) = qs at g2 hins
    have hql : qs.length = 16 := by
      have e1 : (qs.set (ixOf ps key) (key, val)).length = qs.length := List.length_set
      rw [← e1, hins]
      exact padL_len (by simp; omega)
    have hsq : (stA ps.length qs).size = 33 := by rw [stA_size, hql]
    have hset := stA_set ps.length key val (qs := qs) (i := ixOf ps key) (by omega)
    have hsq2 : (stA ps.length (qs.set (ixOf ps key) (key, val))).size = 33 := by rw [stA_size, List.length_set, hql]
    have hq0 : (stA ps.length (qs.set (ixOf ps key) (key, val)))[0]? = some (.int .i64 (ps.length : Int)) := rfl
    have hqn := stA_n ps.length (ps.length + 1) (qs.set (ixOf ps key) (key, val))
    have hfin : stA (ps.length + 1) (qs.set (ixOf ps key) (key, val)) = stP (ps.take (ixOf ps key) ++ (key, val) :: ps.drop (ixOf ps key)) := by
      rw [hins]
      unfold stP
      congr 1
      simp
      omega
    have hl2 : (ps.take (ixOf ps key) ++ (key, val) :: ps.drop (ixOf ps key)).length ≤ 16 := by simp; omega
    rw [hfin] at hqn
    have hsz2 := stP_size hl2
    have hex2 := stP_extract hl2
    have hone2 := stP_one (ps := ps.take (ixOf ps key) ++ (key, val) :: ps.drop (ixOf ps key))
    have zf2 : setAll (stP []) 0 (stP (ps.take (ixOf ps key) ++ (key, val) :: ps.drop (ixOf ps key))).toList = stP (ps.take (ixOf ps key) ++ (key, val) :: ps.drop (ixOf ps key)) := setAll_full (by rw [hsz2, z0])
    have hle : 1 + ixOf ps key * 2 + 2 ≤ 33 := by omega
    simp (maxSteps := 4000000) (disch := first | decide | omega | rfl) only [↓sa0, ↓sa1, sb0, sb1, sb2, sb3, sb4, sb5, guardIs, fillV, cellsN, setAll, loadC, loadCs, aresL, ares1, tupV, one, binV, unV, eqV, eqH, allEq, leafEq, shapeL, LK.is, ↓reduceIte, reduceCtorEq, Nat.reduceAdd, Nat.reduceSub, Nat.reduceMul, Nat.reduceLT, Nat.reduceLeDiff, Nat.reduceEqDiff, bne, dynB, heapsB, wanted, AOp.eff, AOp.makes, Int.reduceEq, Int.reduceLT, Int.reduceLE, Int.reduceBEq, Int.reduceBNe, boundV, natV_cast] at n2
    have s2 : ∀ b, b ≠ next h → get h2 b = get h1 b := fun b hb => by rw [f2 b hb]; simp (maxSteps := 4000000) (disch := first | decide | omega | rfl) only [↓sa0, ↓sa1, sb0, sb1, sb2, sb3, sb4, sb5, guardIs, fillV, cellsN, setAll, loadC, loadCs, aresL, ares1, tupV, one, binV, unV, eqV, eqH, allEq, leafEq, shapeL, LK.is, ↓reduceIte, reduceCtorEq, Nat.reduceAdd, Nat.reduceSub, Nat.reduceMul, Nat.reduceLT, Nat.reduceLeDiff, Nat.reduceEqDiff, bne, dynB, heapsB, wanted, AOp.eff, AOp.makes, Int.reduceEq, Int.reduceLT, Int.reduceLE, Int.reduceBEq, Int.reduceBNe, boundV, natV_cast]
    clear f2
    simp (maxSteps := 4000000) (disch := first | decide | omega | rfl) only [g2, s2, s1, hi15, hsq, hle, hset, hsq2, hq0, w2, hqn, hsz2, hex2, hone2, z0, zf2, resV, ↓sa0, ↓sa1, sb0, sb1, sb2, sb3, sb4, sb5, guardIs, fillV, cellsN, setAll, loadC, loadCs, aresL, ares1, tupV, one, binV, unV, eqV, eqH, allEq, leafEq, shapeL, LK.is, ↓reduceIte, reduceCtorEq, Nat.reduceAdd, Nat.reduceSub, Nat.reduceMul, Nat.reduceLT, Nat.reduceLeDiff, Nat.reduceEqDiff, bne, dynB, heapsB, wanted, AOp.eff, AOp.makes, Int.reduceEq, Int.reduceLT, Int.reduceLE, Int.reduceBEq, Int.reduceBNe, boundV, natV_cast]
    exact ⟨by simp [hne], fun b hb => by simp (maxSteps := 4000000) (disch := first | decide | omega | rfl) only [s2, s1, ↓sa0, ↓sa1, sb0, sb1, sb2, sb3, sb4, sb5, guardIs, fillV, cellsN, setAll, loadC, loadCs, aresL, ares1, tupV, one, binV, unV, eqV, eqH, allEq, leafEq, shapeL, LK.is, ↓reduceIte, reduceCtorEq, Nat.reduceAdd, Nat.reduceSub, Nat.reduceMul, Nat.reduceLT, Nat.reduceLeDiff, Nat.reduceEqDiff, bne, dynB, heapsB, wanted, AOp.eff, AOp.makes, Int.reduceEq, Int.reduceLT, Int.reduceLE, Int.reduceBEq, Int.reduceBNe, boundV, natV_cast]⟩
  · have hlt := hasK_lt hc
    have k16 : ixOf ps key < 16 := by omega
    have hset : ((stP ps).setIfInBounds (1 + ixOf ps key * 2) (.int .u64 key)).setIfInBounds (1 + ixOf ps key * 2 + 1) (.int .u64 val) = stP (ps.set (ixOf ps key) (key, val)) := by
      unfold stP
      rw [stA_set _ _ _ (by rw [padL_len hl]; omega), padL_set _ hlt, List.length_set]
    have hle : 1 + ixOf ps key * 2 + 2 ≤ 33 := by omega
    have hl2 : (ps.set (ixOf ps key) (key, val)).length ≤ 16 := by simpa using hl
    have hsz2 := stP_size hl2
    have hex2 := stP_extract hl2
    have hone2 := stP_one (ps := ps.set (ixOf ps key) (key, val))
    have zf2 : setAll (stP []) 0 (stP (ps.set (ixOf ps key) (key, val))).toList = stP (ps.set (ixOf ps key) (key, val)) := setAll_full (by rw [hsz2, z0])
    simp (maxSteps := 4000000) (disch := first | decide | omega | rfl) only [hc, s1, k16, hsz, hle, hset, hsz2, hex2, hone2, z0, zf2, resV, ↓sa0, ↓sa1, sb0, sb1, sb2, sb3, sb4, sb5, guardIs, fillV, cellsN, setAll, loadC, loadCs, aresL, ares1, tupV, one, binV, unV, eqV, eqH, allEq, leafEq, shapeL, LK.is, ↓reduceIte, reduceCtorEq, Nat.reduceAdd, Nat.reduceSub, Nat.reduceMul, Nat.reduceLT, Nat.reduceLeDiff, Nat.reduceEqDiff, bne, dynB, heapsB, wanted, AOp.eff, AOp.makes, Int.reduceEq, Int.reduceLT, Int.reduceLE, Int.reduceBEq, Int.reduceBNe, boundV, natV_cast]
    exact ⟨by simp, fun b hb => by simp (maxSteps := 4000000) (disch := first | decide | omega | rfl) only [s1, ↓sa0, ↓sa1, sb0, sb1, sb2, sb3, sb4, sb5, guardIs, fillV, cellsN, setAll, loadC, loadCs, aresL, ares1, tupV, one, binV, unV, eqV, eqH, allEq, leafEq, shapeL, LK.is, ↓reduceIte, reduceCtorEq, Nat.reduceAdd, Nat.reduceSub, Nat.reduceMul, Nat.reduceLT, Nat.reduceLeDiff, Nat.reduceEqDiff, bne, dynB, heapsB, wanted, AOp.eff, AOp.makes, Int.reduceEq, Int.reduceLT, Int.reduceLE, Int.reduceBEq, Int.reduceBNe, boundV, natV_cast]⟩
end

theorem padL_del {ps : List (Int × Int)} {i : Nat} (h : i < ps.length) (hl : ps.length ≤ 16) :
    ((padL ps).take i ++ ((padL ps).drop (i + 1)).take (ps.length - (i + 1)) ++ (padL ps).drop (i + (ps.length - (i + 1)))).set (ps.length - 1) (0, 0) = padL (ps.eraseIdx i) := by
  have e1 : (padL ps).take i = ps.take i := by
    unfold padL
    rw [List.take_append_of_le_length (by omega)]
  have e2 : ((padL ps).drop (i + 1)).take (ps.length - (i + 1)) = ps.drop (i + 1) := by
    unfold padL
    rw [List.drop_append_of_le_length (by omega), List.take_append_of_le_length (by simp), List.take_of_length_le (by simp)]
  obtain ⟨y, hy⟩ : ∃ y, ps.drop (ps.length - 1) = [y] := by
    refine ⟨ps[ps.length - 1]'(by omega), ?_⟩
    rw [List.drop_eq_getElem_cons (by omega), List.drop_of_length_le (by omega)]
  have e3 : (padL ps).drop (i + (ps.length - (i + 1))) = y :: List.replicate (16 - ps.length) (0, 0) := by
    unfold padL
    rw [show i + (ps.length - (i + 1)) = ps.length - 1 by omega, List.drop_append_of_le_length (by omega), hy]
    rfl
  have hle : (ps.take i ++ ps.drop (i + 1)).length = ps.length - 1 := by simp; omega
  rw [e1, e2, e3, List.set_append_right _ _ (by omega), hle, Nat.sub_self, List.eraseIdx_eq_take_drop_succ]
  unfold padL
  rw [hle, show 16 - (ps.length - 1) = (16 - ps.length) + 1 by omega]
  rfl

section
variable {H : Type} [Heap H]
attribute [local irreducible] wpG wpOG wpTG stepG CallsG cfunc bfunc tmOf upd

set_option maxRecDepth 20000 in
set_option maxHeartbeats 4000000 in
/-- spec.Without -/
theorem k37 (h : H) {ps : List (Int × Int)} (hl : ps.length ≤ 16) (key : Int) :
    Fresh h → CallsTo tt 37 #[.agg (stP ps), .int .u64 key] h fun v h1 => v = .agg (stP (withoutL ps key)) ∧ Same h h1 := by
  refine toCall c37 (by simp [b37]) fun hf => ?_
  have hsz := stP_size hl
  have hex := stP_extract hl
  have h0 : (stP ps)[0]? = some (.int .i64 (ps.length : Int)) := stA_0 _ _
  have z0 := stP_size (ps := []) (by simp)
  have zx := stP_extract (ps := []) (by simp)
  have hone := stP_one (ps := ps)
  have zf : setAll (stP []) 0 (stP ps).toList = stP ps := setAll_full (by rw [hsz, z0])
  have zz := stP_nil.symm
  simp (maxSteps := 4000000) (disch := first | decide | omega | rfl) only [b37, hsz, hex, zz, ↓sa0, ↓sa1, sb0, sb1, sb2, sb3, sb4, sb5, guardIs, fillV, cellsN, setAll, loadC, loadCs, aresL, ares1, tupV, one, binV, unV, eqV, eqH, allEq, leafEq, shapeL, LK.is, ↓reduceIte, reduceCtorEq, Nat.reduceAdd, Nat.reduceSub, Nat.reduceMul, Nat.reduceLT, Nat.reduceLeDiff, Nat.reduceEqDiff, bne, dynB, heapsB, wanted, AOp.eff, AOp.makes, Int.reduceEq, Int.reduceLT, Int.reduceLE, Int.reduceBEq, Int.reduceBNe, boundV, natV_cast]
  refine CallsG.of (k72 _ hl key) fun v h1 hf0 ⟨hv, s1⟩ hf1 n1 => ?_
  subst hv
  simp (maxSteps := 4000000) (disch := first | decide | omega | rfl) only [Same, ↓sa0, ↓sa1, sb0, sb1, sb2, sb3, sb4, sb5, guardIs, fillV, cellsN, setAll, loadC, loadCs, aresL, ares1, tupV, one, binV, unV, eqV, eqH, allEq, leafEq, shapeL, LK.is, ↓reduceIte, reduceCtorEq, Nat.reduceAdd, Nat.reduceSub, Nat.reduceMul, Nat.reduceLT, Nat.reduceLeDiff, Nat.reduceEqDiff, bne, dynB, heapsB, wanted, AOp.eff, AOp.makes, Int.reduceEq, Int.reduceLT, Int.reduceLE, Int.reduceBEq, Int.reduceBNe, boundV, natV_cast] at n1 s1
  unfold withoutL
  cases hc : hasK ps key
  · simp (maxSteps := 4000000) (disch := first | decide | omega | rfl) only [hc, s1, hsz, hex, hone, z0, zf, ↓sa0, ↓sa1, sb0, sb1, sb2, sb3, sb4, sb5, guardIs, fillV, cellsN, setAll, loadC, loadCs, aresL, ares1, tupV, one, binV, unV, eqV, eqH, allEq, leafEq, shapeL, LK.is, ↓reduceIte, reduceCtorEq, Nat.reduceAdd, Nat.reduceSub, Nat.reduceMul, Nat.reduceLT, Nat.reduceLeDiff, Nat.reduceEqDiff, bne, dynB, heapsB, wanted, AOp.eff, AOp.makes, Int.reduceEq, Int.reduceLT, Int.reduceLE, Int.reduceBEq, Int.reduceBNe, boundV, natV_cast]
    exact fun b hb => by simp (maxSteps := 4000000) (disch := first | decide | omega | rfl) only [s1, ↓sa0, ↓sa1, sb0, sb1, sb2, sb3, sb4, sb5, guardIs, fillV, cellsN, setAll, loadC, loadCs, aresL, ares1, tupV, one, binV, unV, eqV, eqH, allEq, leafEq, shapeL, LK.is, ↓reduceIte, reduceCtorEq, Nat.reduceAdd, Nat.reduceSub, Nat.reduceMul, Nat.reduceLT, Nat.reduceLeDiff, Nat.reduceEqDiff, bne, dynB, heapsB, wanted, AOp.eff, AOp.makes, Int.reduceEq, Int.reduceLT, Int.reduceLE, Int.reduceBEq, Int.reduceBNe, boundV, natV_cast]
  · have hlt := hasK_lt hc
    have k16 : ixOf ps key < 16 := by omega
    have w1 := wrap_next (show ixOf ps key < 1000000000 by omega)
    have w3 : IntKind.i64.wrap ((ps.length : Int) - 1) = ((ps.length - 1 : Nat) : Int) := by rw [wrap_i64 (by omega) (by omega)]; omega
    have c1 : ixOf ps key + 1 ≤ ps.length := by omega
    have c0 : ixOf ps key ≤ 16 := by omega
    have c3 : 1 + 16 * 2 ≤ 33 := by omega
    have cne : (16 = ixOf ps key) = False := by simp; omega
    simp (maxSteps := 4000000) (disch := first | decide | omega | rfl) only [↓g_copy2, hc, s1, hsz, h0, w1, c1, c0, c3, cne, hl, Nat.le_refl, ↓sa0, ↓sa1, sb0, sb1, sb2, sb3, sb4, sb5, guardIs, fillV, cellsN, setAll, loadC, loadCs, aresL, ares1, tupV, one, binV, unV, eqV, eqH, allEq, leafEq, shapeL, LK.is, ↓reduceIte, reduceCtorEq, Nat.reduceAdd, Nat.reduceSub, Nat.reduceMul, Nat.reduceLT, Nat.reduceLeDiff, Nat.reduceEqDiff, bne, dynB, heapsB, wanted, AOp.eff, AOp.makes, Int.reduceEq, Int.reduceLT, Int.reduceLE, Int.reduceBEq, Int.reduceBNe, boundV, natV_cast]
    refine copyK_of (b := next h) (o1 := 1 + (ixOf ps key + 1) * 2) (o2 := 1 + ixOf ps key * 2) (A := stP ps) (fun q => by rw [if_neg (by omega)]) (fun q => rfl) (by simp) (by omega) (by simp (maxSteps := 4000000) (disch := first | decide | omega | rfl) only [s1, ↓sa0, ↓sa1, sb0, sb1, sb2, sb3, sb4, sb5, guardIs, fillV, cellsN, setAll, loadC, loadCs, aresL, ares1, tupV, one, binV, unV, eqV, eqH, allEq, leafEq, shapeL, LK.is, ↓reduceIte, reduceCtorEq, Nat.reduceAdd, Nat.reduceSub, Nat.reduceMul, Nat.reduceLT, Nat.reduceLeDiff, Nat.reduceEqDiff, bne, dynB, heapsB, wanted, AOp.eff, AOp.makes, Int.reduceEq, Int.reduceLT, Int.reduceLE, Int.reduceBEq, Int.reduceBNe, boundV, natV_cast]) (fun q => by omega) (fun q => by omega) hone fun h2 n2 g2 f2 => ?_
    have hA : (if ps.length - (ixOf ps key + 1) = 0 then stP ps else setAll (stP ps) (1 + ixOf ps key * 2) ((stP ps).extract (1 + (ixOf ps key + 1) * 2) (1 + (ixOf ps key + 1) * 2 + (ps.length - (ixOf ps key + 1)) * 2)).toList) =
        stA ps.length ((padL ps).take (ixOf ps key) ++ ((padL ps).drop (ixOf ps key + 1)).take (ps.length - (ixOf ps key + 1)) ++ (padL ps).drop (ixOf ps key + (ps.length - (ixOf ps key + 1)))) := by
      have hp := padL_len hl
      by_cases q : ps.length - (ixOf ps key + 1) = 0
      · rw [if_pos q, q]
        simp [stP]
      · rw [if_neg q]
        unfold stP
        rw [stA_cut]
        have hm : (((padL ps).drop (ixOf ps key + 1)).take (ps.length - (ixOf ps key + 1))).length = ps.length - (ixOf ps key + 1) := by simp [hp]; omega
        have := stA_lay ps.length (qs := padL ps) (xs := ((padL ps).drop (ixOf ps key + 1)).take (ps.length - (ixOf ps key + 1))) (i := ixOf ps key) (by rw [hm, hp]; omega)
        rw [hm] at this
        exact this
    rw [hA] at g2
    have hdel := padL_del hlt hl
    generalize hqs : (padL ps).take (ixOf ps key) ++ ((padL ps).drop (ixOf ps key + 1)).take (ps.length - (ixOf ps key + 1)) ++ (padL ps).drop (ixOf ps key + (ps.length - (ixOf ps key + 1))) = qs at g2 hdel
    have hel : (ps.eraseIdx (ixOf ps key)).length = ps.length - 1 := by rw [List.length_eraseIdx, if_pos hlt]
    have hl2 : (ps.eraseIdx (ixOf ps key)).length ≤ 16 := by omega
    have hql : qs.length = 16 := by
      have e1 : (qs.set (ps.length - 1) (0, 0)).length = qs.length := List.length_set
      rw [← e1, hdel]
      exact padL_len hl2
    have hsq : (stA ps.length qs).size = 33 := by rw [stA_size, hql]
    have hq0 : (stA ps.length qs)[0]? = some (.int .i64 (ps.length : Int)) := rfl
    have hqn := stA_n ps.length (ps.length - 1) qs
    have hsq1 : (stA (ps.length - 1) qs).size = 33 := by rw [stA_size, hql]
    have hq1 : (stA (ps.length - 1) qs)[0]? = some (.int .i64 ((ps.length - 1 : Nat) : Int)) := rfl
    have hset := stA_set (ps.length - 1) 0 0 (qs := qs) (i := ps.length - 1) (by omega)
    have hfin : stA (ps.length - 1) (qs.set (ps.length - 1) (0, 0)) = stP (ps.eraseIdx (ixOf ps key)) := by
      rw [hdel]
      unfold stP
      rw [hel]
    rw [hfin] at hset
    have hsz2 := stP_size hl2
    have hex2 := stP_extract hl2
    have hone2 := stP_one (ps := ps.eraseIdx (ixOf ps key))
    have zf2 : setAll (stP []) 0 (stP (ps.eraseIdx (ixOf ps key))).toList = stP (ps.eraseIdx (ixOf ps key)) := setAll_full (by rw [hsz2, z0])
    have n16 : ps.length - 1 < 16 := by omega
    have hle : 1 + (ps.length - 1) * 2 + 2 ≤ 33 := by omega
    simp (maxSteps := 4000000) (disch := first | decide | omega | rfl) only [↓sa0, ↓sa1, sb0, sb1, sb2, sb3, sb4, sb5, guardIs, fillV, cellsN, setAll, loadC, loadCs, aresL, ares1, tupV, one, binV, unV, eqV, eqH, allEq, leafEq, shapeL, LK.is, ↓reduceIte, reduceCtorEq, Nat.reduceAdd, Nat.reduceSub, Nat.reduceMul, Nat.reduceLT, Nat.reduceLeDiff, Nat.reduceEqDiff, bne, dynB, heapsB, wanted, AOp.eff, AOp.makes, Int.reduceEq, Int.reduceLT, Int.reduceLE, Int.reduceBEq, Int.reduceBNe, boundV, natV_cast] at n2
    have s2 : ∀ b, b ≠ next h → get h2 b = get h1 b := fun b hb => by rw [f2 b hb]; simp (maxSteps := 4000000) (disch := first | decide | omega | rfl) only [↓sa0, ↓sa1, sb0, sb1, sb2, sb3, sb4, sb5, guardIs, fillV, cellsN, setAll, loadC, loadCs, aresL, ares1, tupV, one, binV, unV, eqV, eqH, allEq, leafEq, shapeL, LK.is, ↓reduceIte, reduceCtorEq, Nat.reduceAdd, Nat.reduceSub, Nat.reduceMul, Nat.reduceLT, Nat.reduceLeDiff, Nat.reduceEqDiff, bne, dynB, heapsB, wanted, AOp.eff, AOp.makes, Int.reduceEq, Int.reduceLT, Int.reduceLE, Int.reduceBEq, Int.reduceBNe, boundV, natV_cast]
    clear f2
    simp (maxSteps := 4000000) (disch := first | decide | omega | rfl) only [g2, s2, s1, w3, hsq, hq0, hqn, hsq1, hq1, n16, hle, hset, hsz2, hex2, hone2, z0, zf2, ↓sa0, ↓sa1, sb0, sb1, sb2, sb3, sb4, sb5, guardIs, fillV, cellsN, setAll, loadC, loadCs, aresL, ares1, tupV, one, binV, unV, eqV, eqH, allEq, leafEq, shapeL, LK.is, ↓reduceIte, reduceCtorEq, Nat.reduceAdd, Nat.reduceSub, Nat.reduceMul, Nat.reduceLT, Nat.reduceLeDiff, Nat.reduceEqDiff, bne, dynB, heapsB, wanted, AOp.eff, AOp.makes, Int.reduceEq, Int.reduceLT, Int.reduceLE, Int.reduceBEq, Int.reduceBNe, boundV, natV_cast]
    exact fun b hb => by simp (maxSteps := 4000000) (disch := first | decide | omega | rfl) only [s2, s1, ↓sa0, ↓sa1, sb0, sb1, sb2, sb3, sb4, sb5, guardIs, fillV, cellsN, setAll, loadC, loadCs, aresL, ares1, tupV, one, binV, unV, eqV, eqH, allEq, leafEq, shapeL, LK.is, ↓reduceIte, reduceCtorEq, Nat.reduceAdd, Nat.reduceSub, Nat.reduceMul, Nat.reduceLT, Nat.reduceLeDiff, Nat.reduceEqDiff, bne, dynB, heapsB, wanted, AOp.eff, AOp.makes, Int.reduceEq, Int.reduceLT, Int.reduceLE, Int.reduceBEq, Int.reduceBNe, boundV, natV_cast]
end
end Go.Proofs.Ytleoicjpcdmfkaa
