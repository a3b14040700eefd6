/-
  The layer 'spec': a state of pairs.
-/
import Derived.Test.YtleoicjpcdmfkaaLa24
set_option linter.unusedSimpArgs false
set_option linter.unusedVariables false
namespace Go.Proofs.Ytleoicjpcdmfkaa
open Go Ab
open Heap (get put next skip)

/-- A map whose keys are these. -/
def uK (p : Int × Int) : Value × Value := (.int .u64 p.1, .int .i64 p.2)
def MapK (B : Option Blk) (keys : List Int) : Prop := ∃ es : List (Int × Int), B = some (.map (es.map uK)) ∧ ∀ k, k ∈ es.map (·.1) ↔ k ∈ keys

theorem MapK.empty : MapK (some (.map [])) [] := ⟨[], rfl, fun _ => Iff.rfl⟩

theorem keyEqU (a b : Int) : keyEq (.int .u64 a) (.int .u64 b) = some (decide (a = b)) := by
  simp only [keyEq, leafEq, if_true, Option.some.injEq]
  rw [Bool.eq_iff_iff]
  simp

theorem findU (k : Int) : ∀ es : List (Int × Int), ∃ o, findM (.int .u64 k) (es.map uK) = some o ∧ (match o with | some v => (∃ i, v = .int .i64 i) ∧ k ∈ es.map (·.1) | none => k ∉ es.map (·.1))
  | [] => ⟨none, rfl, by simp⟩
  | (x, v) :: r => by
    simp only [List.map_cons, findM, uK, keyEqU]
    by_cases q : x = k
    · subst q
      simp only [decide_true]
      exact ⟨_, rfl, ⟨_, rfl⟩, by simp⟩
    · have e : decide (k = x) = false := by simp; exact fun r => q r.symm
      have e' : decide (x = k) = false := by simp [q]
      obtain ⟨o, h1, h2⟩ := findU k r
      first
        | (simp only [e']; refine ⟨o, h1, ?_⟩)
        | (simp only [e]; refine ⟨o, h1, ?_⟩)
      cases o with
      | some v => exact ⟨h2.1, by simp only [List.mem_cons]; exact .inr h2.2⟩
      | none => simp only [List.mem_cons, not_or]; exact ⟨fun r => q r.symm, h2⟩

theorem setU (k v : Int) : ∀ es : List (Int × Int), ∃ es' : List (Int × Int), setM (.int .u64 k) (.int .i64 v) (es.map uK) = some (es'.map uK) ∧ ∀ x, x ∈ es'.map (·.1) ↔ x ∈ es.map (·.1) ∨ x = k
  | [] => ⟨[(k, v)], rfl, by simp⟩
  | (x, u) :: r => by
    simp only [List.map_cons, setM, uK, keyEqU]
    by_cases q : x = k
    · subst q
      simp only [decide_true]
      refine ⟨(x, v) :: r, rfl, fun y => ?_⟩
      simp only [List.map_cons, List.mem_cons]
      constructor
      · exact fun h => .inl h
      · rintro (h | h)
        · exact h
        · exact .inl h
    · have e : decide (k = x) = false := by simp; exact fun r => q r.symm
      have e' : decide (x = k) = false := by simp [q]
      obtain ⟨es', h1, h2⟩ := setU k v r
      refine ⟨(x, u) :: es', ?_, fun y => ?_⟩
      · first
          | (simp only [e']; change Option.map _ (setM (.int .u64 k) (.int .i64 v) (r.map uK)) = _; rw [h1]; rfl)
          | (simp only [e]; change Option.map _ (setM (.int .u64 k) (.int .i64 v) (r.map uK)) = _; rw [h1]; rfl)
      · simp only [List.map_cons, List.mem_cons, h2]
        constructor
        · rintro (h | h | h)
          · exact .inl (.inl h)
          · exact .inl (.inr h)
          · exact .inr h
        · rintro ((h | h) | h)
          · exact .inl h
          · exact .inr (.inl h)
          · exact .inr (.inr h)

theorem lookU {B : Option Blk} {keys : List Int} (hm : MapK B keys) (k : Int) : ∃ i, lookB (.leaf .int) (.int .i64 0) true (.int .u64 k) B = some (.tuple #[.int .i64 i, .bool (decide (k ∈ keys))]) := by
  obtain ⟨es, rfl, hf⟩ := hm
  obtain ⟨o, h1, h2⟩ := findU k es
  unfold lookB
  simp only [KeyK.is, LK.is, if_true, h1]
  cases o with
  | none =>
    simp only at h2 ⊢
    rw [hf] at h2
    exact ⟨0, by simp [h2]⟩
  | some v =>
    obtain ⟨⟨i, rfl⟩, h2⟩ := h2
    rw [hf] at h2
    exact ⟨i, by simp [h2]⟩

theorem putU {B : Option Blk} {keys : List Int} (hm : MapK B keys) (k v : Int) : ∃ B', setB (.leaf .int) (.int .u64 k) (.int .i64 v) B = some B' ∧ MapK (some B') (keys ++ [k]) := by
  obtain ⟨es, rfl, hf⟩ := hm
  obtain ⟨es', h1, h2⟩ := setU k v es
  refine ⟨.map (es'.map uK), ?_, es', rfl, fun x => ?_⟩
  · unfold setB
    simp only [KeyK.is, LK.is, if_true, h1, Option.map_some]
  · rw [h2, hf]
    simp

/-- One pair after the other. -/
def accS : Option (List (Int × Int)) → List (Int × Int) → Option (List (Int × Int))
  | o, [] => o
  | none, _ :: _ => none
  | some ps, (k, v) :: r => accS (withS ps k v) r

theorem accS_none : ∀ xs, accS none xs = none
  | [] => rfl
  | _ :: _ => rfl

theorem accS_push (o : Option (List (Int × Int))) (xs : List (Int × Int)) (k v : Int) : accS o (xs ++ [(k, v)]) = (accS o xs).bind fun ps => withS ps k v := by
  induction xs generalizing o with
  | nil => cases o <;> rfl
  | cons x xs ih =>
    cases o with
    | none => rw [List.cons_append, accS_none, accS_none]; rfl
    | some ps => exact ih _

theorem accS_len {o : Option (List (Int × Int))} {xs ps' : List (Int × Int)} (h : accS o xs = some ps') (ho : ∀ ps, o = some ps → ps.length ≤ 16) : ps'.length ≤ 16 := by
  induction xs generalizing o with
  | nil => exact ho ps' h
  | cons x xs ih =>
    cases o with
    | none => rw [accS_none] at h; cases h
    | some ps => exact ih h fun qs hq => withS_len (ho ps rfl) hq

def newV (xs : List (Int × Int)) : Value := if (xs.map (·.1)).Nodup then resV (accS (some []) xs) else .tuple #[.agg (stP []), .int .i64 1]

section
variable {H : Type} [Heap H]
attribute [local irreducible] wpG wpOG wpTG stepG CallsG cfunc bfunc tmOf upd

def NewI (h0 : H) (v : Value) (a nn : Nat) (xs : List (Int × Int)) (m : Nat) (e : Env) (h : H) : Prop :=
  ∃ (k mp s b2 : Nat), m = nn - k ∧ k ≤ nn ∧ e 12 = v ∧ e 13 = .int .i64 (nn : Int) ∧ e 14 = .int .i64 (k : Int) ∧ e 2 = .pointer (some ⟨b2, 0, none⟩) ∧ e 4 = .pointer (some ⟨s, 0, none⟩) ∧ e 6 = .map (some mp) ∧
    next h0 ≤ b2 ∧ b2 < s ∧ s < mp ∧ mp < next h ∧ (∀ b, b < next h0 → get h b = get h0 b) ∧ get h b2 = some (.cells (stP []) .rw) ∧ MapK (get h mp) ((xs.take k).map (·.1)) ∧ ((xs.take k).map (·.1)).Nodup ∧
    (match accS (some []) (xs.take k) with
      | some ps => e 5 = .int .i64 0 ∧ get h s = some (.cells (stP ps) .rw)
      | none => e 5 = .int .i64 6 ∧ get h s = some (.cells (stP []) .rw))

theorem nodup_push {l : List Int} {x : Int} (h : l.Nodup) (hx : x ∉ l) : (l ++ [x]).Nodup := by
  rw [List.nodup_append]
  exact ⟨h, by simp, fun a ha b hb => by simp at hb; subst hb; exact fun q => hx (q ▸ ha)⟩

theorem not_nodup {xs : List (Int × Int)} {k : Nat} {x : Int × Int} (hx : xs[k]? = some x) (hm : x.1 ∈ (xs.take k).map (·.1)) : ¬ (xs.map (·.1)).Nodup := by
  intro h
  have h1 : xs.map (·.1) = (xs.take k).map (·.1) ++ (xs.drop k).map (·.1) := by rw [← List.map_append, List.take_append_drop]
  rw [h1, List.nodup_append] at h
  have h2 : x.1 ∈ (xs.drop k).map (·.1) := by
    refine List.mem_map_of_mem ?_
    refine List.mem_of_getElem? (i := 0) ?_
    rw [List.getElem?_drop]
    exact hx
  exact h.2.2 _ hm _ h2 rfl

set_option maxRecDepth 20000 in
set_option maxHeartbeats 8000000 in
/-- spec.New -/
theorem k35 (h : H) (v : Value) (a : Nat) (xs : List (Int × Int)) (hS : SlAt h v a 2 xs.length (fun i => (p2r (xs.getD i (0, 0))).toArray)) (ha : a < next h) (hlen : xs.length < 9223372036854775808) :
    Fresh h → CallsTo tt 35 #[v] h fun v h1 => v = newV xs ∧ Same h h1 := by
  refine toCall c35 (by simp [b35]) fun hf => ?_
  obtain ⟨base, cap, rfl, _, _, hbs⟩ := hS
  have z0 := stP_size (ps := []) (by simp)
  have zx := stP_extract (ps := []) (by simp)
  have zone := stP_one (ps := [])
  have zf0 : setAll (stP []) 0 (stP []).toList = stP [] := setAll_full rfl
  have zz := stP_nil.symm
  simp (maxSteps := 4000000) (disch := first | decide | omega | rfl) only [b35, zz, ↓sa0, ↓sa1, sb0, sb1, sb2, sb3, sb4, sb5, guardIs, fillV, cellsN, setAll, loadC, loadCs, aresL, ares1, tupV, one, binV, unV, eqV, eqH, allEq, leafEq, shapeL, LK.is, ↓reduceIte, reduceCtorEq, Nat.reduceAdd, Nat.reduceSub, Nat.reduceMul, Nat.reduceLT, Nat.reduceLeDiff, Nat.reduceEqDiff, bne, dynB, heapsB, wanted, AOp.eff, AOp.makes, Int.reduceEq, Int.reduceLT, Int.reduceLE, Int.reduceBEq, Int.reduceBNe, boundV, natV_cast]
  refine g_loop (NewI h (.slice base xs.length cap) a xs.length xs) xs.length ?_ fun m e h7 hf7 hI => ?_
  · refine ⟨0, next h + 4, next h + 2, next h, by omega, by omega, by simp (maxSteps := 4000000) (disch := first | decide | omega | rfl) only [↓sa0, ↓sa1, sb0, sb1, sb2, sb3, sb4, sb5, guardIs, fillV, cellsN, setAll, loadC, loadCs, aresL, ares1, tupV, one, binV, unV, eqV, eqH, allEq, leafEq, shapeL, LK.is, ↓reduceIte, reduceCtorEq, Nat.reduceAdd, Nat.reduceSub, Nat.reduceMul, Nat.reduceLT, Nat.reduceLeDiff, Nat.reduceEqDiff, bne, dynB, heapsB, wanted, AOp.eff, AOp.makes, Int.reduceEq, Int.reduceLT, Int.reduceLE, Int.reduceBEq, Int.reduceBNe, boundV, natV_cast], by simp (maxSteps := 4000000) (disch := first | decide | omega | rfl) only [↓sa0, ↓sa1, sb0, sb1, sb2, sb3, sb4, sb5, guardIs, fillV, cellsN, setAll, loadC, loadCs, aresL, ares1, tupV, one, binV, unV, eqV, eqH, allEq, leafEq, shapeL, LK.is, ↓reduceIte, reduceCtorEq, Nat.reduceAdd, Nat.reduceSub, Nat.reduceMul, Nat.reduceLT, Nat.reduceLeDiff, Nat.reduceEqDiff, bne, dynB, heapsB, wanted, AOp.eff, AOp.makes, Int.reduceEq, Int.reduceLT, Int.reduceLE, Int.reduceBEq, Int.reduceBNe, boundV, natV_cast], by simp (maxSteps := 4000000) (disch := first | decide | omega | rfl) only [↓sa0, ↓sa1, sb0, sb1, sb2, sb3, sb4, sb5, guardIs, fillV, cellsN, setAll, loadC, loadCs, aresL, ares1, tupV, one, binV, unV, eqV, eqH, allEq, leafEq, shapeL, LK.is, ↓reduceIte, reduceCtorEq, Nat.reduceAdd, Nat.reduceSub, Nat.reduceMul, Nat.reduceLT, Nat.reduceLeDiff, Nat.reduceEqDiff, bne, dynB, heapsB, wanted, AOp.eff, AOp.makes, Int.reduceEq, Int.reduceLT, Int.reduceLE, Int.reduceBEq, Int.reduceBNe, boundV, natV_cast]; rfl, by simp (maxSteps := 4000000) (disch := first | decide | omega | rfl) only [↓sa0, ↓sa1, sb0, sb1, sb2, sb3, sb4, sb5, guardIs, fillV, cellsN, setAll, loadC, loadCs, aresL, ares1, tupV, one, binV, unV, eqV, eqH, allEq, leafEq, shapeL, LK.is, ↓reduceIte, reduceCtorEq, Nat.reduceAdd, Nat.reduceSub, Nat.reduceMul, Nat.reduceLT, Nat.reduceLeDiff, Nat.reduceEqDiff, bne, dynB, heapsB, wanted, AOp.eff, AOp.makes, Int.reduceEq, Int.reduceLT, Int.reduceLE, Int.reduceBEq, Int.reduceBNe, boundV, natV_cast], by simp (maxSteps := 4000000) (disch := first | decide | omega | rfl) only [↓sa0, ↓sa1, sb0, sb1, sb2, sb3, sb4, sb5, guardIs, fillV, cellsN, setAll, loadC, loadCs, aresL, ares1, tupV, one, binV, unV, eqV, eqH, allEq, leafEq, shapeL, LK.is, ↓reduceIte, reduceCtorEq, Nat.reduceAdd, Nat.reduceSub, Nat.reduceMul, Nat.reduceLT, Nat.reduceLeDiff, Nat.reduceEqDiff, bne, dynB, heapsB, wanted, AOp.eff, AOp.makes, Int.reduceEq, Int.reduceLT, Int.reduceLE, Int.reduceBEq, Int.reduceBNe, boundV, natV_cast], by simp (maxSteps := 4000000) (disch := first | decide | omega | rfl) only [↓sa0, ↓sa1, sb0, sb1, sb2, sb3, sb4, sb5, guardIs, fillV, cellsN, setAll, loadC, loadCs, aresL, ares1, tupV, one, binV, unV, eqV, eqH, allEq, leafEq, shapeL, LK.is, ↓reduceIte, reduceCtorEq, Nat.reduceAdd, Nat.reduceSub, Nat.reduceMul, Nat.reduceLT, Nat.reduceLeDiff, Nat.reduceEqDiff, bne, dynB, heapsB, wanted, AOp.eff, AOp.makes, Int.reduceEq, Int.reduceLT, Int.reduceLE, Int.reduceBEq, Int.reduceBNe, boundV, natV_cast], by omega, by omega, by omega, (by first | omega | (simp (maxSteps := 4000000) (disch := first | decide | omega | rfl) only [↓sa0, ↓sa1, sb0, sb1, sb2, sb3, sb4, sb5, guardIs, fillV, cellsN, setAll, loadC, loadCs, aresL, ares1, tupV, one, binV, unV, eqV, eqH, allEq, leafEq, shapeL, LK.is, ↓reduceIte, reduceCtorEq, Nat.reduceAdd, Nat.reduceSub, Nat.reduceMul, Nat.reduceLT, Nat.reduceLeDiff, Nat.reduceEqDiff, bne, dynB, heapsB, wanted, AOp.eff, AOp.makes, Int.reduceEq, Int.reduceLT, Int.reduceLE, Int.reduceBEq, Int.reduceBNe, boundV, natV_cast]; done) | (simp (maxSteps := 4000000) (disch := first | decide | omega | rfl) only [↓sa0, ↓sa1, sb0, sb1, sb2, sb3, sb4, sb5, guardIs, fillV, cellsN, setAll, loadC, loadCs, aresL, ares1, tupV, one, binV, unV, eqV, eqH, allEq, leafEq, shapeL, LK.is, ↓reduceIte, reduceCtorEq, Nat.reduceAdd, Nat.reduceSub, Nat.reduceMul, Nat.reduceLT, Nat.reduceLeDiff, Nat.reduceEqDiff, bne, dynB, heapsB, wanted, AOp.eff, AOp.makes, Int.reduceEq, Int.reduceLT, Int.reduceLE, Int.reduceBEq, Int.reduceBNe, boundV, natV_cast]; omega)), fun b hb => by simp (maxSteps := 4000000) (disch := first | decide | omega | rfl) only [↓sa0, ↓sa1, sb0, sb1, sb2, sb3, sb4, sb5, guardIs, fillV, cellsN, setAll, loadC, loadCs, aresL, ares1, tupV, one, binV, unV, eqV, eqH, allEq, leafEq, shapeL, LK.is, ↓reduceIte, reduceCtorEq, Nat.reduceAdd, Nat.reduceSub, Nat.reduceMul, Nat.reduceLT, Nat.reduceLeDiff, Nat.reduceEqDiff, bne, dynB, heapsB, wanted, AOp.eff, AOp.makes, Int.reduceEq, Int.reduceLT, Int.reduceLE, Int.reduceBEq, Int.reduceBNe, boundV, natV_cast], by simp (maxSteps := 4000000) (disch := first | decide | omega | rfl) only [↓sa0, ↓sa1, sb0, sb1, sb2, sb3, sb4, sb5, guardIs, fillV, cellsN, setAll, loadC, loadCs, aresL, ares1, tupV, one, binV, unV, eqV, eqH, allEq, leafEq, shapeL, LK.is, ↓reduceIte, reduceCtorEq, Nat.reduceAdd, Nat.reduceSub, Nat.reduceMul, Nat.reduceLT, Nat.reduceLeDiff, Nat.reduceEqDiff, bne, dynB, heapsB, wanted, AOp.eff, AOp.makes, Int.reduceEq, Int.reduceLT, Int.reduceLE, Int.reduceBEq, Int.reduceBNe, boundV, natV_cast], ?_, by simp, ?_⟩
    · simp (maxSteps := 4000000) (disch := first | decide | omega | rfl) only [↓sa0, ↓sa1, sb0, sb1, sb2, sb3, sb4, sb5, guardIs, fillV, cellsN, setAll, loadC, loadCs, aresL, ares1, tupV, one, binV, unV, eqV, eqH, allEq, leafEq, shapeL, LK.is, ↓reduceIte, reduceCtorEq, Nat.reduceAdd, Nat.reduceSub, Nat.reduceMul, Nat.reduceLT, Nat.reduceLeDiff, Nat.reduceEqDiff, bne, dynB, heapsB, wanted, AOp.eff, AOp.makes, Int.reduceEq, Int.reduceLT, Int.reduceLE, Int.reduceBEq, Int.reduceBNe, boundV, natV_cast]
      exact MapK.empty
    · show _ ∧ _
      exact ⟨by simp (maxSteps := 4000000) (disch := first | decide | omega | rfl) only [↓sa0, ↓sa1, sb0, sb1, sb2, sb3, sb4, sb5, guardIs, fillV, cellsN, setAll, loadC, loadCs, aresL, ares1, tupV, one, binV, unV, eqV, eqH, allEq, leafEq, shapeL, LK.is, ↓reduceIte, reduceCtorEq, Nat.reduceAdd, Nat.reduceSub, Nat.reduceMul, Nat.reduceLT, Nat.reduceLeDiff, Nat.reduceEqDiff, bne, dynB, heapsB, wanted, AOp.eff, AOp.makes, Int.reduceEq, Int.reduceLT, Int.reduceLE, Int.reduceBEq, Int.reduceBNe, boundV, natV_cast], by simp (maxSteps := 4000000) (disch := first | decide | omega | rfl) only [↓sa0, ↓sa1, sb0, sb1, sb2, sb3, sb4, sb5, guardIs, fillV, cellsN, setAll, loadC, loadCs, aresL, ares1, tupV, one, binV, unV, eqV, eqH, allEq, leafEq, shapeL, LK.is, ↓reduceIte, reduceCtorEq, Nat.reduceAdd, Nat.reduceSub, Nat.reduceMul, Nat.reduceLT, Nat.reduceLeDiff, Nat.reduceEqDiff, bne, dynB, heapsB, wanted, AOp.eff, AOp.makes, Int.reduceEq, Int.reduceLT, Int.reduceLE, Int.reduceBEq, Int.reduceBNe, boundV, natV_cast]⟩
  obtain ⟨k, mp, s, b2, hm, hk, e12, e13, e14, e2, e4, e6, l1, l2, l3, l4, hs, gb2, hmap, hnd, hacc⟩ := hI
  rcases (by omega : k = xs.length ∨ k < xs.length) with c | c
  · have d1 : decide ((k : Int) < (xs.length : Int)) = false := by simp; omega
    have htk : xs.take k = xs := by rw [c]; simp
    rw [htk] at hacc hnd
    unfold newV
    rw [if_pos hnd]
    clear hbs
    cases hx : accS (some []) xs with
    | none =>
      rw [hx] at hacc
      obtain ⟨e5, gs⟩ := hacc
      simp (maxSteps := 4000000) (disch := first | decide | omega | rfl) only [e12, e13, e14, e2, e4, e5, e6, d1, zz, z0, zone, zf0, zx, gb2, resV, ↓sa0, ↓sa1, sb0, sb1, sb2, sb3, sb4, sb5, guardIs, fillV, cellsN, setAll, loadC, loadCs, aresL, ares1, tupV, one, binV, unV, eqV, eqH, allEq, leafEq, shapeL, LK.is, ↓reduceIte, reduceCtorEq, Nat.reduceAdd, Nat.reduceSub, Nat.reduceMul, Nat.reduceLT, Nat.reduceLeDiff, Nat.reduceEqDiff, bne, dynB, heapsB, wanted, AOp.eff, AOp.makes, Int.reduceEq, Int.reduceLT, Int.reduceLE, Int.reduceBEq, Int.reduceBNe, boundV, natV_cast]
      exact fun b hb => by simp (maxSteps := 4000000) (disch := first | decide | omega | rfl) only [hs, ↓sa0, ↓sa1, sb0, sb1, sb2, sb3, sb4, sb5, guardIs, fillV, cellsN, setAll, loadC, loadCs, aresL, ares1, tupV, one, binV, unV, eqV, eqH, allEq, leafEq, shapeL, LK.is, ↓reduceIte, reduceCtorEq, Nat.reduceAdd, Nat.reduceSub, Nat.reduceMul, Nat.reduceLT, Nat.reduceLeDiff, Nat.reduceEqDiff, bne, dynB, heapsB, wanted, AOp.eff, AOp.makes, Int.reduceEq, Int.reduceLT, Int.reduceLE, Int.reduceBEq, Int.reduceBNe, boundV, natV_cast]
    | some ps =>
      rw [hx] at hacc
      obtain ⟨e5, gs⟩ := hacc
      have hl := accS_len hx (fun ps hp => by cases hp; simp)
      have hsz := stP_size hl
      have hex := stP_extract hl
      have hone := stP_one (ps := ps)
      have zf : setAll (stP []) 0 (stP ps).toList = stP ps := setAll_full (by rw [hsz, z0])
      simp (maxSteps := 4000000) (disch := first | decide | omega | rfl) only [e12, e13, e14, e2, e4, e5, e6, d1, z0, hsz, hone, hex, zf, zx, gb2, gs, resV, ↓sa0, ↓sa1, sb0, sb1, sb2, sb3, sb4, sb5, guardIs, fillV, cellsN, setAll, loadC, loadCs, aresL, ares1, tupV, one, binV, unV, eqV, eqH, allEq, leafEq, shapeL, LK.is, ↓reduceIte, reduceCtorEq, Nat.reduceAdd, Nat.reduceSub, Nat.reduceMul, Nat.reduceLT, Nat.reduceLeDiff, Nat.reduceEqDiff, bne, dynB, heapsB, wanted, AOp.eff, AOp.makes, Int.reduceEq, Int.reduceLT, Int.reduceLE, Int.reduceBEq, Int.reduceBNe, boundV, natV_cast]
      exact fun b hb => by simp (maxSteps := 4000000) (disch := first | decide | omega | rfl) only [hs, ↓sa0, ↓sa1, sb0, sb1, sb2, sb3, sb4, sb5, guardIs, fillV, cellsN, setAll, loadC, loadCs, aresL, ares1, tupV, one, binV, unV, eqV, eqH, allEq, leafEq, shapeL, LK.is, ↓reduceIte, reduceCtorEq, Nat.reduceAdd, Nat.reduceSub, Nat.reduceMul, Nat.reduceLT, Nat.reduceLeDiff, Nat.reduceEqDiff, bne, dynB, heapsB, wanted, AOp.eff, AOp.makes, Int.reduceEq, Int.reduceLT, Int.reduceLE, Int.reduceBEq, Int.reduceBNe, boundV, natV_cast]
  · have d1 : decide ((k : Int) < (xs.length : Int)) = true := by simp; omega
    obtain ⟨⟨kx, vx⟩, hx⟩ : ∃ x, xs[k]? = some x := ⟨_, List.getElem?_eq_getElem c⟩
    have hb' := hbs (by omega)
    clear hbs
    obtain ⟨rfl, b1, cs, hcs, hsz, hex⟩ := hb'
    have hcs7 : get h7 a = some (.cells cs .ro) := by rw [hs a ha]; exact hcs
    have hex' : cs.extract (k * 2) (k * 2 + 2) = #[.int .u64 kx, .int .u64 vx] := by
      rw [hex k c]
      simp [p2r, List.getD, hx]
    have hle : k * 2 + 2 ≤ cs.size := by omega
    have hnext : IntKind.i64.wrap ((k : Int) + 1) = ((k + 1 : Nat) : Int) := by rw [wrap_i64 (by omega) (by omega)]; rfl
    obtain ⟨iv, hlook⟩ := lookU hmap kx
    have htk : xs.take (k + 1) = xs.take k ++ [(kx, vx)] := by rw [List.take_add_one, hx]; rfl
    by_cases hmem : kx ∈ (xs.take k).map (·.1)
    · have hd : decide (kx ∈ (xs.take k).map (·.1)) = true := decide_eq_true hmem
      rw [hd] at hlook
      unfold newV
      rw [if_neg (not_nodup hx hmem)]
      simp (maxSteps := 4000000) (disch := first | decide | omega | rfl) only [e12, e13, e14, e2, e4, e6, d1, c, hcs7, hle, hex', hlook, zz, z0, zone, zf0, zx, gb2, ↓sa0, ↓sa1, sb0, sb1, sb2, sb3, sb4, sb5, guardIs, fillV, cellsN, setAll, loadC, loadCs, aresL, ares1, tupV, one, binV, unV, eqV, eqH, allEq, leafEq, shapeL, LK.is, ↓reduceIte, reduceCtorEq, Nat.reduceAdd, Nat.reduceSub, Nat.reduceMul, Nat.reduceLT, Nat.reduceLeDiff, Nat.reduceEqDiff, bne, dynB, heapsB, wanted, AOp.eff, AOp.makes, Int.reduceEq, Int.reduceLT, Int.reduceLE, Int.reduceBEq, Int.reduceBNe, boundV, natV_cast]
      exact fun b hb => by simp (maxSteps := 4000000) (disch := first | decide | omega | rfl) only [hs, ↓sa0, ↓sa1, sb0, sb1, sb2, sb3, sb4, sb5, guardIs, fillV, cellsN, setAll, loadC, loadCs, aresL, ares1, tupV, one, binV, unV, eqV, eqH, allEq, leafEq, shapeL, LK.is, ↓reduceIte, reduceCtorEq, Nat.reduceAdd, Nat.reduceSub, Nat.reduceMul, Nat.reduceLT, Nat.reduceLeDiff, Nat.reduceEqDiff, bne, dynB, heapsB, wanted, AOp.eff, AOp.makes, Int.reduceEq, Int.reduceLT, Int.reduceLE, Int.reduceBEq, Int.reduceBNe, boundV, natV_cast]
    · have hd : decide (kx ∈ (xs.take k).map (·.1)) = false := decide_eq_false hmem
      rw [hd] at hlook
      obtain ⟨B', hput, hmap'⟩ := putU hmap kx (k : Int)
      have hmap2 : MapK (some B') ((xs.take (k + 1)).map (·.1)) := by rw [htk, List.map_append]; exact hmap'
      have hnd2 : ((xs.take (k + 1)).map (·.1)).Nodup := by rw [htk, List.map_append]; exact nodup_push hnd hmem
      have hpush := accS_push (some []) (xs.take k) kx vx
      rw [← htk] at hpush
      cases hx2 : accS (some []) (xs.take k) with
      | none =>
        rw [hx2] at hacc hpush
        obtain ⟨e5, gs⟩ := hacc
        simp (maxSteps := 4000000) (disch := first | decide | omega | rfl) only [e12, e13, e14, e2, e4, e5, e6, d1, c, hcs7, hle, hex', hlook, hput, hnext, ↓sa0, ↓sa1, sb0, sb1, sb2, sb3, sb4, sb5, guardIs, fillV, cellsN, setAll, loadC, loadCs, aresL, ares1, tupV, one, binV, unV, eqV, eqH, allEq, leafEq, shapeL, LK.is, ↓reduceIte, reduceCtorEq, Nat.reduceAdd, Nat.reduceSub, Nat.reduceMul, Nat.reduceLT, Nat.reduceLeDiff, Nat.reduceEqDiff, bne, dynB, heapsB, wanted, AOp.eff, AOp.makes, Int.reduceEq, Int.reduceLT, Int.reduceLE, Int.reduceBEq, Int.reduceBNe, boundV, natV_cast]
        refine ⟨xs.length - (k + 1), by omega, k + 1, mp, s, b2, rfl, by omega, by simp (maxSteps := 4000000) (disch := first | decide | omega | rfl) only [e12, ↓sa0, ↓sa1, sb0, sb1, sb2, sb3, sb4, sb5, guardIs, fillV, cellsN, setAll, loadC, loadCs, aresL, ares1, tupV, one, binV, unV, eqV, eqH, allEq, leafEq, shapeL, LK.is, ↓reduceIte, reduceCtorEq, Nat.reduceAdd, Nat.reduceSub, Nat.reduceMul, Nat.reduceLT, Nat.reduceLeDiff, Nat.reduceEqDiff, bne, dynB, heapsB, wanted, AOp.eff, AOp.makes, Int.reduceEq, Int.reduceLT, Int.reduceLE, Int.reduceBEq, Int.reduceBNe, boundV, natV_cast], by simp (maxSteps := 4000000) (disch := first | decide | omega | rfl) only [e13, ↓sa0, ↓sa1, sb0, sb1, sb2, sb3, sb4, sb5, guardIs, fillV, cellsN, setAll, loadC, loadCs, aresL, ares1, tupV, one, binV, unV, eqV, eqH, allEq, leafEq, shapeL, LK.is, ↓reduceIte, reduceCtorEq, Nat.reduceAdd, Nat.reduceSub, Nat.reduceMul, Nat.reduceLT, Nat.reduceLeDiff, Nat.reduceEqDiff, bne, dynB, heapsB, wanted, AOp.eff, AOp.makes, Int.reduceEq, Int.reduceLT, Int.reduceLE, Int.reduceBEq, Int.reduceBNe, boundV, natV_cast], by simp (maxSteps := 4000000) (disch := first | decide | omega | rfl) only [hnext, ↓sa0, ↓sa1, sb0, sb1, sb2, sb3, sb4, sb5, guardIs, fillV, cellsN, setAll, loadC, loadCs, aresL, ares1, tupV, one, binV, unV, eqV, eqH, allEq, leafEq, shapeL, LK.is, ↓reduceIte, reduceCtorEq, Nat.reduceAdd, Nat.reduceSub, Nat.reduceMul, Nat.reduceLT, Nat.reduceLeDiff, Nat.reduceEqDiff, bne, dynB, heapsB, wanted, AOp.eff, AOp.makes, Int.reduceEq, Int.reduceLT, Int.reduceLE, Int.reduceBEq, Int.reduceBNe, boundV, natV_cast], by simp (maxSteps := 4000000) (disch := first | decide | omega | rfl) only [e2, ↓sa0, ↓sa1, sb0, sb1, sb2, sb3, sb4, sb5, guardIs, fillV, cellsN, setAll, loadC, loadCs, aresL, ares1, tupV, one, binV, unV, eqV, eqH, allEq, leafEq, shapeL, LK.is, ↓reduceIte, reduceCtorEq, Nat.reduceAdd, Nat.reduceSub, Nat.reduceMul, Nat.reduceLT, Nat.reduceLeDiff, Nat.reduceEqDiff, bne, dynB, heapsB, wanted, AOp.eff, AOp.makes, Int.reduceEq, Int.reduceLT, Int.reduceLE, Int.reduceBEq, Int.reduceBNe, boundV, natV_cast], by simp (maxSteps := 4000000) (disch := first | decide | omega | rfl) only [e4, ↓sa0, ↓sa1, sb0, sb1, sb2, sb3, sb4, sb5, guardIs, fillV, cellsN, setAll, loadC, loadCs, aresL, ares1, tupV, one, binV, unV, eqV, eqH, allEq, leafEq, shapeL, LK.is, ↓reduceIte, reduceCtorEq, Nat.reduceAdd, Nat.reduceSub, Nat.reduceMul, Nat.reduceLT, Nat.reduceLeDiff, Nat.reduceEqDiff, bne, dynB, heapsB, wanted, AOp.eff, AOp.makes, Int.reduceEq, Int.reduceLT, Int.reduceLE, Int.reduceBEq, Int.reduceBNe, boundV, natV_cast], by simp (maxSteps := 4000000) (disch := first | decide | omega | rfl) only [e6, ↓sa0, ↓sa1, sb0, sb1, sb2, sb3, sb4, sb5, guardIs, fillV, cellsN, setAll, loadC, loadCs, aresL, ares1, tupV, one, binV, unV, eqV, eqH, allEq, leafEq, shapeL, LK.is, ↓reduceIte, reduceCtorEq, Nat.reduceAdd, Nat.reduceSub, Nat.reduceMul, Nat.reduceLT, Nat.reduceLeDiff, Nat.reduceEqDiff, bne, dynB, heapsB, wanted, AOp.eff, AOp.makes, Int.reduceEq, Int.reduceLT, Int.reduceLE, Int.reduceBEq, Int.reduceBNe, boundV, natV_cast], l1, l2, l3, (by first | omega | (simp (maxSteps := 4000000) (disch := first | decide | omega | rfl) only [↓sa0, ↓sa1, sb0, sb1, sb2, sb3, sb4, sb5, guardIs, fillV, cellsN, setAll, loadC, loadCs, aresL, ares1, tupV, one, binV, unV, eqV, eqH, allEq, leafEq, shapeL, LK.is, ↓reduceIte, reduceCtorEq, Nat.reduceAdd, Nat.reduceSub, Nat.reduceMul, Nat.reduceLT, Nat.reduceLeDiff, Nat.reduceEqDiff, bne, dynB, heapsB, wanted, AOp.eff, AOp.makes, Int.reduceEq, Int.reduceLT, Int.reduceLE, Int.reduceBEq, Int.reduceBNe, boundV, natV_cast]; done) | (simp (maxSteps := 4000000) (disch := first | decide | omega | rfl) only [↓sa0, ↓sa1, sb0, sb1, sb2, sb3, sb4, sb5, guardIs, fillV, cellsN, setAll, loadC, loadCs, aresL, ares1, tupV, one, binV, unV, eqV, eqH, allEq, leafEq, shapeL, LK.is, ↓reduceIte, reduceCtorEq, Nat.reduceAdd, Nat.reduceSub, Nat.reduceMul, Nat.reduceLT, Nat.reduceLeDiff, Nat.reduceEqDiff, bne, dynB, heapsB, wanted, AOp.eff, AOp.makes, Int.reduceEq, Int.reduceLT, Int.reduceLE, Int.reduceBEq, Int.reduceBNe, boundV, natV_cast]; omega)), fun b hb => by simp (maxSteps := 4000000) (disch := first | decide | omega | rfl) only [hs, ↓sa0, ↓sa1, sb0, sb1, sb2, sb3, sb4, sb5, guardIs, fillV, cellsN, setAll, loadC, loadCs, aresL, ares1, tupV, one, binV, unV, eqV, eqH, allEq, leafEq, shapeL, LK.is, ↓reduceIte, reduceCtorEq, Nat.reduceAdd, Nat.reduceSub, Nat.reduceMul, Nat.reduceLT, Nat.reduceLeDiff, Nat.reduceEqDiff, bne, dynB, heapsB, wanted, AOp.eff, AOp.makes, Int.reduceEq, Int.reduceLT, Int.reduceLE, Int.reduceBEq, Int.reduceBNe, boundV, natV_cast], by simp (maxSteps := 4000000) (disch := first | decide | omega | rfl) only [gb2, ↓sa0, ↓sa1, sb0, sb1, sb2, sb3, sb4, sb5, guardIs, fillV, cellsN, setAll, loadC, loadCs, aresL, ares1, tupV, one, binV, unV, eqV, eqH, allEq, leafEq, shapeL, LK.is, ↓reduceIte, reduceCtorEq, Nat.reduceAdd, Nat.reduceSub, Nat.reduceMul, Nat.reduceLT, Nat.reduceLeDiff, Nat.reduceEqDiff, bne, dynB, heapsB, wanted, AOp.eff, AOp.makes, Int.reduceEq, Int.reduceLT, Int.reduceLE, Int.reduceBEq, Int.reduceBNe, boundV, natV_cast], by simp (maxSteps := 4000000) (disch := first | decide | omega | rfl) only [↓sa0, ↓sa1, sb0, sb1, sb2, sb3, sb4, sb5, guardIs, fillV, cellsN, setAll, loadC, loadCs, aresL, ares1, tupV, one, binV, unV, eqV, eqH, allEq, leafEq, shapeL, LK.is, ↓reduceIte, reduceCtorEq, Nat.reduceAdd, Nat.reduceSub, Nat.reduceMul, Nat.reduceLT, Nat.reduceLeDiff, Nat.reduceEqDiff, bne, dynB, heapsB, wanted, AOp.eff, AOp.makes, Int.reduceEq, Int.reduceLT, Int.reduceLE, Int.reduceBEq, Int.reduceBNe, boundV, natV_cast]; exact hmap2, hnd2, ?_⟩
        rw [hpush]
        exact ⟨by simp (maxSteps := 4000000) (disch := first | decide | omega | rfl) only [e5, ↓sa0, ↓sa1, sb0, sb1, sb2, sb3, sb4, sb5, guardIs, fillV, cellsN, setAll, loadC, loadCs, aresL, ares1, tupV, one, binV, unV, eqV, eqH, allEq, leafEq, shapeL, LK.is, ↓reduceIte, reduceCtorEq, Nat.reduceAdd, Nat.reduceSub, Nat.reduceMul, Nat.reduceLT, Nat.reduceLeDiff, Nat.reduceEqDiff, bne, dynB, heapsB, wanted, AOp.eff, AOp.makes, Int.reduceEq, Int.reduceLT, Int.reduceLE, Int.reduceBEq, Int.reduceBNe, boundV, natV_cast], by simp (maxSteps := 4000000) (disch := first | decide | omega | rfl) only [gs, ↓sa0, ↓sa1, sb0, sb1, sb2, sb3, sb4, sb5, guardIs, fillV, cellsN, setAll, loadC, loadCs, aresL, ares1, tupV, one, binV, unV, eqV, eqH, allEq, leafEq, shapeL, LK.is, ↓reduceIte, reduceCtorEq, Nat.reduceAdd, Nat.reduceSub, Nat.reduceMul, Nat.reduceLT, Nat.reduceLeDiff, Nat.reduceEqDiff, bne, dynB, heapsB, wanted, AOp.eff, AOp.makes, Int.reduceEq, Int.reduceLT, Int.reduceLE, Int.reduceBEq, Int.reduceBNe, boundV, natV_cast]⟩
      | some ps =>
        rw [hx2] at hacc hpush
        obtain ⟨e5, gs⟩ := hacc
        have hl := accS_len hx2 (fun ps hp => by cases hp; simp)
        have hsz2 := stP_size hl
        have hex2 := stP_extract hl
        have hone2 := stP_one (ps := ps)
        simp (maxSteps := 4000000) (disch := first | decide | omega | rfl) only [e12, e13, e14, e2, e4, e5, e6, d1, c, hcs7, hle, hex', hlook, hput, gs, hsz2, hex2, ↓sa0, ↓sa1, sb0, sb1, sb2, sb3, sb4, sb5, guardIs, fillV, cellsN, setAll, loadC, loadCs, aresL, ares1, tupV, one, binV, unV, eqV, eqH, allEq, leafEq, shapeL, LK.is, ↓reduceIte, reduceCtorEq, Nat.reduceAdd, Nat.reduceSub, Nat.reduceMul, Nat.reduceLT, Nat.reduceLeDiff, Nat.reduceEqDiff, bne, dynB, heapsB, wanted, AOp.eff, AOp.makes, Int.reduceEq, Int.reduceLT, Int.reduceLE, Int.reduceBEq, Int.reduceBNe, boundV, natV_cast]
        refine CallsG.of (k36 _ hl kx vx) fun v h8 hf0 ⟨hv, s8⟩ hf8 n8 => ?_
        subst hv
        simp (maxSteps := 4000000) (disch := first | decide | omega | rfl) only [Same, ↓sa0, ↓sa1, sb0, sb1, sb2, sb3, sb4, sb5, guardIs, fillV, cellsN, setAll, loadC, loadCs, aresL, ares1, tupV, one, binV, unV, eqV, eqH, allEq, leafEq, shapeL, LK.is, ↓reduceIte, reduceCtorEq, Nat.reduceAdd, Nat.reduceSub, Nat.reduceMul, Nat.reduceLT, Nat.reduceLeDiff, Nat.reduceEqDiff, bne, dynB, heapsB, wanted, AOp.eff, AOp.makes, Int.reduceEq, Int.reduceLT, Int.reduceLE, Int.reduceBEq, Int.reduceBNe, boundV, natV_cast] at n8 s8
        cases hw : withS ps kx vx with
        | none =>
          have hpush' : accS (some []) (xs.take (k + 1)) = none := by rw [hpush]; exact hw
          have zf : setAll (stP ps) 0 (stP []).toList = stP [] := setAll_full (by rw [hsz2, z0])
          simp (maxSteps := 4000000) (disch := first | decide | omega | rfl) only [resV, s8, gs, hsz2, z0, zone, zf, e4, e14, hnext, ↓sa0, ↓sa1, sb0, sb1, sb2, sb3, sb4, sb5, guardIs, fillV, cellsN, setAll, loadC, loadCs, aresL, ares1, tupV, one, binV, unV, eqV, eqH, allEq, leafEq, shapeL, LK.is, ↓reduceIte, reduceCtorEq, Nat.reduceAdd, Nat.reduceSub, Nat.reduceMul, Nat.reduceLT, Nat.reduceLeDiff, Nat.reduceEqDiff, bne, dynB, heapsB, wanted, AOp.eff, AOp.makes, Int.reduceEq, Int.reduceLT, Int.reduceLE, Int.reduceBEq, Int.reduceBNe, boundV, natV_cast]
          refine ⟨xs.length - (k + 1), by omega, k + 1, mp, s, b2, rfl, by omega, by simp (maxSteps := 4000000) (disch := first | decide | omega | rfl) only [e12, ↓sa0, ↓sa1, sb0, sb1, sb2, sb3, sb4, sb5, guardIs, fillV, cellsN, setAll, loadC, loadCs, aresL, ares1, tupV, one, binV, unV, eqV, eqH, allEq, leafEq, shapeL, LK.is, ↓reduceIte, reduceCtorEq, Nat.reduceAdd, Nat.reduceSub, Nat.reduceMul, Nat.reduceLT, Nat.reduceLeDiff, Nat.reduceEqDiff, bne, dynB, heapsB, wanted, AOp.eff, AOp.makes, Int.reduceEq, Int.reduceLT, Int.reduceLE, Int.reduceBEq, Int.reduceBNe, boundV, natV_cast], by simp (maxSteps := 4000000) (disch := first | decide | omega | rfl) only [e13, ↓sa0, ↓sa1, sb0, sb1, sb2, sb3, sb4, sb5, guardIs, fillV, cellsN, setAll, loadC, loadCs, aresL, ares1, tupV, one, binV, unV, eqV, eqH, allEq, leafEq, shapeL, LK.is, ↓reduceIte, reduceCtorEq, Nat.reduceAdd, Nat.reduceSub, Nat.reduceMul, Nat.reduceLT, Nat.reduceLeDiff, Nat.reduceEqDiff, bne, dynB, heapsB, wanted, AOp.eff, AOp.makes, Int.reduceEq, Int.reduceLT, Int.reduceLE, Int.reduceBEq, Int.reduceBNe, boundV, natV_cast], by simp (maxSteps := 4000000) (disch := first | decide | omega | rfl) only [hnext, ↓sa0, ↓sa1, sb0, sb1, sb2, sb3, sb4, sb5, guardIs, fillV, cellsN, setAll, loadC, loadCs, aresL, ares1, tupV, one, binV, unV, eqV, eqH, allEq, leafEq, shapeL, LK.is, ↓reduceIte, reduceCtorEq, Nat.reduceAdd, Nat.reduceSub, Nat.reduceMul, Nat.reduceLT, Nat.reduceLeDiff, Nat.reduceEqDiff, bne, dynB, heapsB, wanted, AOp.eff, AOp.makes, Int.reduceEq, Int.reduceLT, Int.reduceLE, Int.reduceBEq, Int.reduceBNe, boundV, natV_cast], by simp (maxSteps := 4000000) (disch := first | decide | omega | rfl) only [e2, ↓sa0, ↓sa1, sb0, sb1, sb2, sb3, sb4, sb5, guardIs, fillV, cellsN, setAll, loadC, loadCs, aresL, ares1, tupV, one, binV, unV, eqV, eqH, allEq, leafEq, shapeL, LK.is, ↓reduceIte, reduceCtorEq, Nat.reduceAdd, Nat.reduceSub, Nat.reduceMul, Nat.reduceLT, Nat.reduceLeDiff, Nat.reduceEqDiff, bne, dynB, heapsB, wanted, AOp.eff, AOp.makes, Int.reduceEq, Int.reduceLT, Int.reduceLE, Int.reduceBEq, Int.reduceBNe, boundV, natV_cast], by simp (maxSteps := 4000000) (disch := first | decide | omega | rfl) only [e4, ↓sa0, ↓sa1, sb0, sb1, sb2, sb3, sb4, sb5, guardIs, fillV, cellsN, setAll, loadC, loadCs, aresL, ares1, tupV, one, binV, unV, eqV, eqH, allEq, leafEq, shapeL, LK.is, ↓reduceIte, reduceCtorEq, Nat.reduceAdd, Nat.reduceSub, Nat.reduceMul, Nat.reduceLT, Nat.reduceLeDiff, Nat.reduceEqDiff, bne, dynB, heapsB, wanted, AOp.eff, AOp.makes, Int.reduceEq, Int.reduceLT, Int.reduceLE, Int.reduceBEq, Int.reduceBNe, boundV, natV_cast], by simp (maxSteps := 4000000) (disch := first | decide | omega | rfl) only [e6, ↓sa0, ↓sa1, sb0, sb1, sb2, sb3, sb4, sb5, guardIs, fillV, cellsN, setAll, loadC, loadCs, aresL, ares1, tupV, one, binV, unV, eqV, eqH, allEq, leafEq, shapeL, LK.is, ↓reduceIte, reduceCtorEq, Nat.reduceAdd, Nat.reduceSub, Nat.reduceMul, Nat.reduceLT, Nat.reduceLeDiff, Nat.reduceEqDiff, bne, dynB, heapsB, wanted, AOp.eff, AOp.makes, Int.reduceEq, Int.reduceLT, Int.reduceLE, Int.reduceBEq, Int.reduceBNe, boundV, natV_cast], l1, l2, l3, (by first | omega | (simp (maxSteps := 4000000) (disch := first | decide | omega | rfl) only [↓sa0, ↓sa1, sb0, sb1, sb2, sb3, sb4, sb5, guardIs, fillV, cellsN, setAll, loadC, loadCs, aresL, ares1, tupV, one, binV, unV, eqV, eqH, allEq, leafEq, shapeL, LK.is, ↓reduceIte, reduceCtorEq, Nat.reduceAdd, Nat.reduceSub, Nat.reduceMul, Nat.reduceLT, Nat.reduceLeDiff, Nat.reduceEqDiff, bne, dynB, heapsB, wanted, AOp.eff, AOp.makes, Int.reduceEq, Int.reduceLT, Int.reduceLE, Int.reduceBEq, Int.reduceBNe, boundV, natV_cast]; done) | (simp (maxSteps := 4000000) (disch := first | decide | omega | rfl) only [↓sa0, ↓sa1, sb0, sb1, sb2, sb3, sb4, sb5, guardIs, fillV, cellsN, setAll, loadC, loadCs, aresL, ares1, tupV, one, binV, unV, eqV, eqH, allEq, leafEq, shapeL, LK.is, ↓reduceIte, reduceCtorEq, Nat.reduceAdd, Nat.reduceSub, Nat.reduceMul, Nat.reduceLT, Nat.reduceLeDiff, Nat.reduceEqDiff, bne, dynB, heapsB, wanted, AOp.eff, AOp.makes, Int.reduceEq, Int.reduceLT, Int.reduceLE, Int.reduceBEq, Int.reduceBNe, boundV, natV_cast]; omega)), fun b hb => by simp (maxSteps := 4000000) (disch := first | decide | omega | rfl) only [s8, hs, ↓sa0, ↓sa1, sb0, sb1, sb2, sb3, sb4, sb5, guardIs, fillV, cellsN, setAll, loadC, loadCs, aresL, ares1, tupV, one, binV, unV, eqV, eqH, allEq, leafEq, shapeL, LK.is, ↓reduceIte, reduceCtorEq, Nat.reduceAdd, Nat.reduceSub, Nat.reduceMul, Nat.reduceLT, Nat.reduceLeDiff, Nat.reduceEqDiff, bne, dynB, heapsB, wanted, AOp.eff, AOp.makes, Int.reduceEq, Int.reduceLT, Int.reduceLE, Int.reduceBEq, Int.reduceBNe, boundV, natV_cast], by simp (maxSteps := 4000000) (disch := first | decide | omega | rfl) only [s8, gb2, ↓sa0, ↓sa1, sb0, sb1, sb2, sb3, sb4, sb5, guardIs, fillV, cellsN, setAll, loadC, loadCs, aresL, ares1, tupV, one, binV, unV, eqV, eqH, allEq, leafEq, shapeL, LK.is, ↓reduceIte, reduceCtorEq, Nat.reduceAdd, Nat.reduceSub, Nat.reduceMul, Nat.reduceLT, Nat.reduceLeDiff, Nat.reduceEqDiff, bne, dynB, heapsB, wanted, AOp.eff, AOp.makes, Int.reduceEq, Int.reduceLT, Int.reduceLE, Int.reduceBEq, Int.reduceBNe, boundV, natV_cast], by simp (maxSteps := 4000000) (disch := first | decide | omega | rfl) only [s8, ↓sa0, ↓sa1, sb0, sb1, sb2, sb3, sb4, sb5, guardIs, fillV, cellsN, setAll, loadC, loadCs, aresL, ares1, tupV, one, binV, unV, eqV, eqH, allEq, leafEq, shapeL, LK.is, ↓reduceIte, reduceCtorEq, Nat.reduceAdd, Nat.reduceSub, Nat.reduceMul, Nat.reduceLT, Nat.reduceLeDiff, Nat.reduceEqDiff, bne, dynB, heapsB, wanted, AOp.eff, AOp.makes, Int.reduceEq, Int.reduceLT, Int.reduceLE, Int.reduceBEq, Int.reduceBNe, boundV, natV_cast]; exact hmap2, hnd2, ?_⟩
          rw [hpush']
          exact ⟨by simp (maxSteps := 4000000) (disch := first | decide | omega | rfl) only [↓sa0, ↓sa1, sb0, sb1, sb2, sb3, sb4, sb5, guardIs, fillV, cellsN, setAll, loadC, loadCs, aresL, ares1, tupV, one, binV, unV, eqV, eqH, allEq, leafEq, shapeL, LK.is, ↓reduceIte, reduceCtorEq, Nat.reduceAdd, Nat.reduceSub, Nat.reduceMul, Nat.reduceLT, Nat.reduceLeDiff, Nat.reduceEqDiff, bne, dynB, heapsB, wanted, AOp.eff, AOp.makes, Int.reduceEq, Int.reduceLT, Int.reduceLE, Int.reduceBEq, Int.reduceBNe, boundV, natV_cast], by simp (maxSteps := 4000000) (disch := first | decide | omega | rfl) only [↓sa0, ↓sa1, sb0, sb1, sb2, sb3, sb4, sb5, guardIs, fillV, cellsN, setAll, loadC, loadCs, aresL, ares1, tupV, one, binV, unV, eqV, eqH, allEq, leafEq, shapeL, LK.is, ↓reduceIte, reduceCtorEq, Nat.reduceAdd, Nat.reduceSub, Nat.reduceMul, Nat.reduceLT, Nat.reduceLeDiff, Nat.reduceEqDiff, bne, dynB, heapsB, wanted, AOp.eff, AOp.makes, Int.reduceEq, Int.reduceLT, Int.reduceLE, Int.reduceBEq, Int.reduceBNe, boundV, natV_cast]⟩
        | some ps' =>
          have hpush' : accS (some []) (xs.take (k + 1)) = some ps' := by rw [hpush]; exact hw
          have hl3 := withS_len hl hw
          have hsz3 := stP_size hl3
          have hone3 := stP_one (ps := ps')
          have zf : setAll (stP ps) 0 (stP ps').toList = stP ps' := setAll_full (by rw [hsz2, hsz3])
          simp (maxSteps := 4000000) (disch := first | decide | omega | rfl) only [resV, s8, gs, hsz2, hsz3, hone3, zf, e4, e14, hnext, ↓sa0, ↓sa1, sb0, sb1, sb2, sb3, sb4, sb5, guardIs, fillV, cellsN, setAll, loadC, loadCs, aresL, ares1, tupV, one, binV, unV, eqV, eqH, allEq, leafEq, shapeL, LK.is, ↓reduceIte, reduceCtorEq, Nat.reduceAdd, Nat.reduceSub, Nat.reduceMul, Nat.reduceLT, Nat.reduceLeDiff, Nat.reduceEqDiff, bne, dynB, heapsB, wanted, AOp.eff, AOp.makes, Int.reduceEq, Int.reduceLT, Int.reduceLE, Int.reduceBEq, Int.reduceBNe, boundV, natV_cast]
          refine ⟨xs.length - (k + 1), by omega, k + 1, mp, s, b2, rfl, by omega, by simp (maxSteps := 4000000) (disch := first | decide | omega | rfl) only [e12, ↓sa0, ↓sa1, sb0, sb1, sb2, sb3, sb4, sb5, guardIs, fillV, cellsN, setAll, loadC, loadCs, aresL, ares1, tupV, one, binV, unV, eqV, eqH, allEq, leafEq, shapeL, LK.is, ↓reduceIte, reduceCtorEq, Nat.reduceAdd, Nat.reduceSub, Nat.reduceMul, Nat.reduceLT, Nat.reduceLeDiff, Nat.reduceEqDiff, bne, dynB, heapsB, wanted, AOp.eff, AOp.makes, Int.reduceEq, Int.reduceLT, Int.reduceLE, Int.reduceBEq, Int.reduceBNe, boundV, natV_cast], by simp (maxSteps := 4000000) (disch := first | decide | omega | rfl) only [e13, ↓sa0, ↓sa1, sb0, sb1, sb2, sb3, sb4, sb5, guardIs, fillV, cellsN, setAll, loadC, loadCs, aresL, ares1, tupV, one, binV, unV, eqV, eqH, allEq, leafEq, shapeL, LK.is, ↓reduceIte, reduceCtorEq, Nat.reduceAdd, Nat.reduceSub, Nat.reduceMul, Nat.reduceLT, Nat.reduceLeDiff, Nat.reduceEqDiff, bne, dynB, heapsB, wanted, AOp.eff, AOp.makes, Int.reduceEq, Int.reduceLT, Int.reduceLE, Int.reduceBEq, Int.reduceBNe, boundV, natV_cast], by simp (maxSteps := 4000000) (disch := first | decide | omega | rfl) only [hnext, ↓sa0, ↓sa1, sb0, sb1, sb2, sb3, sb4, sb5, guardIs, fillV, cellsN, setAll, loadC, loadCs, aresL, ares1, tupV, one, binV, unV, eqV, eqH, allEq, leafEq, shapeL, LK.is, ↓reduceIte, reduceCtorEq, Nat.reduceAdd, Nat.reduceSub, Nat.reduceMul, Nat.reduceLT, Nat.reduceLeDiff, Nat.reduceEqDiff, bne, dynB, heapsB, wanted, AOp.eff, AOp.makes, Int.reduceEq, Int.reduceLT, Int.reduceLE, Int.reduceBEq, Int.reduceBNe, boundV, natV_cast], by simp (maxSteps := 4000000) (disch := first | decide | omega | rfl) only [e2, ↓sa0, ↓sa1, sb0, sb1, sb2, sb3, sb4, sb5, guardIs, fillV, cellsN, setAll, loadC, loadCs, aresL, ares1, tupV, one, binV, unV, eqV, eqH, allEq, leafEq, shapeL, LK.is, ↓reduceIte, reduceCtorEq, Nat.reduceAdd, Nat.reduceSub, Nat.reduceMul, Nat.reduceLT, Nat.reduceLeDiff, Nat.reduceEqDiff, bne, dynB, heapsB, wanted, AOp.eff, AOp.makes, Int.reduceEq, Int.reduceLT, Int.reduceLE, Int.reduceBEq, Int.reduceBNe, boundV, natV_cast], by simp (maxSteps := 4000000) (disch := first | decide | omega | rfl) only [e4, ↓sa0, ↓sa1, sb0, sb1, sb2, sb3, sb4, sb5, guardIs, fillV, cellsN, setAll, loadC, loadCs, aresL, ares1, tupV, one, binV, unV, eqV, eqH, allEq, leafEq, shapeL, LK.is, ↓reduceIte, reduceCtorEq, Nat.reduceAdd, Nat.reduceSub, Nat.reduceMul, Nat.reduceLT, Nat.reduceLeDiff, Nat.reduceEqDiff, bne, dynB, heapsB, wanted, AOp.eff, AOp.makes, Int.reduceEq, Int.reduceLT, Int.reduceLE, Int.reduceBEq, Int.reduceBNe, boundV, natV_cast], by simp (maxSteps := 4000000) (disch := first | decide | omega | rfl) only [e6, ↓sa0, ↓sa1, sb0, sb1, sb2, sb3, sb4, sb5, guardIs, fillV, cellsN, setAll, loadC, loadCs, aresL, ares1, tupV, one, binV, unV, eqV, eqH, allEq, leafEq, shapeL, LK.is, ↓reduceIte, reduceCtorEq, Nat.reduceAdd, Nat.reduceSub, Nat.reduceMul, Nat.reduceLT, Nat.reduceLeDiff, Nat.reduceEqDiff, bne, dynB, heapsB, wanted, AOp.eff, AOp.makes, Int.reduceEq, Int.reduceLT, Int.reduceLE, Int.reduceBEq, Int.reduceBNe, boundV, natV_cast], l1, l2, l3, (by first | omega | (simp (maxSteps := 4000000) (disch := first | decide | omega | rfl) only [↓sa0, ↓sa1, sb0, sb1, sb2, sb3, sb4, sb5, guardIs, fillV, cellsN, setAll, loadC, loadCs, aresL, ares1, tupV, one, binV, unV, eqV, eqH, allEq, leafEq, shapeL, LK.is, ↓reduceIte, reduceCtorEq, Nat.reduceAdd, Nat.reduceSub, Nat.reduceMul, Nat.reduceLT, Nat.reduceLeDiff, Nat.reduceEqDiff, bne, dynB, heapsB, wanted, AOp.eff, AOp.makes, Int.reduceEq, Int.reduceLT, Int.reduceLE, Int.reduceBEq, Int.reduceBNe, boundV, natV_cast]; done) | (simp (maxSteps := 4000000) (disch := first | decide | omega | rfl) only [↓sa0, ↓sa1, sb0, sb1, sb2, sb3, sb4, sb5, guardIs, fillV, cellsN, setAll, loadC, loadCs, aresL, ares1, tupV, one, binV, unV, eqV, eqH, allEq, leafEq, shapeL, LK.is, ↓reduceIte, reduceCtorEq, Nat.reduceAdd, Nat.reduceSub, Nat.reduceMul, Nat.reduceLT, Nat.reduceLeDiff, Nat.reduceEqDiff, bne, dynB, heapsB, wanted, AOp.eff, AOp.makes, Int.reduceEq, Int.reduceLT, Int.reduceLE, Int.reduceBEq, Int.reduceBNe, boundV, natV_cast]; omega)), fun b hb => by simp (maxSteps := 4000000) (disch := first | decide | omega | rfl) only [s8, hs, ↓sa0, ↓sa1, sb0, sb1, sb2, sb3, sb4, sb5, guardIs, fillV, cellsN, setAll, loadC, loadCs, aresL, ares1, tupV, one, binV, unV, eqV, eqH, allEq, leafEq, shapeL, LK.is, ↓reduceIte, reduceCtorEq, Nat.reduceAdd, Nat.reduceSub, Nat.reduceMul, Nat.reduceLT, Nat.reduceLeDiff, Nat.reduceEqDiff, bne, dynB, heapsB, wanted, AOp.eff, AOp.makes, Int.reduceEq, Int.reduceLT, Int.reduceLE, Int.reduceBEq, Int.reduceBNe, boundV, natV_cast], by simp (maxSteps := 4000000) (disch := first | decide | omega | rfl) only [s8, gb2, ↓sa0, ↓sa1, sb0, sb1, sb2, sb3, sb4, sb5, guardIs, fillV, cellsN, setAll, loadC, loadCs, aresL, ares1, tupV, one, binV, unV, eqV, eqH, allEq, leafEq, shapeL, LK.is, ↓reduceIte, reduceCtorEq, Nat.reduceAdd, Nat.reduceSub, Nat.reduceMul, Nat.reduceLT, Nat.reduceLeDiff, Nat.reduceEqDiff, bne, dynB, heapsB, wanted, AOp.eff, AOp.makes, Int.reduceEq, Int.reduceLT, Int.reduceLE, Int.reduceBEq, Int.reduceBNe, boundV, natV_cast], by simp (maxSteps := 4000000) (disch := first | decide | omega | rfl) only [s8, ↓sa0, ↓sa1, sb0, sb1, sb2, sb3, sb4, sb5, guardIs, fillV, cellsN, setAll, loadC, loadCs, aresL, ares1, tupV, one, binV, unV, eqV, eqH, allEq, leafEq, shapeL, LK.is, ↓reduceIte, reduceCtorEq, Nat.reduceAdd, Nat.reduceSub, Nat.reduceMul, Nat.reduceLT, Nat.reduceLeDiff, Nat.reduceEqDiff, bne, dynB, heapsB, wanted, AOp.eff, AOp.makes, Int.reduceEq, Int.reduceLT, Int.reduceLE, Int.reduceBEq, Int.reduceBNe, boundV, natV_cast]; exact hmap2, hnd2, ?_⟩
          rw [hpush']
          exact ⟨by simp (maxSteps := 4000000) (disch := first | decide | omega | rfl) only [↓sa0, ↓sa1, sb0, sb1, sb2, sb3, sb4, sb5, guardIs, fillV, cellsN, setAll, loadC, loadCs, aresL, ares1, tupV, one, binV, unV, eqV, eqH, allEq, leafEq, shapeL, LK.is, ↓reduceIte, reduceCtorEq, Nat.reduceAdd, Nat.reduceSub, Nat.reduceMul, Nat.reduceLT, Nat.reduceLeDiff, Nat.reduceEqDiff, bne, dynB, heapsB, wanted, AOp.eff, AOp.makes, Int.reduceEq, Int.reduceLT, Int.reduceLE, Int.reduceBEq, Int.reduceBNe, boundV, natV_cast], by simp (maxSteps := 4000000) (disch := first | decide | omega | rfl) only [↓sa0, ↓sa1, sb0, sb1, sb2, sb3, sb4, sb5, guardIs, fillV, cellsN, setAll, loadC, loadCs, aresL, ares1, tupV, one, binV, unV, eqV, eqH, allEq, leafEq, shapeL, LK.is, ↓reduceIte, reduceCtorEq, Nat.reduceAdd, Nat.reduceSub, Nat.reduceMul, Nat.reduceLT, Nat.reduceLeDiff, Nat.reduceEqDiff, bne, dynB, heapsB, wanted, AOp.eff, AOp.makes, Int.reduceEq, Int.reduceLT, Int.reduceLE, Int.reduceBEq, Int.reduceBNe, boundV, natV_cast]⟩
end
end Go.Proofs.Ytleoicjpcdmfkaa
