/-
  SpecApart: the law's walk.
-/
import Derived.Test.YtleoicjpcdmfkaaLa29
set_option linter.unusedSimpArgs false
set_option linter.unusedVariables false
namespace Go.Proofs.Ytleoicjpcdmfkaa
open Go Ab
open Heap (get put next skip)

theorem accS_le {o : Option (List (Int × Int))} {xs ps' : List (Int × Int)} (n : Nat) (h : accS o xs = some ps') (ho : ∀ ps, o = some ps → ps.length ≤ n) : ps'.length ≤ n + xs.length := by
  induction xs generalizing o n with
  | nil => exact ho ps' h
  | cons x xs ih =>
    cases o with
    | none => rw [accS_none] at h; cases h
    | some ps =>
      have := ih (o := withS ps x.1 x.2) (n + 1) h fun qs hq => by
        unfold withS at hq
        split at hq
        · cases hq
        · cases hq
          have := withL_le ps x.1 x.2
          have := ho ps rfl
          omega
      simp only [List.length_cons]
      omega

section
variable {H : Type} [Heap H]
attribute [local irreducible] wpG wpOG wpTG stepG CallsG cfunc bfunc tmOf upd

set_option maxRecDepth 20000 in
set_option maxHeartbeats 8000000 in
/-- The law's walk. -/
theorem specApart (h : H) (v : Value) (a : Nat) (xs : List (Int × Int)) (hS : SlAt h v a 2 xs.length (fun i => (p2r (xs.getD i (0, 0))).toArray)) (ha : a < next h) (hlen : xs.length < 9223372036854775808) (ko o2 o1 ol kp p2 p1 pl : Int) :
    Fresh h → CallsTo tt 7 #[v, .agg #[.int .i64 ko, .int .u64 o2, .int .u64 o1, .int .i64 ol], .agg #[.int .i64 kp, .int .u64 p2, .int .u64 p1, .int .i64 pl]] h fun v _ => v = .bool true := by
  refine toCall c7 (by simp [b7]) fun hf => ?_
  have z0 := stP_size (ps := []) (by simp)
  have zx := stP_extract (ps := []) (by simp)
  have zone := stP_one (ps := [])
  have zf0 : setAll (stP []) 0 (stP []).toList = stP [] := setAll_full rfl
  have zz := stP_nil.symm
  simp (maxSteps := 4000000) (disch := first | decide | omega | rfl) only [b7, ↓sa0, ↓sa1, sb0, sb1, sb2, sb3, sb4, sb5, guardIs, fillV, cellsN, setAll, loadC, loadCs, aresL, ares1, tupV, one, binV, unV, eqV, eqH, allEq, leafEq, shapeL, LK.is, ↓reduceIte, reduceCtorEq, Nat.reduceAdd, Nat.reduceSub, Nat.reduceMul, Nat.reduceLT, Nat.reduceLeDiff, Nat.reduceEqDiff, bne, dynB, heapsB, wanted, AOp.eff, AOp.makes, Int.reduceEq, Int.reduceLT, Int.reduceLE, Int.reduceBEq, Int.reduceBNe, boundV, natV_cast]
  refine CallsG.of (k29 _) fun v1 h1 hf0 ⟨hv, s1⟩ hf1 n1 => ?_
  subst hv
  simp (maxSteps := 4000000) (disch := first | decide | omega | rfl) only [Same, ↓sa0, ↓sa1, sb0, sb1, sb2, sb3, sb4, sb5, guardIs, fillV, cellsN, setAll, loadC, loadCs, aresL, ares1, tupV, one, binV, unV, eqV, eqH, allEq, leafEq, shapeL, LK.is, ↓reduceIte, reduceCtorEq, Nat.reduceAdd, Nat.reduceSub, Nat.reduceMul, Nat.reduceLT, Nat.reduceLeDiff, Nat.reduceEqDiff, bne, dynB, heapsB, wanted, AOp.eff, AOp.makes, Int.reduceEq, Int.reduceLT, Int.reduceLE, Int.reduceBEq, Int.reduceBNe, boundV, natV_cast] at n1 s1
  simp (maxSteps := 4000000) (disch := first | decide | omega | rfl) only [s1, ↓sa0, ↓sa1, sb0, sb1, sb2, sb3, sb4, sb5, guardIs, fillV, cellsN, setAll, loadC, loadCs, aresL, ares1, tupV, one, binV, unV, eqV, eqH, allEq, leafEq, shapeL, LK.is, ↓reduceIte, reduceCtorEq, Nat.reduceAdd, Nat.reduceSub, Nat.reduceMul, Nat.reduceLT, Nat.reduceLeDiff, Nat.reduceEqDiff, bne, dynB, heapsB, wanted, AOp.eff, AOp.makes, Int.reduceEq, Int.reduceLT, Int.reduceLE, Int.reduceBEq, Int.reduceBNe, boundV, natV_cast]
  refine CallsG.of (k35 _ v a xs (hS.keep (by first | omega | (simp (maxSteps := 4000000) (disch := first | decide | omega | rfl) only [↓sa0, ↓sa1, sb0, sb1, sb2, sb3, sb4, sb5, guardIs, fillV, cellsN, setAll, loadC, loadCs, aresL, ares1, tupV, one, binV, unV, eqV, eqH, allEq, leafEq, shapeL, LK.is, ↓reduceIte, reduceCtorEq, Nat.reduceAdd, Nat.reduceSub, Nat.reduceMul, Nat.reduceLT, Nat.reduceLeDiff, Nat.reduceEqDiff, bne, dynB, heapsB, wanted, AOp.eff, AOp.makes, Int.reduceEq, Int.reduceLT, Int.reduceLE, Int.reduceBEq, Int.reduceBNe, boundV, natV_cast]; done) | (simp (maxSteps := 4000000) (disch := first | decide | omega | rfl) only [↓sa0, ↓sa1, sb0, sb1, sb2, sb3, sb4, sb5, guardIs, fillV, cellsN, setAll, loadC, loadCs, aresL, ares1, tupV, one, binV, unV, eqV, eqH, allEq, leafEq, shapeL, LK.is, ↓reduceIte, reduceCtorEq, Nat.reduceAdd, Nat.reduceSub, Nat.reduceMul, Nat.reduceLT, Nat.reduceLeDiff, Nat.reduceEqDiff, bne, dynB, heapsB, wanted, AOp.eff, AOp.makes, Int.reduceEq, Int.reduceLT, Int.reduceLE, Int.reduceBEq, Int.reduceBNe, boundV, natV_cast]; omega)) fun q => by simp (maxSteps := 4000000) (disch := first | decide | omega | rfl) only [s1, ↓sa0, ↓sa1, sb0, sb1, sb2, sb3, sb4, sb5, guardIs, fillV, cellsN, setAll, loadC, loadCs, aresL, ares1, tupV, one, binV, unV, eqV, eqH, allEq, leafEq, shapeL, LK.is, ↓reduceIte, reduceCtorEq, Nat.reduceAdd, Nat.reduceSub, Nat.reduceMul, Nat.reduceLT, Nat.reduceLeDiff, Nat.reduceEqDiff, bne, dynB, heapsB, wanted, AOp.eff, AOp.makes, Int.reduceEq, Int.reduceLT, Int.reduceLE, Int.reduceBEq, Int.reduceBNe, boundV, natV_cast]) (by simp (maxSteps := 4000000) (disch := first | decide | omega | rfl) only [↓sa0, ↓sa1, sb0, sb1, sb2, sb3, sb4, sb5, guardIs, fillV, cellsN, setAll, loadC, loadCs, aresL, ares1, tupV, one, binV, unV, eqV, eqH, allEq, leafEq, shapeL, LK.is, ↓reduceIte, reduceCtorEq, Nat.reduceAdd, Nat.reduceSub, Nat.reduceMul, Nat.reduceLT, Nat.reduceLeDiff, Nat.reduceEqDiff, bne, dynB, heapsB, wanted, AOp.eff, AOp.makes, Int.reduceEq, Int.reduceLT, Int.reduceLE, Int.reduceBEq, Int.reduceBNe, boundV, natV_cast]; omega) hlen) fun v2 h2 hf0 ⟨hv, s2⟩ hf2 n2 => ?_
  subst hv
  simp (maxSteps := 4000000) (disch := first | decide | omega | rfl) only [Same, ↓sa0, ↓sa1, sb0, sb1, sb2, sb3, sb4, sb5, guardIs, fillV, cellsN, setAll, loadC, loadCs, aresL, ares1, tupV, one, binV, unV, eqV, eqH, allEq, leafEq, shapeL, LK.is, ↓reduceIte, reduceCtorEq, Nat.reduceAdd, Nat.reduceSub, Nat.reduceMul, Nat.reduceLT, Nat.reduceLeDiff, Nat.reduceEqDiff, bne, dynB, heapsB, wanted, AOp.eff, AOp.makes, Int.reduceEq, Int.reduceLT, Int.reduceLE, Int.reduceBEq, Int.reduceBNe, boundV, natV_cast] at n2 s2
  unfold newV
  by_cases hnd : (xs.map (·.1)).Nodup
  rotate_left 1
  · rw [if_neg hnd]
    simp (maxSteps := 4000000) (disch := first | decide | omega | rfl) only [s2, s1, zz, z0, zone, zf0, zx, ↓sa0, ↓sa1, sb0, sb1, sb2, sb3, sb4, sb5, guardIs, fillV, cellsN, setAll, loadC, loadCs, aresL, ares1, tupV, one, binV, unV, eqV, eqH, allEq, leafEq, shapeL, LK.is, ↓reduceIte, reduceCtorEq, Nat.reduceAdd, Nat.reduceSub, Nat.reduceMul, Nat.reduceLT, Nat.reduceLeDiff, Nat.reduceEqDiff, bne, dynB, heapsB, wanted, AOp.eff, AOp.makes, Int.reduceEq, Int.reduceLT, Int.reduceLE, Int.reduceBEq, Int.reduceBNe, boundV, natV_cast]
  rw [if_pos hnd]
  cases hacc : accS (some []) xs with
  | none =>
    simp (maxSteps := 4000000) (disch := first | decide | omega | rfl) only [s2, s1, zz, z0, zone, zf0, zx, resV, ↓sa0, ↓sa1, sb0, sb1, sb2, sb3, sb4, sb5, guardIs, fillV, cellsN, setAll, loadC, loadCs, aresL, ares1, tupV, one, binV, unV, eqV, eqH, allEq, leafEq, shapeL, LK.is, ↓reduceIte, reduceCtorEq, Nat.reduceAdd, Nat.reduceSub, Nat.reduceMul, Nat.reduceLT, Nat.reduceLeDiff, Nat.reduceEqDiff, bne, dynB, heapsB, wanted, AOp.eff, AOp.makes, Int.reduceEq, Int.reduceLT, Int.reduceLE, Int.reduceBEq, Int.reduceBNe, boundV, natV_cast]
  | some ps =>
    have hl := accS_len hacc (fun ps hp => by cases hp; simp)
    have hs := accS_srt hacc (fun ps hp => by cases hp; exact List.Pairwise.nil)
    have hsz := stP_size hl
    have hex := stP_extract hl
    have hone := stP_one (ps := ps)
    have zf : setAll (stP []) 0 (stP ps).toList = stP ps := setAll_full (by rw [hsz, z0])
    obtain ⟨base, cap, rfl, _, _, _⟩ := hS
    have hle := accS_le 0 hacc (fun ps hp => by cases hp; simp)
    cases hg : decide ((xs.length : Int) > 14)
    rotate_left 1
    · simp (maxSteps := 4000000) (disch := first | decide | omega | rfl) only [s2, s1, zz, z0, hone, zf, resV, hsz, hg, ↓sa0, ↓sa1, sb0, sb1, sb2, sb3, sb4, sb5, guardIs, fillV, cellsN, setAll, loadC, loadCs, aresL, ares1, tupV, one, binV, unV, eqV, eqH, allEq, leafEq, shapeL, LK.is, ↓reduceIte, reduceCtorEq, Nat.reduceAdd, Nat.reduceSub, Nat.reduceMul, Nat.reduceLT, Nat.reduceLeDiff, Nat.reduceEqDiff, bne, dynB, heapsB, wanted, AOp.eff, AOp.makes, Int.reduceEq, Int.reduceLT, Int.reduceLE, Int.reduceBEq, Int.reduceBNe, boundV, natV_cast]
    have hg' : xs.length ≤ 14 := by have := of_decide_eq_false hg; omega
    cases hk : (o2 == p2)
    rotate_left 1
    · simp (maxSteps := 4000000) (disch := first | decide | omega | rfl) only [s2, s1, zz, z0, hone, zf, resV, hsz, hg, hk, ↓sa0, ↓sa1, sb0, sb1, sb2, sb3, sb4, sb5, guardIs, fillV, cellsN, setAll, loadC, loadCs, aresL, ares1, tupV, one, binV, unV, eqV, eqH, allEq, leafEq, shapeL, LK.is, ↓reduceIte, reduceCtorEq, Nat.reduceAdd, Nat.reduceSub, Nat.reduceMul, Nat.reduceLT, Nat.reduceLeDiff, Nat.reduceEqDiff, bne, dynB, heapsB, wanted, AOp.eff, AOp.makes, Int.reduceEq, Int.reduceLT, Int.reduceLE, Int.reduceBEq, Int.reduceBNe, boundV, natV_cast]
    have hne : o2 ≠ p2 := by simpa using hk
    simp (maxSteps := 4000000) (disch := first | decide | omega | rfl) only [s2, s1, zz, z0, hone, zf, resV, hsz, hex, hg, hk, ↓sa0, ↓sa1, sb0, sb1, sb2, sb3, sb4, sb5, guardIs, fillV, cellsN, setAll, loadC, loadCs, aresL, ares1, tupV, one, binV, unV, eqV, eqH, allEq, leafEq, shapeL, LK.is, ↓reduceIte, reduceCtorEq, Nat.reduceAdd, Nat.reduceSub, Nat.reduceMul, Nat.reduceLT, Nat.reduceLeDiff, Nat.reduceEqDiff, bne, dynB, heapsB, wanted, AOp.eff, AOp.makes, Int.reduceEq, Int.reduceLT, Int.reduceLE, Int.reduceBEq, Int.reduceBNe, boundV, natV_cast]
    have hp14 : ps.length ≤ 14 := by omega
    have A := apart (ko := ko) (kp := kp) (o1 := o1) (p1 := p1) hs hp14 hne
    have fin : ∀ qs : List (Int × Int), qs.length ≤ 16 → (stP qs).size = 33 ∧ (stP qs).extract 0 33 = stP qs ∧ (stP qs).toList.all one = true ∧ setAll (stP []) 0 (stP qs).toList = stP qs := fun qs hr =>
      ⟨stP_size hr, stP_extract hr, stP_one, setAll_full (by rw [stP_size hr, z0])⟩
    refine CallsG.of (k30 _ hl ko o2 o1 ol) fun v3 h3 hf0 ⟨hv, s3⟩ hf3 n3 => ?_
    have la := doS_len hl ko o2 o1
    generalize hra : doS ps ko o2 o1 = ra at la A hv
    obtain ⟨qa, da, wa, ea⟩ := ra
    simp only [doV] at hv
    simp only at la A
    subst hv
    simp (maxSteps := 4000000) (disch := first | decide | omega | rfl) only [Same, ↓sa0, ↓sa1, sb0, sb1, sb2, sb3, sb4, sb5, guardIs, fillV, cellsN, setAll, loadC, loadCs, aresL, ares1, tupV, one, binV, unV, eqV, eqH, allEq, leafEq, shapeL, LK.is, ↓reduceIte, reduceCtorEq, Nat.reduceAdd, Nat.reduceSub, Nat.reduceMul, Nat.reduceLT, Nat.reduceLeDiff, Nat.reduceEqDiff, bne, dynB, heapsB, wanted, AOp.eff, AOp.makes, Int.reduceEq, Int.reduceLT, Int.reduceLE, Int.reduceBEq, Int.reduceBNe, boundV, natV_cast] at n3 s3
    obtain ⟨a1, a2, a3, a4⟩ := fin qa la
    simp (maxSteps := 4000000) (disch := first | decide | omega | rfl) only [s3, s2, s1, zz, z0, hsz, hex, a1, a2, a3, a4, ↓sa0, ↓sa1, sb0, sb1, sb2, sb3, sb4, sb5, guardIs, fillV, cellsN, setAll, loadC, loadCs, aresL, ares1, tupV, one, binV, unV, eqV, eqH, allEq, leafEq, shapeL, LK.is, ↓reduceIte, reduceCtorEq, Nat.reduceAdd, Nat.reduceSub, Nat.reduceMul, Nat.reduceLT, Nat.reduceLeDiff, Nat.reduceEqDiff, bne, dynB, heapsB, wanted, AOp.eff, AOp.makes, Int.reduceEq, Int.reduceLT, Int.reduceLE, Int.reduceBEq, Int.reduceBNe, boundV, natV_cast]
    refine CallsG.of (k30 _ hl kp p2 p1 pl) fun v4 h4 hf0 ⟨hv, s4⟩ hf4 n4 => ?_
    have lb := doS_len hl kp p2 p1
    generalize hrb : doS ps kp p2 p1 = rb at lb A hv
    obtain ⟨qb, db, wb, eb⟩ := rb
    simp only [doV] at hv
    simp only at lb A
    subst hv
    simp (maxSteps := 4000000) (disch := first | decide | omega | rfl) only [Same, ↓sa0, ↓sa1, sb0, sb1, sb2, sb3, sb4, sb5, guardIs, fillV, cellsN, setAll, loadC, loadCs, aresL, ares1, tupV, one, binV, unV, eqV, eqH, allEq, leafEq, shapeL, LK.is, ↓reduceIte, reduceCtorEq, Nat.reduceAdd, Nat.reduceSub, Nat.reduceMul, Nat.reduceLT, Nat.reduceLeDiff, Nat.reduceEqDiff, bne, dynB, heapsB, wanted, AOp.eff, AOp.makes, Int.reduceEq, Int.reduceLT, Int.reduceLE, Int.reduceBEq, Int.reduceBNe, boundV, natV_cast] at n4 s4
    obtain ⟨b1, b2, b3, b4⟩ := fin qb lb
    cases hea : (ea == 0)
    · simp (maxSteps := 4000000) (disch := first | decide | omega | rfl) only [s4, s3, s2, s1, zz, z0, b1, b2, b3, b4, hea, ↓sa0, ↓sa1, sb0, sb1, sb2, sb3, sb4, sb5, guardIs, fillV, cellsN, setAll, loadC, loadCs, aresL, ares1, tupV, one, binV, unV, eqV, eqH, allEq, leafEq, shapeL, LK.is, ↓reduceIte, reduceCtorEq, Nat.reduceAdd, Nat.reduceSub, Nat.reduceMul, Nat.reduceLT, Nat.reduceLeDiff, Nat.reduceEqDiff, bne, dynB, heapsB, wanted, AOp.eff, AOp.makes, Int.reduceEq, Int.reduceLT, Int.reduceLE, Int.reduceBEq, Int.reduceBNe, boundV, natV_cast]
    obtain rfl : ea = 0 := by simpa using hea
    cases heb : (eb == 0)
    · simp (maxSteps := 4000000) (disch := first | decide | omega | rfl) only [s4, s3, s2, s1, zz, z0, b1, b2, b3, b4, hea, heb, ↓sa0, ↓sa1, sb0, sb1, sb2, sb3, sb4, sb5, guardIs, fillV, cellsN, setAll, loadC, loadCs, aresL, ares1, tupV, one, binV, unV, eqV, eqH, allEq, leafEq, shapeL, LK.is, ↓reduceIte, reduceCtorEq, Nat.reduceAdd, Nat.reduceSub, Nat.reduceMul, Nat.reduceLT, Nat.reduceLeDiff, Nat.reduceEqDiff, bne, dynB, heapsB, wanted, AOp.eff, AOp.makes, Int.reduceEq, Int.reduceLT, Int.reduceLE, Int.reduceBEq, Int.reduceBNe, boundV, natV_cast]
    obtain rfl : eb = 0 := by simpa using heb
    have A := A rfl rfl
    simp (maxSteps := 4000000) (disch := first | decide | omega | rfl) only [s4, s3, s2, s1, zz, z0, a1, a2, b1, b2, b3, b4, hea, heb, ↓sa0, ↓sa1, sb0, sb1, sb2, sb3, sb4, sb5, guardIs, fillV, cellsN, setAll, loadC, loadCs, aresL, ares1, tupV, one, binV, unV, eqV, eqH, allEq, leafEq, shapeL, LK.is, ↓reduceIte, reduceCtorEq, Nat.reduceAdd, Nat.reduceSub, Nat.reduceMul, Nat.reduceLT, Nat.reduceLeDiff, Nat.reduceEqDiff, bne, dynB, heapsB, wanted, AOp.eff, AOp.makes, Int.reduceEq, Int.reduceLT, Int.reduceLE, Int.reduceBEq, Int.reduceBNe, boundV, natV_cast]
    refine CallsG.of (k30 _ la kp p2 p1 pl) fun v5 h5 hf0 ⟨hv, s5⟩ hf5 n5 => ?_
    have lc := doS_len la kp p2 p1
    generalize hrc : doS qa kp p2 p1 = rc at lc A hv
    obtain ⟨qc, dc, wc, ec⟩ := rc
    simp only [doV] at hv
    simp only at lc A
    subst hv
    simp (maxSteps := 4000000) (disch := first | decide | omega | rfl) only [Same, ↓sa0, ↓sa1, sb0, sb1, sb2, sb3, sb4, sb5, guardIs, fillV, cellsN, setAll, loadC, loadCs, aresL, ares1, tupV, one, binV, unV, eqV, eqH, allEq, leafEq, shapeL, LK.is, ↓reduceIte, reduceCtorEq, Nat.reduceAdd, Nat.reduceSub, Nat.reduceMul, Nat.reduceLT, Nat.reduceLeDiff, Nat.reduceEqDiff, bne, dynB, heapsB, wanted, AOp.eff, AOp.makes, Int.reduceEq, Int.reduceLT, Int.reduceLE, Int.reduceBEq, Int.reduceBNe, boundV, natV_cast] at n5 s5
    obtain ⟨g1, g2, g3, g4⟩ := fin qc lc
    simp (maxSteps := 4000000) (disch := first | decide | omega | rfl) only [s5, s4, s3, s2, s1, zz, z0, b1, b2, g1, g2, g3, g4, ↓sa0, ↓sa1, sb0, sb1, sb2, sb3, sb4, sb5, guardIs, fillV, cellsN, setAll, loadC, loadCs, aresL, ares1, tupV, one, binV, unV, eqV, eqH, allEq, leafEq, shapeL, LK.is, ↓reduceIte, reduceCtorEq, Nat.reduceAdd, Nat.reduceSub, Nat.reduceMul, Nat.reduceLT, Nat.reduceLeDiff, Nat.reduceEqDiff, bne, dynB, heapsB, wanted, AOp.eff, AOp.makes, Int.reduceEq, Int.reduceLT, Int.reduceLE, Int.reduceBEq, Int.reduceBNe, boundV, natV_cast]
    refine CallsG.of (k30 _ lb ko o2 o1 ol) fun v6 h6 hf0 ⟨hv, s6⟩ hf6 n6 => ?_
    have ld := doS_len lb ko o2 o1
    generalize hrd : doS qb ko o2 o1 = rd at ld A hv
    obtain ⟨qd, dd, wd, ed⟩ := rd
    simp only [doV] at hv
    simp only at ld A
    obtain ⟨rfl, rfl, rfl, rfl, rfl, rfl, rfl⟩ := A
    subst hv
    simp (maxSteps := 4000000) (disch := first | decide | omega | rfl) only [Same, ↓sa0, ↓sa1, sb0, sb1, sb2, sb3, sb4, sb5, guardIs, fillV, cellsN, setAll, loadC, loadCs, aresL, ares1, tupV, one, binV, unV, eqV, eqH, allEq, leafEq, shapeL, LK.is, ↓reduceIte, reduceCtorEq, Nat.reduceAdd, Nat.reduceSub, Nat.reduceMul, Nat.reduceLT, Nat.reduceLeDiff, Nat.reduceEqDiff, bne, dynB, heapsB, wanted, AOp.eff, AOp.makes, Int.reduceEq, Int.reduceLT, Int.reduceLE, Int.reduceBEq, Int.reduceBNe, boundV, natV_cast] at n6 s6
    have sh := shP lc
    have al := alP lc lc
    rw [decide_eq_true rfl] at al
    simp (maxSteps := 4000000) (disch := first | decide | omega | rfl) only [s6, s5, s4, s3, s2, s1, zz, z0, g1, g2, g3, g4, sh, al, ↓sa0, ↓sa1, sb0, sb1, sb2, sb3, sb4, sb5, guardIs, fillV, cellsN, setAll, loadC, loadCs, aresL, ares1, tupV, one, binV, unV, eqV, eqH, allEq, leafEq, shapeL, LK.is, ↓reduceIte, reduceCtorEq, Nat.reduceAdd, Nat.reduceSub, Nat.reduceMul, Nat.reduceLT, Nat.reduceLeDiff, Nat.reduceEqDiff, bne, dynB, heapsB, wanted, AOp.eff, AOp.makes, Int.reduceEq, Int.reduceLT, Int.reduceLE, Int.reduceBEq, Int.reduceBNe, boundV, natV_cast]
end
end Go.Proofs.Ytleoicjpcdmfkaa
