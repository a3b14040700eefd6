/-
  THE ABSTRACT MACHINE: a region whose order is open: whatever order is drawn, it comes to the same.
-/
import Derived.Test.YtleoicjpcdmfkaaAb17
set_option linter.unusedSimpArgs false
set_option linter.unusedVariables false
namespace Ab
open Go
open Heap (get put next skip)

section
variable {H : Type} [Heap H] {P : Program} {ops : Array Oper} {l : List AOper} {base : Nat} {tm0 : Array Value} {H0 : H} {tr : List (Rec H)} {tmN : Array Value} {hN : H} {m : Array Nat}
variable {φ0 : Emb} {h0 : H} {w0 : World} {D : Array Bool} {a : Act} {w : World} {φ : Emb} {Q : Exit → Act → World → Prop}

theorem set_get {D : Array Bool} {n i : Nat} (hs : D.size = n) (hi : i < n) (j : Nat) : (D.setIfInBounds i true).getD j false = (D.getD j false || decide (j = i)) := by
  simp only [Array.getD_eq_getD_getElem?, Array.getElem?_setIfInBounds]
  by_cases e : i = j
  · subst e; simp [hs, hi]
  · have : ¬ j = i := fun h => e h.symm
    simp [e, this]

theorem cnt_hit (l : List AOper) : ∀ n k, k ≤ cnt l n → ∃ p, p ≤ n ∧ cnt l p = k
  | 0, k, h => by rw [cnt_zero] at h; exact ⟨0, Nat.le_refl _, by rw [cnt_zero]; omega⟩
  | n + 1, k, h => by
    by_cases q : k ≤ cnt l n
    · obtain ⟨p, h1, h2⟩ := cnt_hit l n k q
      exact ⟨p, by omega, h2⟩
    · cases ho : l[n]? with
      | none =>
        have : l.length ≤ n := List.getElem?_eq_none_iff.1 ho
        have e : cnt l (n + 1) = cnt l n := by simp [cnt, List.take_of_length_le this, List.take_of_length_le (show l.length ≤ n + 1 by omega)]
        omega
      | some o =>
        have := cnt_succ ho
        refine ⟨n + 1, Nat.le_refl _, ?_⟩
        split at this <;> omega

theorem kD_le (l : List AOper) (D : Array Bool) : kD l D ≤ cnt l l.length := by
  rw [cnt_eq l l.length (Nat.le_refl _)]
  unfold kD
  refine List.countP_mono_left fun j hj h => ?_
  simp only [Bool.and_eq_true] at h ⊢
  exact ⟨h.1, by simpa using hj⟩

namespace Reg
variable (R : Reg P ops l base tm0 H0 tr tmN hN m)
include R

/-- ONE OPERATION THAT MAY GO NEXT. -/
theorem inv_step (I : Inv ops l base tm0 tr hN φ0 h0 w0 D a w φ) {i : Nat} (hi : i < ops.size) (hD : D.getD i false = false) (hr : ∀ o, ops[i]? = some o → ∀ e ∈ o.after.toList, Region.binds .any e = true → D.getD e.on false = true)
    {K : Act → World → Prop} (hK : ∀ a' w' φ', Inv ops l base tm0 tr hN φ0 h0 w0 (D.setIfInBounds i true) a' w' φ' → K a' w') : wpOp P ops Q i K a w := by
  have hil : i < l.length := R.len ▸ hi
  have hgo : ops[i]? = some ops[i] := Array.getElem?_eq_getElem hi
  obtain ⟨ao, r, hao, hr0, hri, hrh, hrt, hst, htm⟩ := R.at_ hil
  have hp := R.pair i _ ao hgo hao
  have before : ∀ j, j < l.length → (m.getD i 0).testBit j = true → D.getD j false = true := fun j hj hb => R.ready_in I hi (R.len ▸ hj) hr hb
  have behind : ∀ j, j < l.length → D.getD j false = true → (m.getD j 0).testBit i = true → False := fun j hj hj' hb => by
    have := R.mask_in I hi j (R.len ▸ hj) hj' hb
    rw [hD] at this; cases this
  -- slots that it names
  have slots : ∀ t, t < r.tm.size → t ∈ ao.names → VR φ (r.tm.getD t undef) (a.tmps.getD t undef) := by
    intro t ht hn
    have hts : t < tm0.size := by rw [hrt, R.tsz i (by omega)] at ht; exact ht
    refine I.tmps t hts _ ?_
    rw [hrt]
    have later : ∀ (j' : Nat) o', i < j' → l[j']? = some o' → D.getD j' false = true → o'.dst ≠ some t := by
      intro j' o' h1 h2 h3 h4
      obtain ⟨h5, _⟩ := List.getElem?_eq_some_iff.1 h2
      exact behind j' h5 h3 (R.apart h1 hao h2 (.inr ⟨h4, hn⟩))
    rcases R.tmLast i (by omega) t hts with ⟨j, oj, rj, q1, q2, q3, q4, q5, q6⟩ | ⟨q1, q2⟩
    · refine .inl ⟨j, oj, rj, q2, q3, before j (by omega) (R.apart q1 q2 hao (.inl ⟨q4, hn⟩)), q4, q5.symm, fun j' o' p1 p2 p3 => ?_⟩
      rcases Nat.lt_trichotomy j' i with e | e | e
      · exact q6 j' o' p1 e p2
      · subst e; rw [hD] at p3; cases p3
      · exact later j' o' e p2 p3
    · refine .inr ⟨fun j' o' p2 p3 => ?_, q2⟩
      rcases Nat.lt_trichotomy j' i with e | e | e
      · exact q1 j' o' e p2
      · subst e; rw [hD] at p3; cases p3
      · exact later j' o' e p2 p3
  have hAR : AR φ (maskT ao.names r.tm) a.tmps := maskT_rel (by rw [hrt, R.tsz i (by omega)]; exact I.tsize.symm) slots
  have hmask := step_mask hst
  have hfree : φ (base + i) = none := by
    cases q : φ (base + i) with
    | none => rfl
    | some x =>
      have := I.reg i hil (by rw [q]; simp)
      rw [hD] at this; cases this
  have hnext : ∀ p, p ≤ l.length → base + l.length ≤ next (hAt tr hN p) := fun p hp => by
    have := R.next_mono (Nat.zero_le p) hp
    rw [R.h0] at this
    have := R.room
    omega
  have hset := set_get I.size hil
  -- what the new state has, but for the heap
  have rest : ∀ φ' w' v' k', St φ0 h0 w0 φ' (early base k' l tr (heapNo l tr hN k')) w' → k' = kD l (D.setIfInBounds i true) → Emb.le φ φ' → VR φ' r.v v' → (∀ b, φ' b ≠ none → φ b ≠ none ∨ b = base + i ∨ base + l.length ≤ b) →
      K (a.put ops[i].dst v') w' := by
    intro φ' w' v' k' s1 hk hle hv hdm
    subst hk
    refine hK _ _ φ' ⟨by simp [I.size], ?_, by rw [put_defers]; exact I.defers, ?_, ?_, s1, ?_, ?_⟩
    · intro j hj o ho e he hb
      rw [hset] at hj ⊢
      simp only [Bool.or_eq_true, decide_eq_true_eq] at hj ⊢
      rcases hj with hj | rfl
      · exact .inl (I.closed j hj o ho e he hb)
      · exact .inl (hr o ho e he hb)
    · cases q : ops[i].dst <;> simp [Act.put, I.tsize]
    · intro t ht v hl
      rw [← hp.dst]
      by_cases hd : ao.dst = some t
      · -- it is the last one
        have others : ∀ j oj, l[j]? = some oj → D.getD j false = true → oj.dst = some t → j < i := by
          intro j oj h1 h2 h3
          rcases Nat.lt_trichotomy j i with e | e | e
          · exact e
          · subst e; rw [hD] at h2; cases h2
          · obtain ⟨h5, _⟩ := List.getElem?_eq_some_iff.1 h1
            have hn : t ∈ oj.names := by unfold AOper.names; rw [h3]; simp
            exact (behind j h5 h2 (R.apart e hao h1 (.inl ⟨hd, hn⟩))).elim
        have hself : (D.setIfInBounds i true).getD i false = true := by rw [hset]; simp
        have hv0 : v = r.v := by
          rcases hl with ⟨j, oj, rj, q1, q2, q3, q4, q5, q6⟩ | ⟨q1, _⟩
          · by_cases e : j = i
            · subst e; rw [hr0] at q2; cases q2; exact q5.symm
            · rw [hset] at q3
              simp only [e, decide_false, Bool.or_false] at q3
              exact absurd hd (q6 i ao (others j oj q1 q3 q4) hao hself)
          · exact absurd hd (q1 i ao hao hself)
        subst hv0
        rw [hd]
        have : (a.put (some t) v').tmps.getD t undef = v' := by simp [Act.put, Array.getD, I.tsize, ht]
        rw [this]
        exact hv
      · have hnd := hd
        have hl' : Last l tr tm0 D t v := by
          rcases hl with ⟨j, oj, rj, q1, q2, q3, q4, q5, q6⟩ | ⟨q1, q2⟩
          · rw [hset] at q3
            by_cases e : j = i
            · subst e; rw [hao] at q1; cases q1; exact absurd q4 hnd
            · simp only [e, decide_false, Bool.or_false] at q3
              exact .inl ⟨j, oj, rj, q1, q2, q3, q4, q5, fun j' o' p1 p2 p3 => q6 j' o' p1 p2 (by rw [hset, p3]; rfl)⟩
          · exact .inr ⟨fun j' o' p2 p3 => q1 j' o' p2 (by rw [hset, p3]; rfl), q2⟩
        have same : (a.put ao.dst v').tmps.getD t undef = a.tmps.getD t undef := by
          cases q : ao.dst with
          | none => rfl
          | some d =>
            have hne : d ≠ t := fun e => hd (by rw [q, e])
            simp only [Act.put, Array.getD_eq_getD_getElem?, Array.getElem?_setIfInBounds, if_neg hne]
        rw [same]
        exact (I.tmps t ht v hl').mono hle
    · intro b hb
      rcases hdm b hb with e | e | e
      · exact I.dom b e
      · exact .inr (by omega)
      · exact .inr (by omega)
    · intro j hj hb
      rw [hset]
      rcases hdm _ hb with e | e | e
      · rw [I.reg j hj e]; rfl
      · have : j = i := by omega
        simp [this]
      · omega
  by_cases hf : ao.eff = true
  · -- it writes: all that write and stand ahead of it are done, and none behind it
    have inD : ∀ j, effA l j = true → (D.getD j false = true ↔ j < i) := by
      intro j hj
      have hjl : j < l.length := by
        by_cases q : j < l.length
        · exact q
        · simp [effA, List.getElem?_eq_none (Nat.le_of_not_lt q)] at hj
      have hoj := List.getElem?_eq_getElem hjl
      rw [effA_of hoj] at hj
      refine ⟨fun h => ?_, fun h => before j hjl (R.chain h hoj hao hj hf)⟩
      rcases Nat.lt_trichotomy j i with e | e | e
      · exact e
      · subst e; rw [hD] at h; cases h
      · exact (behind j hjl h (R.chain e hao hoj hf hj)).elim
    have k1 : kD l D = cnt l i := by
      rw [cnt_eq l i (by omega)]
      unfold kD
      refine List.countP_congr fun j _ => ?_
      cases q : effA l j with
      | false => simp
      | true => simpa using inD j q
    have k2 : kD l (D.setIfInBounds i true) = cnt l (i + 1) := by
      rw [cnt_eq l (i + 1) (by omega)]
      unfold kD
      refine List.countP_congr fun j _ => ?_
      cases q : effA l j with
      | false => simp
      | true =>
        have := inD j q
        rw [hset]
        simp only [Bool.true_and, Bool.or_eq_true, decide_eq_true_eq]
        rw [this]; omega
    have s0 := I.st
    rw [k1] at s0
    -- the heap before it
    have noMade : ∀ j o r, i ≤ j → l[j]? = some o → tr[j]? = some r → o.op.makes = true → wanted o.guard r.tm = true → i < j := by
      intro j o r' h1 h2 _ h4 _
      by_cases e : i = j
      · subst e; rw [hao] at h2; cases h2
        have := R.mk_eff hao h4
        rw [hf] at this; cases this
      · omega
    have same : ∀ b B, get (hAt tr hN i) b = some B → get (R.U (cnt l i)) b = some B := by
      intro b B hb
      rw [R.U_other (by omega) b fun j o r' h1 h2 h3 h4 h5 e => ?_]
      · exact hb
      · have hj := noMade j o r' h1 h2 h3 h4 h5
        obtain ⟨h6, _⟩ := List.getElem?_eq_some_iff.1 h2
        rw [e, R.none_yet h1 h6] at hb
        cases hb
    obtain ⟨e1, _, _, _, nu1, nu2⟩ := R.next_U (p := i) (by omega)
    have simS : Sim φ (hAt tr hN i) w := ⟨fun b x hx => by have := s0.sim.dom b x hx; have e : next (early base (cnt l i) l tr (heapNo l tr hN (cnt l i))) = next (hAt tr hN i) := nu1.trans nu2; omega, s0.sim.rng,
      fun b hb => by
        cases q : get (hAt tr hN i) b with
        | none => rfl
        | some B =>
          have := same b B q
          have hfr := s0.sim.fresh b (by have e : next (early base (cnt l i) l tr (heapNo l tr hN (cnt l i))) = next (hAt tr hN i) := nu1.trans nu2; omega)
          change get (early base (cnt l i) l tr (heapNo l tr hN (cnt l i))) b = some B at this
          rw [hfr] at this; exact absurd this (by simp),
      fun b c d g B hx hb => s0.sim.blk b c d g B hx (same b B hb),
      fun b1 b2 c d1 g1 d2 g2 B1 B2 h1 h2 h3 h4 h5 => s0.sim.sep b1 b2 c d1 g1 d2 g2 B1 B2 h1 h2 (same _ _ h3) (same _ _ h4) h5⟩
    rw [hrh] at hmask
    refine step_sound hp simS hAR hfree (by have := hnext i (by omega); omega) hmask hgo fun φ' w' v' st1 vr1 dm1 => ?_
    refine rest φ' w' v' (cnt l (i + 1)) ?_ k2.symm st1.ext vr1 (fun b hb => by
      rcases dm1 b hb with e | e | e
      · exact .inl e
      · exact .inr (.inl e)
      · exact .inr (.inr (by have := hnext i (by omega); omega)))
    -- the heap behind it
    have pend : ∀ j o r', i + 1 ≤ j → l[j]? = some o → tr[j]? = some r' → o.op.makes = true → wanted o.guard r'.tm = true → get (R.U (cnt l (i + 1))) (base + j) = get (R.U (cnt l i)) (base + j) := by
      intro j o r' h1 h2 h3 h4 h5
      rw [R.U_made h1 h2 h3 h4 h5, R.U_made (by omega) h2 h3 h4 h5]
    have other : ∀ b, (∀ j o r', i + 1 ≤ j → l[j]? = some o → tr[j]? = some r' → o.op.makes = true → wanted o.guard r'.tm = true → b ≠ base + j) → get (R.U (cnt l (i + 1))) b = get (hAt tr hN (i + 1)) b := fun b hb => R.U_other (by omega) b hb
    -- a block that is laid beforehand and stands for something stood for it before
    have known : ∀ j, i + 1 ≤ j → j < l.length → ∀ x, φ' (base + j) = some x → φ (base + j) = some x := by
      intro j h1 h2 x hx
      have : φ (base + j) ≠ none := by
        rcases dm1 (base + j) (by rw [hx]; simp) with e | e | e
        · exact e
        · omega
        · have := hnext i (by omega); omega
      cases q : φ (base + j) with
      | none => exact absurd q this
      | some y => rw [st1.ext _ _ q] at hx; exact hx
    have pendD : ∀ b, (∃ j o r', i + 1 ≤ j ∧ l[j]? = some o ∧ tr[j]? = some r' ∧ o.op.makes = true ∧ wanted o.guard r'.tm = true ∧ b = base + j) ∨ get (R.U (cnt l (i + 1))) b = get (hAt tr hN (i + 1)) b := by
      intro b
      by_cases q : ∃ j o r', i + 1 ≤ j ∧ l[j]? = some o ∧ tr[j]? = some r' ∧ o.op.makes = true ∧ wanted o.guard r'.tm = true ∧ b = base + j
      · exact .inl q
      · exact .inr (other b fun j o r' h1 h2 h3 h4 h5 e => q ⟨j, o, r', h1, h2, h3, h4, h5, e⟩)
    -- what such a block stands for is as it was
    have pendB : ∀ j o r', i + 1 ≤ j → l[j]? = some o → tr[j]? = some r' → o.op.makes = true → wanted o.guard r'.tm = true → ∀ c d g B, φ' (base + j) = some (c, d, g) → get (R.U (cnt l (i + 1))) (base + j) = some B →
        φ (base + j) = some (c, d, g) ∧ get (R.U (cnt l i)) (base + j) = some B := by
      intro j o r' h1 h2 h3 h4 h5 c d g B hx hb
      obtain ⟨h6, _⟩ := List.getElem?_eq_some_iff.1 h2
      exact ⟨known j h1 h6 _ hx, by rw [← pend j o r' h1 h2 h3 h4 h5]; exact hb⟩
    obtain ⟨e2, _, _, _, nu3, nu4⟩ := R.next_U (p := i + 1) (by omega)
    have nxt : next (R.U (cnt l (i + 1))) = next (hAt tr hN (i + 1)) := nu3.trans nu4
    have simU : Sim φ' (R.U (cnt l (i + 1))) w' := by
      refine ⟨fun b x hx => by rw [nxt]; exact st1.sim.dom b x hx, st1.sim.rng, fun b hb => ?_, fun b c d g B hx hb => ?_, fun b1 b2 c d1 g1 d2 g2 B1 B2 h1 h2 h3 h4 h5 => ?_⟩
      · rw [nxt] at hb
        rw [other b fun j o r' h1 h2 h3 h4 h5 e => ?_]
        · exact st1.sim.fresh b hb
        · obtain ⟨h6, _⟩ := List.getElem?_eq_some_iff.1 h2
          have := hnext (i + 1) (by omega)
          omega
      · rcases pendD b with ⟨j, o, r', q1, q2, q3, q4, q5, rfl⟩ | q
        · obtain ⟨z1, z2⟩ := pendB j o r' q1 q2 q3 q4 q5 c d g B hx hb
          have hbr := s0.sim.blk _ _ _ _ _ z1 z2
          obtain ⟨h6, _⟩ := List.getElem?_eq_some_iff.1 q2
          -- nobody writes there
          by_cases hw : ∀ b' d' g' B', φ b' = some (c, d', g') → get (hAt tr hN i) b' = some B' → wr B' = false
          · have := st1.fr.block c (s0.sim.rng _ _ _ _ z1) hw
            rw [this]
            exact hbr.mono st1.ext
          · simp only [Classical.not_forall, Bool.not_eq_false] at hw
            obtain ⟨b', d', g', B', y1, y2, y3⟩ := hw
            rcases s0.sim.sep _ _ _ _ _ _ _ _ _ y1 z1 (same _ _ y2) z2 y3 with e | e
            · rw [e, R.none_yet (by omega) h6] at y2; cases y2
            · cases hq : w.heap[c]? with
              | none =>
                rw [hq] at hbr
                cases B with
                | cells cs md => obtain ⟨_, _, _, h, _⟩ := hbr; cases h
                | map es => simp [bsize] at e
              | some O =>
                obtain ⟨O', o1, o2⟩ := st1.fr.like c O hq
                rw [o1]
                rw [hq] at hbr
                rcases o2 with rfl | o2
                · exact hbr.mono st1.ext
                · exact (hbr.alike o2 e).mono st1.ext
        · exact st1.sim.blk b c d g B hx (by rw [← q]; exact hb)
      · -- two blocks of one object
        rcases pendD b1 with ⟨j1, o1, r1, p1, p2, p3, p4, p5, rfl⟩ | p
        · obtain ⟨z1, z2⟩ := pendB j1 o1 r1 p1 p2 p3 p4 p5 c d1 g1 B1 h1 h3
          rcases pendD b2 with ⟨j2, o2, r2, q1, q2, q3, q4, q5, rfl⟩ | q
          · obtain ⟨z3, z4⟩ := pendB j2 o2 r2 q1 q2 q3 q4 q5 c d2 g2 B2 h2 h4
            exact s0.sim.sep _ _ _ _ _ _ _ _ _ z1 z3 z2 z4 h5
          · -- the other one is of the heap behind the step
            rw [q] at h4
            obtain ⟨h6, _⟩ := List.getElem?_eq_some_iff.1 p2
            have hc := s0.sim.rng _ _ _ _ z1
            by_cases hz : bsize B2 = 0
            · exact .inr hz
            · obtain ⟨b0, d0, g0, B0, y1, y2, _, y3⟩ := st1.back b2 c d2 g2 B2 h2 hc h4 (.inr hz)
              rcases s0.sim.sep _ _ _ _ _ _ _ _ _ z1 y1 z2 (same _ _ y2) h5 with e | e
              · rw [← e, R.none_yet (by omega) h6] at y2; cases y2
              · exact absurd e (y3 hz)
        · rw [p] at h3
          rcases pendD b2 with ⟨j2, o2, r2, q1, q2, q3, q4, q5, rfl⟩ | q
          · obtain ⟨z3, z4⟩ := pendB j2 o2 r2 q1 q2 q3 q4 q5 c d2 g2 B2 h2 h4
            have hc := s0.sim.rng _ _ _ _ z3
            obtain ⟨b0, d0, g0, B0, y1, y2, y3, _⟩ := st1.back b1 c d1 g1 B1 h1 hc h3 (.inl h5)
            obtain ⟨h6, _⟩ := List.getElem?_eq_some_iff.1 q2
            rcases s0.sim.sep _ _ _ _ _ _ _ _ _ y1 z3 (same _ _ y2) z4 (y3 h5) with e | e
            · rw [e, R.none_yet (by omega) h6] at y2; cases y2
            · exact .inr e
          · rw [q] at h4
            exact st1.sim.sep _ _ _ _ _ _ _ _ _ h1 h2 h3 h4 h5
    refine s0.trans ⟨st1.ext, simU, ⟨st1.fr.os, st1.fr.tape, st1.fr.output, st1.fr.size, fun c hc hn => st1.fr.block c hc fun b d g B h1 h2 => hn b d g B h1 (same b B h2), st1.fr.like⟩, fun b c d g B h1 hc h2 h3 => ?_⟩
    rcases pendD b with ⟨j, o, r', q1, q2, q3, q4, q5, rfl⟩ | q
    · obtain ⟨z1, z2⟩ := pendB j o r' q1 q2 q3 q4 q5 c d g B h1 h2
      exact ⟨_, _, _, _, z1, z2, fun q => q, fun q => q⟩
    · change get (R.U (cnt l (i + 1))) b = some B at h2
      rw [q] at h2
      obtain ⟨b0, d0, g0, B0, y1, y2, y3, y4⟩ := st1.back b c d g B h1 hc h2 h3
      exact ⟨b0, d0, g0, B0, y1, same _ _ y2, y3, y4⟩
  · have hf : ao.eff = false := by simpa using hf
    have hef : ao.op.eff = false := by rw [← R.eff i ao hao]; exact hf
    have hei : effA l i = false := by rw [effA_of hao]; exact hf
    have hk : kD l (D.setIfInBounds i true) = kD l D := by
      unfold kD
      refine List.countP_congr fun j _ => ?_
      rw [hset]
      by_cases e : j = i
      · subst e; simp [hei]
      · simp [e]
    obtain ⟨p, hp1, hp2⟩ := cnt_hit l l.length (kD l D) (kD_le l D)
    have hnu : base + l.length ≤ next (early base (kD l D) l tr (heapNo l tr hN (kD l D))) := by
      obtain ⟨e, _, _, _, n1, n2⟩ := R.next_U (p := p) hp1
      rw [hp2] at n1
      have e1 : next (early base (kD l D) l tr (heapNo l tr hN (kD l D))) = next (hAt tr hN p) := n1.trans n2
      have := hnext p hp1
      omega
    have hcl : isCall ao.op = false := by
      cases q : ao.op <;> rw [q] at hef <;> first | rfl | simp [AOp.eff] at hef
    -- what it yields in the heap as it stands now
    have now : ∃ h', StepOK P (base + i) ao r.tm (early base (kD l D) l tr (heapNo l tr hN (kD l D))) r.v h' ∧ (∀ b, get h' b = get (early base (kD l D) l tr (heapNo l tr hN (kD l D))) b) ∧ next h' = next (early base (kD l D) l tr (heapNo l tr hN (kD l D))) := by
      rcases hst with ⟨g1, g2, _⟩ | ⟨g1, ⟨_, g3⟩ | ⟨f, args, g2, _⟩⟩
      · exact ⟨_, .inl ⟨g1, g2, rfl⟩, fun _ => rfl, rfl⟩
      · have hwin := R.win i ao hao
        have lo : ao.lo ≤ kD l D := by
          rw [hwin.1, ← List.countP_eq_length_filter]
          unfold kD
          refine List.countP_mono_left fun j hj h => ?_
          simp only [Bool.and_eq_true] at h ⊢
          exact ⟨h.1, before j (by simpa using hj) h.2⟩
        have hi' : kD l D ≤ ao.hi := by
          rw [hwin.2, ← List.countP_eq_length_filter]
          unfold kD
          refine List.countP_mono_left fun j hj h => ?_
          simp only [Bool.and_eq_true, Bool.not_eq_true'] at h ⊢
          refine ⟨h.1, ?_⟩
          cases q : (m.getD j 0).testBit i with
          | false => rfl
          | true => exact (behind j (by simpa using hj) h.2 q).elim
        have hsa := stableL_at l tr R.stable i ao r hao hr0 _ lo hi'
        unfold stableAt at hsa
        have hw : wanted ao.guard r.tm = true := by simp [wanted, g1]
        rw [hf, hw] at hsa
        simp only [Bool.not_true, Bool.or_self, Bool.false_eq_true, if_false] at hsa
        obtain ⟨h', s1, s2⟩ := hsa
        rw [hri] at s1 s2
        refine ⟨h', .inr ⟨g1, .inl ⟨hcl, s1⟩⟩, fun b => ?_, (aop_keeps s1).1⟩
        obtain ⟨q1, q2⟩ := aop_quiet hef s1
        cases hm : ao.op.makes with
        | false => rw [q2 hm]
        | true =>
          by_cases e : b = base + i
          · rw [e]; exact s2 hm
          · rcases q1 with q1 | ⟨B, q1⟩
            · rw [q1]
            · rw [q1, Heap.get_put, if_neg e]
      · rw [g2] at hcl; simp [isCall] at hcl
    obtain ⟨h', st0, hg, hn⟩ := now
    refine step_sound hp I.st.sim hAR hfree (by omega) (step_mask st0) hgo fun φ' w' v' st1 vr1 dm1 => ?_
    refine rest φ' w' v' (kD l D) (I.st.trans (st1.congr (fun b => (hg b).symm) hn.symm)) hk.symm st1.ext vr1 fun b hb => ?_
    rcases dm1 b hb with e | e | e
    · exact .inl e
    · exact .inr (.inl e)
    · exact .inr (.inr (by omega))

/-- Who is ahead of all that is not done may go. -/
theorem all_done (hsz : D.size = l.length) (hr : Region.ready .any ops D = []) : ∀ i, i < ops.size → D.getD i false = true := by
  intro i
  induction i using Nat.strongRecOn with
  | _ i ih =>
    intro hi
    cases q : D.getD i false with
    | true => rfl
    | false =>
      exfalso
      have hmem : i ∈ Region.ready .any ops D := by
        unfold Region.ready
        rw [List.mem_filter]
        refine ⟨by simpa using hi, ?_⟩
        have hil : i < D.size := by rw [hsz, R.len]; exact hi
        have q' : D.getD i true = false := by
          simp only [Array.getD, hil, dif_pos] at q ⊢
          exact q
        rw [q', Array.getElem?_eq_getElem hi]
        simp only [Bool.not_false, Option.map_some, Option.getD_some, Bool.true_and]
        rw [← Array.all_toList, List.all_eq_true]
        intro e he
        have hb := R.back
        unfold backOk at hb
        rw [List.all_eq_true] at hb
        have h1 := hb i (by simpa using hi)
        rw [Array.getElem?_eq_getElem hi] at h1
        simp only [List.all_eq_true] at h1
        have h2 := h1 e he
        simp only [Bool.or_eq_true, Bool.not_eq_true', decide_eq_true_eq] at h2 ⊢
        rcases h2 with h2 | h2
        · exact .inl h2
        · exact .inr (ih e.on h2 (by omega))
      rw [hr] at hmem
      cases hmem

/-- WHATEVER ORDER. -/
theorem any_run (hQ : ∀ φ' a' w', St φ0 h0 w0 φ' hN w' → AR φ' tmN a'.tmps → a'.defers = [] → (∀ b, φ' b ≠ none → φ0 b ≠ none ∨ base ≤ b) → Q .normal a' w') :
    ∀ (fuel : Nat) (D : Array Bool) (a : Act) (w : World) (φ : Emb), Inv ops l base tm0 tr hN φ0 h0 w0 D a w φ → fuel = (List.range ops.size).countP (fun j => !D.getD j false) → wpAny P .any ops Q fuel D a w := by
  -- at the end
  have fin : ∀ (D : Array Bool) (a : Act) (w : World) (φ : Emb), Inv ops l base tm0 tr hN φ0 h0 w0 D a w φ → (∀ i, i < ops.size → D.getD i false = true) → Q .normal a w := by
    intro D a w φ I hall
    have hk : kD l D = cnt l l.length := by
      rw [cnt_eq l l.length (Nat.le_refl _)]
      unfold kD
      refine List.countP_congr fun j hj => ?_
      have hj' : j < l.length := by simpa using hj
      rw [hall j (R.len ▸ hj')]
      simp [hj']
    have hst := I.st
    rw [hk] at hst
    refine hQ φ a w (hst.congr (fun b => ?_) ?_) ⟨?_, fun i h1 h2 => ?_⟩ I.defers I.dom
    · have := R.U_other (p := l.length) (Nat.le_refl _) b fun j o r h1 h2 => by
        obtain ⟨h3, _⟩ := List.getElem?_eq_some_iff.1 h2
        omega
      rw [R.hEnd] at this
      exact this.symm
    · obtain ⟨e, e1, e2, _, n1, n2⟩ := R.next_U (p := l.length) (Nat.le_refl _)
      have := n1.trans n2
      rw [R.hEnd] at this
      exact this.symm
    · have := R.tsz l.length (Nat.le_refl _)
      rw [R.tmEnd] at this
      rw [this]; exact I.tsize.symm
    · have hsz := R.tsz l.length (Nat.le_refl _)
      rw [R.tmEnd] at hsz
      have ht : i < tm0.size := by omega
      have e1 : tmN[i] = tmN.getD i undef := by simp [Array.getD, h1]
      have e2 : a.tmps[i] = a.tmps.getD i undef := by simp [Array.getD, h2]
      rw [e1, e2]
      refine I.tmps i ht _ ?_
      have hl := R.tmLast l.length (Nat.le_refl _) i ht
      rw [R.tmEnd] at hl
      rcases hl with ⟨j, oj, rj, q1, q2, q3, q4, q5, q6⟩ | ⟨q1, q2⟩
      · refine .inl ⟨j, oj, rj, q2, q3, hall j (R.len ▸ q1), q4, q5.symm, fun j' o' p1 p2 _ => ?_⟩
        obtain ⟨h3, _⟩ := List.getElem?_eq_some_iff.1 p2
        exact q6 j' o' p1 h3 p2
      · refine .inr ⟨fun j' o' p2 _ => ?_, q2⟩
        obtain ⟨h3, _⟩ := List.getElem?_eq_some_iff.1 p2
        exact q1 j' o' h3 p2
  have count0 : ∀ D : Array Bool, (List.range ops.size).countP (fun j => !D.getD j false) = 0 → ∀ i, i < ops.size → D.getD i false = true := by
    intro D h i hi
    rw [List.countP_eq_zero] at h
    have := h i (by simpa using hi)
    simpa using this
  intro fuel
  induction fuel with
  | zero =>
    intro D a w φ I hfu
    have hall := count0 D hfu.symm
    refine ⟨?_, fin D a w φ I hall⟩
    unfold Region.ready
    rw [List.filter_eq_nil_iff]
    intro i hi
    have hi' : i < ops.size := by simpa using hi
    have hil : i < D.size := by rw [I.size, R.len]; exact hi'
    have q : D.getD i true = true := by
      have := hall i hi'
      simp only [Array.getD, hil, dif_pos] at this ⊢
      exact this
    simp [q]
  | succ fuel ih =>
    intro D a w φ I hfu
    refine ⟨fun hr => fin D a w φ I (R.all_done I.size hr), fun i hi => ?_⟩
    unfold Region.ready at hi
    rw [List.mem_filter] at hi
    obtain ⟨h1, h2⟩ := hi
    have hi' : i < ops.size := by simpa using h1
    have hil : i < D.size := by rw [I.size, R.len]; exact hi'
    simp only [Bool.and_eq_true, Bool.not_eq_true'] at h2
    have hD : D.getD i false = false := by
      have := h2.1
      simp only [Array.getD, hil, dif_pos] at this ⊢
      exact this
    refine R.inv_step I hi' hD (fun o ho e he hb => ?_) fun a' w' φ' I' => ih _ a' w' φ' I' ?_
    · have h3 := h2.2
      rw [ho] at h3
      simp only [Option.map_some, Option.getD_some] at h3
      rw [← Array.all_toList, List.all_eq_true] at h3
      have := h3 e he
      simpa [hb] using this
    · have hset := set_get I.size (R.len ▸ hi' : i < l.length)
      have := count_flip ops.size (fun j => !D.getD j false) (fun j => !(D.setIfInBounds i true).getD j false) i hi' (by simp [hD]) (by rw [hset]; simp) (fun j hj => by rw [hset]; simp [hj])
      omega

end Reg
end
end Ab
