/-
  What an op does to a sorted row; ops of unlike keys in either order. No program in sight.
-/
import Derived.Test.YtleoicjpcdmfkaaLa28
set_option linter.unusedSimpArgs false
set_option linter.unusedVariables false
namespace Go.Proofs.Ytleoicjpcdmfkaa
open Go Ab

def doneOf (kd : Int) (o : Option Int) : Bool := if kd = 1 ∨ kd = 5 then !o.isSome else if kd = 8 then true else o.isSome
def avOf (kd : Int) (o : Option Int) : Int := if kd = 4 ∨ kd = 5 ∨ kd = 6 ∨ kd = 7 then o.getD 0 else 0
def newOf (kd val : Int) (o : Option Int) : Option Int := if kd = 1 then some (o.getD 0) else if kd = 4 then some val else if kd = 5 then some (o.getD val) else if kd = 2 ∨ kd = 6 then none else o

theorem putR_ok {ps : List (Int × Int)} (hs : Srt ps) (hl : ps.length ≤ 15) (k v : Int) (w d : Bool) (a : Int) :
    (putR ps k v w d a).2.2.2 = 0 ∧ (putR ps k v w d a).2.1 = d ∧ (putR ps k v w d a).2.2.1 = a ∧ Srt (putR ps k v w d a).1 ∧ (putR ps k v w d a).1.length ≤ ps.length + 1 ∧ ∀ k', lk (putR ps k v w d a).1 k' = if k' = k ∧ w = true then some v else lk ps k' := by
  unfold putR
  cases w
  · simp
    exact hs
  · have : withS ps k v = some (withL ps k v) := by
      unfold withS
      rw [if_neg]
      omega
    rw [if_pos rfl, this]
    refine ⟨rfl, rfl, rfl, withL_srt hs k v, withL_le ps k v, fun k' => ?_⟩
    show lk (withL ps k v) k' = _
    rw [lk_withL hs]
    simp

theorem withoutL_le (ps : List (Int × Int)) (k : Int) : (withoutL ps k).length ≤ ps.length + 1 := by
  unfold withoutL
  split
  · have := List.length_eraseIdx_le ps (ixOf ps k)
    omega
  · omega

theorem doS_ok {ps : List (Int × Int)} (hs : Srt ps) (hl : ps.length ≤ 15) (kd key val : Int) (hk : 1 ≤ kd ∧ kd ≤ 8) :
    (doS ps kd key val).2.2.2 = 0 ∧ (doS ps kd key val).2.1 = doneOf kd (lk ps key) ∧ (doS ps kd key val).2.2.1 = avOf kd (lk ps key) ∧ Srt (doS ps kd key val).1 ∧ (doS ps kd key val).1.length ≤ ps.length + 1 ∧
      ∀ k', lk (doS ps kd key val).1 k' = if k' = key then newOf kd val (lk ps key) else lk ps k' := by
  have hh := hasK_lk hs key
  have hv := getV_lk hs key
  have hcase : kd = 1 ∨ kd = 2 ∨ kd = 3 ∨ kd = 4 ∨ kd = 5 ∨ kd = 6 ∨ kd = 7 ∨ kd = 8 := by omega
  rcases hcase with rfl | rfl | rfl | rfl | rfl | rfl | rfl | rfl
  · obtain ⟨a, b, c, d, e, f⟩ := putR_ok hs hl key 0 (!hasK ps key) (!hasK ps key) 0
    refine ⟨a, b.trans (by rw [hh]; rfl), c, d, e, fun k' => ?_⟩
    refine (f k').trans ?_
    rw [hh]
    by_cases q : k' = key
    · subst q
      cases lk ps k' <;> simp [newOf]
    · rw [if_neg (fun r => q r.1), if_neg q]
  · refine ⟨rfl, hh, rfl, withoutL_srt hs key, withoutL_le ps key, fun k' => ?_⟩
    refine (lk_withoutL hs key k').trans ?_
    simp [newOf]
  · refine ⟨rfl, hh, rfl, hs, Nat.le_succ _, fun k' => ?_⟩
    show lk ps k' = _
    by_cases q : k' = key
    · subst q; simp [newOf]
    · rw [if_neg q]
  · obtain ⟨a, b, c, d, e, f⟩ := putR_ok hs hl key val true (hasK ps key) (getV ps key)
    refine ⟨a, b.trans (by rw [hh]; rfl), c.trans (by rw [hv]; rfl), d, e, fun k' => ?_⟩
    refine (f k').trans ?_
    simp [newOf]
  · obtain ⟨a, b, c, d, e, f⟩ := putR_ok hs hl key val (!hasK ps key) (!hasK ps key) (getV ps key)
    refine ⟨a, b.trans (by rw [hh]; rfl), c.trans (by rw [hv]; rfl), d, e, fun k' => ?_⟩
    refine (f k').trans ?_
    rw [hh]
    by_cases q : k' = key
    · subst q
      cases lk ps k' <;> simp [newOf]
    · rw [if_neg (fun r => q r.1), if_neg q]
  · refine ⟨rfl, hh, hv, withoutL_srt hs key, withoutL_le ps key, fun k' => ?_⟩
    refine (lk_withoutL hs key k').trans ?_
    simp [newOf]
  · refine ⟨rfl, hh, hv, hs, Nat.le_succ _, fun k' => ?_⟩
    show lk ps k' = _
    by_cases q : k' = key
    · subst q; simp [newOf]
    · rw [if_neg q]
  · refine ⟨rfl, rfl, rfl, hs, Nat.le_succ _, fun k' => ?_⟩
    show lk ps k' = _
    by_cases q : k' = key
    · subst q; simp [newOf]
    · rw [if_neg q]

theorem doS_kind {ps : List (Int × Int)} {kd key val : Int} (h : (doS ps kd key val).2.2.2 = 0) : 1 ≤ kd ∧ kd ≤ 8 := by
  by_cases q : 1 ≤ kd ∧ kd ≤ 8
  · exact q
  · exfalso
    unfold doS at h
    rw [if_neg (by omega), if_neg (by omega), if_neg (by omega), if_neg (by omega), if_neg (by omega), if_neg (by omega), if_neg (by omega), if_neg (by omega)] at h
    cases h

/-- Ops of unlike keys, in either order. -/
theorem apart {ps : List (Int × Int)} (hs : Srt ps) (hl : ps.length ≤ 14) {ko kp o1 o2 p1 p2 : Int} (hne : o2 ≠ p2) (ho : (doS ps ko o2 o1).2.2.2 = 0) (hp : (doS ps kp p2 p1).2.2.2 = 0) :
    (doS (doS ps ko o2 o1).1 kp p2 p1).2.2.2 = 0 ∧ (doS (doS ps kp p2 p1).1 ko o2 o1).2.2.2 = 0 ∧ (doS (doS ps ko o2 o1).1 kp p2 p1).1 = (doS (doS ps kp p2 p1).1 ko o2 o1).1 ∧
      (doS (doS ps kp p2 p1).1 ko o2 o1).2.1 = (doS ps ko o2 o1).2.1 ∧ (doS (doS ps kp p2 p1).1 ko o2 o1).2.2.1 = (doS ps ko o2 o1).2.2.1 ∧
      (doS (doS ps ko o2 o1).1 kp p2 p1).2.1 = (doS ps kp p2 p1).2.1 ∧ (doS (doS ps ko o2 o1).1 kp p2 p1).2.2.1 = (doS ps kp p2 p1).2.2.1 := by
  have ko' := doS_kind ho
  have kp' := doS_kind hp
  obtain ⟨_, a2, a3, a4, a5, a6⟩ := doS_ok hs (by omega) ko o2 o1 ko'
  obtain ⟨_, b2, b3, b4, b5, b6⟩ := doS_ok hs (by omega) kp p2 p1 kp'
  obtain ⟨c1, c2, c3, c4, c5, c6⟩ := doS_ok a4 (by omega) kp p2 p1 kp'
  obtain ⟨d1, d2, d3, d4, d5, d6⟩ := doS_ok b4 (by omega) ko o2 o1 ko'
  have e1 : lk (doS ps ko o2 o1).1 p2 = lk ps p2 := by rw [a6, if_neg fun q => hne q.symm]
  have e2 : lk (doS ps kp p2 p1).1 o2 = lk ps o2 := by rw [b6, if_neg hne]
  refine ⟨c1, d1, srt_ext c4 d4 fun k => ?_, by rw [d2, a2, e2], by rw [d3, a3, e2], by rw [c2, b2, e1], by rw [c3, b3, e1]⟩
  rw [c6, d6, e1, e2, a6, b6]
  by_cases q1 : k = p2
  · rw [if_pos q1, if_neg (fun q => hne (q.symm.trans q1)), if_pos q1]
  · rw [if_neg q1]
    by_cases q2 : k = o2
    · rw [if_pos q2, if_pos q2]
    · rw [if_neg q2, if_neg q2, if_neg q1]

end Go.Proofs.Ytleoicjpcdmfkaa
