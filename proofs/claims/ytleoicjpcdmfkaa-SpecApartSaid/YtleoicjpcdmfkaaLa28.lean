/-
  States as sorted rows: the plain law. No program in sight.
-/
import Derived.Test.YtleoicjpcdmfkaaLa27
set_option linter.unusedSimpArgs false
set_option linter.unusedVariables false
namespace Go.Proofs.Ytleoicjpcdmfkaa
open Go Ab

def Srt (ps : List (Int × Int)) : Prop := ps.Pairwise fun a b => a.1 < b.1
/-- A key's value. -/
def lk : List (Int × Int) → Int → Option Int
  | [], _ => none
  | (x, v) :: ps, k => if x = k then some v else lk ps k

theorem ixOf_cons (x : Int × Int) (ps : List (Int × Int)) (k : Int) : ixOf (x :: ps) k = if x.1 < k then ixOf ps k + 1 else 0 := by
  unfold ixOf
  by_cases q : x.1 < k
  · simp [List.takeWhile_cons, q]
  · simp [List.takeWhile_cons, q]

theorem hasK_cons (x : Int × Int) (ps : List (Int × Int)) (k : Int) : hasK (x :: ps) k = if x.1 < k then hasK ps k else x.1 == k := by
  unfold hasK
  rw [ixOf_cons]
  by_cases q : x.1 < k
  · rw [if_pos q, if_pos q]; rfl
  · rw [if_neg q, if_neg q]; rfl

theorem getV_cons (x : Int × Int) (ps : List (Int × Int)) (k : Int) : getV (x :: ps) k = if x.1 < k then getV ps k else if x.1 = k then x.2 else 0 := by
  unfold getV
  rw [hasK_cons, ixOf_cons]
  by_cases q : x.1 < k
  · rw [if_pos q, if_pos q, if_pos q]; rfl
  · rw [if_neg q, if_neg q, if_neg q]
    by_cases e : x.1 = k <;> simp [e]

theorem withL_cons (x : Int × Int) (ps : List (Int × Int)) (k v : Int) : withL (x :: ps) k v = if x.1 < k then x :: withL ps k v else if x.1 = k then (k, v) :: ps else (k, v) :: x :: ps := by
  unfold withL
  rw [hasK_cons, ixOf_cons]
  by_cases q : x.1 < k
  · rw [if_pos q, if_pos q, if_pos q]
    split
    · rfl
    · rfl
  · rw [if_neg q, if_neg q, if_neg q]
    by_cases e : x.1 = k <;> simp [e]

theorem withoutL_cons (x : Int × Int) (ps : List (Int × Int)) (k : Int) : withoutL (x :: ps) k = if x.1 < k then x :: withoutL ps k else if x.1 = k then ps else x :: ps := by
  unfold withoutL
  rw [hasK_cons, ixOf_cons]
  by_cases q : x.1 < k
  · rw [if_pos q, if_pos q, if_pos q]
    split
    · rfl
    · rfl
  · rw [if_neg q, if_neg q, if_neg q]
    by_cases e : x.1 = k <;> simp [e]

theorem lk_none {ps : List (Int × Int)} {k : Int} (h : ∀ x ∈ ps, k < x.1) : lk ps k = none := by
  induction ps with
  | nil => rfl
  | cons x ps ih =>
    have := h x (by simp)
    simp only [lk]
    rw [if_neg (by omega)]
    exact ih fun y hy => h y (by simp [hy])

theorem hasK_lk {ps : List (Int × Int)} (hs : Srt ps) (k : Int) : hasK ps k = (lk ps k).isSome := by
  induction ps with
  | nil => rfl
  | cons x ps ih =>
    obtain ⟨h1, h2⟩ := List.pairwise_cons.1 hs
    rw [hasK_cons]
    simp only [lk]
    by_cases q : x.1 < k
    · rw [if_pos q, if_neg (by omega), ih h2]
    · rw [if_neg q]
      by_cases e : x.1 = k
      · simp [e]
      · rw [if_neg e, lk_none fun y hy => by have := h1 y hy; omega]
        simpa using e

theorem getV_lk {ps : List (Int × Int)} (hs : Srt ps) (k : Int) : getV ps k = (lk ps k).getD 0 := by
  induction ps with
  | nil => rfl
  | cons x ps ih =>
    obtain ⟨h1, h2⟩ := List.pairwise_cons.1 hs
    rw [getV_cons]
    simp only [lk]
    by_cases q : x.1 < k
    · rw [if_pos q, if_neg (by omega), ih h2]
    · rw [if_neg q]
      by_cases e : x.1 = k
      · rw [if_pos e, if_pos e]; rfl
      · rw [if_neg e, if_neg e, lk_none fun y hy => by have := h1 y hy; omega]
        rfl

theorem withL_mem {ps : List (Int × Int)} {k v : Int} {y : Int × Int} (h : y ∈ withL ps k v) : y = (k, v) ∨ y ∈ ps := by
  induction ps with
  | nil =>
    have : withL [] k v = [(k, v)] := rfl
    rw [this] at h
    simpa using h
  | cons x ps ih =>
    rw [withL_cons] at h
    split at h
    · rcases List.mem_cons.1 h with rfl | h
      · exact .inr (by simp)
      · rcases ih h with h | h
        · exact .inl h
        · exact .inr (by simp [h])
    · split at h
      · rcases List.mem_cons.1 h with h | h
        · exact .inl h
        · exact .inr (by simp [h])
      · rcases List.mem_cons.1 h with h | h
        · exact .inl h
        · exact .inr h

theorem withL_srt {ps : List (Int × Int)} (hs : Srt ps) (k v : Int) : Srt (withL ps k v) := by
  induction ps with
  | nil => exact List.pairwise_singleton _ _
  | cons x ps ih =>
    obtain ⟨h1, h2⟩ := List.pairwise_cons.1 hs
    rw [withL_cons]
    split
    · rename_i q
      refine List.pairwise_cons.2 ⟨fun y hy => ?_, ih h2⟩
      rcases withL_mem hy with rfl | hy
      · exact q
      · exact h1 y hy
    · split
      · rename_i q e
        refine List.pairwise_cons.2 ⟨fun y hy => ?_, h2⟩
        have := h1 y hy
        simp only
        omega
      · rename_i q e
        refine List.pairwise_cons.2 ⟨fun y hy => ?_, hs⟩
        rcases List.mem_cons.1 hy with rfl | hy
        · simp only; omega
        · have := h1 y hy
          simp only
          omega

theorem withoutL_mem {ps : List (Int × Int)} {k : Int} {y : Int × Int} (h : y ∈ withoutL ps k) : y ∈ ps := by
  unfold withoutL at h
  split at h
  · exact List.mem_of_mem_eraseIdx h
  · exact h

theorem withoutL_srt {ps : List (Int × Int)} (hs : Srt ps) (k : Int) : Srt (withoutL ps k) := by
  unfold withoutL
  split
  · exact hs.sublist (List.eraseIdx_sublist _ _)
  · exact hs

theorem lk_withL {ps : List (Int × Int)} (hs : Srt ps) (k v k' : Int) : lk (withL ps k v) k' = if k' = k then some v else lk ps k' := by
  induction ps with
  | nil =>
    show (if k = k' then some v else none) = _
    by_cases e : k = k'
    · rw [if_pos e, if_pos e.symm]
    · rw [if_neg e, if_neg fun q => e q.symm]; rfl
  | cons x ps ih =>
    obtain ⟨h1, h2⟩ := List.pairwise_cons.1 hs
    rw [withL_cons]
    split
    · rename_i q
      simp only [lk]
      rw [ih h2]
      by_cases e : x.1 = k'
      · rw [if_pos e, if_pos e, if_neg (by omega)]
      · rw [if_neg e, if_neg e]
    · split
      · rename_i q e
        simp only [lk]
        by_cases e' : k = k'
        · rw [if_pos e', if_pos e'.symm]
        · rw [if_neg e', if_neg fun q => e' q.symm, if_neg (by omega)]
      · rename_i q e
        simp only [lk]
        by_cases e' : k = k'
        · rw [if_pos e', if_pos e'.symm]
        · rw [if_neg e', if_neg (c := k' = k) fun q => e' q.symm]

theorem lk_withoutL {ps : List (Int × Int)} (hs : Srt ps) (k k' : Int) : lk (withoutL ps k) k' = if k' = k then none else lk ps k' := by
  induction ps with
  | nil => show none = _; split <;> rfl
  | cons x ps ih =>
    obtain ⟨h1, h2⟩ := List.pairwise_cons.1 hs
    rw [withoutL_cons]
    split
    · rename_i q
      simp only [lk]
      rw [ih h2]
      by_cases e : x.1 = k'
      · rw [if_pos e, if_pos e, if_neg (by omega)]
      · rw [if_neg e, if_neg e]
    · split
      · rename_i q e
        simp only [lk]
        by_cases e' : k' = k
        · subst e'
          rw [if_pos rfl]
          exact lk_none fun y hy => by have := h1 y hy; omega
        · rw [if_neg e', if_neg (by omega)]
      · rename_i q e
        by_cases e' : k' = k
        · subst e'
          rw [if_pos rfl]
          exact lk_none fun y hy => by
            rcases List.mem_cons.1 hy with rfl | hy
            · omega
            · have := h1 y hy; omega
        · rw [if_neg e']

theorem srt_ext {ps qs : List (Int × Int)} (hs : Srt ps) (ht : Srt qs) (h : ∀ k, lk ps k = lk qs k) : ps = qs := by
  induction ps generalizing qs with
  | nil =>
    cases qs with
    | nil => rfl
    | cons y qs =>
      have := h y.1
      simp [lk] at this
  | cons x ps ih =>
    obtain ⟨h1, h2⟩ := List.pairwise_cons.1 hs
    cases qs with
    | nil =>
      have := h x.1
      simp [lk] at this
    | cons y qs =>
      obtain ⟨g1, g2⟩ := List.pairwise_cons.1 ht
      have hx := h x.1
      have hy := h y.1
      simp only [lk, if_true] at hx hy
      have e : x.1 = y.1 := by
        by_cases q : y.1 = x.1
        · exact q.symm
        rw [if_neg q] at hx
        rw [if_neg fun r => q r.symm] at hy
        by_cases q2 : x.1 < y.1
        · rw [lk_none fun z hz => by have := g1 z hz; omega] at hx
          cases hx
        · rw [lk_none fun z hz => by have := h1 z hz; omega] at hy
          cases hy
      rw [if_pos e.symm] at hx
      have hv : x.2 = y.2 := by simpa using hx
      have : x = y := Prod.ext e hv
      subst this
      congr 1
      refine ih h2 g2 fun k => ?_
      have hk := h k
      simp only [lk] at hk
      by_cases q : x.1 = k
      · rw [lk_none fun z hz => by have := h1 z hz; omega, lk_none fun z hz => by have := g1 z hz; omega]
      · rwa [if_neg q, if_neg q] at hk

theorem withL_le (ps : List (Int × Int)) (k v : Int) : (withL ps k v).length ≤ ps.length + 1 := by
  induction ps with
  | nil => exact Nat.le_refl _
  | cons x ps ih =>
    rw [withL_cons]
    split
    · simp; omega
    · split <;> simp

theorem accS_srt {o : Option (List (Int × Int))} {xs ps' : List (Int × Int)} (h : accS o xs = some ps') (ho : ∀ ps, o = some ps → Srt ps) : Srt ps' := by
  induction xs generalizing o with
  | nil => exact ho ps' h
  | cons x xs ih =>
    cases o with
    | none => rw [accS_none] at h; cases h
    | some ps =>
      refine ih h fun qs hq => ?_
      unfold withS at hq
      split at hq
      · cases hq
      · cases hq
        exact withL_srt (ho ps rfl) _ _

end Go.Proofs.Ytleoicjpcdmfkaa
