/-
  THE ABSTRACT MACHINE: maps of integers by places, from which entries are struck.
-/
import Derived.Test.YtleoicjpcdmfkaaAb27
set_option linter.unusedSimpArgs false
set_option linter.unusedVariables false
namespace Ab
open Go
open Heap (get put next skip)

abbrev P3 := Int × Int × Int
def pV (k : P3) : Value := .agg #[.int .i64 k.1, .int .i64 k.2.1, .int .i64 k.2.2]
def enc3 (kd : IntKind) (es : List (P3 × Int)) : List (Value × Value) := es.map fun p => (pV p.1, .int kd p.2)

theorem keyEq3 (a b : P3) : keyEq (pV a) (pV b) = some (decide (a = b)) := by
  obtain ⟨a1, a2, a3⟩ := a
  obtain ⟨b1, b2, b3⟩ := b
  simp only [keyEq, pV, allEq, leafEq, Option.bind_some, Option.map_some, if_true, Bool.and_true, Option.some.injEq]
  rw [Bool.eq_iff_iff]
  simp

def rmD {α : Type} [DecidableEq α] : List (α × Int) → α → List (α × Int)
  | [], _ => []
  | (x, u) :: r, k => if x = k then r else (x, u) :: rmD r k

theorem findM3 (kd : IntKind) (k : P3) : ∀ es : List (P3 × Int), ∃ o, findM (pV k) (enc3 kd es) = some o ∧ (match o with | some v => v = .int kd (lkD es k) | none => lkD es k = 0)
  | [] => ⟨none, rfl, rfl⟩
  | (x, v) :: r => by
    simp only [enc3, List.map_cons, findM, keyEq3, lkD]
    by_cases q : x = k
    · have e : decide (k = x) = true := by simp [q]
      have e' : decide (x = k) = true := by simp [q]
      first
        | (simp only [e', if_pos q]; exact ⟨_, rfl, rfl⟩)
        | (simp only [e, if_pos q]; exact ⟨_, rfl, rfl⟩)
    · have e : decide (k = x) = false := by simp; exact fun r => q r.symm
      have e' : decide (x = k) = false := by simp [q]
      first
        | (simp only [e', if_neg q]; exact findM3 kd k r)
        | (simp only [e, if_neg q]; exact findM3 kd k r)

theorem setM3 (kd : IntKind) (k : P3) (v : Int) : ∀ es : List (P3 × Int), setM (pV k) (.int kd v) (enc3 kd es) = some (enc3 kd (stD es k v))
  | [] => rfl
  | (x, u) :: r => by
    have ih := setM3 kd k v r
    simp only [enc3, List.map_cons, setM, keyEq3, stD]
    by_cases q : x = k
    · subst q
      simp
    · have e : decide (k = x) = false := by simp; exact fun r => q r.symm
      have e' : decide (x = k) = false := by simp [q]
      have ih' : setM (pV k) (.int kd v) (r.map fun p => (pV p.1, .int kd p.2)) = some (enc3 kd (stD r k v)) := ih
      first
        | (simp only [e', ih', if_neg q]; rfl)
        | (simp only [e, ih', if_neg q]; rfl)

theorem delM3 (kd : IntKind) (k : P3) : ∀ es : List (P3 × Int), delM (pV k) (enc3 kd es) = some (enc3 kd (rmD es k))
  | [] => rfl
  | (x, u) :: r => by
    have ih := delM3 kd k r
    simp only [enc3, List.map_cons, delM, keyEq3, rmD]
    by_cases q : x = k
    · subst q
      simp
    · have e : decide (k = x) = false := by simp; exact fun r => q r.symm
      have e' : decide (x = k) = false := by simp [q]
      have ih' : delM (pV k) (r.map fun p => (pV p.1, .int kd p.2)) = some (enc3 kd (rmD r k)) := ih
      first
        | (simp only [e', ih', if_neg q]; rfl)
        | (simp only [e, ih', if_neg q]; rfl)

theorem stD_mem {k x : P3} {v : Int} : ∀ {es : List (P3 × Int)}, x ∈ (stD es k v).map (·.1) → x = k ∨ x ∈ es.map (·.1)
  | [], h => by simp [stD] at h; exact .inl h
  | (y, u) :: r, h => by
    simp only [stD] at h
    split at h
    · rename_i q
      simp only [List.map_cons, List.mem_cons] at h ⊢
      rcases h with h | h
      · exact .inl h
      · exact .inr (.inr h)
    · simp only [List.map_cons, List.mem_cons] at h ⊢
      rcases h with h | h
      · exact .inr (.inl h)
      · rcases stD_mem h with h | h
        · exact .inl h
        · exact .inr (.inr h)

theorem stD_nodup (k : P3) (v : Int) : ∀ {es : List (P3 × Int)}, (es.map (·.1)).Nodup → ((stD es k v).map (·.1)).Nodup
  | [], _ => by simp [stD]
  | (y, u) :: r, h => by
    simp only [List.map_cons, List.nodup_cons] at h
    simp only [stD]
    split
    · rename_i q
      subst q
      simp only [List.map_cons, List.nodup_cons]
      exact h
    · rename_i q
      simp only [List.map_cons, List.nodup_cons]
      refine ⟨fun hm => ?_, stD_nodup k v h.2⟩
      rcases stD_mem hm with h' | h'
      · exact q h'
      · exact h.1 h'

theorem rmD_mem {k x : P3} : ∀ {es : List (P3 × Int)}, x ∈ (rmD es k).map (·.1) → x ∈ es.map (·.1)
  | [], h => by simp [rmD] at h
  | (y, u) :: r, h => by
    simp only [rmD] at h
    split at h
    · simp only [List.map_cons, List.mem_cons]; exact .inr h
    · simp only [List.map_cons, List.mem_cons] at h ⊢
      rcases h with h | h
      · exact .inl h
      · exact .inr (rmD_mem h)

theorem rmD_nodup (k : P3) : ∀ {es : List (P3 × Int)}, (es.map (·.1)).Nodup → ((rmD es k).map (·.1)).Nodup
  | [], _ => by simp [rmD]
  | (y, u) :: r, h => by
    simp only [List.map_cons, List.nodup_cons] at h
    simp only [rmD]
    split
    · exact h.2
    · simp only [List.map_cons, List.nodup_cons]
      exact ⟨fun hm => h.1 (rmD_mem hm), rmD_nodup k h.2⟩

theorem lkD_none {k : P3} : ∀ {es : List (P3 × Int)}, k ∉ es.map (·.1) → lkD es k = 0
  | [], _ => rfl
  | (y, u) :: r, h => by
    simp only [List.map_cons, List.mem_cons, not_or] at h
    simp only [lkD]
    rw [if_neg fun q => h.1 q.symm]
    exact lkD_none h.2

theorem lkD_rmD (k k' : P3) : ∀ {es : List (P3 × Int)}, (es.map (·.1)).Nodup → lkD (rmD es k) k' = if k' = k then 0 else lkD es k'
  | [], _ => by simp [rmD, lkD]
  | (y, u) :: r, h => by
    simp only [List.map_cons, List.nodup_cons] at h
    simp only [rmD]
    by_cases q : y = k
    · subst q
      rw [if_pos rfl]
      simp only [lkD]
      by_cases q' : k' = y
      · subst q'
        rw [if_pos rfl]
        exact lkD_none h.1
      · rw [if_neg q', if_neg fun r => q' r.symm]
    · rw [if_neg q]
      simp only [lkD]
      rw [lkD_rmD k k' h.2]
      by_cases q' : y = k'
      · subst q'
        rw [if_pos rfl, if_neg q, if_pos rfl]
      · rw [if_neg q', if_neg q']

/-- What a map's block says of each place. -/
def Map3 (kd : IntKind) (B : Option Blk) (f : P3 → Int) : Prop := ∃ es, B = some (.map (enc3 kd es)) ∧ (es.map (·.1)).Nodup ∧ ∀ k, lkD es k = f k

theorem Map3.empty (kd : IntKind) : Map3 kd (some (.map [])) fun _ => 0 := ⟨[], rfl, by simp, fun _ => rfl⟩

def set3 (f : P3 → Int) (k : P3) (v : Int) : P3 → Int := fun k' => if k' = k then v else f k'

theorem lookB3 {kd : IntKind} {B : Option Blk} {f : P3 → Int} (hm : Map3 kd B f) (a b c : Int) : lookB (.agg [.int, .int, .int]) (.int kd 0) false (.agg #[.int .i64 a, .int .i64 b, .int .i64 c]) B = some (.int kd (f (a, b, c))) := by
  obtain ⟨es, rfl, _, hf⟩ := hm
  obtain ⟨o, h1, h2⟩ := findM3 kd (a, b, c) es
  have h1' : findM (.agg #[.int .i64 a, .int .i64 b, .int .i64 c]) (enc3 kd es) = some o := h1
  unfold lookB
  simp only [KeyK.is, shapeL, LK.is, Bool.and_self, if_true, h1']
  rw [hf] at h2
  cases o with
  | none => simp only at h2 ⊢; rw [h2]; rfl
  | some v => simp only at h2 ⊢; rw [h2]; rfl

theorem setB3 {kd : IntKind} {B : Option Blk} {f : P3 → Int} (hm : Map3 kd B f) (a b c v : Int) : ∃ B', setB (.agg [.int, .int, .int]) (.agg #[.int .i64 a, .int .i64 b, .int .i64 c]) (.int kd v) B = some B' ∧ Map3 kd (some B') (set3 f (a, b, c) v) := by
  obtain ⟨es, rfl, hn, hf⟩ := hm
  have h1' : setM (.agg #[.int .i64 a, .int .i64 b, .int .i64 c]) (.int kd v) (enc3 kd es) = some (enc3 kd (stD es (a, b, c) v)) := setM3 kd (a, b, c) v es
  refine ⟨.map (enc3 kd (stD es (a, b, c) v)), ?_, _, rfl, stD_nodup _ _ hn, fun k => ?_⟩
  · unfold setB
    simp only [KeyK.is, shapeL, LK.is, Bool.and_self, if_true, h1', Option.map_some]
  · rw [lkD_stD, hf]; rfl

section
variable {H : Type} [Heap H]

def delB (kk : KeyK) (k : Value) (B : Option Blk) : Option Blk :=
  match B with
  | some (.map es) => if kk.is k then (delM k es).map .map else none
  | _ => none

def delV (kk : KeyK) (x k : Value) (h : H) : Option (Value × H) :=
  match x with
  | .map (some r) => (delB kk k (get h r)).map fun B => (.tuple #[], put h r (some B))
  | _ => none
theorem delV_some (kk : KeyK) (r : Nat) (k : Value) (h : H) : delV kk (.map (some r)) k h = (delB kk k (get h r)).map fun B => (.tuple #[], put h r (some B)) := nr rfl

/-- The step of a deletion, ahead of the bundled one. -/
theorem g_delete2 {tab : FuncId → Option AFunc} {n : Nat} (id : Nat) (kk : KeyK) (m k : Operand) (e : Env) (h : H) (K : Tok → Value → H → Prop) : stepG .go tab n id (.delete kk m k) e h K = ocase (delV kk (ev (tmOf n e) m) (ev (tmOf n e) k) h) K := by
  rw [g_delete]
  congr 1
  cases q : ev (tmOf n e) m with
  | map r =>
    cases r with
    | none => rw [a_delete, q]; rfl
    | some r =>
      rw [a_delete, q]
      dsimp only [delV]
      unfold delB
      generalize get h r = B
      cases B with
      | none => rfl
      | some B =>
        cases B with
        | cells cs md => rfl
        | map es =>
          dsimp only
          by_cases q : kk.is (ev (tmOf n e) k) = true
          · rw [if_pos q, if_pos q]
            cases delM (ev (tmOf n e) k) es <;> rfl
          · rw [if_neg q, if_neg q]; rfl
  | _ => rw [a_delete, q]; rfl

theorem delB3 {kd : IntKind} {B : Option Blk} {f : P3 → Int} (hm : Map3 kd B f) (a b c : Int) : ∃ B', delB (.agg [.int, .int, .int]) (.agg #[.int .i64 a, .int .i64 b, .int .i64 c]) B = some B' ∧ Map3 kd (some B') (set3 f (a, b, c) 0) := by
  obtain ⟨es, rfl, hn, hf⟩ := hm
  have h1' : delM (.agg #[.int .i64 a, .int .i64 b, .int .i64 c]) (enc3 kd es) = some (enc3 kd (rmD es (a, b, c))) := delM3 kd (a, b, c) es
  refine ⟨.map (enc3 kd (rmD es (a, b, c))), ?_, _, rfl, rmD_nodup _ hn, fun k => ?_⟩
  · unfold delB
    simp only [KeyK.is, shapeL, LK.is, Bool.and_self, if_true, h1', Option.map_some]
  · rw [lkD_rmD _ _ hn, hf]; rfl

end
end Ab
