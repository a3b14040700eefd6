/-
  THE ABSTRACT MACHINE: a region whose order is open: the invariant, and one step.
-/
import Derived.Test.YtleoicjpcdmfkaaAb16
set_option linter.unusedSimpArgs false
set_option linter.unusedVariables false
namespace Ab
open Go
open Heap (get put next skip)

def effA (l : List AOper) (j : Nat) : Bool := ((l[j]?).map (·.eff)).getD false

theorem effA_of {l : List AOper} {j : Nat} {o : AOper} (h : l[j]? = some o) : effA l j = o.eff := by simp [effA, h]

theorem cnt_eq (l : List AOper) : ∀ e, e ≤ l.length → cnt l e = (List.range l.length).countP fun j => effA l j && decide (j < e)
  | 0, _ => by
    rw [cnt_zero]
    symm
    rw [List.countP_eq_zero]
    intro j _; simp
  | e + 1, he => by
    have ih := cnt_eq l e (by omega)
    obtain ⟨o, ho⟩ : ∃ o, l[e]? = some o := ⟨_, List.getElem?_eq_getElem (by omega)⟩
    rw [cnt_succ ho, ih]
    have key : ∀ n, (List.range n).countP (fun j => effA l j && decide (j < e + 1)) = (List.range n).countP (fun j => effA l j && decide (j < e)) + if e < n ∧ o.eff = true then 1 else 0 := by
      intro n
      induction n with
      | zero => simp
      | succ n ihn =>
        rw [List.range_succ, List.countP_append, List.countP_append, ihn]
        simp only [List.countP_cons, List.countP_nil, Nat.zero_add]
        by_cases q : e = n
        · subst q
          simp [effA_of ho]
        · have e1 : (decide (n < e + 1)) = decide (n < e) := by
            by_cases q1 : n < e
            · simp [q1]; omega
            · simp [q1]; omega
          rw [e1]
          have e2 : (e < n + 1 ∧ o.eff = true) ↔ (e < n ∧ o.eff = true) := ⟨fun ⟨h1, h2⟩ => ⟨by omega, h2⟩, fun ⟨h1, h2⟩ => ⟨by omega, h2⟩⟩
          simp only [e2]
          omega
    rw [key]
    have : e < l.length := by omega
    simp [this]

theorem count_flip (n : Nat) (p q : Nat → Bool) (i : Nat) (hi : i < n) (h1 : p i = true) (h2 : q i = false) (h : ∀ j, j ≠ i → p j = q j) : (List.range n).countP p = (List.range n).countP q + 1 := by
  have key : ∀ n, (List.range n).countP p = (List.range n).countP q + if i < n then 1 else 0 := by
    intro n
    induction n with
    | zero => simp
    | succ n ih =>
      rw [List.range_succ, List.countP_append, List.countP_append, ih]
      simp only [List.countP_cons, List.countP_nil, Nat.zero_add]
      by_cases e : n = i
      · subst e; simp [h1, h2]
      · rw [h n e]
        by_cases e1 : i < n
        · have e2 : i < n + 1 := by omega
          simp only [e1, e2, if_true]; omega
        · have e2 : ¬ i < n + 1 := by omega
          simp only [e1, e2, if_false]; omega
  rw [key n, if_pos hi]

section
variable {H : Type} [Heap H]

def kD (l : List AOper) (D : Array Bool) : Nat := (List.range l.length).countP fun j => effA l j && D.getD j false

/-- What was written last into a slot, by those that are listed. -/
def Last (l : List AOper) (tr : List (Rec H)) (tm0 : Array Value) (D : Array Bool) (t : Nat) (v : Value) : Prop :=
  (∃ i o r, l[i]? = some o ∧ tr[i]? = some r ∧ D.getD i false = true ∧ o.dst = some t ∧ r.v = v ∧ ∀ (j : Nat) o', i < j → l[j]? = some o' → D.getD j false = true → o'.dst ≠ some t) ∨
  ((∀ (j : Nat) o', l[j]? = some o' → D.getD j false = true → o'.dst ≠ some t) ∧ v = tm0.getD t undef)

variable {P : Program} {ops : Array Oper} {l : List AOper} {base : Nat} {tm0 : Array Value} {H0 : H} {tr : List (Rec H)} {tmN : Array Value} {hN : H} {m : Array Nat}

structure Inv (ops : Array Oper) (l : List AOper) (base : Nat) (tm0 : Array Value) (tr : List (Rec H)) (hN : H) (φ0 : Emb) (h0 : H) (w0 : World) (D : Array Bool) (a : Act) (w : World) (φ : Emb) : Prop where
  size : D.size = l.length
  closed : ∀ i, D.getD i false = true → ∀ o, ops[i]? = some o → ∀ e ∈ o.after.toList, Region.binds .any e = true → D.getD e.on false = true
  defers : a.defers = []
  tsize : a.tmps.size = tm0.size
  tmps : ∀ t, t < tm0.size → ∀ v, Last l tr tm0 D t v → VR φ v (a.tmps.getD t undef)
  st : St φ0 h0 w0 φ (early base (kD l D) l tr (heapNo l tr hN (kD l D))) w
  dom : ∀ b, φ b ≠ none → φ0 b ≠ none ∨ base ≤ b
  reg : ∀ j, j < l.length → φ (base + j) ≠ none → D.getD j false = true

/-- Slots that are not named are forgotten. -/
def maskT (names : List Tmp) (tm : Array Value) : Array Value := tm.mapIdx fun t v => if names.contains t then v else junk

theorem maskT_size (names : List Tmp) (tm : Array Value) : (maskT names tm).size = tm.size := by simp [maskT]

theorem maskT_get {names : List Tmp} {tm : Array Value} {t : Tmp} (h : t ∈ names) : (maskT names tm).getD t undef = tm.getD t undef := by
  by_cases q : t < tm.size
  · have : names.contains t = true := by simpa using h
    simp [maskT, Array.getD, q, h]
  · simp [maskT, Array.getD, q]

theorem maskT_rel {φ : Emb} {names : List Tmp} {tm ys : Array Value} (hs : tm.size = ys.size) (h : ∀ t, t < tm.size → t ∈ names → VR φ (tm.getD t undef) (ys.getD t undef)) : AR φ (maskT names tm) ys := by
  refine ⟨by rw [maskT_size]; exact hs, fun i h1 h2 => ?_⟩
  rw [maskT_size] at h1
  simp only [maskT, Array.getElem_mapIdx]
  split
  · rename_i hc
    have := h i h1 (by simpa using hc)
    simpa [Array.getD, h1, h2] using this
  · exact .junk _

theorem names_reads {o : AOper} {x : Operand} (hx : x ∈ o.op.reads) {t : Tmp} (ht : x = .tmp t) : t ∈ o.names := by
  subst ht
  unfold AOper.names
  refine List.mem_append_left _ (List.mem_append_right _ (List.mem_filterMap.2 ⟨_, hx, rfl⟩))

theorem step_mask {id : Nat} {o : AOper} {tm : Array Value} {h h1 : H} {v : Value} (hs : StepOK P id o tm h v h1) : StepOK P id o (maskT o.names tm) h v h1 := by
  have hg : guardIs o.guard (maskT o.names tm) = guardIs o.guard tm := by
    cases hq : o.guard with
    | none => rfl
    | some p =>
      obtain ⟨t, b⟩ := p
      have : t ∈ o.names := by unfold AOper.names; rw [hq]; simp
      simp only [guardIs, maskT_get this]
  have hev : ∀ x ∈ o.op.reads, ev tm x = ev (maskT o.names tm) x := fun x hx => ev_congr fun t ht => (maskT_get (names_reads hx ht)).symm
  unfold StepOK
  rw [hg]
  rcases hs with h1 | ⟨h1, ⟨h2, h3⟩ | ⟨f, args, h2, h3⟩⟩
  · exact .inl h1
  · exact .inr ⟨h1, .inl ⟨h2, by rw [← aop_congr hev]; exact h3⟩⟩
  · refine .inr ⟨h1, .inr ⟨f, args, h2, ?_⟩⟩
    have : args.map (ev (maskT o.names tm)) = args.map (ev tm) := by
      refine Array.map_congr_left fun x hx => ?_
      have : x ∈ o.op.reads := by rw [h2]; simpa [AOp.reads] using hx
      exact (hev x this).symm
    rw [this]; exact h3

namespace Reg
variable (R : Reg P ops l base tm0 H0 tr tmN hN m)
include R

theorem tsz (i : Nat) (hi : i ≤ l.length) : (tmAt tr tmN i).size = tm0.size := by
  induction i with
  | zero => rw [R.tm_0]
  | succ i ih =>
    obtain ⟨o, r, _, _, _, _, h5, _, h7⟩ := R.at_ (j := i) (by omega)
    rw [h7, h5]
    have := ih (by omega)
    cases o.dst <;> simp [putT, this]

theorem tmLast (i : Nat) (hi : i ≤ l.length) (t : Nat) (ht : t < tm0.size) :
    (∃ j o r, j < i ∧ l[j]? = some o ∧ tr[j]? = some r ∧ o.dst = some t ∧ (tmAt tr tmN i).getD t undef = r.v ∧ ∀ (j' : Nat) o', j < j' → j' < i → l[j']? = some o' → o'.dst ≠ some t) ∨
    ((∀ (j' : Nat) o', j' < i → l[j']? = some o' → o'.dst ≠ some t) ∧ (tmAt tr tmN i).getD t undef = tm0.getD t undef) := by
  induction i with
  | zero => exact .inr ⟨fun j' o' h => by omega, by rw [R.tm_0]⟩
  | succ i ih =>
    obtain ⟨o, r, h1, h2, _, _, h5, _, h7⟩ := R.at_ (j := i) (by omega)
    have hsz := R.tsz i (by omega)
    by_cases hd : o.dst = some t
    · refine .inl ⟨i, o, r, by omega, h1, h2, hd, ?_, fun j' o' q1 q2 => by omega⟩
      rw [h7, h5, hd]
      simp [putT, Array.getD, hsz, ht]
    · have same : (tmAt tr tmN (i + 1)).getD t undef = (tmAt tr tmN i).getD t undef := by
        rw [h7, h5]
        cases hq : o.dst with
        | none => rfl
        | some d =>
          have hne : d ≠ t := fun e => hd (by rw [hq, e])
          simp only [putT, Array.getD_eq_getD_getElem?, Array.getElem?_setIfInBounds, if_neg hne]
      rw [same]
      rcases ih (by omega) with ⟨j, oj, rj, q1, q2, q3, q4, q5, q6⟩ | ⟨q1, q2⟩
      · refine .inl ⟨j, oj, rj, by omega, q2, q3, q4, q5, fun j' o' p1 p2 p3 => ?_⟩
        by_cases e : j' = i
        · subst e; rw [h1] at p3; cases p3; exact hd
        · exact q6 j' o' p1 (by omega) p3
      · refine .inr ⟨fun j' o' p1 p3 => ?_, q2⟩
        by_cases e : j' = i
        · subst e; rw [h1] at p3; cases p3; exact hd
        · exact q1 j' o' (by omega) p3

/-- Who names what another one writes is bound to it. -/
theorem apart {i j : Nat} (hij : i < j) {x y : AOper} (hx : l[i]? = some x) (hy : l[j]? = some y) {t : Tmp} (h : (x.dst = some t ∧ t ∈ y.names) ∨ (y.dst = some t ∧ t ∈ x.names)) : (m.getD j 0).testBit i = true := by
  have ht := R.tmps
  unfold tmpsOk at ht
  rw [List.all_eq_true] at ht
  obtain ⟨hjl, _⟩ := List.getElem?_eq_some_iff.1 hy
  have h1 := ht j (by simp; exact hjl)
  rw [List.all_eq_true] at h1
  have h2 := h1 i (by simp; exact hij)
  have ex : l.toArray[i]? = some x := by simpa using hx
  have ey : l.toArray[j]? = some y := by simpa using hy
  rw [ex, ey] at h2
  simp only [Bool.or_eq_true, Bool.and_eq_true] at h2
  rcases h2 with ⟨h3, h4⟩ | h3
  · rcases h with ⟨e1, e2⟩ | ⟨e1, e2⟩
    · rw [e1] at h3; simp [e2] at h3
    · rw [e1] at h4; simp [e2] at h4
  · exact h3

theorem chain {i j : Nat} (hij : i < j) {x y : AOper} (hx : l[i]? = some x) (hy : l[j]? = some y) (h1 : x.eff = true) (h2 : y.eff = true) : (m.getD j 0).testBit i = true := by
  have ht := R.effs
  unfold effsOk at ht
  rw [List.all_eq_true] at ht
  obtain ⟨hjl, _⟩ := List.getElem?_eq_some_iff.1 hy
  have q1 := ht j (by simp; exact hjl)
  rw [List.all_eq_true] at q1
  have q2 := q1 i (by simp; exact hij)
  have ex : l.toArray[i]? = some x := by simpa using hx
  have ey : l.toArray[j]? = some y := by simpa using hy
  rw [ex, ey] at q2
  simpa [h1, h2] using q2

theorem mask_edge {i j : Nat} (hi : i < ops.size) (hj : j < ops.size) (h : (m.getD i 0).testBit j = true) : ∃ o e, ops[i]? = some o ∧ e ∈ o.after.toList ∧ Region.binds .any e = true ∧ e.on < i ∧ (e.on = j ∨ (m.getD e.on 0).testBit j = true) := by
  have ht := R.mask
  unfold maskOk at ht
  rw [List.all_eq_true] at ht
  have q1 := ht i (by simp; exact hi)
  rw [List.all_eq_true] at q1
  have q2 := q1 j (by simp; exact hj)
  rw [h] at q2
  rw [Array.getElem?_eq_getElem hi] at q2
  simp only [Bool.not_true, Bool.false_or, List.any_eq_true, Bool.and_eq_true, decide_eq_true_eq, Bool.or_eq_true, beq_iff_eq] at q2
  obtain ⟨e, h1, ⟨h2, h3⟩, h4⟩ := q2
  exact ⟨_, e, Array.getElem?_eq_getElem hi, h1, h2, h3, h4⟩

variable {φ0 : Emb} {h0 : H} {w0 : World} {D : Array Bool} {a : Act} {w : World} {φ : Emb}

theorem mask_in (I : Inv ops l base tm0 tr hN φ0 h0 w0 D a w φ) {j : Nat} (hj : j < ops.size) : ∀ i, i < ops.size → D.getD i false = true → (m.getD i 0).testBit j = true → D.getD j false = true := by
  intro i
  induction i using Nat.strongRecOn with
  | _ i ih =>
    intro hi hD hb
    obtain ⟨o, e, h1, h2, h3, h4, h5⟩ := R.mask_edge hi hj hb
    have hDe := I.closed i hD o h1 e h2 h3
    rcases h5 with rfl | h5
    · exact hDe
    · exact ih e.on h4 (by omega) hDe h5

theorem ready_in (I : Inv ops l base tm0 tr hN φ0 h0 w0 D a w φ) {i j : Nat} (hi : i < ops.size) (hj : j < ops.size) (hr : ∀ o, ops[i]? = some o → ∀ e ∈ o.after.toList, Region.binds .any e = true → D.getD e.on false = true) (hb : (m.getD i 0).testBit j = true) : D.getD j false = true := by
  obtain ⟨o, e, h1, h2, h3, h4, h5⟩ := R.mask_edge hi hj hb
  have hDe := hr o h1 e h2 h3
  rcases h5 with rfl | h5
  · exact hDe
  · exact R.mask_in I hj e.on (by omega) hDe h5

end Reg
end
end Ab
