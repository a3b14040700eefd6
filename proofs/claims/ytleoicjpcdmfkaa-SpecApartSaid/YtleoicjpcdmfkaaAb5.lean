/-
  THE ABSTRACT MACHINE: equality of structs and arrays of plain cells; maps' keys.
-/
import Derived.Test.YtleoicjpcdmfkaaAb4
import Derived.ChangeKeysEq
import Derived.DeepKeys3
set_option linter.unusedSimpArgs false
set_option linter.unusedVariables false
namespace Ab
open Go
open Heap (get put next skip)

section
variable {P : Program}

/-- A value of type t that has these cells. -/
def mkV (P : Program) (t : TypeId) (xs : List Value) : Value :=
  match P.underlying t with
  | some (.struct _) | some (.array _ _) => .agg xs.toArray
  | _ => xs.headD Go.undef

theorem shapeL_length : ∀ {ks : List LK} {xs : List Value}, shapeL ks xs = true → xs.length = ks.length
  | [], [], _ => rfl
  | k :: ks, v :: vs, h => by
    simp only [shapeL, Bool.and_eq_true] at h
    simp [shapeL_length h.2]
  | [], _ :: _, h => by simp [shapeL] at h
  | _ :: _, [], h => by simp [shapeL] at h

theorem shapeL_split : ∀ {k1 k2 : List LK} {xs : List Value}, shapeL (k1 ++ k2) xs = true → shapeL k1 (xs.take k1.length) = true ∧ shapeL k2 (xs.drop k1.length) = true
  | [], k2, xs, h => by simpa [shapeL] using h
  | k :: k1, k2, [], h => by simp [shapeL] at h
  | k :: k1, k2, v :: vs, h => by
    simp only [List.cons_append, shapeL, Bool.and_eq_true] at h
    have := shapeL_split h.2
    simp [shapeL, h.1, this.1, this.2]

theorem allEq_split : ∀ (n : Nat) {xs ys : List Value} {r : Bool}, allEq xs ys = some r → ∃ r1 r2, allEq (xs.take n) (ys.take n) = some r1 ∧ allEq (xs.drop n) (ys.drop n) = some r2 ∧ r = (r1 && r2)
  | 0, xs, ys, r, h => ⟨true, r, by simp [allEq], by simpa using h, by simp⟩
  | n + 1, [], [], r, h => by
    simp [allEq] at h
    exact ⟨true, true, by simp [allEq], by simp [allEq], by simp [h]⟩
  | n + 1, x :: xs, y :: ys, r, h => by
    simp only [allEq, Option.bind_eq_some_iff, Option.map_eq_some_iff] at h
    obtain ⟨a, ha, b, hb, rfl⟩ := h
    obtain ⟨r1, r2, h1, h2, rfl⟩ := allEq_split n hb
    exact ⟨a && r1, r2, by simp [allEq, ha, h1], by simpa using h2, by rw [Bool.and_assoc]⟩
  | n + 1, [], _ :: _, r, h => by simp [allEq] at h
  | n + 1, _ :: _, [], r, h => by simp [allEq] at h

theorem allEq_length : ∀ {xs ys : List Value} {r : Bool}, allEq xs ys = some r → xs.length = ys.length
  | [], [], _, _ => rfl
  | x :: xs, y :: ys, r, h => by
    simp only [allEq, Option.bind_eq_some_iff, Option.map_eq_some_iff] at h
    obtain ⟨a, ha, b, hb, rfl⟩ := h
    simp [allEq_length hb]
  | [], _ :: _, r, h => by simp [allEq] at h
  | _ :: _, [], r, h => by simp [allEq] at h

theorem allEq_shape : ∀ {ks : List LK} {xs ys : List Value} {r : Bool}, shapeL ks xs = true → allEq xs ys = some r → shapeL ks ys = true
  | [], [], [], r, _, _ => rfl
  | k :: ks, x :: xs, y :: ys, r, hs, h => by
    simp only [shapeL, Bool.and_eq_true] at hs ⊢
    simp only [allEq, Option.bind_eq_some_iff, Option.map_eq_some_iff] at h
    obtain ⟨a, ha, b, hb, rfl⟩ := h
    refine ⟨?_, allEq_shape hs.2 hb⟩
    cases x <;> cases y <;> simp [leafEq] at ha <;> cases k <;> simp_all [LK.is]
  | [], [], _ :: _, r, _, h => by simp [allEq] at h
  | [], _ :: _, _, r, hs, _ => by simp [shapeL] at hs
  | _ :: _, [], _, r, hs, _ => by simp [shapeL] at hs
  | _ :: _, _ :: _, [], r, _, h => by simp [allEq] at h

theorem sizeT_info {t : TypeId} {n : Nat} (h : sizeT P t = some n) : ∃ i, P.info? t = some i ∧ i.size = n ∧ P.cellsOf t = n := by
  simp only [sizeT, Option.map_eq_some_iff] at h
  obtain ⟨i, hi, rfl⟩ := h
  exact ⟨i, hi, rfl, by simp [Program.cellsOf, hi]⟩

theorem lks_under {n : Nat} {t : TypeId} {ks : List LK} (h : lks P n t = some ks) : ∃ d, P.underlying t = some d := by
  cases n with
  | zero => simp [lks] at h
  | succ n =>
    unfold lks at h
    cases hu : P.underlying t with
    | none => simp [hu] at h
    | some d => exact ⟨d, rfl⟩

theorem part_lks {n : Nat} {t : TypeId} {ks : List LK} (h : lks P n t = some ks) (hz : sizeT P t = some ks.length) {cs : Array Value} {off : Nat} (ho : off + ks.length ≤ cs.size) (w : World) :
    (part t cs off).run P w = .ok (mkV P t ((cs.toList.drop off).take ks.length)) w := by
  obtain ⟨i, hi, hs, hc⟩ := sizeT_info hz
  cases n with
  | zero => simp [lks] at h
  | succ n =>
    unfold lks at h
    have hl : (cs.extract off (off + ks.length)).toList = (cs.toList.drop off).take ks.length := by
      rw [Array.toList_extract]; simp [List.extract]
    have leaf : ∀ k, ks = [k] → ∃ v, cs[off]? = some v ∧ ((cs.toList.drop off).take ks.length).headD Go.undef = v := by
      rintro k rfl
      simp only [List.length_cons, List.length_nil, Nat.zero_add] at ho
      refine ⟨cs[off], Array.getElem?_eq_getElem (by omega), ?_⟩
      rw [List.drop_eq_getElem_cons (by simp; omega)]
      simp
    cases hu : P.underlying t with
    | none => simp [hu] at h
    | some d =>
      cases d <;> simp [hu] at h
      case bool => subst h; obtain ⟨v, h1, h2⟩ := leaf _ rfl; simp [part, isAgg, run_underlying hu, mkV, hu, h1]; simpa using h2.symm
      case int k => subst h; obtain ⟨v, h1, h2⟩ := leaf _ rfl; simp [part, isAgg, run_underlying hu, mkV, hu, h1]; simpa using h2.symm
      case string => subst h; obtain ⟨v, h1, h2⟩ := leaf _ rfl; simp [part, isAgg, run_underlying hu, mkV, hu, h1]; simpa using h2.symm
      case struct fs => simp [part, isAgg, run_underlying hu, mkV, hu, run_sizeOf w hi, hc]; rw [← hl]
      case array len e => simp [part, isAgg, run_underlying hu, mkV, hu, run_sizeOf w hi, hc]; rw [← hl]

def EqL (P : Program) (dd : Nat) (t : TypeId) (ks : List LK) : Prop :=
  ∀ (w : World) (xs ys : List Value) (r : Bool), shapeL ks xs = true → allEq xs ys = some r → (Op.equalIn dd t (mkV P t xs) (mkV P t ys)).run P w = .ok r w

theorem eqFields_lks {n : Nat} {dd : Nat} (IH : ∀ t ks, lks P n t = some ks → EqL P dd t ks) : ∀ (fs : List Field) (off : Nat) (ks : List LK), lksF P (lks P n) fs off = some ks → ∀ (w : World) (xs ys : Array Value) (r : Bool), off ≤ xs.size → off ≤ ys.size →
    shapeL ks (xs.toList.drop off) = true → allEq (xs.toList.drop off) (ys.toList.drop off) = some r → (Op.eqFields dd xs ys fs).run P w = .ok r w
  | [], off, ks, h, w, xs, ys, r, _, _, hs, he => by
    simp only [lksF, Option.some.injEq] at h
    subst h
    have h0 := shapeL_length hs
    have h1 := allEq_length he
    have e1 : xs.toList.drop off = [] := List.length_eq_zero_iff.1 h0
    have e2 : ys.toList.drop off = [] := List.length_eq_zero_iff.1 (by rw [← h1, h0]; rfl)
    rw [e1, e2] at he
    simp only [allEq, Option.some.injEq] at he
    subst he
    simp [Op.eqFields]
  | f :: fs, off, ks, h, w, xs, ys, r, b1, b2, hs, he => by
    unfold lksF at h
    split at h
    · rename_i k1 hk
      split at h
      · rename_i l hl
        split at h
        · rename_i hc
          obtain ⟨ho, hn, hz⟩ := hc
          simp only [Option.some.injEq] at h
          subst h
          obtain ⟨s1, s2⟩ := shapeL_split hs
          obtain ⟨r1, r2, a1, a2, rfl⟩ := allEq_split k1.length he
          have len := shapeL_length hs
          have len2 := allEq_length he
          simp only [List.length_drop, Array.length_toList, List.length_append] at len len2
          have p1 := part_lks hk hz (cs := xs) (off := off) (by omega) w
          have p2 := part_lks hk hz (cs := ys) (off := off) (by omega) w
          have p3 := IH _ _ hk w _ _ r1 s1 a1
          have hne : f.name ≠ "_" := by simpa using hn
          rw [List.drop_drop] at s2 a2
          rw [List.drop_drop] at a2
          have p4 := eqFields_lks IH fs (off + k1.length) l hl w xs ys r2 (by omega) (by omega) s2 a2
          simp only [Op.eqFields, hne, ne_eq, not_false_eq_true, if_true, Sem.run_bind, ho, p1, p2, p3, Result.andThen_ok]
          cases r1
          · simp
          · simpa using p4
        · cases h
      · cases h
    · cases h

theorem eqItems_lks {e : TypeId} {dd : Nat} {ks : List LK} {n : Nat} (hk : lks P n e = some ks) (hz : sizeT P e = some ks.length) (IH : EqL P dd e ks) : ∀ (m k : Nat) (w : World) (xs ys : Array Value) (r : Bool), k * ks.length ≤ xs.size → k * ks.length ≤ ys.size →
    shapeL (List.replicate m ks).flatten (xs.toList.drop (k * ks.length)) = true → allEq (xs.toList.drop (k * ks.length)) (ys.toList.drop (k * ks.length)) = some r →
    (Op.eqItems dd e ks.length xs ys (List.range' k m)).run P w = .ok r w
  | 0, k, w, xs, ys, r, _, _, hs, he => by
    have h0 := shapeL_length hs
    have h1 := allEq_length he
    have e1 : xs.toList.drop (k * ks.length) = [] := List.length_eq_zero_iff.1 (by simpa using h0)
    have e2 : ys.toList.drop (k * ks.length) = [] := List.length_eq_zero_iff.1 (by rw [← h1, e1]; rfl)
    rw [e1, e2] at he
    simp only [allEq, Option.some.injEq] at he
    subst he
    simp [Op.eqItems]
  | m + 1, k, w, xs, ys, r, b1, b2, hs, he => by
    rw [List.replicate_succ, List.flatten_cons] at hs
    have hs' := hs
    obtain ⟨s1, s2⟩ := shapeL_split hs
    obtain ⟨r1, r2, a1, a2, rfl⟩ := allEq_split ks.length he
    have len := shapeL_length hs'
    have len2 := allEq_length he
    simp only [List.length_append, List.length_drop, Array.length_toList] at len len2
    have p1 := part_lks hk hz (cs := xs) (off := k * ks.length) (by omega) w
    have p2 := part_lks hk hz (cs := ys) (off := k * ks.length) (by omega) w
    have p3 := IH w _ _ r1 s1 a1
    rw [List.drop_drop] at s2 a2
    rw [List.drop_drop] at a2
    have e1 : k * ks.length + ks.length = (k + 1) * ks.length := by rw [Nat.succ_mul]
    rw [e1] at s2 a2
    have p4 := eqItems_lks hk hz IH m (k + 1) w xs ys r2 (by omega) (by omega) s2 a2
    rw [List.range'_succ]
    simp only [Op.eqItems, Sem.run_bind, p1, p2, p3, Result.andThen_ok]
    cases r1
    · simp
    · simpa using p4

theorem leafEq_run {t : TypeId} {k : LK} {x y : Value} {r : Bool} (hu : ∃ d, P.underlying t = some d ∧ ((∃ q, d = .int q ∧ k = .int) ∨ (d = .bool ∧ k = .bool) ∨ (d = .string ∧ k = .str))) (hs : k.is x = true) (he : leafEq x y = some r) (dd : Nat) (w : World) :
    (Op.equalIn (dd + 1) t x y).run P w = .ok r w := by
  obtain ⟨d, hu, hd⟩ := hu
  rcases hd with ⟨q, rfl, rfl⟩ | ⟨rfl, rfl⟩ | ⟨rfl, rfl⟩ <;> cases x <;> simp [LK.is] at hs <;> cases y <;> simp [leafEq] at he
  · obtain ⟨rfl, rfl⟩ := he
    simp [Op.equalIn, run_underlying hu]
  · subst he; simp [Op.equalIn, run_underlying hu]
  · subst he; simp [Op.equalIn, run_underlying hu]

theorem eq_lks : ∀ (n : Nat) (t : TypeId) (ks : List LK), lks P n t = some ks → ∀ dd, EqL P (dd + n) t ks
  | 0, t, ks, h => by simp [lks] at h
  | n + 1, t, ks, h => by
    intro dd w xs ys r hs he
    unfold lks at h
    have leaf : ∀ k, ks = [k] → (∃ d, P.underlying t = some d ∧ ((∃ q, d = .int q ∧ k = .int) ∨ (d = .bool ∧ k = .bool) ∨ (d = .string ∧ k = .str))) → mkV P t xs = xs.headD Go.undef → mkV P t ys = ys.headD Go.undef →
        (Op.equalIn (dd + (n + 1)) t (mkV P t xs) (mkV P t ys)).run P w = .ok r w := by
      rintro k rfl hu e1 e2
      rw [e1, e2]
      match xs, ys, hs, he with
      | [x], [y], hs, he =>
        simp only [shapeL, Bool.and_true] at hs
        cases hq : leafEq x y with
        | none => simp [allEq, hq] at he
        | some a =>
          simp [allEq, hq] at he
          subst he
          exact leafEq_run hu hs hq (dd + n) w
      | [], _, hs, _ => simp [shapeL] at hs
      | _ :: _ :: _, _, hs, _ => simp [shapeL] at hs
      | [_], [], _, he => simp [allEq] at he
      | [_], _ :: _ :: _, _, he => simp [allEq] at he
    cases hu : P.underlying t with
    | none => simp [hu] at h
    | some d =>
      cases d <;> simp [hu] at h
      case bool => exact leaf _ h.symm ⟨_, hu, .inr (.inl ⟨rfl, rfl⟩)⟩ (by simp [mkV, hu]) (by simp [mkV, hu])
      case int q => exact leaf _ h.symm ⟨_, hu, .inl ⟨q, rfl, rfl⟩⟩ (by simp [mkV, hu]) (by simp [mkV, hu])
      case string => exact leaf _ h.symm ⟨_, hu, .inr (.inr ⟨rfl, rfl⟩)⟩ (by simp [mkV, hu]) (by simp [mkV, hu])
      case struct fs =>
        obtain ⟨hp, h⟩ := h
        have hf : P.fieldsOf t = fs := by simp [Program.fieldsOf, hu]
        have IH : ∀ t ks, lks P n t = some ks → EqL P (dd + n) t ks := fun t ks hk => eq_lks n t ks hk dd
        have e : mkV P t xs = .agg xs.toArray := by simp [mkV, hu]
        have e' : mkV P t ys = .agg ys.toArray := by simp [mkV, hu]
        rw [e, e', show dd + (n + 1) = (dd + n) + 1 from rfl, run_equalIn_struct w (dd + n) t _ _ (by rw [hf]; exact hu) hp, hf]
        exact eqFields_lks IH _ 0 ks h w _ _ r (Nat.zero_le _) (Nat.zero_le _) (by simpa using hs) (by simpa using he)
      case array len e =>
        cases hk : lks P n e with
        | none => simp [hk] at h
        | some k1 =>
          simp [hk] at h
          obtain ⟨hz, h⟩ := h
          subst h
          obtain ⟨i, hi, _, hc⟩ := sizeT_info hz
          have e1 : mkV P t xs = .agg xs.toArray := by simp [mkV, hu]
          have e2 : mkV P t ys = .agg ys.toArray := by simp [mkV, hu]
          rw [e1, e2, show dd + (n + 1) = (dd + n) + 1 from rfl, run_equalIn_array w (dd + n) _ _ hu hi, hc, List.range_eq_range']
          exact eqItems_lks hk hz (eq_lks n _ _ hk dd) len 0 w _ _ r (by simp) (by simp) (by simpa using hs) (by simpa using he)

/-! keys -/

def CkL (P : Program) (dd : Nat) (t : TypeId) (ks : List LK) : Prop :=
  ∀ (em : Bool) (w : World) (xs : List Value), shapeL ks xs = true → (Instr.checkKey em dd t (mkV P t xs)).run P w = .ok () w

theorem ck_lks : ∀ (n : Nat) (t : TypeId) (ks : List LK), lks P n t = some ks → ∀ dd, CkL P (dd + n) t ks
  | 0, t, ks, h => by simp [lks] at h
  | n + 1, t, ks, h => by
    intro dd em w xs hs
    have hxz : xs.toArray.size = xs.length := by simp
    unfold lks at h
    cases hu : P.underlying t with
    | none => simp [hu] at h
    | some d =>
      rw [show dd + (n + 1) = (dd + n) + 1 from rfl]
      cases d <;> simp [hu] at h
      case bool => simp [Instr.checkKey, run_underlying hu]
      case int q => simp [Instr.checkKey, run_underlying hu]
      case string => simp [Instr.checkKey, run_underlying hu]
      case struct fs =>
        obtain ⟨hp, h⟩ := h
        have e : mkV P t xs = .agg xs.toArray := by simp [mkV, hu]
        rw [e, Instr.checkKey]
        simp only [Sem.run_bind, run_underlying hu, Result.andThen_ok]
        rw [← Array.forIn_toList]
        refine (?_ : ∀ (off : Nat) (ks : List LK), lksF P (lks P n) fs.toList off = some ks → off ≤ xs.toArray.size → shapeL ks (xs.toArray.toList.drop off) = true → _) 0 ks h (Nat.zero_le _) (by simpa using hs)
        generalize fs.toList = L
        induction L with
        | nil => intro off ks _ _ _; simp
        | cons f L ih =>
          intro off ks h b1 hs
          unfold lksF at h
          split at h
          · rename_i k1 hk
            split at h
            · rename_i l hl
              split at h
              · rename_i hc
                obtain ⟨ho, hn, hz⟩ := hc
                simp only [Option.some.injEq] at h
                subst h
                have hs' := hs
                obtain ⟨s1, s2⟩ := shapeL_split hs
                have len := shapeL_length hs'
                simp only [List.length_drop, Array.length_toList, List.length_append] at len
                have p1 := part_lks hk hz (cs := xs.toArray) (off := off) (by omega) w
                have p2 := ck_lks n _ _ hk dd em w _ s1
                have hne : f.name ≠ "_" := by simpa using hn
                rw [List.drop_drop] at s2
                have p4 := ih (off + k1.length) l hl (by omega) s2
                simp only [List.forIn_cons, Sem.run_bind, hne, ne_eq, not_false_eq_true, if_true, ho, p1, p2, Result.andThen_ok, Sem.run_pure]
                exact p4
              · cases h
            · cases h
          · cases h
      case array len e =>
        cases hk : lks P n e with
        | none => simp [hk] at h
        | some k1 =>
          simp [hk] at h
          obtain ⟨hz, h⟩ := h
          subst h
          obtain ⟨i, hi, _, hc⟩ := sizeT_info hz
          have e1 : mkV P t xs = .agg xs.toArray := by simp [mkV, hu]
          rw [e1, Instr.checkKey]
          simp only [Sem.run_bind, run_underlying hu, Result.andThen_ok]
          simp only [Std.Legacy.Range.forIn_eq_forIn_range', Std.Legacy.Range.size, Nat.sub_zero, Nat.add_one_sub_one, Nat.div_one]
          refine (?_ : ∀ (m k : Nat), m = len → k = 0 → _) len 0 rfl rfl
          intro m k hm hk0
          have b1 : k * k1.length ≤ xs.toArray.size := by subst hk0; simp
          have hs : shapeL (List.replicate m k1).flatten (xs.toArray.toList.drop (k * k1.length)) = true := by subst hk0; subst hm; simpa using hs
          rw [← hm, ← hk0]
          clear hm hk0
          induction m generalizing k with
          | zero => simp
          | succ m ih =>
            rw [List.replicate_succ, List.flatten_cons] at hs
            have hs' := hs
            obtain ⟨s1, s2⟩ := shapeL_split hs
            have len := shapeL_length hs'
            simp only [List.length_append, List.length_drop, Array.length_toList] at len
            have p1 := part_lks hk hz (cs := xs.toArray) (off := k * k1.length) (by omega) w
            have p2 := ck_lks n _ _ hk dd em w _ s1
            rw [List.drop_drop] at s2
            have e1 : k * k1.length + k1.length = (k + 1) * k1.length := by rw [Nat.succ_mul]
            rw [e1] at s2
            have p4 := ih (k + 1) (by omega) s2
            rw [List.range'_succ]
            simp only [List.forIn_cons, Sem.run_bind, run_sizeOf w hi, hc, p1, p2, Result.andThen_ok, Sem.run_pure]
            exact p4

end
end Ab
