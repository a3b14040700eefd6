/-
  THE ABSTRACT MACHINE: a map's entries: found, set, deleted.
-/
import Derived.Test.YtleoicjpcdmfkaaAb5
import Derived.MapKept
set_option linter.unusedSimpArgs false
set_option linter.unusedVariables false
namespace Ab
open Go
open Heap (get put next skip)

theorem leafEq_rel {φ : Emb} {k x x' : Value} {r : Bool} (h : leafEq k x = some r) (hv : VR φ x x') : x' = x := by
  cases x <;> cases k <;> simp [leafEq] at h <;> cases hv <;> rfl

theorem LK.is_rel {φ : Emb} {k : LK} {x x' : Value} (h : k.is x = true) (hv : VR φ x x') : x' = x := by
  cases x <;> cases k <;> simp [LK.is] at h <;> cases hv <;> rfl

theorem list_rel {φ : Emb} : ∀ {xs ys : List Value}, xs.length = ys.length → (∀ i (h1 : i < xs.length) (h2 : i < ys.length), VR φ xs[i] ys[i]) → (∀ x ∈ xs, ∀ x', VR φ x x' → x' = x) → ys = xs
  | [], [], _, _, _ => rfl
  | x :: xs, y :: ys, hl, hr, hx => by
    have h0 := hx x (by simp) y (hr 0 (by simp) (by simp))
    have h1 := list_rel (xs := xs) (ys := ys) (by simpa using hl) (fun i h1 h2 => hr (i + 1) (by simpa using h1) (by simpa using h2)) (fun z hz => hx z (by simp [hz]))
    rw [h0, h1]
  | [], _ :: _, hl, _, _ => by simp at hl
  | _ :: _, [], hl, _, _ => by simp at hl

theorem allEq_mem : ∀ {xs ys : List Value} {r : Bool}, allEq xs ys = some r → ∀ y ∈ ys, ∃ x s, leafEq x y = some s
  | [], [], _, _, y, hy => by simp at hy
  | x :: xs, z :: ys, r, h, y, hy => by
    simp only [allEq, Option.bind_eq_some_iff, Option.map_eq_some_iff] at h
    obtain ⟨a, ha, b, hb, rfl⟩ := h
    rcases List.mem_cons.1 hy with rfl | hy
    · exact ⟨x, a, ha⟩
    · exact allEq_mem hb y hy
  | [], _ :: _, r, h, _, _ => by simp [allEq] at h
  | _ :: _, [], r, h, _, _ => by simp [allEq] at h

theorem shapeL_mem : ∀ {ks : List LK} {xs : List Value}, shapeL ks xs = true → ∀ x ∈ xs, ∃ k : LK, k.is x = true
  | [], [], _, x, hx => by simp at hx
  | k :: ks, v :: vs, h, x, hx => by
    simp only [shapeL, Bool.and_eq_true] at h
    rcases List.mem_cons.1 hx with rfl | hx
    · exact ⟨k, h.1⟩
    · exact shapeL_mem h.2 x hx
  | [], _ :: _, h, _, _ => by simp [shapeL] at h
  | _ :: _, [], h, _, _ => by simp [shapeL] at h

theorem agg_rel {φ : Emb} {xs : Array Value} {v : Value} (hv : VR φ (.agg xs) v) (hx : ∀ x ∈ xs.toList, ∀ x', VR φ x x' → x' = x) : v = .agg xs := by
  cases hv with
  | agg _ ys hs hr =>
    have := list_rel (φ := φ) (xs := xs.toList) (ys := ys.toList) (by simpa using hs) (fun i h1 h2 => by simpa using hr i (by simpa using h1) (by simpa using h2)) hx
    rw [← Array.toArray_toList (xs := ys), this]

theorem keyEq_rel {φ : Emb} {k x x' : Value} {r : Bool} (h : keyEq k x = some r) (hv : VR φ x x') : x' = x := by
  by_cases ha : ∃ xs ys, k = .agg xs ∧ x = .agg ys
  · obtain ⟨xs, ys, rfl, rfl⟩ := ha
    simp only [keyEq] at h
    exact agg_rel hv fun y hy y' hr => let ⟨_, _, e⟩ := allEq_mem h y hy; leafEq_rel e hr
  · have : keyEq k x = leafEq k x := by
      unfold keyEq
      split
      · exact absurd ⟨_, _, rfl, rfl⟩ ha
      · rfl
    rw [this] at h
    exact leafEq_rel h hv

theorem KeyK.is_rel {φ : Emb} {kk : KeyK} {k k' : Value} (h : kk.is k = true) (hv : VR φ k k') : k' = k := by
  cases kk with
  | leaf l => exact LK.is_rel h hv
  | agg ks =>
    cases k <;> simp [KeyK.is] at h
    exact agg_rel hv fun y hy y' hr => let ⟨l, e⟩ := shapeL_mem h y hy; LK.is_rel e hr

theorem bytes_eq {a b : ByteArray} (h : (a == b) = true) : a = b := by
  obtain ⟨⟨x⟩⟩ := a
  obtain ⟨⟨y⟩⟩ := b
  have h' : ((⟨x⟩ : Array UInt8) == ⟨y⟩) = true := h
  simp at h'
  rw [h']

theorem bytes_self (a : ByteArray) : (a == a) = true := by
  obtain ⟨⟨x⟩⟩ := a
  show ((⟨x⟩ : Array UInt8) == ⟨x⟩) = true
  simp

theorem leafEq_true {a b : Value} (h : leafEq a b = some true) : a = b := by
  cases a <;> cases b <;> simp [leafEq] at h
  · simp [h]
  · obtain ⟨h1, h2⟩ := h; simp [h1, h2]
  · rw [bytes_eq h]

theorem LK.is_self {l : LK} {v : Value} (h : l.is v = true) : leafEq v v = some true := by
  cases l <;> cases v <;> first
    | (simp [LK.is] at h; done)
    | simp [leafEq]
  exact bytes_self _

theorem shapeL_self : ∀ {ks : List LK} {l : List Value}, shapeL ks l = true → allEq l l = some true
  | [], [], _ => rfl
  | q :: ks, z :: l, h => by
    simp only [shapeL, Bool.and_eq_true] at h
    simp [allEq, LK.is_self h.1, shapeL_self h.2]
  | [], _ :: _, h => by simp [shapeL] at h
  | _ :: _, [], h => by simp [shapeL] at h

theorem KeyK.is_self {kk : KeyK} {k : Value} (h : kk.is k = true) : keyEq k k = some true := by
  cases kk with
  | leaf l =>
    have := LK.is_self (l := l) (v := k) h
    cases l <;> cases k <;> first
      | (simp [KeyK.is, LK.is] at h; done)
      | exact this
  | agg ks =>
    cases k <;> simp [KeyK.is] at h
    simpa [keyEq] using shapeL_self h

theorem allEq_true : ∀ {xs ys : List Value}, allEq xs ys = some true → xs = ys
  | [], [], _ => rfl
  | x :: xs, y :: ys, h => by
    simp only [allEq, Option.bind_eq_some_iff, Option.map_eq_some_iff] at h
    obtain ⟨a, ha, b, hb, e⟩ := h
    simp only [Bool.and_eq_true] at e
    rw [e.1] at ha; rw [e.2] at hb
    rw [leafEq_true ha, allEq_true hb]
  | [], _ :: _, h => by simp [allEq] at h
  | _ :: _, [], h => by simp [allEq] at h

theorem keyEq_true {a b : Value} (h : keyEq a b = some true) : a = b := by
  by_cases ha : ∃ xs ys, a = .agg xs ∧ b = .agg ys
  · obtain ⟨xs, ys, rfl, rfl⟩ := ha
    simp only [keyEq] at h
    have := allEq_true h
    rw [← Array.toArray_toList (xs := xs), this]
  · have : keyEq a b = leafEq a b := by
      unfold keyEq
      split
      · exact absurd ⟨_, _, rfl, rfl⟩ ha
      · rfl
    rw [this] at h
    exact leafEq_true h

/-- The first entry at a key. -/
def FirstAt (k : Value) (es : List (Value × Value)) (j : Nat) : Prop :=
  (∃ v : Value, es[j]? = some (k, v)) ∧ ∀ i : Nat, i < j → ∃ x u : Value, es[i]? = some (x, u) ∧ keyEq k x = some false
def NoneAt (k : Value) (es : List (Value × Value)) : Prop := ∀ (i : Nat) (x u : Value), es[i]? = some (x, u) → keyEq k x = some false

theorem noneAt_cons {k x u : Value} {es : List (Value × Value)} (h : keyEq k x = some false) (hn : NoneAt k es) : NoneAt k ((x, u) :: es) := by
  intro i y t hy
  cases i with
  | zero => simp at hy; rw [← hy.1]; exact h
  | succ i => exact hn i y t (by simpa using hy)

theorem firstAt_cons {k x u : Value} {es : List (Value × Value)} {j : Nat} (h : keyEq k x = some false) (hn : FirstAt k es j) : FirstAt k ((x, u) :: es) (j + 1) := by
  refine ⟨by simpa using hn.1, fun i hi => ?_⟩
  cases i with
  | zero => exact ⟨x, u, by simp, h⟩
  | succ i => simpa using hn.2 i (by omega)

theorem findM_spec {k : Value} : ∀ {es : List (Value × Value)} {r : Option Value}, findM k es = some r →
    (r = none ∧ NoneAt k es) ∨ ∃ j v, r = some v ∧ FirstAt k es j ∧ es[j]? = some (k, v)
  | [], r, h => by simp [findM] at h; exact Or.inl ⟨h.symm, fun i x u hx => by simp at hx⟩
  | (x, v) :: es, r, h => by
    unfold findM at h
    split at h
    · rename_i ht
      have := keyEq_true ht
      subst this
      simp only [Option.some.injEq] at h
      exact Or.inr ⟨0, v, h.symm, ⟨⟨v, by simp⟩, fun i hi => by omega⟩, by simp⟩
    · rename_i hf
      rcases findM_spec h with ⟨h1, h2⟩ | ⟨j, w, h1, h2, h3⟩
      · exact Or.inl ⟨h1, noneAt_cons hf h2⟩
      · exact Or.inr ⟨j + 1, w, h1, firstAt_cons hf h2, by simpa using h3⟩
    · cases h

theorem setM_spec {k v : Value} : ∀ {es es' : List (Value × Value)}, setM k v es = some es' → (NoneAt k es ∧ es' = es ++ [(k, v)]) ∨ ∃ j, FirstAt k es j ∧ es' = es.set j (k, v)
  | [], es', h => by simp [setM] at h; exact Or.inl ⟨fun i x u hx => by simp at hx, by simp [h]⟩
  | (x, u) :: es, es', h => by
    unfold setM at h
    split at h
    · rename_i ht
      have := keyEq_true ht
      subst this
      simp only [Option.some.injEq] at h
      exact Or.inr ⟨0, ⟨⟨u, by simp⟩, fun i hi => by omega⟩, by simp [h]⟩
    · rename_i hf
      simp only [Option.map_eq_some_iff] at h
      obtain ⟨es1, h1, rfl⟩ := h
      rcases setM_spec h1 with ⟨h2, rfl⟩ | ⟨j, h2, rfl⟩
      · exact Or.inl ⟨noneAt_cons hf h2, by simp⟩
      · exact Or.inr ⟨j + 1, firstAt_cons hf h2, by simp⟩
    · cases h

theorem delM_spec {k : Value} : ∀ {es es' : List (Value × Value)}, delM k es = some es' → (NoneAt k es ∧ es' = es) ∨ ∃ j, FirstAt k es j ∧ es' = es.eraseIdx j
  | [], es', h => by simp [delM] at h; exact Or.inl ⟨fun i x u hx => by simp at hx, by simp [h]⟩
  | (x, u) :: es, es', h => by
    unfold delM at h
    split at h
    · rename_i ht
      have := keyEq_true ht
      subst this
      simp only [Option.some.injEq] at h
      exact Or.inr ⟨0, ⟨⟨u, by simp⟩, fun i hi => by omega⟩, by simp [h]⟩
    · rename_i hf
      simp only [Option.map_eq_some_iff] at h
      obtain ⟨es1, h1, rfl⟩ := h
      rcases delM_spec h1 with ⟨h2, rfl⟩ | ⟨j, h2, rfl⟩
      · exact Or.inl ⟨noneAt_cons hf h2, rfl⟩
      · exact Or.inr ⟨j + 1, firstAt_cons hf h2, by simp⟩
    · cases h

section
variable {P : Program}

/-- What the model finds. -/
theorem run_findKey {kt : TypeId} {kk : KeyK} (hk : keyK P kt = some kk) {k : Value} (hs : kk.is k = true) (w : World) : ∀ (es : List (Value × Value)) (fs : List MapEntry),
    es.length = fs.length → (∀ i (h1 : i < es.length) (h2 : i < fs.length) r, keyEq k es[i].1 = some r → fs[i].key = es[i].1) →
    (NoneAt k es → (Instr.findKey kt k fs).run P w = .ok none w) ∧ (∀ j, FirstAt k es j → ∀ e, fs[j]? = some e → (Instr.findKey kt k fs).run P w = .ok (some (j, e.val)) w) := by
  -- one entry: what is asked of it
  unfold keyK at hk
  have now : ∀ (d : TypeDesc), P.underlying kt = some d → (∀ x r, keyEq k x = some r → Instr.sameNow d k x = some r) → ∀ (es : List (Value × Value)) (fs : List MapEntry) (b : Nat),
      es.length = fs.length → (∀ i (h1 : i < es.length) (h2 : i < fs.length) r, keyEq k es[i].1 = some r → fs[i].key = es[i].1) →
      (NoneAt k es → Instr.findNow d k fs b = some none) ∧ (∀ j, FirstAt k es j → ∀ e, fs[j]? = some e → Instr.findNow d k fs b = some (some (b + j, e.val))) := by
    intro d hd hsame es
    induction es with
    | nil =>
      intro fs b hl _
      have : fs = [] := List.length_eq_zero_iff.1 (by simpa using hl.symm)
      subst this
      exact ⟨fun _ => rfl, fun j hj => by obtain ⟨⟨v, hv⟩, _⟩ := hj; simp at hv⟩
    | cons x es ih =>
      intro fs b hl hr
      cases fs with
      | nil => simp at hl
      | cons f fs =>
        have ih' := ih fs (b + 1) (by simpa using hl) (fun i h1 h2 r h => hr (i + 1) (by simpa using h1) (by simpa using h2) r h)
        refine ⟨fun hn => ?_, fun j hj e he => ?_⟩
        · have h0 := hn 0 x.1 x.2 (by simp)
          have e0 := hr 0 (by simp) (by simp) false (by simpa using h0)
          simp only [List.getElem_cons_zero] at e0
          have s0 := hsame x.1 false h0
          rw [← e0] at s0
          unfold Instr.findNow
          rw [s0]
          exact ih'.1 fun i y u hy => hn (i + 1) y u (by simpa using hy)
        · obtain ⟨⟨v, hv⟩, hb⟩ := hj
          cases j with
          | zero =>
            simp only [List.getElem?_cons_zero, Option.some.injEq] at hv he
            subst hv; subst he
            have ht : keyEq k k = some true := KeyK.is_self hs
            have e0 := hr 0 (by simp) (by simp) true (by simpa using ht)
            simp only [List.getElem_cons_zero] at e0
            have s0 := hsame k true ht
            unfold Instr.findNow
            rw [e0, s0]
            simp
          | succ j =>
            obtain ⟨y, u, hy, h0⟩ := hb 0 (by omega)
            simp only [List.getElem?_cons_zero, Option.some.injEq] at hy
            subst hy
            have e0 := hr 0 (by simp) (by simp) false (by simpa using h0)
            simp only [List.getElem_cons_zero] at e0
            have s0 := hsame _ false h0
            rw [← e0] at s0
            unfold Instr.findNow
            rw [s0]
            have := ih'.2 j ⟨⟨v, by simpa using hv⟩, fun i hi => by obtain ⟨x', u', h1, h2⟩ := hb (i + 1) (by omega); exact ⟨x', u', by simpa using h1, h2⟩⟩ e (by simpa using he)
            rw [show b + 1 + j = b + (j + 1) from by omega] at this
            exact this
  intro es fs hl hr
  -- keys that the model compares at once
  have leaf : ∀ (d : TypeDesc), P.underlying kt = some d → (∀ x r, keyEq k x = some r → Instr.sameNow d k x = some r) →
      (NoneAt k es → (Instr.findKey kt k fs).run P w = .ok none w) ∧ (∀ j, FirstAt k es j → ∀ e, fs[j]? = some e → (Instr.findKey kt k fs).run P w = .ok (some (j, e.val)) w) := by
    intro d hd hsame
    have := now d hd hsame es fs 0 hl hr
    refine ⟨fun hn => ?_, fun j hj e he => ?_⟩
    · simp [Instr.findKey, run_underlying hd, this.1 hn]
    · simp [Instr.findKey, run_underlying hd, this.2 j hj e he]
  -- keys of several cells
  have wide : ∀ (d : TypeDesc) (ks : List LK), P.underlying kt = some d → ((∃ fs, d = .struct fs) ∨ ∃ n e, d = .array n e) → lks P 50 kt = some ks → kk = .agg ks →
      (NoneAt k es → (Instr.findKey kt k fs).run P w = .ok none w) ∧ (∀ j, FirstAt k es j → ∀ e, fs[j]? = some e → (Instr.findKey kt k fs).run P w = .ok (some (j, e.val)) w) := by
    intro d ks hd hdd hks hkk
    subst hkk
    cases k <;> simp [KeyK.is] at hs
    rename_i xs
    have mk : ∀ ys : Array Value, mkV P kt ys.toList = .agg ys := fun ys => by rcases hdd with ⟨_, rfl⟩ | ⟨_, _, rfl⟩ <;> simp [mkV, hd]
    have eq : ∀ (ys : Array Value) r, keyEq (.agg xs) (.agg ys) = some r → (Op.equal kt (.agg xs) (.agg ys)).run P w = .ok r w := by
      intro ys r h
      have := eq_lks (P := P) 50 kt ks hks 9950 w xs.toList ys.toList r hs (by simpa [keyEq] using h)
      rw [mk, mk] at this
      exact this
    have shp : ∀ x r, keyEq (.agg xs) x = some r → ∃ ys, x = .agg ys := by
      intro x r h
      cases x <;> simp [keyEq, leafEq] at h
      exact ⟨_, rfl⟩
    have asks : ∀ (es : List (Value × Value)) (fs : List MapEntry) (b : Nat), es.length = fs.length → (∀ i (h1 : i < es.length) (h2 : i < fs.length) r, keyEq (.agg xs) es[i].1 = some r → fs[i].key = es[i].1) →
        (NoneAt (.agg xs) es → (Instr.findAsking kt (.agg xs) fs b).run P w = .ok none w) ∧ (∀ j, FirstAt (.agg xs) es j → ∀ e, fs[j]? = some e → (Instr.findAsking kt (.agg xs) fs b).run P w = .ok (some (b + j, e.val)) w) := by
      intro es
      induction es with
      | nil =>
        intro fs b hl _
        have : fs = [] := List.length_eq_zero_iff.1 (by simpa using hl.symm)
        subst this
        exact ⟨fun _ => rfl, fun j hj => by obtain ⟨⟨v, hv⟩, _⟩ := hj; simp at hv⟩
      | cons x es ih =>
        intro fs b hl hr
        cases fs with
        | nil => simp at hl
        | cons f fs =>
          have ih' := ih fs (b + 1) (by simpa using hl) (fun i h1 h2 r h => hr (i + 1) (by simpa using h1) (by simpa using h2) r h)
          have step : ∀ r, keyEq (.agg xs) x.1 = some r → (Op.equal kt (.agg xs) f.key).run P w = .ok r w := by
            intro r h0
            have e0 := hr 0 (by simp) (by simp) r (by simpa using h0)
            simp only [List.getElem_cons_zero] at e0
            obtain ⟨ys, ey⟩ := shp _ _ h0
            rw [e0, ey]
            exact eq ys r (by rw [← ey]; exact h0)
          refine ⟨fun hn => ?_, fun j hj e he => ?_⟩
          · have h0 := hn 0 x.1 x.2 (by simp)
            have s0 := step _ h0
            simp only [Instr.findAsking, Sem.run_bind, s0, Result.andThen_ok]
            exact ih'.1 fun i y u hy => hn (i + 1) y u (by simpa using hy)
          · obtain ⟨⟨v, hv⟩, hb⟩ := hj
            cases j with
            | zero =>
              simp only [List.getElem?_cons_zero, Option.some.injEq] at hv he
              subst hv; subst he
              have s0 := step true (KeyK.is_self (kk := .agg ks) (by simpa [KeyK.is] using hs))
              simp [Instr.findAsking, s0]
            | succ j =>
              obtain ⟨y, u, hy, h0⟩ := hb 0 (by omega)
              simp only [List.getElem?_cons_zero, Option.some.injEq] at hy
              subst hy
              have s0 := step _ h0
              simp only [Instr.findAsking, Sem.run_bind, s0, Result.andThen_ok]
              have := ih'.2 j ⟨⟨v, by simpa using hv⟩, fun i hi => by obtain ⟨x', u', h1, h2⟩ := hb (i + 1) (by omega); exact ⟨x', u', by simpa using h1, h2⟩⟩ e (by simpa using he)
              rw [show b + 1 + j = b + (j + 1) from by omega] at this
              exact this
    have := asks es fs 0 hl hr
    have now0 : ∀ r, (Instr.findAsking kt (.agg xs) fs 0).run P w = .ok r w → (fs = [] → r = none) → (Instr.findKey kt (.agg xs) fs).run P w = .ok r w := by
      intro r h1 h2
      cases fs with
      | nil => rw [h2 rfl]; simp [Instr.findKey, run_underlying hd, Instr.findNow]
      | cons f fs =>
        have : Instr.findNow d (.agg xs) (f :: fs) 0 = none := by
          unfold Instr.findNow
          rcases hdd with ⟨_, rfl⟩ | ⟨_, _, rfl⟩ <;> simp [Instr.sameNow]
        simp [Instr.findKey, run_underlying hd, this, h1]
    refine ⟨fun hn => now0 _ (this.1 hn) fun _ => rfl, fun j hj e he => now0 _ (by simpa using this.2 j hj e he) fun e0 => by subst e0; simp at he⟩
  cases hu : P.underlying kt with
  | none => simp [hu] at hk
  | some d =>
    cases d <;> simp [hu] at hk
    case bool =>
      subst hk
      refine leaf _ hu fun x r h => ?_
      cases k <;> simp [KeyK.is, LK.is] at hs
      cases x <;> simp [keyEq, leafEq] at h
      simp [Instr.sameNow, h]
    case int q =>
      subst hk
      refine leaf _ hu fun x r h => ?_
      cases k <;> simp [KeyK.is, LK.is] at hs
      cases x <;> simp [keyEq, leafEq] at h
      simp [Instr.sameNow, h]
    case string =>
      subst hk
      refine leaf _ hu fun x r h => ?_
      cases k <;> simp [KeyK.is, LK.is] at hs
      cases x <;> simp [keyEq, leafEq] at h
      simp [Instr.sameNow, h]
    case struct fs =>
      obtain ⟨ks, h1, rfl⟩ := hk
      exact wide _ ks hu (.inl ⟨fs, rfl⟩) h1 rfl
    case array n e =>
      obtain ⟨ks, h1, rfl⟩ := hk
      exact wide _ ks hu (.inr ⟨n, e, rfl⟩) h1 rfl

/-- A key of its kind may stand in a map. -/
theorem run_checkKey {kt : TypeId} {kk : KeyK} (hk : keyK P kt = some kk) {k : Value} (hs : kk.is k = true) (em : Bool) (w : World) : (Instr.checkKey em 10000 kt k).run P w = .ok () w := by
  unfold keyK at hk
  cases hu : P.underlying kt with
  | none => simp [hu] at hk
  | some d =>
    have wide : ∀ ks, ((∃ fs, d = .struct fs) ∨ ∃ n e, d = .array n e) → lks P 50 kt = some ks → kk = .agg ks → (Instr.checkKey em 10000 kt k).run P w = .ok () w := by
      intro ks hdd hks hkk
      subst hkk
      cases k <;> simp [KeyK.is] at hs
      rename_i xs
      have mk : mkV P kt xs.toList = .agg xs := by rcases hdd with ⟨_, rfl⟩ | ⟨_, _, rfl⟩ <;> simp [mkV, hu]
      have := ck_lks (P := P) 50 kt ks hks 9950 em w xs.toList hs
      rw [mk] at this
      exact this
    cases d <;> simp [hu] at hk
    case bool => exact (by intro n; simp [Instr.checkKey, run_underlying hu] : ∀ n, (Instr.checkKey em (n + 1) kt k).run P w = .ok () w) 9999
    case int q => exact (by intro n; simp [Instr.checkKey, run_underlying hu] : ∀ n, (Instr.checkKey em (n + 1) kt k).run P w = .ok () w) 9999
    case string => exact (by intro n; simp [Instr.checkKey, run_underlying hu] : ∀ n, (Instr.checkKey em (n + 1) kt k).run P w = .ok () w) 9999
    case struct fs => obtain ⟨ks, h1, rfl⟩ := hk; exact wide ks (.inl ⟨fs, rfl⟩) h1 rfl
    case array n e => obtain ⟨ks, h1, rfl⟩ := hk; exact wide ks (.inr ⟨n, e, rfl⟩) h1 rfl

/-- A key of its kind stays as it is. -/
theorem run_keyThatStays {kk : KeyK} {k : Value} (hs : kk.is k = true) (w : World) : (Instr.keyThatStays k k).run P w = .ok k w := by
  have leaf : ∀ (l : LK) (n : Nat) (v : Value), l.is v = true → Instr.sameBits n v v = true := by
    intro l n v h
    cases l <;> cases v <;> first
      | (simp [LK.is] at h; done)
      | (cases n <;> simp [Instr.sameBits])
    all_goals exact bytes_self _
  have : Instr.sameBits 10000 k k = true := by
    cases kk with
    | leaf l => exact leaf l _ _ hs
    | agg ks =>
      cases k <;> simp [KeyK.is] at hs
      rename_i xs
      show Instr.sameBits (9999 + 1) _ _ = true
      simp only [Instr.sameBits, beq_self_eq_true, Bool.true_and, List.all_eq_true]
      intro p hp
      obtain ⟨a, b⟩ := p
      have e : a = b ∧ a ∈ xs.toList := by
        have := List.of_mem_zip hp
        refine ⟨?_, this.1⟩
        obtain ⟨i, hi, h⟩ := List.getElem_of_mem hp
        simp at h
        exact h.1.symm.trans h.2
      obtain ⟨rfl, hm⟩ := e
      obtain ⟨l, hl⟩ := shapeL_mem hs a hm
      exact leaf l _ _ hl
  unfold Instr.keyThatStays
  simp [this]

end
end Ab
