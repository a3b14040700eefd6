/-
  THE ABSTRACT MACHINE: a region's operations in the text's order; and in whatever order its edges allow: the heaps of a trace.
-/
import Derived.Test.YtleoicjpcdmfkaaAb14
set_option linter.unusedSimpArgs false
set_option linter.unusedVariables false
namespace Ab
open Go
open Heap (get put next skip)

section
variable {H : Type} [Heap H] {P : Program}

theorem step_keeps {id : Nat} {o : AOper} {tm : Array Value} {h h1 : H} {v : Value} (hs : StepOK P id o tm h v h1) : next h ≤ next h1 ∧ ∀ b, b < next h → b ≠ id → get h b = none → get h1 b = none := by
  rcases hs with ⟨_, _, rfl⟩ | ⟨_, ⟨_, he⟩ | ⟨f, args, _, hc⟩⟩
  · exact ⟨Nat.le_refl _, fun _ _ _ hb => hb⟩
  · obtain ⟨h1, h2⟩ := aop_keeps he
    exact ⟨by omega, fun b _ hb hg => h2 b hb hg⟩
  · exact ⟨hc.1, fun b hlt _ hg => hc.2.1 b hlt hg⟩

theorem tr_keeps {base : Nat} : ∀ (l : List AOper) (i : Nat) (tm : Array Value) (h : H) (tr : List (Rec H)) (tm' : Array Value) (h' : H), TrOK P base i l tm h tr tm' h' → next h ≤ next h' ∧ ∀ b, b < next h → (∀ j, i ≤ j → b ≠ base + j) → get h b = none → get h' b = none
  | [], i, tm, h, tr, tm', h', ht => by obtain ⟨_, _, rfl⟩ := ht; exact ⟨Nat.le_refl _, fun _ _ _ hb => hb⟩
  | o :: l, i, tm, h, tr, tm', h', ht => by
    obtain ⟨v, h1, tr', _, hs, ht'⟩ := ht
    obtain ⟨k1, k2⟩ := step_keeps hs
    obtain ⟨k3, k4⟩ := tr_keeps l (i + 1) _ _ _ _ _ ht'
    exact ⟨by omega, fun b hb hj hg => k4 b (by omega) (fun j hj' => hj j (by omega)) (k2 b hb (hj i (Nat.le_refl _)) hg)⟩

theorem Sim.skip {φ : Emb} {h : H} {w : World} (hs : Sim φ h w) (n : Nat) : Sim φ (Heap.skip h n) w :=
  ⟨fun b x hx => by rw [Heap.next_skip]; have := hs.dom b x hx; omega, hs.rng, fun b hb => by rw [Heap.next_skip] at hb; rw [Heap.get_skip]; exact hs.fresh b (by omega),
    fun b c d g B hx hg => hs.blk b c d g B hx (by rw [Heap.get_skip] at hg; exact hg),
    fun b1 b2 c d1 g1 d2 g2 B1 B2 e1 e2 e3 e4 e5 => hs.sep b1 b2 c d1 g1 d2 g2 B1 B2 e1 e2 (by rw [Heap.get_skip] at e3; exact e3) (by rw [Heap.get_skip] at e4; exact e4) e5⟩

theorem St.skip {φ : Emb} {h : H} {w : World} (hs : Sim φ h w) (n : Nat) : St φ h w φ (Heap.skip h n) w :=
  ⟨Emb.le_refl _, hs.skip n, ⟨rfl, rfl, rfl, Nat.le_refl _, fun _ _ _ => rfl, fun _ => keepsO.refl _⟩, fun b c d g B e1 _ e2 _ => ⟨b, d, g, B, e1, by rw [Heap.get_skip] at e2; exact e2, fun q => q, fun q => q⟩⟩

/-- Heaps that hold the same stand for the same. -/
theorem Sim.congr {φ : Emb} {h h' : H} {w : World} (hs : Sim φ h w) (hg : ∀ b, get h' b = get h b) (hn : next h' = next h) : Sim φ h' w :=
  ⟨fun b x hx => by rw [hn]; exact hs.dom b x hx, hs.rng, fun b hb => by rw [hg]; exact hs.fresh b (by omega), fun b c d g B hx hb => hs.blk b c d g B hx (by rw [← hg]; exact hb),
    fun b1 b2 c d1 g1 d2 g2 B1 B2 e1 e2 e3 e4 e5 => hs.sep b1 b2 c d1 g1 d2 g2 B1 B2 e1 e2 (by rw [← hg]; exact e3) (by rw [← hg]; exact e4) e5⟩

theorem St.congr {φ φ' : Emb} {h h' h2 : H} {w w' : World} (hs : St φ h w φ' h' w') (hg : ∀ b, get h2 b = get h' b) (hn : next h2 = next h') : St φ h w φ' h2 w' :=
  ⟨hs.ext, hs.sim.congr hg hn, hs.fr, fun b c d g B e1 hc e2 e3 => hs.back b c d g B e1 hc (by rw [← hg]; exact e2) e3⟩

variable {φ : Emb} {w : World} {ops : Array Oper} {Q : Exit → Act → World → Prop}

/-- A REGION IN THE TEXT's ORDER. -/
theorem seq_run {base n : Nat} {l0 : List AOper} (hpair : ∀ (i : Nat) (o : Oper), ops[i]? = some o → ∃ ao, l0[i]? = some ao ∧ Pair P ops o ao) (hlen : l0.length = n) (hops : ops.size = n) :
    ∀ (l : List AOper) (i : Nat) (tm : Array Value) (h : H) (tr : List (Rec H)) (tm' : Array Value) (h' : H), TrOK P base i l tm h tr tm' h' → (∀ j, l[j]? = l0[i + j]?) → i + l.length = n →
    ∀ (φ : Emb) (w : World) (a : Act), Sim φ h w → AR φ tm a.tmps → a.defers = [] → (∀ b, base + i ≤ b → b < base + n → φ b = none) → base + n ≤ next h →
    (∀ φ' a' w', St φ h w φ' h' w' → AR φ' tm' a'.tmps → a'.defers = [] → (∀ b, φ' b ≠ none → φ b ≠ none ∨ base + i ≤ b) → Q .normal a' w') → wpOps P ops Q (List.range' i l.length) a w
  | [], i, tm, h, tr, tm', h', ht, _, _, φ, w, a, hs, har, hd, _, _, hQ => by
    obtain ⟨_, rfl, rfl⟩ := ht
    exact hQ φ a w (St.refl hs) har hd fun b hb => .inl hb
  | o :: l, i, tm, h, tr, tm', h', ht, hl, hn, φ, w, a, hs, har, hd, hfree, hroom, hQ => by
    obtain ⟨v, h1, tr', _, hst, ht'⟩ := ht
    simp only [List.length_cons] at hn
    have hi : i < ops.size := by omega
    obtain ⟨ao, hao, hp⟩ := hpair i _ (Array.getElem?_eq_getElem hi)
    have : ao = o := by
      have := hl 0
      simp at this
      rw [hao] at this
      exact (Option.some.inj this).symm
    subst this
    rw [List.length_cons, List.range'_succ, wpOps_cons]
    refine step_sound hp hs har (hfree _ (by omega) (by omega)) (by omega) hst (Array.getElem?_eq_getElem hi) fun φ1 w1 v1 s1 r1 d1 => ?_
    have hk := step_keeps hst
    refine seq_run hpair hlen hops l (i + 1) _ _ _ _ _ ht' (fun j => ?_) (by omega) φ1 w1 _ s1.sim ?_ (by rw [put_defers]; exact hd) (fun b hb hb' => ?_) (by omega) fun φ2 a2 w2 s2 r2 d2 dm2 => ?_
    · have := hl (j + 1)
      simpa [Nat.add_assoc, Nat.add_comm 1 j] using this
    · rw [← hp.dst]
      exact putT_rel (har.mono s1.ext) r1
    · cases q : φ1 b with
      | none => rfl
      | some x =>
        rcases d1 b (by rw [q]; simp) with e | e | e
        · exact absurd (hfree b (by omega) hb') e
        · omega
        · omega
    · refine hQ φ2 a2 w2 (s1.trans s2) r2 d2 fun b hb => ?_
      rcases dm2 b hb with e | e
      · rcases d1 b e with e | e | e
        · exact .inl e
        · exact .inr (by omega)
        · exact .inr (by omega)
      · exact .inr (by omega)

/-! ### whatever order -/

def hAt (tr : List (Rec H)) (hN : H) (j : Nat) : H := ((tr[j]?).map Rec.h).getD hN
def tmAt (tr : List (Rec H)) (tmN : Array Value) (j : Nat) : Array Value := ((tr[j]?).map Rec.tm).getD tmN

theorem tr_at {base : Nat} : ∀ (l : List AOper) (i : Nat) (tm : Array Value) (h : H) (tr : List (Rec H)) (tm' : Array Value) (h' : H), TrOK P base i l tm h tr tm' h' →
    tr.length = l.length ∧ hAt tr h' 0 = h ∧ tmAt tr tm' 0 = tm ∧ ∀ j, j < l.length → ∃ o r, l[j]? = some o ∧ tr[j]? = some r ∧ r.i = i + j ∧ r.h = hAt tr h' j ∧ r.tm = tmAt tr tm' j ∧
      StepOK P (base + (i + j)) o r.tm r.h r.v (hAt tr h' (j + 1)) ∧ tmAt tr tm' (j + 1) = putT r.tm o.dst r.v
  | [], i, tm, h, tr, tm', h', ht => by
    obtain ⟨rfl, rfl, rfl⟩ := ht
    exact ⟨rfl, rfl, rfl, fun j hj => by simp at hj⟩
  | o :: l, i, tm, h, tr, tm', h', ht => by
    obtain ⟨v, h1, tr', rfl, hs, ht'⟩ := ht
    obtain ⟨k1, k2, k3, k4⟩ := tr_at l (i + 1) _ _ _ _ _ ht'
    refine ⟨by simp [k1], by simp [hAt], by simp [tmAt], fun j hj => ?_⟩
    cases j with
    | zero =>
      refine ⟨o, _, rfl, rfl, rfl, by simp [hAt], by simp [tmAt], ?_, ?_⟩
      · have : hAt (⟨i, tm, h, v⟩ :: tr') h' 1 = hAt tr' h' 0 := by simp [hAt]
        rw [this, k2]; exact hs
      · have : tmAt (⟨i, tm, h, v⟩ :: tr') tm' 1 = tmAt tr' tm' 0 := by simp [tmAt]
        rw [this, k3]
    | succ j =>
      obtain ⟨o', r, q1, q2, q3, q4, q5, q6, q7⟩ := k4 j (by simpa using hj)
      have e1 : ∀ k, hAt (⟨i, tm, h, v⟩ :: tr') h' (k + 1) = hAt tr' h' k := fun k => by simp [hAt]
      have e2 : ∀ k, tmAt (⟨i, tm, h, v⟩ :: tr') tm' (k + 1) = tmAt tr' tm' k := fun k => by simp [tmAt]
      refine ⟨o', r, by simpa using q1, by simpa using q2, by omega, by rw [e1]; exact q4, by rw [e2]; exact q5, ?_, by rw [e2]; exact q7⟩
      rw [e1, show i + (j + 1) = i + 1 + j by omega]; exact q6

/-- How many operations that write stand ahead of the j-th. -/
def cnt (l : List AOper) (j : Nat) : Nat := (l.take j).countP (·.eff)

theorem cnt_cons (o : AOper) (l : List AOper) (j : Nat) : cnt (o :: l) (j + 1) = cnt l j + if o.eff then 1 else 0 := by
  simp [cnt, List.countP_cons]

theorem cnt_zero (l : List AOper) : cnt l 0 = 0 := by simp [cnt]

theorem cnt_succ {l : List AOper} {j : Nat} {o : AOper} (h : l[j]? = some o) : cnt l (j + 1) = cnt l j + if o.eff then 1 else 0 := by
  obtain ⟨h1, rfl⟩ := List.getElem?_eq_some_iff.1 h
  simp only [cnt, List.take_succ_eq_append_getElem h1, List.countP_append, List.countP_cons, List.countP_nil]
  omega

theorem cnt_mono (l : List AOper) {i j : Nat} (h : i ≤ j) : cnt l i ≤ cnt l j := by
  induction j with
  | zero => have : i = 0 := by omega
            subst this; exact Nat.le_refl _
  | succ j ih =>
    by_cases q : i = j + 1
    · rw [q]; exact Nat.le_refl _
    · have := ih (by omega)
      cases hj : l[j]? with
      | none =>
        have : l.length ≤ j := List.getElem?_eq_none_iff.1 hj
        have e : cnt l (j + 1) = cnt l j := by simp [cnt, List.take_of_length_le this, List.take_of_length_le (show l.length ≤ j + 1 by omega)]
        omega
      | some o => rw [cnt_succ hj]; omega

omit [Heap H] in
theorem heapsAt_at : ∀ (l : List AOper) (tr : List (Rec H)) (h : H), tr.length = l.length → ∀ e o, l[e]? = some o → o.eff = true → (heapsAt l tr h).getD (cnt l e) h = hAt tr h e
  | [], _, h, _, e, o, he, _ => by simp at he
  | o' :: l, [], h, hl, _, _, _, _ => by simp at hl
  | o' :: l, r :: tr, h, hl, e, o, he, hf => by
    have ih := heapsAt_at l tr h (by simpa using hl)
    cases e with
    | zero =>
      simp at he
      subst he
      simp [heapsAt, hf, cnt_zero, hAt]
    | succ e =>
      have := ih e o (by simpa using he) hf
      rw [cnt_cons]
      simp only [heapsAt]
      split
      · rw [List.getD_cons_succ, this]; simp [hAt]
      · rw [Nat.add_zero, this]; simp [hAt]

omit [Heap H] in
theorem heapsAt_end : ∀ (l : List AOper) (tr : List (Rec H)) (h : H), tr.length = l.length → (heapsAt l tr h).getD (cnt l l.length) h = h
  | [], [], h, _ => by simp [heapsAt, cnt]
  | [], _ :: _, h, hl => by simp at hl
  | o' :: l, [], h, hl => by simp at hl
  | o' :: l, r :: tr, h, hl => by
    have ih := heapsAt_end l tr h (by simpa using hl)
    rw [List.length_cons, cnt_cons]
    simp only [heapsAt]
    split
    · rw [List.getD_cons_succ, ih]
    · rw [Nat.add_zero, ih]

theorem next_early (base : Nat) : ∀ (k : Nat) (l : List AOper) (tr : List (Rec H)) (h : H), next (early base k l tr h) = next h
  | 0, o :: l, r :: tr, h => by
    have := next_early base 0 l tr h
    simp only [early]
    split
    · rw [Heap.next_put]; exact this
    · exact this
  | k + 1, o :: l, r :: tr, h => by simp only [early]; exact next_early base _ l tr h
  | 0, [], _, h => by simp [early]
  | k + 1, [], _, h => by simp [early]
  | 0, _ :: _, [], h => by simp [early]
  | k + 1, _ :: _, [], h => by simp [early]

/-- What stands at a block that is laid beforehand. -/
theorem early_made (base : Nat) : ∀ (l : List AOper) (tr : List (Rec H)) (h : H) (k i : Nat), tr.length = l.length → (∀ j r, tr[j]? = some r → r.i = i + j) → ∀ j o r, l[j]? = some o → tr[j]? = some r → o.op.makes = true → wanted o.guard r.tm = true → k ≤ cnt l j →
    get (early base k l tr h) (base + r.i) = madeBy (base + r.i) o.op r.tm r.h
  | [], _, h, k, i, _, _, j, o, r, ho, _, _, _, _ => by simp at ho
  | o' :: l, [], h, k, i, hl, _, j, o, r, _, _, _, _, _ => by simp at hl
  | o' :: l, r' :: tr, h, k, i, hl, hi, j, o, r, ho, hr, hm, hw, hk => by
    have hi' : ∀ j r, tr[j]? = some r → r.i = (i + 1) + j := fun j r hj => by have := hi (j + 1) r (by simpa using hj); omega
    cases j with
    | zero =>
      simp at ho hr
      subst ho; subst hr
      rw [cnt_zero] at hk
      have : k = 0 := by omega
      subst this
      simp only [early, hm, hw, Bool.and_self, if_true]
      rw [Heap.get_put, if_pos rfl]
    | succ j =>
      have ho' : l[j]? = some o := by simpa using ho
      have hr' : tr[j]? = some r := by simpa using hr
      rw [cnt_cons] at hk
      cases k with
      | zero =>
        have ih := early_made base l tr h 0 (i + 1) (by simpa using hl) hi' j o r ho' hr' hm hw (Nat.zero_le _)
        have n0 := hi 0 r' (by simp)
        have n1 := hi' j r hr'
        simp only [early]
        split
        · rw [Heap.get_put, if_neg (by omega)]; exact ih
        · exact ih
      | succ k =>
        simp only [early]
        refine early_made base l tr h _ (i + 1) (by simpa using hl) hi' j o r ho' hr' hm hw ?_
        split at hk <;> simp_all <;> omega

/-- .. and at others. -/
theorem early_other (base b : Nat) : ∀ (l : List AOper) (tr : List (Rec H)) (h : H) (k : Nat), tr.length = l.length → (∀ j o r, l[j]? = some o → tr[j]? = some r → o.op.makes = true → wanted o.guard r.tm = true → k ≤ cnt l j → b ≠ base + r.i) → get (early base k l tr h) b = get h b
  | [], _, h, k, _, _ => by cases k <;> simp [early]
  | o' :: l, [], h, k, hl, _ => by simp at hl
  | o' :: l, r' :: tr, h, k, hl, hb => by
    cases k with
    | zero =>
      have ih := early_other base b l tr h 0 (by simpa using hl) fun j o r ho hr hm hw _ => hb (j + 1) o r (by simpa using ho) (by simpa using hr) hm hw (Nat.zero_le _)
      simp only [early]
      split
      · rename_i hc
        simp only [Bool.and_eq_true] at hc
        rw [Heap.get_put, if_neg (hb 0 o' r' (by simp) (by simp) hc.1 hc.2 (Nat.zero_le _))]
        exact ih
      · exact ih
    | succ k =>
      simp only [early]
      refine early_other base b l tr h _ (by simpa using hl) fun j o r ho hr hm hw hk => hb (j + 1) o r (by simpa using ho) (by simpa using hr) hm hw ?_
      rw [cnt_cons]
      split at hk <;> simp_all <;> omega

theorem aop_quiet {id : Nat} {op : AOp} {tm : Array Value} {h h1 : H} {v : Value} (hf : op.eff = false) (he : aop id op tm h = some (v, h1)) : (h1 = h ∨ ∃ B, h1 = put h id B) ∧ (op.makes = false → h1 = h) := by
  cases op with
  | append | store | copy | mapUpdate | delete | call => simp [AOp.eff] at hf
  | _ =>
    simp only [aop] at he
    repeat' split at he
    all_goals first
      | (cases he; done)
      | (simp only [Option.some.injEq, Prod.mk.injEq] at he; obtain ⟨_, rfl⟩ := he; first | exact ⟨.inl rfl, fun _ => rfl⟩ | exact ⟨.inr ⟨_, rfl⟩, fun q => by simp [AOp.makes] at q⟩)
      | (simp only [Option.map_eq_some_iff, Prod.mk.injEq] at he; obtain ⟨_, _, _, rfl⟩ := he; first | exact ⟨.inl rfl, fun _ => rfl⟩ | exact ⟨.inr ⟨_, rfl⟩, fun q => by simp [AOp.makes] at q⟩)

end
end Ab
