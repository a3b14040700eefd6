/-
  THE ABSTRACT MACHINE: an abstract heap stands for a part of the model's ('Sim'); what a step keeps ('St'); new blocks, writes, appends.
-/
import Derived.Test.YtleoicjpcdmfkaaAb3
set_option linter.unusedSimpArgs false
set_option linter.unusedVariables false
namespace Ab
open Go
open Heap (get put next skip)

def wr : Blk → Bool
  | .map _ => true
  | .cells _ md => md != .ro

def bsize : Blk → Nat
  | .map _ => 1
  | .cells cs _ => cs.size

/-- A block stands for an object, from its cell d on. -/
def BR (φ : Emb) (B : Blk) (d : Nat) (g : Option (Nat × Nat)) (o : Option Obj) : Prop :=
  match B with
  | .cells cs md => ∃ ccs e fz, o = some (.cells ccs e fz) ∧ d + cs.size ≤ ccs.size ∧ (∀ i (h : i < cs.size), ∃ v, ccs[d + i]? = some v ∧ VR φ cs[i] v) ∧ (md ≠ .ro → fz = (0, 0)) ∧
      (match md with
        | .gr sz => ∃ E, g = some (sz, E) ∧ E ≤ ccs.size
        | _ => g = none)
  | .map es => d = 0 ∧ g = none ∧ ∃ ents clk, o = some (.map ents clk) ∧ ents.size = es.length ∧ ∀ i (h : i < es.length) (h' : i < ents.size), VR φ es[i].1 ents[i].key ∧ VR φ es[i].2 ents[i].val

theorem BR.mono {φ φ' : Emb} (hl : Emb.le φ φ') {B : Blk} {d : Nat} {g : Option (Nat × Nat)} {o : Option Obj} (h : BR φ B d g o) : BR φ' B d g o := by
  cases B with
  | cells cs md =>
    obtain ⟨ccs, e, fz, h1, h2, h3, h4, h5⟩ := h
    exact ⟨ccs, e, fz, h1, h2, fun i hi => let ⟨v, hv, hr⟩ := h3 i hi; ⟨v, hv, hr.mono hl⟩, h4, h5⟩
  | map es =>
    obtain ⟨h1, h2, ents, clk, h3, h4, h5⟩ := h
    exact ⟨h1, h2, ents, clk, h3, h4, fun i hi hi' => ⟨(h5 i hi hi').1.mono hl, (h5 i hi hi').2.mono hl⟩⟩

/-- The same kind of object, as great: what blocks of no cell ask. -/
def alikeO : Obj → Obj → Prop
  | .cells cs _ fz, .cells cs' _ fz' => cs'.size = cs.size ∧ fz' = fz
  | .map .., .map .. => True
  | _, _ => False

theorem alikeO.trans {a b c : Obj} (h : alikeO a b) (k : alikeO b c) : alikeO a c := by
  cases a <;> cases b <;> simp only [alikeO] at h <;> cases c <;> simp only [alikeO] at k ⊢
  exact ⟨k.1.trans h.1, k.2.trans h.2⟩

/-- An object stays as great as it is. -/
def keepsO (o o' : Option Obj) : Prop := ∀ O, o = some O → ∃ O', o' = some O' ∧ (O' = O ∨ alikeO O O')

theorem keepsO.refl (o : Option Obj) : keepsO o o := fun O h => ⟨O, h, .inl rfl⟩
theorem keepsO.trans {a b c : Option Obj} (h : keepsO a b) (k : keepsO b c) : keepsO a c := by
  intro O hO
  obtain ⟨O', h1, h2⟩ := h O hO
  obtain ⟨O2, h3, h4⟩ := k O' h1
  refine ⟨O2, h3, ?_⟩
  rcases h2 with rfl | h2
  · exact h4
  · rcases h4 with rfl | h4
    · exact .inr h2
    · exact .inr (h2.trans h4)

section
variable {H : Type} [Heap H]

structure Sim (φ : Emb) (h : H) (w : World) : Prop where
  dom : ∀ b x, φ b = some x → b < next h
  rng : ∀ b c d g, φ b = some (c, d, g) → c < w.heap.size
  fresh : ∀ b, next h ≤ b → get h b = none
  blk : ∀ b c d g B, φ b = some (c, d, g) → get h b = some B → BR φ B d g w.heap[c]?
  sep : ∀ b1 b2 c d1 g1 d2 g2 B1 B2, φ b1 = some (c, d1, g1) → φ b2 = some (c, d2, g2) → get h b1 = some B1 → get h b2 = some B2 → wr B1 = true → b1 = b2 ∨ bsize B2 = 0

/-- Nothing but what writable blocks stand for has changed. -/
structure Fr (φ : Emb) (h : H) (w w' : World) : Prop where
  os : w'.os = w.os
  tape : w'.tape = w.tape
  output : w'.output = w.output
  size : w.heap.size ≤ w'.heap.size
  block : ∀ c, c < w.heap.size → (∀ b d g B, φ b = some (c, d, g) → get h b = some B → wr B = false) → w'.heap[c]? = w.heap[c]?
  like : ∀ c : Nat, keepsO w.heap[c]? w'.heap[c]?

/-- A step. -/
structure St (φ : Emb) (h : H) (w : World) (φ' : Emb) (h' : H) (w' : World) : Prop where
  ext : Emb.le φ φ'
  sim : Sim φ' h' w'
  fr : Fr φ h w w'
  back : ∀ b c d g B, φ' b = some (c, d, g) → c < w.heap.size → get h' b = some B → (wr B = true ∨ bsize B ≠ 0) → ∃ b0 d0 g0 B0, φ b0 = some (c, d0, g0) ∧ get h b0 = some B0 ∧ (wr B = true → wr B0 = true) ∧ (bsize B ≠ 0 → bsize B0 ≠ 0)

theorem St.refl {φ : Emb} {h : H} {w : World} (hs : Sim φ h w) : St φ h w φ h w :=
  ⟨Emb.le_refl _, hs, ⟨rfl, rfl, rfl, Nat.le_refl _, fun _ _ _ => rfl, fun _ => keepsO.refl _⟩, fun b c d g B h1 _ h2 _ => ⟨b, d, g, B, h1, h2, fun q => q, fun q => q⟩⟩

theorem St.trans {φ φ1 φ2 : Emb} {h h1 h2 : H} {w w1 w2 : World} (a : St φ h w φ1 h1 w1) (b : St φ1 h1 w1 φ2 h2 w2) : St φ h w φ2 h2 w2 := by
  refine ⟨Emb.le_trans a.ext b.ext, b.sim, ⟨b.fr.os.trans a.fr.os, b.fr.tape.trans a.fr.tape, b.fr.output.trans a.fr.output, Nat.le_trans a.fr.size b.fr.size, fun c hc hn => ?_, fun c => (a.fr.like c).trans (b.fr.like c)⟩, ?_⟩
  · refine (b.fr.block c (Nat.lt_of_lt_of_le hc a.fr.size) fun b1 d g B e1 e2 => ?_).trans (a.fr.block c hc hn)
    cases hw : wr B with
    | false => rfl
    | true =>
      obtain ⟨b0, d0, g0, B0, e3, e4, e5, _⟩ := a.back b1 c d g B e1 hc e2 (.inl hw)
      have e5 := e5 hw
      rw [hn b0 d0 g0 B0 e3 e4] at e5
      cases e5
  · intro b1 c d g B e1 hc e2 e3
    obtain ⟨b0, d0, g0, B0, e4, e5, e6, e7⟩ := b.back b1 c d g B e1 (Nat.lt_of_lt_of_le hc a.fr.size) e2 e3
    obtain ⟨b2, d2, g2, B2, e8, e9, e10, e11⟩ := a.back b0 c d0 g0 B0 e4 hc e5 (e3.imp e6 e7)
    exact ⟨b2, d2, g2, B2, e8, e9, fun q => e10 (e6 q), fun q => e11 (e7 q)⟩

/-- A world that differs in what was drawn alone. -/
theorem Sim.drew {φ : Emb} {h : H} {w : World} (hs : Sim φ h w) (n : Nat) : Sim φ h { w with drawn := n } := ⟨hs.dom, hs.rng, hs.fresh, hs.blk, hs.sep⟩

theorem St.drew {φ φ' : Emb} {h h' : H} {w w' : World} (n : Nat) (a : St φ h { w with drawn := n } φ' h' w') : St φ h w φ' h' w' :=
  ⟨a.ext, a.sim, ⟨a.fr.os, a.fr.tape, a.fr.output, a.fr.size, a.fr.block, a.fr.like⟩, a.back⟩

def Emb.upd (φ : Emb) (b : Nat) (x : Nat × Nat × Option (Nat × Nat)) : Emb := fun k => if k = b then some x else φ k

theorem Emb.upd_same (φ : Emb) (b : Nat) (x) : Emb.upd φ b x b = some x := by simp [Emb.upd]
theorem Emb.upd_other (φ : Emb) {b k : Nat} (x) (h : k ≠ b) : Emb.upd φ b x k = φ k := by simp [Emb.upd, h]
theorem Emb.le_upd {φ : Emb} {b : Nat} (hb : φ b = none) (x) : Emb.le φ (Emb.upd φ b x) := fun k y hk => by
  have : k ≠ b := fun e => by rw [e, hb] at hk; cases hk
  rw [Emb.upd_other _ _ this]; exact hk

/-- A new block. -/
theorem St.new {φ : Emb} {h : H} {w : World} (hs : Sim φ h w) {id : Nat} (hid : φ id = none) (hn : id < next h) (B : Blk) (O : Obj) (g : Option (Nat × Nat))
    (hb : BR φ B 0 g (some O)) (w' : World) (hw : w'.heap = w.heap.push O) (h1 : w'.os = w.os) (h2 : w'.tape = w.tape) (h3 : w'.output = w.output) :
    St φ h w (Emb.upd φ id (w.heap.size, 0, g)) (put h id (some B)) w' := by
  have hl := Emb.le_upd hid (w.heap.size, 0, g)
  have old : ∀ c, c < w.heap.size → w'.heap[c]? = w.heap[c]? := fun c hc => by rw [hw, Array.getElem?_push, if_neg (by omega)]
  have nw : w'.heap[w.heap.size]? = some O := by rw [hw]; simp
  refine ⟨hl, ⟨?_, ?_, ?_, ?_, ?_⟩, ⟨h1, h2, h3, by rw [hw]; simp, fun c hc _ => old c hc, fun c O hO => ⟨O, by rw [old c (Array.getElem?_eq_some_iff.1 hO).1]; exact hO, .inl rfl⟩⟩, ?_⟩
  · intro b x hx
    rw [Heap.next_put]
    by_cases e : b = id
    · rw [e]; exact hn
    · rw [Emb.upd_other _ _ e] at hx; exact hs.dom b x hx
  · intro b c d g' hx
    by_cases e : b = id
    · rw [e, Emb.upd_same] at hx; cases hx; rw [hw]; simp
    · rw [Emb.upd_other _ _ e] at hx
      have := hs.rng b c d g' hx
      rw [hw]; simp; omega
  · intro b hb'
    rw [Heap.next_put] at hb'
    rw [Heap.get_put, if_neg (by omega)]
    exact hs.fresh b hb'
  · intro b c d g' B' hx hg
    rw [Heap.get_put] at hg
    by_cases e : b = id
    · rw [e, Emb.upd_same] at hx; cases hx
      rw [if_pos e] at hg; cases hg
      rw [nw]; exact hb.mono hl
    · rw [Emb.upd_other _ _ e] at hx
      rw [if_neg e] at hg
      rw [old c (hs.rng b c d g' hx)]
      exact (hs.blk b c d g' B' hx hg).mono hl
  · intro b1 b2 c d1 g1 d2 g2 B1 B2 e1 e2 e3 e4 e5
    rw [Heap.get_put] at e3 e4
    by_cases f1 : b1 = id <;> by_cases f2 : b2 = id
    · exact Or.inl (f1.trans f2.symm)
    · rw [f1, Emb.upd_same] at e1; cases e1
      rw [Emb.upd_other _ _ f2] at e2
      have := hs.rng b2 _ _ _ e2
      omega
    · rw [f2, Emb.upd_same] at e2; cases e2
      rw [Emb.upd_other _ _ f1] at e1
      have := hs.rng b1 _ _ _ e1
      omega
    · rw [Emb.upd_other _ _ f1] at e1
      rw [Emb.upd_other _ _ f2] at e2
      rw [if_neg f1] at e3
      rw [if_neg f2] at e4
      exact hs.sep b1 b2 c d1 g1 d2 g2 B1 B2 e1 e2 e3 e4 e5
  · intro b c d g' B' e1 hc e2 e3
    rw [Heap.get_put] at e2
    by_cases e : b = id
    · rw [e, Emb.upd_same] at e1; cases e1; omega
    · rw [Emb.upd_other _ _ e] at e1
      rw [if_neg e] at e2
      exact ⟨b, d, g', B', e1, e2, fun q => q, fun q => q⟩

/-- A block that holds no cell of its own, in another one's object. -/
theorem St.zero {φ : Emb} {h : H} {w : World} (hs : Sim φ h w) {id : Nat} (hid : φ id = none) (hn : id < next h) (c o : Nat) {ccs : Array Value} {e : TypeId} {fz : Nat × Nat}
    (hc : w.heap[c]? = some (.cells ccs e fz)) (ho : o ≤ ccs.size) :
    St φ h w (Emb.upd φ id (c, o, none)) (put h id (some (.cells #[] .ro))) w := by
  have hl := Emb.le_upd hid (c, o, none)
  have hcs : c < w.heap.size := (Array.getElem?_eq_some_iff.1 hc).1
  refine ⟨hl, ⟨?_, ?_, ?_, ?_, ?_⟩, ⟨rfl, rfl, rfl, Nat.le_refl _, fun _ _ _ => rfl, fun _ => keepsO.refl _⟩, ?_⟩
  · intro b x hx
    rw [Heap.next_put]
    by_cases e : b = id
    · rw [e]; exact hn
    · rw [Emb.upd_other _ _ e] at hx; exact hs.dom b x hx
  · intro b c' d g' hx
    by_cases e : b = id
    · rw [e, Emb.upd_same] at hx; cases hx; exact hcs
    · rw [Emb.upd_other _ _ e] at hx
      exact hs.rng b c' d g' hx
  · intro b hb'
    rw [Heap.next_put] at hb'
    rw [Heap.get_put, if_neg (by omega)]
    exact hs.fresh b hb'
  · intro b c' d g' B' hx hg
    rw [Heap.get_put] at hg
    by_cases e' : b = id
    · rw [e', Emb.upd_same] at hx; cases hx
      rw [if_pos e'] at hg; cases hg
      exact ⟨ccs, e, fz, hc, by simpa using ho, fun i hi => by simp at hi, fun h => absurd rfl h, rfl⟩
    · rw [Emb.upd_other _ _ e'] at hx
      rw [if_neg e'] at hg
      exact (hs.blk b c' d g' B' hx hg).mono hl
  · intro b1 b2 c' d1 g1 d2 g2 B1 B2 e1 e2 e3 e4 e5
    rw [Heap.get_put] at e3 e4
    by_cases f1 : b1 = id
    · rw [if_pos f1] at e3; cases e3; simp [wr] at e5
    · by_cases f2 : b2 = id
      · rw [if_pos f2] at e4; cases e4; exact Or.inr rfl
      · rw [Emb.upd_other _ _ f1] at e1
        rw [Emb.upd_other _ _ f2] at e2
        rw [if_neg f1] at e3
        rw [if_neg f2] at e4
        exact hs.sep b1 b2 c' d1 g1 d2 g2 B1 B2 e1 e2 e3 e4 e5
  · intro b c' d g' B' e1 hc' e2 e3
    rw [Heap.get_put] at e2
    by_cases e : b = id
    · rw [if_pos e] at e2; cases e2; simp [wr, bsize] at e3
    · rw [Emb.upd_other _ _ e] at e1
      rw [if_neg e] at e2
      exact ⟨b, d, g', B', e1, e2, fun q => q, fun q => q⟩

theorem BR.alike {φ : Emb} {B : Blk} {d : Nat} {g : Option (Nat × Nat)} {O O' : Obj} (h : BR φ B d g (some O)) (ha : alikeO O O') (hz : bsize B = 0) : BR φ B d g (some O') := by
  cases B with
  | map es => simp [bsize] at hz
  | cells cs md =>
    simp only [bsize] at hz
    obtain ⟨ccs, e, fz, h1, h2, h3, h4, h5⟩ := h
    cases h1
    cases O' <;> simp only [alikeO] at ha
    rename_i cs' e' fz'
    obtain ⟨a1, a2⟩ := ha
    refine ⟨cs', e', fz', rfl, by omega, fun i hi => by omega, fun hm => a2 ▸ h4 hm, ?_⟩
    cases md <;> simp only at h5 ⊢
    · exact h5
    · exact h5
    · obtain ⟨E, g1, g2⟩ := h5; exact ⟨E, g1, by omega⟩

/-- A write into a block. -/
theorem St.write {φ : Emb} {h : H} {w : World} (hs : Sim φ h w) {b c d : Nat} {g : Option (Nat × Nat)} {B B' : Blk} {O O' : Obj} (hb : φ b = some (c, d, g)) (hB : get h b = some B) (hw : wr B = true)
    (hO : w.heap[c]? = some O) (ha : alikeO O O') (hw' : wr B' = true) (hz : bsize B' = bsize B) (hr : BR φ B' d g (some O')) (w' : World) (hc : w'.heap[c]? = some O') (hsz : w'.heap.size = w.heap.size)
    (ho : ∀ k, k ≠ c → w'.heap[k]? = w.heap[k]?) (h1 : w'.os = w.os) (h2 : w'.tape = w.tape) (h3 : w'.output = w.output) :
    St φ h w φ (put h b (some B')) w' := by
  refine ⟨Emb.le_refl _, ⟨?_, ?_, ?_, ?_, ?_⟩, ⟨h1, h2, h3, by omega, fun k hk hn => ?_, fun k O1 hO1 => by
    by_cases e : k = c
    · subst e
      rw [hO] at hO1; cases hO1
      exact ⟨O', hc, .inr ha⟩
    · exact ⟨O1, by rw [ho k e]; exact hO1, .inl rfl⟩⟩, ?_⟩
  · intro b' x hx; rw [Heap.next_put]; exact hs.dom b' x hx
  · intro b' c' d' g' hx; rw [hsz]; exact hs.rng b' c' d' g' hx
  · intro b' hb'
    rw [Heap.next_put] at hb'
    have := hs.dom b _ hb
    rw [Heap.get_put, if_neg (by omega)]
    exact hs.fresh b' hb'
  · intro b' c' d' g' B2 hx hg
    rw [Heap.get_put] at hg
    by_cases e : b' = b
    · rw [if_pos e] at hg; cases hg
      rw [e, hb] at hx; cases hx
      rw [hc]; exact hr
    · rw [if_neg e] at hg
      have hbk := hs.blk b' c' d' g' B2 hx hg
      by_cases ec : c' = c
      · subst ec
        rcases hs.sep b b' c' d g d' g' B B2 hb hx hB hg hw with e' | hz'
        · exact absurd e'.symm e
        · rw [hO] at hbk; rw [hc]; exact hbk.alike ha hz'
      · rw [ho c' ec]; exact hbk
  · intro b1 b2 c' d1 g1 d2 g2 B1 B2 e1 e2 e3 e4 e5
    rw [Heap.get_put] at e3 e4
    by_cases f1 : b1 = b
    · rw [if_pos f1] at e3; cases e3
      by_cases f2 : b2 = b
      · exact Or.inl (f1.trans f2.symm)
      · rw [if_neg f2] at e4
        rcases hs.sep b1 b2 c' d1 g1 d2 g2 B B2 e1 e2 (f1 ▸ hB) e4 hw with e | e
        · exact Or.inl e
        · exact Or.inr e
    · rw [if_neg f1] at e3
      by_cases f2 : b2 = b
      · rw [if_pos f2] at e4; cases e4
        rcases hs.sep b1 b2 c' d1 g1 d2 g2 B1 B e1 e2 e3 (f2 ▸ hB) e5 with e | e
        · exact Or.inl e
        · exact Or.inr (hz.trans e)
      · rw [if_neg f2] at e4
        exact hs.sep b1 b2 c' d1 g1 d2 g2 B1 B2 e1 e2 e3 e4 e5
  · refine ho k fun e => ?_
    subst e
    have := hn b d g B hb hB
    rw [hw] at this; cases this
  · intro b' c' d' g' B2 e1 hc' e2 e3
    rw [Heap.get_put] at e2
    by_cases e : b' = b
    · rw [e, hb] at e1; cases e1
      rw [if_pos e] at e2; cases e2
      exact ⟨b, _, _, B, hb, hB, fun _ => hw, fun q => hz ▸ q⟩
    · rw [if_neg e] at e2
      exact ⟨b', d', g', B2, e1, e2, fun q => q, fun q => q⟩

/-- A block that nobody may use any more. -/
theorem Sim.gone {φ : Emb} {h : H} {w : World} (hs : Sim φ h w) (b : Nat) : Sim φ (put h b none) w := by
  have sub : ∀ k B, get (put h b none) k = some B → get h k = some B := fun k B hk => by
    rw [Heap.get_put] at hk
    split at hk
    · cases hk
    · exact hk
  refine ⟨fun k x hx => by rw [Heap.next_put]; exact hs.dom k x hx, hs.rng, fun k hk => ?_, fun k c d g B e1 e2 => hs.blk k c d g B e1 (sub k B e2), fun b1 b2 c d1 g1 d2 g2 B1 B2 e1 e2 e3 e4 e5 => hs.sep b1 b2 c d1 g1 d2 g2 B1 B2 e1 e2 (sub _ _ e3) (sub _ _ e4) e5⟩
  rw [Heap.next_put] at hk
  rw [Heap.get_put]
  split
  · rfl
  · exact hs.fresh k hk

theorem St.gone {φ : Emb} {h : H} {w : World} (hs : Sim φ h w) (b : Nat) : St φ h w φ (put h b none) w := by
  refine ⟨Emb.le_refl _, hs.gone b, ⟨rfl, rfl, rfl, Nat.le_refl _, fun _ _ _ => rfl, fun _ => keepsO.refl _⟩, fun k c d g B e1 _ e2 e3 => ?_⟩
  rw [Heap.get_put] at e2
  split at e2
  · cases e2
  · exact ⟨k, d, g, B, e1, e2, fun q => q, fun q => q⟩

/-- What was appended lies where the slice lay: the block that stood for it is gone, another one stands for it. -/
theorem St.regrown {φ : Emb} {h : H} {w : World} (hs : Sim φ h w) {id : Nat} (hid : φ id = none) (hn : id < next h) {b c d : Nat} {g : Option (Nat × Nat)} {B B' : Blk} {O O' : Obj} (hb : φ b = some (c, d, g)) (hB : get h b = some B) (hw : wr B = true)
    (hO : w.heap[c]? = some O) (ha : alikeO O O') (d' : Nat) (g' : Option (Nat × Nat)) (hz : bsize B ≠ 0) (hr : BR φ B' d' g' (some O')) (w' : World) (hc : w'.heap[c]? = some O') (hsz : w'.heap.size = w.heap.size)
    (ho : ∀ k, k ≠ c → w'.heap[k]? = w.heap[k]?) (h1 : w'.os = w.os) (h2 : w'.tape = w.tape) (h3 : w'.output = w.output) :
    St φ h w (Emb.upd φ id (c, d', g')) (put (put h b none) id (some B')) w' := by
  have hl := Emb.le_upd hid (c, d', g')
  have hne : b ≠ id := fun e => by rw [e, hid] at hb; cases hb
  have gt : ∀ k, k ≠ id → get (put (put h b none) id (some B')) k = if k = b then none else get h k := fun k hk => by rw [Heap.get_put, if_neg hk, Heap.get_put]
  refine ⟨hl, ⟨?_, ?_, ?_, ?_, ?_⟩, ⟨h1, h2, h3, by omega, fun k hk hn => ?_, fun k O1 hO1 => by
    by_cases e : k = c
    · subst e
      rw [hO] at hO1; cases hO1
      exact ⟨O', hc, .inr ha⟩
    · exact ⟨O1, by rw [ho k e]; exact hO1, .inl rfl⟩⟩, ?_⟩
  · intro b' x hx
    rw [Heap.next_put, Heap.next_put]
    by_cases e : b' = id
    · rw [e]; exact hn
    · rw [Emb.upd_other _ _ e] at hx; exact hs.dom b' x hx
  · intro b' c' d2 g2 hx
    rw [hsz]
    by_cases e : b' = id
    · rw [e, Emb.upd_same] at hx; cases hx; exact hs.rng b _ _ _ hb
    · rw [Emb.upd_other _ _ e] at hx; exact hs.rng b' c' d2 g2 hx
  · intro b' hb'
    rw [Heap.next_put, Heap.next_put] at hb'
    rw [gt b' (by omega)]
    split
    · rfl
    · exact hs.fresh b' hb'
  · intro b' c' d2 g2 B2 hx hg
    by_cases e : b' = id
    · rw [e, Emb.upd_same] at hx; cases hx
      rw [e, Heap.get_put, if_pos rfl] at hg; cases hg
      rw [hc]; exact hr.mono hl
    · rw [Emb.upd_other _ _ e] at hx
      rw [gt b' e] at hg
      split at hg
      · cases hg
      · rename_i eb
        have hbk := hs.blk b' c' d2 g2 B2 hx hg
        by_cases ec : c' = c
        · subst ec
          rcases hs.sep b b' c' d g d2 g2 B B2 hb hx hB hg hw with e' | hz'
          · exact absurd e'.symm eb
          · rw [hO] at hbk; rw [hc]; exact (hbk.alike ha hz').mono hl
        · rw [ho c' ec]; exact hbk.mono hl
  · intro b1 b2 c' d1 g1 d2 g2 B1 B2 e1 e2 e3 e4 e5
    by_cases f1 : b1 = id <;> by_cases f2 : b2 = id
    · exact Or.inl (f1.trans f2.symm)
    · rw [f1, Emb.upd_same] at e1; cases e1
      rw [Emb.upd_other _ _ f2] at e2
      rw [gt b2 f2] at e4
      split at e4
      · cases e4
      · rename_i eb
        rcases hs.sep b b2 _ d g d2 g2 B B2 hb e2 hB e4 hw with e' | hz'
        · exact absurd e'.symm eb
        · exact Or.inr hz'
    · rw [f2, Emb.upd_same] at e2; cases e2
      rw [Emb.upd_other _ _ f1] at e1
      rw [gt b1 f1] at e3
      split at e3
      · cases e3
      · rename_i eb
        rcases hs.sep b1 b _ d1 g1 d g B1 B e1 hb e3 hB e5 with e' | hz'
        · exact absurd e' eb
        · exact absurd hz' hz
    · rw [Emb.upd_other _ _ f1] at e1
      rw [Emb.upd_other _ _ f2] at e2
      rw [gt b1 f1] at e3
      rw [gt b2 f2] at e4
      split at e3
      · cases e3
      · split at e4
        · cases e4
        · exact hs.sep b1 b2 c' d1 g1 d2 g2 B1 B2 e1 e2 e3 e4 e5
  · refine ho k fun e => ?_
    subst e
    have := hn b d g B hb hB
    rw [hw] at this; cases this
  · intro b' c' d2 g2 B2 e1 hc' e2 e3
    by_cases e : b' = id
    · rw [e, Emb.upd_same] at e1; cases e1
      exact ⟨b, _, _, B, hb, hB, fun _ => hw, fun _ => hz⟩
    · rw [Emb.upd_other _ _ e] at e1
      rw [gt b' e] at e2
      split at e2
      · cases e2
      · exact ⟨b', d2, g2, B2, e1, e2, fun q => q, fun q => q⟩

end
end Ab
