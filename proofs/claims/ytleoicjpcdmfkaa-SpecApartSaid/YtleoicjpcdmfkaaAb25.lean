/-
  Arguments that are slices of flat elements: what they are in the world, and the abstract heap that bears them, to be read only.
-/
import Derived.Test.YtleoicjpcdmfkaaAb24
set_option linter.unusedSimpArgs false
set_option linter.unusedVariables false
namespace Ab
open Go
open Heap (get put next skip)

section
variable {H : Type} {enc : TypeId × Value → H} {P : Program} {w : World} {spare : Nat → Bool} {held : Bool}

/-- A slice of flat elements that came in. -/
theorem open_rows {r : Reach} {b0 m : Nat} {t e : TypeId} {ks : List LT} {v : Value} {d : DataW H} {p : List MemPlace} (hs : P.underlying t = some (.slice e)) (hk : lv P m e = some ks) (hc : P.cellsOf e = ks.length)
    (hv : Value.okWide P w r b0 t v) (h : DataW.Trod enc P w 0 spare held t v d p) :
    v = .slice none 0 0 ∨ ∃ (b o len cap : Nat) (ccs : Array Value) (ty : TypeId) (fz : Nat × Nat), v = .slice (some ⟨b, o, none⟩) len cap ∧ len ≤ cap ∧ w.heap[b]? = some (.cells ccs ty fz) ∧ (0 < len * ks.length → o + len * ks.length ≤ ccs.size) ∧
      ∀ i, i < len → okL ks (ccs.extract (o + i * ks.length) (o + i * ks.length + ks.length)).toList := by
  obtain ⟨fuel, hf⟩ := h
  rcases WideShapes.okWide_slice hs hv with ⟨a, len, cap, rfl⟩
  rcases DataW.trod_slice hs hf with ⟨h1, _⟩ | ⟨a', len', cap', elems, rest, n, _, hcs, _, _, hlc, _, hel, hat, _, _⟩
  · left
    simpa [Value.cells] using h1
  · right
    have hcs' : Value.slice a len cap = Value.slice (some a') len' cap' := by simpa [Value.cells] using hcs
    cases hcs'
    have hhas : w.has P r b0 a' e cap := by
      simp only [Value.okWide, hs, Cell.okWide, Cell.ok] at hv
      exact hv.2.2
    obtain ⟨_, hsp, row, cells, hsh, _⟩ := hhas
    obtain ⟨b, o, sp⟩ := a'
    simp only at hsp
    subst hsp
    obtain ⟨ccs, ty, fz, hb⟩ : ∃ ccs ty fz, w.heap[b]? = some (.cells ccs ty fz) := by
      unfold World.shape? at hsh
      simp only at hsh
      split at hsh
      · exact ⟨_, _, _, by assumption⟩
      · cases hsh
    have hadd : ∀ x : Nat, (Addr.mk b o none).add x = ⟨b, o + x, none⟩ := fun x => by
      unfold Addr.add
      split
      · rename_i q; subst q; rfl
      · rfl
    have hcell : ∀ x, w.cell? ⟨b, x, none⟩ = ccs[x]? := fun x => by simp [World.cell?, hb]
    have key : ∀ i, i < len → ∃ cs', cs'.length = ks.length ∧ okL ks cs' ∧ ∀ j, j < ks.length → ccs[o + i * ks.length + j]? = cs'[j]? := fun i hi => by
      have h1 := hat i hi
      rw [hc] at h1
      have h2 : elems[i]? = some elems[i] := List.getElem?_eq_getElem (by omega)
      rw [h2] at h1
      obtain ⟨cs', h3, h4⟩ := Option.bind_eq_some_iff.1 h1
      obtain ⟨_, h5, h6⟩ := World.cells?_some h3
      refine ⟨cs', h5, trod_flat m e ks n cs' _ hk h4, fun j hj => ?_⟩
      have h7 := h6 j hj
      rw [hadd] at h7
      have h8 : (Addr.mk b (o + i * ks.length) none).add j = ⟨b, o + i * ks.length + j, none⟩ := by
        unfold Addr.add
        split
        · rename_i q; subst q; rfl
        · rfl
      rw [h8, hcell] at h7
      exact h7
    refine ⟨b, o, len, cap, ccs, ty, fz, rfl, hlc, hb, fun hp => ?_, fun i hi => ?_⟩
    · have hl : 0 < len := Nat.pos_of_mul_pos_right hp
      have hz : 0 < ks.length := Nat.pos_of_mul_pos_left hp
      obtain ⟨cs', h1, _, h3⟩ := key (len - 1) (by omega)
      have h4 := h3 (ks.length - 1) (by omega)
      rw [List.getElem?_eq_getElem (by omega)] at h4
      have h5 := (Array.getElem?_eq_some_iff.1 h4).1
      have h6 : len * ks.length = (len - 1) * ks.length + ks.length := by
        obtain ⟨l, rfl⟩ : ∃ l, len = l + 1 := ⟨len - 1, by omega⟩
        simp [Nat.add_mul]
      omega
    · obtain ⟨cs', h1, h2, h3⟩ := key i hi
      have e1 : (ccs.extract (o + i * ks.length) (o + i * ks.length + ks.length)).toList = cs' := by
        refine List.ext_getElem? fun j => ?_
        rw [Array.getElem?_toList, Array.getElem?_extract]
        by_cases hj : j < ks.length
        · have h4 := h3 j hj
          rw [List.getElem?_eq_getElem (by omega)] at h4 ⊢
          have h5 := (Array.getElem?_eq_some_iff.1 h4).1
          rw [if_pos (by omega), h4]
        · rw [if_neg (by omega), List.getElem?_eq_none (by omega)]
      rw [e1]
      exact h2

end

/-- A block more, to be read only. -/
def FH.ro (h : FH) (B : Option Blk) : FH := ⟨fun j => if j = h.next then B else h.get j, h.next + 1⟩

theorem fhro_next (h : FH) (B : Option Blk) : next (h.ro B) = next h + 1 := rfl
theorem fhro_self (h : FH) (B : Option Blk) : get (h.ro B) (next h) = B := if_pos rfl
theorem fhro_old (h : FH) (B : Option Blk) {j : Nat} (hj : j < next h) : get (h.ro B) j = get h j := if_neg (Nat.ne_of_lt hj)
theorem fhro_fresh {h : FH} (hf : Fresh h) (B : Option Blk) : Fresh (h.ro B) := fun b hb => by
  have hb' : next h + 1 ≤ b := hb
  show (if b = next h then B else get h b) = none
  rw [if_neg (by omega)]
  exact hf b (by omega)

def RO (h : FH) : Prop := ∀ b B, get h b = some B → wr B = false

theorem roNone : RO FH.none := fun b B h => by cases h
theorem roRo {h : FH} (hr : RO h) {B : Option Blk} (hB : ∀ C, B = some C → wr C = false) : RO (h.ro B) := fun b C hC => by
  have hC' : (if b = next h then B else get h b) = some C := hC
  split at hC'
  · exact hB C hC'
  · exact hr b C hC'

theorem simRo {φ : Emb} {h : FH} {w : World} (hs : Sim φ h w) (hr : RO h) {c o : Nat} (hc : c < w.heap.size) {B : Option Blk} (hB : ∀ C, B = some C → wr C = false ∧ BR φ C o none w.heap[c]?) :
    Emb.le φ (Emb.upd φ (next h) (c, o, none)) ∧ Sim (Emb.upd φ (next h) (c, o, none)) (h.ro B) w := by
  have hn : φ (next h) = none := by
    cases q : φ (next h) with
    | none => rfl
    | some x => exact absurd (hs.dom _ _ q) (Nat.lt_irrefl _)
  have hle := Emb.le_upd hn (c, o, none)
  refine ⟨hle, ⟨fun b x hb => ?_, fun b c' d g hb => ?_, fun b hb => ?_, fun b c' d g C hb hC => ?_, fun b1 b2 c' d1 g1 d2 g2 B1 B2 h1 h2 h3 h4 h5 => ?_⟩⟩
  · show b < next h + 1
    by_cases q : b = next h
    · omega
    · rw [Emb.upd_other _ _ q] at hb
      have := hs.dom _ _ hb
      omega
  · by_cases q : b = next h
    · subst q
      rw [Emb.upd_same] at hb
      cases hb
      exact hc
    · rw [Emb.upd_other _ _ q] at hb
      exact hs.rng _ _ _ _ hb
  · have hb' : next h + 1 ≤ b := hb
    show (if b = next h then B else get h b) = Option.none
    rw [if_neg (by omega)]
    exact hs.fresh b (by omega)
  · have hC' : (if b = next h then B else get h b) = some C := hC
    by_cases q : b = next h
    · rw [if_pos q] at hC'
      subst q
      rw [Emb.upd_same] at hb
      cases hb
      exact (hB C hC').2.mono hle
    · rw [if_neg q] at hC'
      rw [Emb.upd_other _ _ q] at hb
      exact (hs.blk _ _ _ _ _ hb hC').mono hle
  · have : wr B1 = false := (roRo hr fun C hC => (hB C hC).1) b1 B1 h3
    rw [this] at h5
    cases h5

/-- A slice that came in: of n elements of sz cells, in block a, to be read only. -/
def SlAt {H : Type} [Heap H] (h : H) (v : Value) (a sz n : Nat) (el : Nat → Array Value) : Prop :=
  ∃ base cap, v = .slice base n cap ∧ n ≤ cap ∧ (base = none → cap = 0) ∧ (0 < n → base = some ⟨a, 0, none⟩ ∧ a < next h ∧ ∃ cs, get h a = some (.cells cs .ro) ∧ cs.size = n * sz ∧ ∀ i, i < n → cs.extract (i * sz) (i * sz + sz) = el i)

theorem SlAt.keep {H : Type} [Heap H] {h h1 : H} {v : Value} {a sz n : Nat} {el : Nat → Array Value} (hs : SlAt h v a sz n el) (hn : next h ≤ next h1) (hg : a < next h → get h1 a = get h a) : SlAt h1 v a sz n el := by
  obtain ⟨base, cap, h1, h2, h3, h4⟩ := hs
  exact ⟨base, cap, h1, h2, h3, fun hp => let ⟨q1, q2, cs, q3, q4, q5⟩ := h4 hp; ⟨q1, by omega, cs, by rw [hg q2]; exact q3, q4, q5⟩⟩

/-- A slice of flat elements that came in, on the abstract machine. -/
theorem lay_rows {H : Type} {enc : TypeId × Value → H} {P : Program} {w : World} {spare : Nat → Bool} {held : Bool} {r : Reach} {b0 m : Nat} {t e : TypeId} {ks : List LT} {v : Value} {d : DataW H} {p : List MemPlace}
    (hs : P.underlying t = some (.slice e)) (hk : lv P m e = some ks) (hc : P.cellsOf e = ks.length) (hz : 0 < ks.length)
    (hv : Value.okWide P w r b0 t v) (h : DataW.Trod enc P w 0 spare held t v d p) {φ : Emb} {g : FH} (hsim : Sim φ g w) (hr : RO g) :
    ∃ φ' v' n el B, Emb.le φ φ' ∧ Sim φ' (g.ro B) w ∧ RO (g.ro B) ∧ VR φ' v' v ∧ SlAt (g.ro B) v' (next g) ks.length n el ∧ ∀ i, i < n → okL ks (el i).toList := by
  rcases open_rows hs hk hc hv h with rfl | ⟨b, o, len, cap, ccs, ty, fz, rfl, hlc, hb, hle, hel⟩
  · have hle : Emb.le φ φ := Emb.le_refl φ
    refine ⟨φ, .slice none 0 0, 0, fun _ => #[], none, hle, ⟨fun b x hb => ?_, hsim.rng, fun b hb => ?_, fun b c d g' C hb hC => ?_, fun b1 b2 c d1 g1 d2 g2 B1 B2 h1 h2 h3 h4 h5 => ?_⟩, roRo hr (fun C q => by cases q), .sliceNil, ⟨none, 0, rfl, Nat.le_refl _, fun _ => rfl, fun q => absurd q (Nat.lt_irrefl _)⟩, fun i hi => absurd hi (Nat.not_lt_zero _)⟩
    · have := hsim.dom b x hb
      show b < next g + 1
      omega
    · have hb' : next g + 1 ≤ b := hb
      show (if b = next g then none else get g b) = none
      split
      · rfl
      · exact hsim.fresh b (by omega)
    · have hC' : (if b = next g then none else get g b) = some C := hC
      split at hC'
      · cases hC'
      · exact hsim.blk _ _ _ _ _ hb hC'
    · have : wr B1 = false := (roRo hr fun C (q : none = some C) => by cases q) b1 B1 h3
      rw [this] at h5
      cases h5
  · have hbl : b < w.heap.size := (Array.getElem?_eq_some_iff.1 hb).1
    by_cases hp : 0 < len
    · have hq : 0 < len * ks.length := Nat.mul_pos hp hz
      have hle' := hle hq
      have hsz : (ccs.extract o (o + len * ks.length)).size = len * ks.length := by simp; omega
      have hex : ∀ i, i < len → (ccs.extract o (o + len * ks.length)).extract (i * ks.length) (i * ks.length + ks.length) = ccs.extract (o + i * ks.length) (o + i * ks.length + ks.length) := fun i hi => by
        have h1 : i * ks.length + ks.length ≤ len * ks.length := by
          have := Nat.mul_le_mul_right ks.length (show i + 1 ≤ len by omega)
          rwa [Nat.add_mul, Nat.one_mul] at this
        rw [Array.extract_extract]
        congr 1
        omega
      obtain ⟨hl1, hs1⟩ := simRo hsim hr (c := b) (o := o) hbl (B := some (.cells (ccs.extract o (o + len * ks.length)) .ro)) fun C hC => by
        cases hC
        refine ⟨rfl, ccs, ty, fz, hb, by omega, fun i hi => ?_, fun q => absurd rfl q, rfl⟩
        have hi' : i < len * ks.length := by omega
        refine ⟨ccs[o + i]'(by omega), Array.getElem?_eq_getElem _, ?_⟩
        rw [Array.getElem_extract]
        have hd : i / ks.length < len := by
          rw [Nat.div_lt_iff_lt_mul hz]
          exact hi'
        have hm := Nat.mod_lt i hz
        have hi2 : i = i / ks.length * ks.length + i % ks.length := by
          have := Nat.div_add_mod i ks.length
          rw [Nat.mul_comm] at this
          omega
        have hmem : ccs[o + i]'(by omega) ∈ (ccs.extract (o + i / ks.length * ks.length) (o + i / ks.length * ks.length + ks.length)).toList := by
          refine List.mem_of_getElem? (i := i % ks.length) ?_
          rw [Array.getElem?_toList, Array.getElem?_extract, if_pos (by omega)]
          rw [show o + i / ks.length * ks.length + i % ks.length = o + i by omega]
          exact Array.getElem?_eq_getElem _
        exact okL_rel (hel _ hd) _ hmem
      have hv' : VR (Emb.upd φ (next g) (b, o, none)) (.slice (some ⟨next g, 0, none⟩) len cap) (.slice (some ⟨b, o, none⟩) len cap) := by
        have := VR.slice (φ := Emb.upd φ (next g) (b, o, none)) (next g) 0 b o len cap (Emb.upd_same _ _ _)
        rwa [Nat.zero_add] at this
      refine ⟨_, _, len, fun i => (ccs.extract (o + i * ks.length) (o + i * ks.length + ks.length)), _, hl1, hs1, roRo hr (fun C q => by cases q; rfl), hv', ⟨_, cap, rfl, hlc, (fun q => by cases q), fun _ => ⟨rfl, Nat.lt_succ_self _, _, fhro_self _ _, hsz, hex⟩⟩, hel⟩
    · obtain rfl : len = 0 := by omega
      obtain ⟨hl1, hs1⟩ := simRo hsim hr (c := b) (o := o) hbl (B := none) fun C hC => by cases hC
      have hv' : VR (Emb.upd φ (next g) (b, o, none)) (.slice (some ⟨next g, 0, none⟩) 0 cap) (.slice (some ⟨b, o, none⟩) 0 cap) := by
        have := VR.slice (φ := Emb.upd φ (next g) (b, o, none)) (next g) 0 b o 0 cap (Emb.upd_same _ _ _)
        rwa [Nat.zero_add] at this
      exact ⟨_, _, 0, fun _ => #[], _, hl1, hs1, roRo hr (fun C q => by cases q), hv', ⟨some ⟨next g, 0, none⟩, cap, rfl, hlc, (fun q => by cases q), fun q => absurd q (Nat.lt_irrefl _)⟩, fun i hi => absurd hi (Nat.not_lt_zero _)⟩

end Ab
