/-
  THE ABSTRACT MACHINE: how its values and heaps stand for the model's: an embedding of blocks; what is kept when a step is made.
-/
import Derived.Test.YtleoicjpcdmfkaaAb2
set_option linter.unusedSimpArgs false
set_option linter.unusedVariables false
namespace Ab
open Go
open Heap (get put next skip)

/-- Where a block lies: the model's block, the first cell, and, of a block that an append made, its element's cells and its end. -/
abbrev Emb := Nat → Option (Nat × Nat × Option (Nat × Nat))

inductive VR (φ : Emb) : Value → Value → Prop
  | junk (v) : VR φ junk v
  | bool (b) : VR φ (.bool b) (.bool b)
  | int (k n) : VR φ (.int k n) (.int k n)
  | float (k n) : VR φ (.float k n) (.float k n)
  | string (s) : VR φ (.string s) (.string s)
  | nilFunc : VR φ .nilFunc .nilFunc
  | nilIface : VR φ .nilIface .nilIface
  | ptrNil : VR φ (.pointer none) (.pointer none)
  | ptr (b o c d g) : φ b = some (c, d, g) → VR φ (.pointer (some ⟨b, o, none⟩)) (.pointer (some ⟨c, o + d, none⟩))
  | sliceNil : VR φ (.slice none 0 0) (.slice none 0 0)
  | slice (b o c d n k) : φ b = some (c, d, none) → VR φ (.slice (some ⟨b, o, none⟩) n k) (.slice (some ⟨c, o + d, none⟩) n k)
  | sliceG (b o c d sz e n k k') : φ b = some (c, d, some (sz, e)) → 0 < k → k ≤ k' → o + d + k' * sz = e → VR φ (.slice (some ⟨b, o, none⟩) n k) (.slice (some ⟨c, o + d, none⟩) n k')
  | sliceE (b o c d sz e o' k') : φ b = some (c, d, some (sz, e)) → o' ≤ e → VR φ (.slice (some ⟨b, o, none⟩) 0 0) (.slice (some ⟨c, o', none⟩) 0 k')
  | mapNil : VR φ (.map none) (.map none)
  | map (r c) : φ r = some (c, 0, none) → VR φ (.map (some r)) (.map (some c))
  | agg (xs ys : Array Value) : xs.size = ys.size → (∀ i (h1 : i < xs.size) (h2 : i < ys.size), VR φ xs[i] ys[i]) → VR φ (.agg xs) (.agg ys)
  | tuple (xs ys : Array Value) : xs.size = ys.size → (∀ i (h1 : i < xs.size) (h2 : i < ys.size), VR φ xs[i] ys[i]) → VR φ (.tuple xs) (.tuple ys)
  | func (fn) (xs ys zs us : Array Value) : xs.size = ys.size → (∀ i (h1 : i < xs.size) (h2 : i < ys.size), VR φ xs[i] ys[i]) →
      zs.size = us.size → (∀ i (h1 : i < zs.size) (h2 : i < us.size), VR φ zs[i] us[i]) → VR φ (.func fn xs zs) (.func fn ys us)
  | iface (t v w) : VR φ v w → VR φ (.iface t v) (.iface t w)

def Emb.le (φ φ' : Emb) : Prop := ∀ b x, φ b = some x → φ' b = some x

theorem Emb.le_refl (φ : Emb) : Emb.le φ φ := fun _ _ h => h
theorem Emb.le_trans {a b c : Emb} (h : Emb.le a b) (k : Emb.le b c) : Emb.le a c := fun b x e => k b x (h b x e)

theorem VR.mono {φ φ' : Emb} (hl : Emb.le φ φ') {v w : Value} (h : VR φ v w) : VR φ' v w := by
  induction h with
  | junk v => exact .junk v
  | bool b => exact .bool b
  | int k n => exact .int k n
  | float k n => exact .float k n
  | string s => exact .string s
  | nilFunc => exact .nilFunc
  | nilIface => exact .nilIface
  | ptrNil => exact .ptrNil
  | ptr b o c d g h => exact .ptr b o c d g (hl _ _ h)
  | sliceNil => exact .sliceNil
  | slice b o c d n k h => exact .slice b o c d n k (hl _ _ h)
  | sliceG b o c d sz e n k k' h h1 h2 h3 => exact .sliceG b o c d sz e n k k' (hl _ _ h) h1 h2 h3
  | sliceE b o c d sz e a k h h1 => exact .sliceE b o c d sz e a k (hl _ _ h) h1
  | mapNil => exact .mapNil
  | map r c h => exact .map r c (hl _ _ h)
  | agg xs ys hs _ ih => exact .agg xs ys hs ih
  | tuple xs ys hs _ ih => exact .tuple xs ys hs ih
  | func fn xs ys zs us hs _ hz _ ih1 ih2 => exact .func fn xs ys zs us hs ih1 hz ih2
  | iface t v w _ ih => exact .iface t v w ih

/-- Arrays, cell by cell. -/
def AR (φ : Emb) (xs ys : Array Value) : Prop := xs.size = ys.size ∧ ∀ i (h1 : i < xs.size) (h2 : i < ys.size), VR φ xs[i] ys[i]

theorem AR.mono {φ φ' : Emb} (hl : Emb.le φ φ') {xs ys : Array Value} (h : AR φ xs ys) : AR φ' xs ys := ⟨h.1, fun i h1 h2 => (h.2 i h1 h2).mono hl⟩

theorem VR.undef (φ : Emb) : VR φ Go.undef Go.undef := .tuple _ _ rfl (fun i h1 _ => by simp at h1)

theorem AR.at? {φ : Emb} {xs ys : Array Value} (h : AR φ xs ys) {i : Nat} {v : Value} (hv : xs[i]? = some v) : ∃ w, ys[i]? = some w ∧ VR φ v w := by
  obtain ⟨h1, rfl⟩ := Array.getElem?_eq_some_iff.1 hv
  have h2 : i < ys.size := h.1 ▸ h1
  exact ⟨ys[i], Array.getElem?_eq_getElem h2, h.2 i h1 h2⟩

theorem AR.getD {φ : Emb} {xs ys : Array Value} (h : AR φ xs ys) (i : Nat) : VR φ (xs.getD i Go.undef) (ys.getD i Go.undef) := by
  by_cases h1 : i < xs.size
  · have h2 : i < ys.size := h.1 ▸ h1
    simpa [Array.getD, h1, h2] using h.2 i h1 h2
  · have h2 : ¬ i < ys.size := h.1 ▸ h1
    simpa [Array.getD, h1, h2] using VR.undef φ

theorem AR.set {φ : Emb} {xs ys : Array Value} (h : AR φ xs ys) (i : Nat) {v w : Value} (hv : VR φ v w) : AR φ (xs.setIfInBounds i v) (ys.setIfInBounds i w) := by
  refine ⟨by simp [h.1], fun j h1 h2 => ?_⟩
  simp at h1 h2
  rw [Array.getElem_setIfInBounds, Array.getElem_setIfInBounds]
  split
  · exact hv
  · exact h.2 j h1 h2

theorem AR.append {φ : Emb} {xs ys zs us : Array Value} (h : AR φ xs ys) (k : AR φ zs us) : AR φ (xs ++ zs) (ys ++ us) := by
  refine ⟨by simp [h.1, k.1], fun j h1 h2 => ?_⟩
  simp at h1 h2
  rw [Array.getElem_append, Array.getElem_append]
  have e := h.1
  split
  · rename_i hj; rw [dif_pos (by omega)]; exact h.2 j hj (by omega)
  · rename_i hj; rw [dif_neg (by omega)]
    have := k.2 (j - xs.size) (by omega) (by omega)
    simpa [e] using this

theorem AR.replicate (φ : Emb) (n : Nat) : AR φ (Array.replicate n Go.undef) (Array.replicate n Go.undef) :=
  ⟨rfl, fun i h1 h2 => by simpa using VR.undef φ⟩

theorem AR.extract {φ : Emb} {xs ys : Array Value} (h : AR φ xs ys) (i j : Nat) : AR φ (xs.extract i j) (ys.extract i j) := by
  refine ⟨by simp [h.1], fun k h1 h2 => ?_⟩
  simp at h1 h2
  have := h.2 (i + k) (by omega) (by omega)
  simpa using this

theorem AR.push {φ : Emb} {xs ys : Array Value} (h : AR φ xs ys) {v w : Value} (hv : VR φ v w) : AR φ (xs.push v) (ys.push w) := by
  refine ⟨by simp [h.1], fun j h1 h2 => ?_⟩
  simp at h1 h2
  rw [Array.getElem_push, Array.getElem_push]
  have e := h.1
  split
  · rename_i hj; rw [dif_pos (by omega)]; exact h.2 j hj (by omega)
  · rename_i hj; rw [dif_neg (by omega)]; exact hv

/-! closed values -/

theorem VR.leafC {v : Value} (h : leafC v = true) (φ : Emb) : VR φ v v := by
  cases v with
  | bool b => exact .bool b
  | int k n => exact .int k n
  | string s => exact .string s
  | pointer a => cases a with
    | none => exact .ptrNil
    | some a => simp [Ab.leafC] at h
  | slice a n k => cases a with
    | none =>
      cases n <;> cases k <;> simp [Ab.leafC] at h
      exact .sliceNil
    | some a => simp [Ab.leafC] at h
  | map r => cases r with
    | none => exact .mapNil
    | some a => simp [Ab.leafC] at h
  | nilFunc => exact .nilFunc
  | nilIface => exact .nilIface
  | _ => simp [Ab.leafC] at h

theorem VR.closedC {v : Value} (h : closedC v = true) (φ : Emb) : VR φ v v := by
  by_cases ha : ∃ cs, v = .agg cs
  · obtain ⟨cs, rfl⟩ := ha
    simp only [Ab.closedC, List.all_eq_true] at h
    exact .agg cs cs rfl fun i h1 _ => VR.leafC (h _ (by simp)) φ
  · have h' : Ab.leafC v = true := by
      cases v <;> first | exact h | exact absurd ⟨_, rfl⟩ ha
    exact VR.leafC h' φ

theorem AR.closed {v : Value} (h : Ab.closedC v = true) (φ : Emb) : AR φ v.cells v.cells := by
  refine ⟨rfl, fun i h1 _ => ?_⟩
  by_cases ha : ∃ cs, v = .agg cs
  · obtain ⟨cs, rfl⟩ := ha
    simp only [Ab.closedC, List.all_eq_true] at h
    exact VR.leafC (h _ (by simp [Value.cells])) φ
  · have hc : v.cells = #[v] := by cases v <;> first | rfl | exact absurd ⟨_, rfl⟩ ha
    have h' : Ab.leafC v = true := by
      cases v <;> first | exact h | exact absurd ⟨_, rfl⟩ ha
    have h1' : i < (#[v] : Array Value).size := hc ▸ h1
    have e : v.cells[i] = v := by
      have : i = 0 := by simpa using h1'
      subst this
      simp [hc]
    rw [e]
    exact VR.leafC h' φ

theorem one_rel {φ : Emb} {v w : Value} (h : VR φ v w) (ho : one v = true) : w.oneCell' = true ∧ one w = true := by
  cases h <;> simp_all [one, Value.oneCell', junk]

theorem cells_rel {φ : Emb} {v w : Value} {n : Nat} {xs : Array Value} (h : VR φ v w) (hc : cellsN n v = some xs) : AR φ xs w.cells ∧ xs.size = n := by
  cases h <;> simp [cellsN, junk] at hc
  case agg ys hs hr =>
    obtain ⟨hn, rfl⟩ := hc
    exact ⟨⟨hs, hr⟩, hn⟩
  all_goals
    obtain ⟨rfl, rfl⟩ := hc
    refine ⟨⟨rfl, fun i h1 h2 => ?_⟩, rfl⟩
    have : i = 0 := by simpa using h1
    subst this
    simp only [Value.cells, List.getElem_toArray, List.getElem_cons_zero]
    constructor <;> assumption

end Ab
