/-
  From a law's walk on the abstract machine to the row: arguments that are flat, the heap that a walk begins with, the frame.
-/
import Derived.Test.YtleoicjpcdmfkaaAb23s
import Derived.ProofKit
import Derived.Carry
import Derived.Lib.SmallJoins
import Derived.Deep.Slices
set_option linter.unusedSimpArgs false
set_option linter.unusedVariables false
namespace Ab
open Go
open Heap (get put next skip)

/-- A heap as a function. -/
structure FH where
  get : Nat → Option Blk
  next : Nat

instance : Heap FH where
  get h := h.get
  put h k b := ⟨fun j => if j = k then b else h.get j, h.next⟩
  next h := h.next
  skip h n := ⟨h.get, h.next + n⟩
  get_put _ _ _ _ := rfl
  next_put _ _ _ := rfl
  get_skip _ _ _ := rfl
  next_skip _ _ := rfl

section
variable {H : Type} [Heap H]

/-- What a call comes to on the abstract machine, it comes to; and of what was there nothing turns, where all is but read. -/
theorem lift {P : Program} (hmix : P.follows .mixedOrders = true) {f : FuncId} {args args' : Array Value} {h : H} {w : World} {φ : Emb} (hs : Sim φ h w) (ha : AR φ args args') (hro : ∀ b B, get h b = some B → wr B = false)
    (hc : CallsTo (cfunc P) f args h fun v _ => v = .bool true) : Calls P f args' w fun e w' => e = .returned (.bool true) ∧ RowKit.Below w.heap.size w w' := by
  obtain ⟨v, h1, hx, rfl⟩ := hc
  have hm : CallOK P f args h (.bool true) h1 := Ex.means (fun _ _ q => q) hmix hx
  refine (hm.2.2 φ w args' hs ha).mono fun e w' ⟨v', φ', he, st, hv, _⟩ => ?_
  subst he
  cases hv with
  | bool b => exact ⟨rfl, st.fr.os, st.fr.tape, st.fr.output, st.fr.size, fun k hk => st.fr.block k hk fun b d g B _ hg => hro b B hg⟩

end

/-! ### flat types -/

inductive LT where
  | int (k : IntKind) | bool | string

def leafOk : LT → Value → Prop
  | .int k, v => ∃ n, v = .int k n ∧ (Lit.int k n).wf = true
  | .bool, v => ∃ b, v = .bool b
  | .string, v => ∃ s, v = .string s

def okL : List LT → List Value → Prop
  | [], [] => True
  | k :: ks, v :: vs => leafOk k v ∧ okL ks vs
  | _, _ => False

def lvF (P : Program) (rec : TypeId → Option (List LT)) : List Field → Nat → Option (List LT)
  | [], _ => some []
  | f :: fs, off => match rec f.type with
    | some ks => match lvF P rec fs (off + ks.length) with
      | some l => if f.offset = off ∧ P.cellsOf f.type = ks.length then some (ks ++ l) else none
      | none => none
    | none => none

def lv (P : Program) : Nat → TypeId → Option (List LT)
  | 0, _ => none
  | n + 1, t =>
    match P.underlying t with
    | some (.int k) => some [.int k]
    | some .bool => some [.bool]
    | some .string => some [.string]
    | some (.struct fs) => match lvF P (lv P n) fs.toList 0 with
      | some l => if P.cellsOf t = l.length then some l else none
      | none => none
    | _ => none

theorem okL_nil {vs : List Value} (h : okL [] vs) : vs = [] := by cases vs with | nil => rfl | cons _ _ => exact h.elim
theorem okL_int {k : IntKind} {ks : List LT} {vs : List Value} (h : okL (.int k :: ks) vs) : ∃ n us, vs = .int k n :: us ∧ (Lit.int k n).wf = true ∧ okL ks us := by
  cases vs with
  | nil => exact h.elim
  | cons v us => obtain ⟨⟨n, rfl, hn⟩, h2⟩ := h; exact ⟨n, us, rfl, hn, h2⟩
theorem okL_bool {ks : List LT} {vs : List Value} (h : okL (.bool :: ks) vs) : ∃ b us, vs = .bool b :: us ∧ okL ks us := by
  cases vs with
  | nil => exact h.elim
  | cons v us => obtain ⟨⟨b, rfl⟩, h2⟩ := h; exact ⟨b, us, rfl, h2⟩

theorem okL_length : ∀ {ks : List LT} {vs : List Value}, okL ks vs → vs.length = ks.length
  | [], [], _ => rfl
  | _ :: _, _ :: _, h => by simp only [List.length_cons, okL_length h.2]
  | [], _ :: _, h => h.elim
  | _ :: _, [], h => h.elim

theorem okL_append : ∀ {ks ls : List LT} {vs us : List Value}, okL ks vs → okL ls us → okL (ks ++ ls) (vs ++ us)
  | [], _, [], _, _, h => h
  | _ :: _, _, _ :: _, _, h, k => ⟨h.1, okL_append h.2 k⟩
  | [], _, _ :: _, _, h, _ => h.elim
  | _ :: _, _, [], _, h, _ => h.elim

theorem leafOk_rel {φ : Emb} {k : LT} {v : Value} (h : leafOk k v) : VR φ v v := by
  cases k with
  | int k => obtain ⟨n, rfl, _⟩ := h; exact .int _ _
  | bool => obtain ⟨b, rfl⟩ := h; exact .bool _
  | string => obtain ⟨s, rfl⟩ := h; exact .string _

theorem okL_rel {φ : Emb} : ∀ {ks : List LT} {vs : List Value}, okL ks vs → ∀ v ∈ vs, VR φ v v
  | [], [], _, v, hv => by cases hv
  | _ :: _, _ :: _, h, v, hv => by
    rcases List.mem_cons.1 hv with rfl | hv
    · exact leafOk_rel h.1
    · exact okL_rel h.2 v hv
  | [], _ :: _, h, _, _ => h.elim
  | _ :: _, [], h, _, _ => h.elim

section
variable {H : Type} {enc : TypeId × Value → H} {P : Program} {w : World} {base : Nat} {spare : Nat → Bool} {held : Bool}

/-- A flat type's reading says of each cell what it is. -/
theorem trod_flat : ∀ (n : Nat) (t : TypeId) (ks : List LT) (fuel : Nat) (cs : List Value) (x : DataW H × List MemPlace), lv P n t = some ks → DataW.trod enc P w base spare held fuel t cs = some x → okL ks cs
  | 0, _, _, _, _, _, h, _ => by simp [lv] at h
  | n + 1, t, ks, 0, cs, x, _, ht => by simp [DataW.trod] at ht
  | n + 1, t, ks, fuel + 1, cs, x, h, ht => by
    unfold lv at h
    split at h
    · rename_i k hu
      simp only [Option.some.injEq] at h
      subst h
      obtain ⟨m, rfl, _, hw⟩ := DataW.trod_int hu ht
      exact ⟨⟨m, rfl, hw⟩, trivial⟩
    · rename_i hu
      simp only [Option.some.injEq] at h
      subst h
      obtain ⟨b, rfl, _⟩ := DataW.trod_bool hu ht
      exact ⟨⟨b, rfl⟩, trivial⟩
    · rename_i hu
      simp only [Option.some.injEq] at h
      subst h
      obtain ⟨s, rfl, _⟩ := DataW.trod_string hu ht
      exact ⟨⟨s, rfl⟩, trivial⟩
    · rename_i fs hu
      split at h
      · rename_i l hl
        split at h
        · rename_i hc
          simp only [Option.some.injEq] at h
          subst h
          obtain ⟨xs, m, _, _, hlen, hxs, hf⟩ := DataW.trod_struct hu ht
          have key : ∀ (gs : List Field) (off : Nat) (l : List LT), lvF P (lv P n) gs off = some l → (∀ f ∈ gs, ∃ y, DataW.trod enc P w base spare held m f.type ((cs.drop f.offset).take (P.cellsOf f.type)) = some y) → okL l ((cs.drop off).take l.length) := by
            intro gs
            induction gs with
            | nil => intro off l h1 _; simp [lvF] at h1; subst h1; simp [okL]
            | cons f gs ih =>
              intro off l h1 h2
              unfold lvF at h1
              split at h1
              · rename_i ks hk
                split at h1
                · rename_i l' hl'
                  split at h1
                  · rename_i ho
                    simp only [Option.some.injEq] at h1
                    subst h1
                    obtain ⟨y, hy⟩ := h2 f (by simp)
                    have a1 := trod_flat n f.type ks m _ y hk hy
                    rw [ho.1, ho.2] at a1
                    have a2 := ih _ _ hl' fun g hg => h2 g (by simp [hg])
                    have e : (cs.drop off).take (ks ++ l').length = (cs.drop off).take ks.length ++ (cs.drop (off + ks.length)).take l'.length := by
                      rw [List.length_append, List.take_add, List.drop_drop]
                    rw [e]
                    exact okL_append a1 a2
                  · cases h1
                · cases h1
              · cases h1
          have := key fs.toList 0 l hl fun f hf' => by
            obtain ⟨i, hi⟩ := List.getElem?_of_mem hf'
            have hi' : fs[i]? = some f := by simpa using hi
            have hlt : i < fs.size := (Array.getElem?_eq_some_iff.1 hi').1
            exact ⟨xs[i]'(by omega), by rw [hf i f hi']; exact List.getElem?_eq_getElem _⟩
          rw [List.drop_zero, List.take_of_length_le (by omega)] at this
          exact this
        · cases h
      · cases h
    · cases h

/-- A flat struct, by value. -/
theorem open_flat {r : Reach} {b0 n : Nat} {t : TypeId} {fs : Array Field} {ks : List LT} {v : Value} {d : DataW H} {p : List MemPlace} (hs : P.underlying t = some (.struct fs)) (hk : lv P n t = some ks)
    (hv : Value.okWide P w r b0 t v) (h : DataW.Trod enc P w base spare held t v d p) : ∃ cs, v = .agg cs ∧ okL ks cs.toList := by
  obtain ⟨cs, rfl, _⟩ := WideShapes.okWide_struct hs hv
  obtain ⟨fuel, hf⟩ := h
  exact ⟨cs, rfl, trod_flat n t ks fuel _ _ hk hf⟩

def FH.none : FH := ⟨fun _ => .none, 0⟩
theorem FH.none_get (b : Nat) : Heap.get FH.none b = .none := rfl
theorem FH.none_fresh : Fresh FH.none := fun _ _ => rfl
def Emb.none : Emb := fun _ => .none
theorem Sim.none (W : World) : Sim Emb.none FH.none W := ⟨fun b x h => (by cases h), fun b c d g h => (by cases h), fun b _ => rfl, fun b c d g B h => (by cases h), fun b1 b2 c d1 g1 d2 g2 B1 B2 h => (by cases h)⟩

theorem AR_nil (φ : Emb) : AR φ #[] #[] := ⟨rfl, fun i h1 _ => by simp at h1⟩
theorem AR_push {φ : Emb} {l m : List Value} {v u : Value} (hv : VR φ v u) (h : AR φ l.toArray m.toArray) : AR φ (v :: l).toArray (u :: m).toArray := by
  have hs : l.length = m.length := by simpa using h.1
  refine ⟨by simp [hs], fun i h1 h2 => ?_⟩
  cases i with
  | zero => simpa using hv
  | succ i =>
    have := h.2 i (by simpa using h1) (by simpa using h2)
    simp only [List.getElem_toArray, List.getElem_cons_succ] at this ⊢
    exact this

theorem AR_flat {φ : Emb} {ks : List LT} {cs : Array Value} (h : okL ks cs.toList) : VR φ (.agg cs) (.agg cs) :=
  .agg _ _ rfl fun i h1 _ => okL_rel h _ (by simp)

theorem trodAll_stays (hl : laidOutB P = true) {W W' : World} (hb : RowKit.Below W.heap.size W W') : ∀ {ts : List TypeId} {vs : List Value} {ds : List (DataW H)} {ps : List MemPlace}, (∀ t ∈ ts, P.readableRec t = true ∧ t < P.types.size) →
    DataW.TrodAll enc P W 0 (fun _ => true) true ts vs ds ps → (∀ x ∈ ps, x.block < W.heap.size) → DataW.TrodAll enc P W' 0 (fun b => decide (b < W.heap.size)) true ts vs ds ps
  | [], [], [], _, _, h, _ => h
  | t :: ts, v :: vs, d :: ds, ps, hr, h, hlt => by
    obtain ⟨p, q, h1, h2, rfl⟩ := h
    exact ⟨p, q, RowKit.Below.trod hl (hr t (by simp)).1 (hr t (by simp)).2 h1 hb fun x hx => hlt x (by simp [hx]), trodAll_stays hl hb (fun t ht => hr t (by simp [ht])) h2 fun x hx => hlt x (by simp [hx]), rfl⟩
  | [], _ :: _, _, _, _, h, _ => by simp [DataW.TrodAll] at h
  | [], [], _ :: _, _, _, h, _ => by simp [DataW.TrodAll] at h
  | _ :: _, [], _, _, _, h, _ => by simp [DataW.TrodAll] at h
  | _ :: _, _ :: _, [], _, _, h, _ => by simp [DataW.TrodAll] at h

/-- A law's row: it is true, and what it was handed reads as it did. -/
theorem post_true {f : Func} {s : ChangeSpec} {W W' : World} {args : Array Value} {ds gs : List (DataW H)} {before : List MemPlace} {tb : TypeId} (hl : laidOutB P = true) (hW : DataW.Whole enc P f.params.toList s.vars false W args.toList ds gs before) (hv : s.vars = [])
    (hres : f.resultTypes = #[tb]) (htb : P.underlying tb = some .bool) (hread : ∀ t ∈ f.params.toList, P.readableRec t = true ∧ t < P.types.size) (hspec : s.fn H (ds ++ gs) = { results := [.lit (.bool true)], args := ds }) (hb : RowKit.Below W.heap.size W W') :
    s.post enc P f false true false false W args (.bool true) W' := by
  have hlt := hW.lt
  have hW' := hW
  obtain ⟨p, q, hA, hV, rfl, hfz, hnd⟩ := hW
  rw [hv] at hV
  obtain ⟨rfl, rfl⟩ := ChangeShapes.trodVars_none hV
  refine ⟨ds, [], p ++ [], [], p, [], hW', ?_, ?_, ?_, hb.frame _, fun h => by cases h⟩
  · rw [hspec, hres]
    exact ChangeShapes.trodAll_mk1 (RowKit.shut_bool htb true)
  · rw [hspec]
    exact trodAll_stays hl hb hread hA fun x hx => hlt x (by simp [hx])
  · rw [hspec, hv]
    rfl

end
end Ab
