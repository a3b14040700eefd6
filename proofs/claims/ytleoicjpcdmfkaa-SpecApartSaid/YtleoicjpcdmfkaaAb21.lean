/-
  THE ABSTRACT MACHINE: what is owed for a piece of code to end so ('wp'), in a form that 'simp' steps through.
-/
import Derived.Test.YtleoicjpcdmfkaaAb20
set_option linter.unusedSimpArgs false
set_option linter.unusedVariables false
namespace Ab
open Go
open Heap (get put next skip)

structure BOper where
  dst : Option Tmp
  op : AOp
  guard : Option (Tmp × Bool)

inductive BCode where
  | skip
  | region (ops : List BOper) (dyn : List (Nat × Nat))
  | seq (a b : BCode)
  | cond (c : Operand) (thn els : BCode)
  | block (id : Nat) (body : BCode)
  | loop (body : BCode)
  | exit (id : Nat)
  | ret

structure BFunc where
  ntmps : Nat
  results : List ARes
  body : BCode

def strip (o : AOper) : BOper := ⟨o.dst, o.op, o.guard⟩

def ann : ACode → Option BCode
  | .skip => some .skip
  | .region l d => if d then (if calm l then some (.region (l.map strip) (dynOf l)) else none) else some (.region (l.map strip) [])
  | .seq a b => match ann a, ann b with
    | some a, some b => some (.seq a b)
    | _, _ => none
  | .cond c a b => match ann a, ann b with
    | some a, some b => some (.cond c a b)
    | _, _ => none
  | .block id a => (ann a).map (.block id)
  | .loop a => (ann a).map .loop
  | .exit id => some (.exit id)
  | .ret => some .ret

def bfunc (P : Program) (f : FuncId) : Option BFunc :=
  match cfunc P f with
  | some a => match ann a.body with
    | some b => some ⟨a.ntmps, a.results, b⟩
    | none => none
  | none => none

/-! ### slots as a function -/

abbrev Env := Nat → Value

def tmOf (n : Nat) (e : Env) : Array Value := Array.ofFn fun i : Fin n => e i

def upd (e : Env) (d : Option Tmp) (v : Value) : Env := match d with
  | some t => fun k => if k = t then v else e k
  | none => e

theorem tmOf_size (n : Nat) (e : Env) : (tmOf n e).size = n := by simp [tmOf]

theorem getD_tmOf (n : Nat) (e : Env) (t : Nat) (d : Value) : (tmOf n e).getD t d = if t < n then e t else d := by
  by_cases h : t < n
  · simp [tmOf, Array.getD_eq_getD_getElem?, h]
  · simp [tmOf, Array.getD_eq_getD_getElem?, h]

theorem putT_tmOf (n : Nat) (e : Env) (d : Option Tmp) (v : Value) : putT (tmOf n e) d v = tmOf n (upd e d v) := by
  cases d with
  | none => rfl
  | some t =>
    show (tmOf n e).setIfInBounds t v = _
    refine Array.ext (by simp [tmOf]) fun i h1 h2 => ?_
    have hi : i < n := by simpa [tmOf] using h2
    have e1 : ((tmOf n e).setIfInBounds t v)[i] = if t = i then v else (tmOf n e)[i]'(by simpa [tmOf] using hi) := Array.getElem_setIfInBounds ..
    rw [e1]
    simp only [tmOf, upd, Array.getElem_ofFn]
    by_cases q : t = i
    · subst q; simp
    · rw [if_neg q, if_neg (fun r => q r.symm)]

theorem ev_tmOf (n : Nat) (e : Env) (t : Nat) : ev (tmOf n e) (.tmp t) = if t < n then e t else undef := getD_tmOf n e t undef
theorem ev_const (tm : Array Value) (v : Value) : ev tm (.const v) = v := rfl
theorem ev_func (tm : Array Value) (f : FuncId) : ev tm (.func f) = .func (.func f) #[] #[] := rfl

theorem enter_tmOf (n : Nat) (args : Array Value) (h : args.size ≤ n) : args ++ Array.replicate (n - args.size) undef = tmOf n fun t => args.getD t undef := by
  refine Array.ext (by simp [tmOf]; omega) fun i h1 h2 => ?_
  simp only [tmOf, Array.getElem_ofFn, Array.getElem_append, Array.getElem_replicate]
  split
  · rename_i q; simp [Array.getD, q]
  · rename_i q; simp [Array.getD, q]

section
variable {H : Type} [Heap H]

def CallsTo (tab : FuncId → Option AFunc) (f : FuncId) (args : Array Value) (h : H) (Q : Value → H → Prop) : Prop :=
  ∃ v h1, Ex tab (.call f args h) (.call v h1) ∧ Q v h1

theorem CallsTo.mono {tab : FuncId → Option AFunc} {f : FuncId} {args : Array Value} {h : H} {Q K : Value → H → Prop} (hc : CallsTo tab f args h Q) (hq : ∀ v h1, Q v h1 → K v h1) : CallsTo tab f args h K :=
  let ⟨v, h1, he, hv⟩ := hc
  ⟨v, h1, he, hq v h1 hv⟩

def gcase (g : Option Bool) (T F : Prop) : Prop :=
  match g with
  | some b => if b = true then T else F
  | none => False

def stepW (tab : FuncId → Option AFunc) (n id : Nat) (op : AOp) (e : Env) (h : H) (K : Value → H → Prop) : Prop :=
  match op with
  | .call f args => Fresh h → CallsTo tab f (args.map (ev (tmOf n e))) h fun v h1 => Fresh h1 → next h ≤ next h1 → K v h1
  | op => match aop id op (tmOf n e) h with
    | some (v, h1) => K v h1
    | none => False

def wpO (tab : FuncId → Option AFunc) (n base : Nat) : Nat → List BOper → Env → H → (Env → H → Prop) → Prop
  | _, [], e, h, K => K e h
  | i, o :: l, e, h, K => gcase (guardIs o.guard (tmOf n e)) (stepW tab n (base + i) o.op e h fun v h1 => wpO tab n base (i + 1) l (upd e o.dst v) h1 K)
      (wpO tab n base (i + 1) l (upd e o.dst undef) h K)

def wpT (tab : FuncId → Option AFunc) (n base : Nat) : Nat → List BOper → Env → H → (List (Rec H) → Env → H → Prop) → Prop
  | _, [], e, h, K => K [] e h
  | i, o :: l, e, h, K => gcase (guardIs o.guard (tmOf n e)) (stepW tab n (base + i) o.op e h fun v h1 => wpT tab n base (i + 1) l (upd e o.dst v) h1 fun tr => K (⟨i, tmOf n e, h, v⟩ :: tr))
      (wpT tab n base (i + 1) l (upd e o.dst undef) h fun tr => K (⟨i, tmOf n e, h, undef⟩ :: tr))

def heapsB : List BOper → List (Rec H) → H → List H
  | o :: l, r :: tr, h => if o.op.eff then r.h :: heapsB l tr h else heapsB l tr h
  | _, _, h => [h]

def dynB (base : Nat) (l : List BOper) (tr : List (Rec H)) (hN : H) (p : Nat × Nat) : Prop :=
  match l[p.1]?, tr[p.1]? with
  | some o, some r => wanted o.guard r.tm = true → o.op.makes = false ∧ aop (base + p.1) o.op r.tm ((heapsB l tr hN).getD p.2 hN) = some (r.v, (heapsB l tr hN).getD p.2 hN)
  | _, _ => True

def wp (tab : FuncId → Option AFunc) (n : Nat) : BCode → Env → H → (AExit → Env → H → Prop) → Prop
  | .skip, e, h, Q => Q .normal e h
  | .region l dyn, e, h, Q => match dyn with
    | [] => wpO tab n (next h) 0 l e (skip h l.length) (Q .normal)
    | p :: r => wpT tab n (next h) 0 l e (skip h l.length) fun tr e' h' => (∀ q ∈ p :: r, dynB (next h) l tr h' q) ∧ Q .normal e' h'
  | .seq a b, e, h, Q => wp tab n a e h fun x e h => match x with
    | .normal => wp tab n b e h Q
    | x => Q x e h
  | .cond c a b, e, h, Q => match ev (tmOf n e) c with
    | .bool t => if t = true then wp tab n a e h Q else wp tab n b e h Q
    | _ => False
  | .block id a, e, h, Q => wp tab n a e h fun x e h => Q (if x = .exit id then .normal else x) e h
  | .loop a, e, h, Q => ∃ I : Nat → Env → H → Prop, (∃ m, I m e h) ∧ ∀ m e h, Fresh h → I m e h → wp tab n a e h fun x e h => match x with
    | .normal => ∃ m', m' < m ∧ I m' e h
    | x => Q x e h
  | .exit id, e, h, Q => Q (.exit id) e h
  | .ret, e, h, Q => Q .ret e h

theorem stepW_call {tab : FuncId → Option AFunc} {n id f : Nat} {args : Array Operand} {e : Env} {h : H} {K : Value → H → Prop} :
    stepW tab n id (.call f args) e h K = (Fresh h → CallsTo tab f (args.map (ev (tmOf n e))) h fun v h1 => Fresh h1 → next h ≤ next h1 → K v h1) := rfl

theorem stepW_op {tab : FuncId → Option AFunc} {n id : Nat} {op : AOp} {e : Env} {h : H} {K : Value → H → Prop} (hc : isCall op = false) (hw : stepW tab n id op e h K) : ∃ v h1, aop id op (tmOf n e) h = some (v, h1) ∧ K v h1 := by
  unfold stepW at hw
  split at hw
  · simp [isCall] at hc
  · split at hw
    · exact ⟨_, _, by assumption, hw⟩
    · exact hw.elim

theorem isCall_cases (op : AOp) : (∃ f args, op = .call f args) ∨ isCall op = false := by
  cases op
  case call f args => exact .inl ⟨f, args, rfl⟩
  all_goals exact .inr rfl

theorem wpT_sound {tab : FuncId → Option AFunc} {n base : Nat} : ∀ (l : List AOper) (i : Nat) (e : Env) (h : H) (K : List (Rec H) → Env → H → Prop), wpT tab n base i (l.map strip) e h K → Fresh h → base + i + l.length ≤ next h →
    ∃ tr e' h', Ex tab (.ops base i l (tmOf n e) h) (.ops tr (tmOf n e') h') ∧ K tr e' h'
  | [], i, e, h, K, hw, _, _ => ⟨[], e, h, .onil _ _ _ _, hw⟩
  | o :: l, i, e, h, K, hw, hf, hn => by
    simp only [List.length_cons] at hn
    simp only [List.map_cons, wpT, strip] at hw
    unfold gcase at hw
    split at hw
    · rename_i b hg
      cases b with
      | false =>
        simp only [Bool.false_eq_true, if_false] at hw
        obtain ⟨tr, e', h', h1, h2⟩ := wpT_sound l (i + 1) _ _ _ hw hf (by omega)
        rw [← putT_tmOf] at h1
        exact ⟨_, e', h', .oskip _ _ _ _ _ _ _ _ _ hg h1, h2⟩
      | true =>
        simp only [if_true] at hw
        rcases isCall_cases o.op with ⟨f, args, ho⟩ | hc
        · rw [ho, stepW_call] at hw
          obtain ⟨v, h1, hx, hk⟩ := hw hf
          obtain ⟨g1, g2⟩ := hx.grows hf
          obtain ⟨tr, e', h', q1, q2⟩ := wpT_sound l (i + 1) _ _ _ (hk g1 g2) g1 (by omega)
          rw [← putT_tmOf] at q1
          exact ⟨_, e', h', .ocall _ _ _ _ _ _ _ _ _ _ _ _ _ hg ho hx q1, q2⟩
        · obtain ⟨v, h1, hx, hk⟩ := stepW_op hc hw
          obtain ⟨g1, g2⟩ := hf.aop (by omega) hx
          obtain ⟨tr, e', h', q1, q2⟩ := wpT_sound l (i + 1) _ _ _ hk g1 (by omega)
          rw [← putT_tmOf] at q1
          exact ⟨_, e', h', .odo _ _ _ _ _ _ _ _ _ _ _ hg hc hx q1, q2⟩
    · exact hw.elim

theorem wpO_sound {tab : FuncId → Option AFunc} {n base : Nat} : ∀ (l : List AOper) (i : Nat) (e : Env) (h : H) (K : Env → H → Prop), wpO tab n base i (l.map strip) e h K → Fresh h → base + i + l.length ≤ next h →
    ∃ tr e' h', Ex tab (.ops base i l (tmOf n e) h) (.ops tr (tmOf n e') h') ∧ K e' h'
  | [], i, e, h, K, hw, _, _ => ⟨[], e, h, .onil _ _ _ _, hw⟩
  | o :: l, i, e, h, K, hw, hf, hn => by
    simp only [List.length_cons] at hn
    simp only [List.map_cons, wpO, strip] at hw
    unfold gcase at hw
    split at hw
    · rename_i b hg
      cases b with
      | false =>
        simp only [Bool.false_eq_true, if_false] at hw
        obtain ⟨tr, e', h', h1, h2⟩ := wpO_sound l (i + 1) _ _ _ hw hf (by omega)
        rw [← putT_tmOf] at h1
        exact ⟨_, e', h', .oskip _ _ _ _ _ _ _ _ _ hg h1, h2⟩
      | true =>
        simp only [if_true] at hw
        rcases isCall_cases o.op with ⟨f, args, ho⟩ | hc
        · rw [ho, stepW_call] at hw
          obtain ⟨v, h1, hx, hk⟩ := hw hf
          obtain ⟨g1, g2⟩ := hx.grows hf
          obtain ⟨tr, e', h', q1, q2⟩ := wpO_sound l (i + 1) _ _ _ (hk g1 g2) g1 (by omega)
          rw [← putT_tmOf] at q1
          exact ⟨_, e', h', .ocall _ _ _ _ _ _ _ _ _ _ _ _ _ hg ho hx q1, q2⟩
        · obtain ⟨v, h1, hx, hk⟩ := stepW_op hc hw
          obtain ⟨g1, g2⟩ := hf.aop (by omega) hx
          obtain ⟨tr, e', h', q1, q2⟩ := wpO_sound l (i + 1) _ _ _ hk g1 (by omega)
          rw [← putT_tmOf] at q1
          exact ⟨_, e', h', .odo _ _ _ _ _ _ _ _ _ _ _ hg hc hx q1, q2⟩
    · exact hw.elim

omit [Heap H] in
theorem heapsB_strip : ∀ (l : List AOper) (tr : List (Rec H)) (h : H), (∀ o ∈ l, o.eff = o.op.eff) → heapsB (l.map strip) tr h = heapsAt l tr h
  | [], [], _, _ => rfl
  | [], _ :: _, _, _ => rfl
  | _ :: _, [], _, _ => rfl
  | o :: l, r :: tr, h, he => by
    simp only [List.map_cons, heapsB, heapsAt, strip, he o (by simp), heapsB_strip l tr h fun o ho => he o (by simp [ho])]

theorem dynB_strip {base : Nat} {l : List AOper} {tr : List (Rec H)} {hN : H} (he : ∀ o ∈ l, o.eff = o.op.eff) {p : Nat × Nat} (hd : dynB base (l.map strip) tr hN p) : dynAt base l tr hN p := by
  unfold dynB at hd
  unfold dynAt
  rw [heapsB_strip l tr hN he, List.getElem?_map] at hd
  cases q : l[p.1]? with
  | none => trivial
  | some o =>
    cases q2 : tr[p.1]? with
    | none => trivial
    | some r =>
      rw [q, q2] at hd
      exact hd

variable {P : Program}

theorem wp_sound (hmix : P.follows .mixedOrders = true) {n : Nat} : ∀ (c : ACode) (b : BCode) (e : Env) (h : H) (Q : AExit → Env → H → Prop), ann c = some b → wp (cfunc P) n b e h Q → Fresh h →
    ∃ x e' h', Ex (cfunc P) (.code c (tmOf n e) h) (.code x (tmOf n e') h') ∧ Q x e' h' := by
  intro c
  induction c with
  | skip =>
    intro b e h Q hb hw hf
    simp only [ann, Option.some.injEq] at hb; subst hb
    exact ⟨.normal, e, h, .skip _ _, hw⟩
  | exit id =>
    intro b e h Q hb hw hf
    simp only [ann, Option.some.injEq] at hb; subst hb
    exact ⟨_, e, h, .exit _ _ _, hw⟩
  | ret =>
    intro b e h Q hb hw hf
    simp only [ann, Option.some.injEq] at hb; subst hb
    exact ⟨_, e, h, .ret _ _, hw⟩
  | region l d =>
    intro b e h Q hb hw hf
    have go : ∀ (K : List (Rec H) → Env → H → Prop), wpT (cfunc P) n (next h) 0 (l.map strip) e (Heap.skip h (l.map strip).length) K → ∃ tr e' h', Ex (cfunc P) (.ops (next h) 0 l (tmOf n e) (Heap.skip h l.length)) (.ops tr (tmOf n e') h') ∧ K tr e' h' := fun K hk => by
      rw [List.length_map] at hk
      exact wpT_sound l 0 e _ K hk (hf.skip _) (by rw [Heap.next_skip]; omega)
    have go0 : ∀ (K : Env → H → Prop), wpO (cfunc P) n (next h) 0 (l.map strip) e (Heap.skip h (l.map strip).length) K → ∃ tr e' h', Ex (cfunc P) (.ops (next h) 0 l (tmOf n e) (Heap.skip h l.length)) (.ops tr (tmOf n e') h') ∧ K e' h' := fun K hk => by
      rw [List.length_map] at hk
      exact wpO_sound l 0 e _ K hk (hf.skip _) (by rw [Heap.next_skip]; omega)
    unfold ann at hb
    cases d with
    | false =>
      simp only [Bool.false_eq_true, if_false, Option.some.injEq] at hb
      subst hb
      obtain ⟨tr, e', h', h1, h2⟩ := go0 _ hw
      exact ⟨.normal, e', h', .region _ _ _ _ _ _ _ h1 (fun h => by cases h), h2⟩
    | true =>
      simp only [if_true] at hb
      split at hb
      · rename_i hc
        simp only [Option.some.injEq] at hb
        subst hb
        have heff : ∀ o ∈ l, o.eff = o.op.eff := fun o ho => by
          have := List.all_eq_true.1 hc o ho
          simp only [Bool.and_eq_true, beq_iff_eq] at this
          exact this.1
        have stab : ∀ tr e' h', Ex (cfunc P) (.ops (next h) 0 l (tmOf n e) (Heap.skip h l.length)) (.ops tr (tmOf n e') h') → (∀ q ∈ dynOf l, dynB (next h) (l.map strip) tr h' q) → stableL (next h) l tr h' l tr := fun tr e' h' hx hd => by
          have hm : TrOK P (next h) 0 l (tmOf n e) (Heap.skip h l.length) tr (tmOf n e') h' := Ex.means (fun _ _ q => q) hmix hx
          have R : Reg0 P l (next h) (tmOf n e) (Heap.skip h l.length) tr (tmOf n e') h' := ⟨fun i ao hao => heff ao (List.mem_of_getElem? hao), hm, by rw [Heap.next_skip]; exact Nat.le_refl _, fun b hb => by rw [Heap.get_skip]; exact hf b hb⟩
          exact R.stable hc fun p hp => dynB_strip heff (hd p hp)
        unfold wp at hw
        split at hw
        · rename_i hdyn
          obtain ⟨tr, e', h', h1, h2⟩ := go0 _ hw
          exact ⟨.normal, e', h', .region _ _ _ _ _ _ _ h1 (fun _ => stab tr e' h' h1 (by rw [hdyn]; intro q hq; cases hq)), h2⟩
        · rename_i p r hdyn
          obtain ⟨tr, e', h', h1, h2, h3⟩ := go _ hw
          exact ⟨.normal, e', h', .region _ _ _ _ _ _ _ h1 (fun _ => stab tr e' h' h1 (by rw [hdyn]; exact h2)), h3⟩
      · cases hb
  | seq c1 c2 ih1 ih2 =>
    intro b e h Q hb hw hf
    unfold ann at hb
    split at hb
    · rename_i a1 a2 e1 e2
      simp only [Option.some.injEq] at hb
      subst hb
      obtain ⟨x, e', h', h1, h2⟩ := ih1 _ _ _ _ e1 hw hf
      cases x with
      | normal =>
        obtain ⟨x2, e2', h2', h3, h4⟩ := ih2 _ _ _ _ e2 h2 (h1.grows hf).1
        exact ⟨x2, e2', h2', .seq _ _ _ _ _ _ _ _ _ h1 h3, h4⟩
      | exit id => exact ⟨_, e', h', .seqX _ _ _ _ _ _ _ h1 (fun q => by cases q), h2⟩
      | ret => exact ⟨_, e', h', .seqX _ _ _ _ _ _ _ h1 (fun q => by cases q), h2⟩
    · cases hb
  | cond c c1 c2 ih1 ih2 =>
    intro b e h Q hb hw hf
    unfold ann at hb
    split at hb
    · rename_i a1 a2 e1 e2
      simp only [Option.some.injEq] at hb
      subst hb
      unfold wp at hw
      split at hw
      · rename_i t ht
        cases t with
        | true =>
          simp only [if_true] at hw
          obtain ⟨x, e', h', h1, h2⟩ := ih1 _ _ _ _ e1 hw hf
          exact ⟨x, e', h', .cond _ _ _ _ _ _ _ _ _ ht h1, h2⟩
        | false =>
          simp only [Bool.false_eq_true, if_false] at hw
          obtain ⟨x, e', h', h1, h2⟩ := ih2 _ _ _ _ e2 hw hf
          exact ⟨x, e', h', .cond _ _ _ _ _ _ _ _ _ ht h1, h2⟩
      · exact hw.elim
    · cases hb
  | block id c ih =>
    intro b e h Q hb hw hf
    simp only [ann, Option.map_eq_some_iff] at hb
    obtain ⟨b', e1, rfl⟩ := hb
    obtain ⟨x, e', h', h1, h2⟩ := ih _ _ _ _ e1 hw hf
    exact ⟨_, e', h', .block _ _ _ _ _ _ _ h1, h2⟩
  | loop c ih =>
    intro b e h Q hb hw hf
    simp only [ann, Option.map_eq_some_iff] at hb
    obtain ⟨b', e1, rfl⟩ := hb
    obtain ⟨I, ⟨m, hm⟩, hI⟩ := hw
    have key : ∀ m e h, Fresh h → I m e h → ∃ x e' h', Ex (cfunc P) (.code (.loop c) (tmOf n e) h) (.code x (tmOf n e') h') ∧ Q x e' h' := by
      intro m
      induction m using Nat.strongRecOn with
      | ind m ihm =>
        intro e h hf hi
        obtain ⟨x, e', h', h1, h2⟩ := ih _ _ _ _ e1 (hI m e h hf hi) hf
        cases x with
        | normal =>
          obtain ⟨m', q1, q2⟩ := h2
          obtain ⟨x2, e2', h2', h3, h4⟩ := ihm m' q1 e' h' (h1.grows hf).1 q2
          exact ⟨x2, e2', h2', .loop _ _ _ _ _ _ _ _ h1 h3, h4⟩
        | exit id => exact ⟨_, e', h', .loopX _ _ _ _ _ _ h1 (fun q => by cases q), h2⟩
        | ret => exact ⟨_, e', h', .loopX _ _ _ _ _ _ h1 (fun q => by cases q), h2⟩
    exact key m e h hf hm

/-- A function, by its body. -/
theorem callsTo_of (hmix : P.follows .mixedOrders = true) {f : FuncId} {fn : BFunc} (hfn : bfunc P f = some fn) {args : Array Value} {h : H} {Q : Value → H → Prop} (hsz : args.size ≤ fn.ntmps)
    (hw : Fresh h → wp (cfunc P) fn.ntmps fn.body (fun t => args.getD t undef) h fun x e h' => (x = .normal ∨ x = .ret) ∧ ∃ vs, aresL (tmOf fn.ntmps e) h' fn.results = some vs ∧ Q (tupV vs) h') (hf : Fresh h) : CallsTo (cfunc P) f args h Q := by
  unfold bfunc at hfn
  split at hfn
  · rename_i a ha
    split at hfn
    · rename_i b hb
      simp only [Option.some.injEq] at hfn
      subst hfn
      obtain ⟨x, e', h', h1, h2, vs, h3, h4⟩ := wp_sound hmix a.body b _ h _ hb (hw hf) hf
      refine ⟨_, h', .call _ _ _ _ _ _ _ _ ha ?_ h2 h3, h4⟩
      rw [enter_tmOf _ _ hsz]
      exact h1
    · cases hfn
  · cases hfn

end
end Ab
