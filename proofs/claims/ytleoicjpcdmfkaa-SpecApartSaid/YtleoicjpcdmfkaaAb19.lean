/-
  THE ABSTRACT MACHINE IS THE MODEL's: what it comes to, the model's run comes to, from every world that it stands for, on every schedule and choice.
-/
import Derived.Test.YtleoicjpcdmfkaaAb18
import Derived.LoopN
set_option linter.unusedSimpArgs false
set_option linter.unusedVariables false
namespace Ab
open Go
open Heap (get put next skip)

section
variable {P : Program}

theorem cops_at : ∀ {os : List Oper} {as : List AOp}, cops P os = some as → as.length = os.length ∧ ∀ (i : Nat) o, os[i]? = some o → ∃ a, as[i]? = some a ∧ cop P o = some a
  | [], as, h => by simp [cops] at h; subst h; exact ⟨rfl, fun i o h => by simp at h⟩
  | o :: os, as, h => by
    unfold cops at h
    split at h
    · rename_i x r hx hr
      simp only [Option.some.injEq] at h
      subst h
      obtain ⟨h1, h2⟩ := cops_at hr
      refine ⟨by simp [h1], fun i o' ho => ?_⟩
      cases i with
      | zero => simp at ho; subst ho; exact ⟨x, by simp, hx⟩
      | succ i => simpa using h2 i o' (by simpa using ho)
    · cases h

theorem cregL_at {ops : Array Oper} {as : Array AOp} {m : Array Nat} {draw : Bool} : ∀ (os : List Oper) (s : List AOp) (i0 : Nat) (l : List AOper), cregL ops as m draw i0 os s = some l → l.length = os.length ∧ s.length = os.length ∧
    ∀ (j : Nat) o x, os[j]? = some o → s[j]? = some x → ∃ g, guardT ops o.guard = some g ∧ l[j]? = some { dst := o.dst, op := x, guard := g, eff := x.eff, lo := if draw then loOf as m (i0 + j) else 0, hi := if draw then hiOf as m (i0 + j) else 0 }
  | [], [], i0, l, h => by simp [cregL] at h; subst h; exact ⟨rfl, rfl, fun j o x h => by simp at h⟩
  | o :: os, x :: s, i0, l, h => by
    unfold cregL at h
    split at h
    · rename_i g r hg hr
      simp only [Option.some.injEq] at h
      subst h
      obtain ⟨h1, h2, h3⟩ := cregL_at os s (i0 + 1) r hr
      refine ⟨by simp [h1], by simp [h2], fun j o' x' ho hx => ?_⟩
      cases j with
      | zero => simp at ho hx; subst ho; subst hx; exact ⟨g, hg, by simp⟩
      | succ j =>
        obtain ⟨g', h4, h5⟩ := h3 j o' x' (by simpa using ho) (by simpa using hx)
        refine ⟨g', h4, ?_⟩
        rw [show i0 + (j + 1) = i0 + 1 + j by omega]
        simpa using h5
    · cases h
  | [], _ :: _, i0, l, h => by simp [cregL] at h
  | _ :: _, [], i0, l, h => by simp [cregL] at h

theorem creg_at {ops : Array Oper} {draw : Bool} {l : List AOper} (h : creg P ops draw = some l) : l.length = ops.size ∧ (∀ (i : Nat) (o : Oper), ops[i]? = some o → ∃ ao, l[i]? = some ao ∧ Pair P ops o ao ∧ ao.eff = ao.op.eff) ∧
    (draw = true → ∃ m, maskOk ops m = true ∧ backOk ops = true ∧ tmpsOk l.toArray m = true ∧ effsOk l.toArray m = true ∧ winOk l m) := by
  unfold creg at h
  split at h
  · cases h
  · rename_i as has
    obtain ⟨c1, c2⟩ := cops_at has
    simp only at h
    split at h
    · cases h
    · rename_i l' hl
      obtain ⟨k1, k2, k3⟩ := cregL_at _ _ _ _ hl
      by_cases hok : (draw && !(maskOk ops (if draw then Region.before ops else #[]) && backOk ops && tmpsOk l'.toArray (if draw then Region.before ops else #[]) && effsOk l'.toArray (if draw then Region.before ops else #[]))) = true
      · rw [if_pos hok] at h; cases h
      · rw [if_neg hok] at h
        simp only [Option.some.injEq] at h
        subst h
        have at_ : ∀ (i : Nat) (o : Oper), ops[i]? = some o → ∃ x g, as[i]? = some x ∧ cop P o = some x ∧ guardT ops o.guard = some g ∧
            l'[i]? = some { dst := o.dst, op := x, guard := g, eff := x.eff, lo := if draw then loOf as.toArray (if draw then Region.before ops else #[]) i else 0, hi := if draw then hiOf as.toArray (if draw then Region.before ops else #[]) i else 0 } := by
          intro i o ho
          have ho' : ops.toList[i]? = some o := by simpa using ho
          obtain ⟨x, h1, h2⟩ := c2 i o ho'
          obtain ⟨g, h3, h4⟩ := k3 i o x ho' h1
          exact ⟨x, g, h1, h2, h3, by simpa using h4⟩
        refine ⟨by simpa using k1, fun i o ho => ?_, fun hd => ?_⟩
        · obtain ⟨x, g, h1, h2, h3, h4⟩ := at_ i o ho
          refine ⟨_, h4, ⟨cop_inv h2, rfl, ?_⟩, rfl⟩
          cases q : o.guard with
          | none => rw [q] at h3; simp [guardT] at h3; exact h3.symm
          | some p =>
            obtain ⟨j, b⟩ := p
            rw [q] at h3
            simp only [guardT] at h3
            split at h3
            · rename_i t ht
              simp only [Option.some.injEq] at h3
              exact ⟨t, ht, h3.symm⟩
            · cases h3
        · subst hd
          simp only [if_true, Bool.true_and, Bool.not_eq_true', Bool.not_eq_false, Bool.and_eq_true] at hok
          refine ⟨Region.before ops, hok.1.1.1, hok.1.1.2, hok.1.2, hok.2, fun i ao hao => ?_⟩
          have hil : i < ops.size := by
            obtain ⟨h1, _⟩ := List.getElem?_eq_some_iff.1 hao
            rw [k1] at h1; simpa using h1
          obtain ⟨x, g, h1, h2, h3, h4⟩ := at_ i _ (Array.getElem?_eq_getElem hil)
          rw [hao] at h4
          simp only [if_true, Option.some.injEq] at h4
          subst h4
          have hs : as.toArray.size = l'.length := by simp [k1, c1]
          have he : ∀ e : Nat, ((as.toArray[e]?).map AOp.eff).getD false = ((l'[e]?).map AOper.eff).getD false := by
            intro e
            by_cases q : e < ops.size
            · obtain ⟨x', g', p1, _, _, p4⟩ := at_ e _ (Array.getElem?_eq_getElem q)
              rw [p4]
              simp [p1]
            · have q1 : as.length ≤ e := by rw [c1]; simpa using Nat.le_of_not_lt q
              have q2 : l'.length ≤ e := by rw [k1]; simpa using Nat.le_of_not_lt q
              simp [List.getElem?_eq_none q1, List.getElem?_eq_none q2]
          constructor
          · simp only [loOf, hs, he]
          · simp only [hiOf, hs, he]

theorem ccode_skip {C : Code} (h : ccode P C = some .skip) : C = .skip := by
  cases C <;> simp only [ccode] at h <;> first | rfl | cases h | (simp at h; done) | (split at h <;> simp at h; done)
theorem ccode_exit {C : Code} {id : Nat} (h : ccode P C = some (.exit id)) : C = .exit id := by
  cases C <;> simp only [ccode] at h <;> first | cases h; rfl | cases h | (simp at h; done) | (split at h <;> simp at h; done)
theorem ccode_ret {C : Code} (h : ccode P C = some .ret) : C = .ret := by
  cases C <;> simp only [ccode] at h <;> first | rfl | cases h | (simp at h; done) | (split at h <;> simp at h; done)
theorem ccode_region {C : Code} {l : List AOper} {d : Bool} (h : ccode P C = some (.region l d)) : ∃ id ops, C = .region id ops d ∧ creg P ops d = some l := by
  cases C <;> simp only [ccode] at h <;> first | cases h; done | skip
  all_goals first | (simp at h; done) | (split at h <;> simp at h; done) | skip
  simp only [Option.map_eq_some_iff, ACode.region.injEq] at h
  obtain ⟨l', h1, rfl, rfl⟩ := h
  exact ⟨_, _, rfl, h1⟩
theorem ccode_seq {C : Code} {a b : ACode} (h : ccode P C = some (.seq a b)) : ∃ A B, C = .seq A B ∧ ccode P A = some a ∧ ccode P B = some b := by
  cases C <;> simp only [ccode] at h <;> first | cases h; done | (simp at h; done) | skip
  all_goals split at h
  all_goals first | (simp at h; done) | skip
  rename_i h1 h2
  simp only [Option.some.injEq, ACode.seq.injEq] at h
  obtain ⟨rfl, rfl⟩ := h
  exact ⟨_, _, rfl, h1, h2⟩
theorem ccode_cond {C : Code} {c : Operand} {a b : ACode} (h : ccode P C = some (.cond c a b)) : ∃ c' A B, C = .cond c' A B ∧ okO c' = some c ∧ ccode P A = some a ∧ ccode P B = some b := by
  cases C <;> simp only [ccode] at h <;> first | cases h; done | (simp at h; done) | skip
  all_goals split at h
  all_goals first | (simp at h; done) | skip
  rename_i h0 h1 h2
  simp only [Option.some.injEq, ACode.cond.injEq] at h
  obtain ⟨rfl, rfl, rfl⟩ := h
  exact ⟨_, _, _, rfl, h0, h1, h2⟩
theorem ccode_block {C : Code} {id : Nat} {a : ACode} (h : ccode P C = some (.block id a)) : ∃ A, C = .block id A ∧ ccode P A = some a := by
  cases C <;> simp only [ccode] at h <;> first | cases h; done | skip
  all_goals first | (simp at h; done) | (split at h <;> simp at h; done) | skip
  simp only [Option.map_eq_some_iff, ACode.block.injEq] at h
  obtain ⟨l', h1, rfl, rfl⟩ := h
  exact ⟨_, rfl, h1⟩
theorem ccode_loop {C : Code} {a : ACode} (h : ccode P C = some (.loop a)) : ∃ A, C = .loop A ∧ ccode P A = some a := by
  cases C <;> simp only [ccode] at h <;> first | cases h; done | skip
  all_goals first | (simp at h; done) | (split at h <;> simp at h; done) | skip
  simp only [Option.map_eq_some_iff, ACode.loop.injEq] at h
  obtain ⟨l', h1, rfl⟩ := h
  exact ⟨_, rfl, h1⟩

def exitOf : AExit → Exit
  | .normal => .normal
  | .exit id => .exit id
  | .ret => .ret

variable {H : Type} [Heap H]

def Cont (φ : Emb) (h : H) (w : World) (e : AExit) (tm' : Array Value) (h' : H) (Q : Exit → Act → World → Prop) : Prop :=
  ∀ φ' a' w', St φ h w φ' h' w' → AR φ' tm' a'.tmps → a'.defers = [] → (∀ b, φ' b ≠ none → φ b ≠ none ∨ next h ≤ b) → Q (exitOf e) a' w'

/-- What a piece of code comes to. -/
structure CodeOK (P : Program) (c : ACode) (tm : Array Value) (h : H) (e : AExit) (tm' : Array Value) (h' : H) : Prop where
  next : next h ≤ next h'
  keeps : ∀ b, b < Heap.next h → get h b = none → get h' b = none
  run : ∀ C, ccode P C = some c → ∀ φ w a Q, Sim φ h w → AR φ tm a.tmps → a.defers = [] → Cont φ h w e tm' h' Q → C.wp P Q a w
  rounds : ∀ c0, c = .loop c0 → ∃ n, ∀ C0, ccode P C0 = some c0 → ∀ φ w a Q, Sim φ h w → AR φ tm a.tmps → a.defers = [] → Cont φ h w e tm' h' Q → Code.rounds P C0 Q n a w

def Means (P : Program) : Cfg H → Out H → Prop
  | .code c tm h, .code e tm' h' => CodeOK P c tm h e tm' h'
  | .ops base i l tm h, .ops tr tm' h' => TrOK P base i l tm h tr tm' h'
  | .call f args h, .call v h' => CallOK P f args h v h'
  | _, _ => True

theorem results_run {φ : Emb} {h : H} {w : World} (hs : Sim φ h w) {tm tmps : Array Value} (ht : AR φ tm tmps) : ∀ (rs : List ResultVar) (as : List ARes) (vs : List Value), cres P rs = some as → aresL tm h as = some vs →
    ∃ ws, (rs.mapM (fun r => (match r with | .tmp t => pure (tmps.getD t undef) | .cell a t => do loadVar t (← asAddr (tmps.getD a undef)) : Sem Value))).run P w = .ok ws w ∧ ws.length = vs.length ∧ ∀ i (h1 : i < vs.length) (h2 : i < ws.length), VR φ vs[i] ws[i]
  | [], as, vs, hc, hv => by
    simp [cres] at hc
    subst hc
    simp [aresL] at hv
    subst hv
    exact ⟨[], by simp, rfl, fun i h1 => by simp at h1⟩
  | r :: rs, as, vs, hc, hv => by
    have one : ∃ a as', as = a :: as' ∧ cres P rs = some as' ∧ ∀ v, ares1 tm h a = some v → ∃ u, (match r with | .tmp t => pure (tmps.getD t undef) | .cell a t => do loadVar t (← asAddr (tmps.getD a undef)) : Sem Value).run P w = .ok u w ∧ VR φ v u := by
      cases r with
      | tmp t =>
        simp only [cres, Option.map_eq_some_iff] at hc
        obtain ⟨as', h1, rfl⟩ := hc
        refine ⟨_, _, rfl, h1, fun v hv => ?_⟩
        simp only [ares1, Option.some.injEq] at hv
        subst hv
        exact ⟨_, rfl, ht.getD t⟩
      | cell c t =>
        unfold cres at hc
        have hp := ht.getD c
        split at hc
        · rename_i n as' hg hn hr
          simp only [Option.some.injEq] at hc
          subst hc
          refine ⟨_, _, rfl, hr, fun v hv => ?_⟩
          simp only [ares1] at hv
          split at hv
          · rename_i ad had
            rw [had] at hp
            obtain ⟨c', d, g, hb, hsp, he⟩ := hp.ptr_inv
            obtain ⟨bl, of, sp⟩ := ad
            simp only at hsp hb he
            subst hsp
            simp only [Option.map_eq_some_iff] at hv
            obtain ⟨cs, hl, rfl⟩ := hv
            obtain ⟨cs', r1, r2⟩ := cells_run (P := P) hs hb hl
            exact ⟨.agg cs', by simp [he, asAddr, loadVar, run_isAggT hg, run_sizeT hn, r1], .agg _ _ r2.1 r2.2⟩
          · cases hv
        · rename_i as' hg hn hr
          simp only [Option.some.injEq] at hc
          subst hc
          refine ⟨_, _, rfl, hr, fun v hv => ?_⟩
          simp only [ares1] at hv
          split at hv
          · rename_i ad had
            rw [had] at hp
            obtain ⟨c', d, g, hb, hsp, he⟩ := hp.ptr_inv
            obtain ⟨bl, of, sp⟩ := ad
            simp only at hsp hb he
            subst hsp
            obtain ⟨v', r1, r2⟩ := cell_rel hs hb hv
            exact ⟨v', by simp [he, asAddr, loadVar, run_isAggT hg, r1], r2⟩
          · cases hv
        · cases hc
    obtain ⟨a, as', rfl, hrs, hone⟩ := one
    simp only [aresL, Option.bind_eq_some_iff, Option.map_eq_some_iff] at hv
    obtain ⟨v, hv1, vs', hv2, rfl⟩ := hv
    obtain ⟨u, hu1, hu2⟩ := hone v hv1
    obtain ⟨ws, w1, w2, w3⟩ := results_run hs ht rs as' vs' hrs hv2
    refine ⟨u :: ws, ?_, by simp [w2], fun i h1 h2 => ?_⟩
    · simp only [List.mapM_cons, Sem.run_bind, hu1, Result.andThen_ok, w1, Sem.run_pure]
    · cases i with
      | zero => exact hu2
      | succ i => exact w3 i (by simpa using h1) (by simpa using h2)

theorem forget_rel {φ : Emb} {tm tm0 tmps : Array Value} (ht : AR φ tm tmps) (hs : tm0.size = tm.size) (hj : ∀ t, tm0.getD t undef = junk ∨ tm0.getD t undef = tm.getD t undef) : AR φ tm0 tmps := by
  refine ⟨hs.trans ht.1, fun i h1 h2 => ?_⟩
  have e1 : tm0[i] = tm0.getD i undef := by simp [Array.getD, h1]
  have e2 : tmps[i] = tmps.getD i undef := by simp [Array.getD, h2]
  rw [e1, e2]
  rcases hj i with e | e
  · rw [e]; exact .junk _
  · rw [e]; exact ht.getD i

/-- THE ABSTRACT MACHINE IS THE MODEL's. -/
theorem Ex.means {tab : FuncId → Option AFunc} (htab : ∀ f fn, tab f = some fn → cfunc P f = some fn) (hmix : P.follows .mixedOrders = true) {x : Cfg H} {y : Out H} (he : Ex tab x y) : Means P x y := by
  induction he with
  | skip tm h =>
    refine ⟨Nat.le_refl _, fun _ _ hb => hb, fun C hC φ w a Q hs ht hd hQ => ?_, fun c0 h => by cases h⟩
    cases ccode_skip hC
    exact wp_skip (hQ φ a w (St.refl hs) ht hd fun b hb => .inl hb)
  | region l draw tm h tr tm' h' _ hst ih =>
    have hk := tr_keeps _ _ _ _ _ _ _ ih
    rw [Heap.next_skip] at hk
    refine ⟨by omega, fun b hb hg => hk.2 b (by omega) (fun j _ => by omega) (by rw [Heap.get_skip]; exact hg), fun C hC φ w a Q hs ht hd hQ => ?_, fun c0 h => by cases h⟩
    obtain ⟨id, cops, rfl, hl⟩ := ccode_region hC
    obtain ⟨k1, k2, k3⟩ := creg_at hl
    have hfree : ∀ b, next h ≤ b → φ b = none := fun b hb => by
      cases q : φ b with
      | none => rfl
      | some x => have := hs.dom b x q; omega
    cases draw with
    | false =>
      refine wp_region ?_
      rw [List.range_eq_range', ← k1]
      refine seq_run (base := next h) (n := l.length) (fun i o ho => let ⟨ao, h1, h2, _⟩ := k2 i o ho; ⟨ao, h1, h2⟩) rfl k1.symm l 0 _ _ _ _ _ ih (fun j => by simp) (by simp) φ w a (hs.skip _) ht hd (fun b hb _ => hfree b (by omega)) (by rw [Heap.next_skip]; exact Nat.le_refl _) fun φ' a' w' s1 r1 d1 m1 => ?_
      exact hQ φ' a' w' ((St.skip hs _).trans s1) r1 d1 fun b hb => (m1 b hb).imp (fun q => q) (by omega)
    | true =>
      obtain ⟨m, m1, m2, m3, m4, m5⟩ := k3 rfl
      refine wp_region_any hmix ?_
      have R0 : Reg0 P l (next h) tm (Heap.skip h l.length) tr tm' h' := ⟨fun i ao hao => by
          have hi : i < cops.size := by obtain ⟨h1, _⟩ := List.getElem?_eq_some_iff.1 hao; omega
          obtain ⟨ao', h1, _, h2⟩ := k2 i _ (Array.getElem?_eq_getElem hi)
          rw [hao] at h1; cases h1; exact h2, ih, by rw [Heap.next_skip]; exact Nat.le_refl _, fun b hb => by rw [Heap.get_skip]; exact hs.fresh b hb⟩
      have R : Reg P cops l (next h) tm (Heap.skip h l.length) tr tm' h' m := ⟨R0, k1, fun i o ao ho hao => by
          obtain ⟨ao', h1, h2, _⟩ := k2 i o ho
          rw [hao] at h1; cases h1; exact h2, hst rfl, m1, m2, m3, m4, m5⟩
      have hd0 : ∀ j, (Array.replicate cops.size false).getD j false = false := fun j => by
        simp only [Array.getD_eq_getD_getElem?, Array.getElem?_replicate]
        split <;> rfl
      have hs1 : Sim φ h { w with drawn := w.drawn + 1 } := hs.drew _
      have hkD : kD l (Array.replicate cops.size false) = cnt l 0 := by
        rw [cnt_zero]
        unfold kD
        rw [List.countP_eq_zero]
        intro j _; rw [hd0]; simp
      have hsame : ∀ b, (∀ j, j < l.length → b ≠ next h + j) → Heap.get (R.U (cnt l 0)) b = Heap.get h b := fun b hb => by
        rw [R.U_other (Nat.zero_le _) b fun j o r _ h2 _ _ _ e => by
          obtain ⟨h6, _⟩ := List.getElem?_eq_some_iff.1 h2
          exact hb j h6 e, R.h0, Heap.get_skip]
      obtain ⟨e, _, _, _, n1, n2⟩ := R.next_U (p := 0) (Nat.zero_le _)
      have hnx : next (R.U (cnt l 0)) = next h + l.length := by rw [n1, n2, R.h0, Heap.next_skip]
      have lo : ∀ b x, φ b = some x → ∀ j, b ≠ next h + j := fun b x hx j e => by have := hs.dom b x hx; omega
      have I : Inv cops l (next h) tm tr h' φ h w (Array.replicate cops.size false) a { w with drawn := w.drawn + 1 } φ := by
        refine ⟨by simp [k1], fun i hi => (by rw [hd0] at hi; cases hi), hd, ht.1.symm, fun t _ v hl => ?_, ?_, fun b hb => .inl hb, fun j hj hb => absurd (hfree _ (by omega)) hb⟩
        · rcases hl with ⟨i, o, r, _, _, q, _⟩ | ⟨_, rfl⟩
          · rw [hd0] at q; cases q
          · exact ht.getD t
        · rw [hkD]
          refine St.drew (w.drawn + 1) ⟨Emb.le_refl _, ⟨fun b x hx => ?_, hs1.rng, fun b hb => ?_, fun b c d g B hx hg => ?_, fun b1 b2 c d1 g1 d2 g2 B1 B2 e1 e2 e3 e4 e5 => ?_⟩, ⟨rfl, rfl, rfl, Nat.le_refl _, fun _ _ _ => rfl, fun _ => keepsO.refl _⟩, fun b c d g B e1 _ e2 _ => ?_⟩
          · change b < next (R.U (cnt l 0)); rw [hnx]; have := hs.dom b x hx; omega
          · change next (R.U (cnt l 0)) ≤ b at hb
            change Heap.get (R.U (cnt l 0)) b = none
            rw [hnx] at hb
            rw [hsame b fun j hj => by omega]
            exact hs.fresh b (by omega)
          · change Heap.get (R.U (cnt l 0)) b = some B at hg
            rw [hsame b fun j _ => lo b _ hx j] at hg
            exact hs1.blk b c d g B hx hg
          · change Heap.get (R.U (cnt l 0)) b1 = some B1 at e3
            change Heap.get (R.U (cnt l 0)) b2 = some B2 at e4
            rw [hsame b1 fun j _ => lo b1 _ e1 j] at e3
            rw [hsame b2 fun j _ => lo b2 _ e2 j] at e4
            exact hs.sep b1 b2 c d1 g1 d2 g2 B1 B2 e1 e2 e3 e4 e5
          · change Heap.get (R.U (cnt l 0)) b = some B at e2
            rw [hsame b fun j _ => lo b _ e1 j] at e2
            exact ⟨b, d, g, B, e1, e2, fun q => q, fun q => q⟩
      refine R.any_run (φ0 := φ) (h0 := h) (w0 := w) (fun φ' a' w' s1 r1 d1 m1 => ?_) cops.size _ a _ φ I ?_
      · exact hQ φ' a' w' s1 r1 d1 m1
      · have : (List.range cops.size).countP (fun j => !(Array.replicate cops.size false).getD j false) = (List.range cops.size).length := by
          rw [List.countP_eq_length]
          intro j _; rw [hd0]; rfl
        rw [this]; simp
  | seq a b tm h tm1 h1 e tm' h' _ _ ih1 ih2 =>
    refine ⟨Nat.le_trans ih1.next ih2.next, fun b hb hg => ih2.keeps b (Nat.lt_of_lt_of_le hb ih1.next) (ih1.keeps b hb hg), fun C hC φ w a Q hs ht hd hQ => ?_, fun c0 h => by cases h⟩
    obtain ⟨A, B, rfl, hx, hy⟩ := ccode_seq hC
    · skip
      refine wp_seq (ih1.run A hx φ w a _ hs ht hd fun φ1 a1 w1 s1 r1 d1 m1 => ?_)
      refine ih2.run B hy φ1 w1 a1 Q s1.sim r1 d1 fun φ2 a2 w2 s2 r2 d2 m2 => ?_
      exact hQ φ2 a2 w2 (s1.trans s2) r2 d2 fun b hb => by
        rcases m2 b hb with q | q
        · exact m1 b q
        · exact .inr (Nat.le_trans ih1.next q)
  | seqX a b tm h e tm' h' _ hne ih =>
    refine ⟨ih.next, ih.keeps, fun C hC φ w a Q hs ht hd hQ => ?_, fun c0 h => by cases h⟩
    obtain ⟨A, B, rfl, hx, hy⟩ := ccode_seq hC
    · skip
      refine wp_seq (ih.run A hx φ w a _ hs ht hd fun φ1 a1 w1 s1 r1 d1 m1 => ?_)
      have := hQ φ1 a1 w1 s1 r1 d1 m1
      cases e with
      | normal => exact absurd rfl hne
      | exit id => exact this
      | ret => exact this
  | cond c x y tm h t e tm' h' hev _ ih =>
    refine ⟨ih.next, ih.keeps, fun C hC φ w a Q hs ht hd hQ => ?_, fun c0 h => by cases h⟩
    obtain ⟨c', X, Y, rfl, hc, hx, hy⟩ := ccode_cond hC
    · have hr := ev_rel ht hc
      rw [hev] at hr
      refine wp_cond hr.bool_inv ?_
      cases t with
      | true => exact ih.run X hx φ w a Q hs ht hd hQ
      | false => exact ih.run Y hy φ w a Q hs ht hd hQ
  | block id c tm h e tm' h' _ ih =>
    refine ⟨ih.next, ih.keeps, fun C hC φ w a Q hs ht hd hQ => ?_, fun c0 h => by cases h⟩
    obtain ⟨X, rfl, hx⟩ := ccode_block hC
    refine wp_block (ih.run X hx φ w a _ hs ht hd fun φ1 a1 w1 s1 r1 d1 m1 => ?_)
    have := hQ φ1 a1 w1 s1 r1 d1 m1
    cases e with
    | normal => simpa [exitOf, Exit.inBlock] using this
    | ret => simpa [exitOf, Exit.inBlock] using this
    | exit k =>
      by_cases q : k = id
      · subst q; simpa [exitOf, Exit.inBlock] using this
      · simpa [exitOf, Exit.inBlock, q] using this
  | loop c tm h tm1 h1 e tm' h' _ _ ih1 ih2 =>
    have hr : ∀ c0, ACode.loop c = .loop c0 → ∃ n, ∀ C0, ccode P C0 = some c0 → ∀ φ w a Q, Sim φ h w → AR φ tm a.tmps → a.defers = [] → Cont φ h w e tm' h' Q → Code.rounds P C0 Q n a w := by
      intro c0 hc
      cases hc
      obtain ⟨n, hn⟩ := ih2.rounds c rfl
      refine ⟨n + 1, fun C0 hC φ w a Q hs ht hd hQ => ?_⟩
      rw [rounds_succ]
      refine ih1.run C0 hC φ w a _ hs ht hd fun φ1 a1 w1 s1 r1 d1 m1 => ?_
      refine hn C0 hC φ1 w1 a1 Q s1.sim r1 d1 fun φ2 a2 w2 s2 r2 d2 m2 => ?_
      exact hQ φ2 a2 w2 (s1.trans s2) r2 d2 fun b hb => by
        rcases m2 b hb with q | q
        · exact m1 b q
        · exact .inr (Nat.le_trans ih1.next q)
    refine ⟨Nat.le_trans ih1.next ih2.next, fun b hb hg => ih2.keeps b (Nat.lt_of_lt_of_le hb ih1.next) (ih1.keeps b hb hg), fun C hC φ w a Q hs ht hd hQ => ?_, hr⟩
    obtain ⟨X, rfl, hx⟩ := ccode_loop hC
    obtain ⟨n, hn⟩ := hr _ rfl
    exact wp_loop_rounds n (hn X hx φ w a Q hs ht hd hQ)
  | loopX c tm h e tm' h' _ hne ih =>
    have hr : ∀ c0, ACode.loop c = .loop c0 → ∃ n, ∀ C0, ccode P C0 = some c0 → ∀ φ w a Q, Sim φ h w → AR φ tm a.tmps → a.defers = [] → Cont φ h w e tm' h' Q → Code.rounds P C0 Q n a w := by
      intro c0 hc
      cases hc
      refine ⟨1, fun C0 hC φ w a Q hs ht hd hQ => ?_⟩
      rw [rounds_succ]
      refine ih.run C0 hC φ w a _ hs ht hd fun φ1 a1 w1 s1 r1 d1 m1 => ?_
      have := hQ φ1 a1 w1 s1 r1 d1 m1
      cases e with
      | normal => exact absurd rfl hne
      | exit id => exact this
      | ret => exact this
    refine ⟨ih.next, ih.keeps, fun C hC φ w a Q hs ht hd hQ => ?_, hr⟩
    obtain ⟨X, rfl, hx⟩ := ccode_loop hC
    obtain ⟨n, hn⟩ := hr _ rfl
    exact wp_loop_rounds n (hn X hx φ w a Q hs ht hd hQ)
  | exit id tm h =>
    refine ⟨Nat.le_refl _, fun _ _ hb => hb, fun C hC φ w a Q hs ht hd hQ => ?_, fun c0 h => by cases h⟩
    cases ccode_exit hC
    exact wp_exit (hQ φ a w (St.refl hs) ht hd fun b hb => .inl hb)
  | ret tm h =>
    refine ⟨Nat.le_refl _, fun _ _ hb => hb, fun C hC φ w a Q hs ht hd hQ => ?_, fun c0 h => by cases h⟩
    cases ccode_ret hC
    exact wp_ret (hQ φ a w (St.refl hs) ht hd fun b hb => .inl hb)
  | forget c tm tm0 h e tm' h' hsz hj _ ih =>
    refine ⟨ih.next, ih.keeps, fun C hC φ w a Q hs ht hd hQ => ih.run C hC φ w a Q hs (forget_rel ht hsz hj) hd hQ, fun c0 hc => ?_⟩
    obtain ⟨n, hn⟩ := ih.rounds c0 hc
    exact ⟨n, fun C0 hC φ w a Q hs ht hd hQ => hn C0 hC φ w a Q hs (forget_rel ht hsz hj) hd hQ⟩
  | onil base i tm h => exact ⟨rfl, rfl, rfl⟩
  | oskip base i o l tm h tr tm' h' hg _ ih => exact ⟨undef, h, tr, rfl, .inl ⟨hg, rfl, rfl⟩, ih⟩
  | odo base i o l tm h v h1 tr tm' h' hg hc he _ ih => exact ⟨v, h1, tr, rfl, .inr ⟨hg, .inl ⟨hc, he⟩⟩, ih⟩
  | ocall base i o l tm h f args v h1 tr tm' h' hg hop _ _ ih1 ih2 => exact ⟨v, h1, tr, rfl, .inr ⟨hg, .inr ⟨f, args, hop, ih1⟩⟩, ih2⟩
  | call f args h fn e tm' h' vs hf _ hx hvs ih =>
    refine ⟨ih.next, ih.keeps, fun φ w args' hs har => ?_⟩
    have hcf := htab f fn hf
    unfold cfunc at hcf
    split at hcf
    · cases hcf
    · rename_i gfn hg
      split at hcf
      · cases hcf
      · rename_i C hb
        split at hcf
        · rename_i b r hC hR
          simp only [Option.some.injEq] at hcf
          subst hcf
          refine calls_of_wp hg hb (ih.run C hC φ w _ _ hs ?_ rfl fun φ1 a1 w1 s1 r1 d1 m1 => ?_)
          · have := AR.append har (AR.replicate φ (gfn.ntmps - args.size))
            rw [har.1] at this ⊢
            exact this
          · obtain ⟨ws, q1, q2, q3⟩ := results_run (P := P) s1.sim r1 gfn.results.toList r vs hR hvs
            have hres : (results gfn a1.tmps).run P w1 = .ok (if h : ws.toArray.size = 1 then ws.toArray[0] else .tuple ws.toArray) w1 := by
              unfold results
              rw [Array.mapM_eq_mapM_toList]
              simp only [Sem.run_bind, Sem.run_map, Result.andThen_ok, Sem.run_pure]
              erw [q1]
              simp only [Result.andThen_ok]
            have hvr : VR φ1 (tupV vs) (if h : ws.toArray.size = 1 then ws.toArray[0] else .tuple ws.toArray) := by
              match vs, ws, q2, q3 with
              | [v], [u], _, q3 => simpa [tupV] using q3 0 (by simp) (by simp)
              | [], [], _, _ => simpa [tupV] using VR.tuple (φ := φ1) #[] #[] rfl (fun i h1 => by simp at h1)
              | v1 :: v2 :: vs, u1 :: u2 :: us, q2, q3 =>
                have hne : ¬ (u1 :: u2 :: us).toArray.size = 1 := by simp
                rw [dif_neg hne]
                refine .tuple _ _ (by simpa using q2.symm) fun i h1 h2 => ?_
                simpa using q3 i (by simpa using h1) (by simpa using h2)
              | [], _ :: _, q2, _ => simp at q2
              | _ :: _, [], q2, _ => simp at q2
              | [_], _ :: _ :: _, q2, _ => simp at q2
              | _ :: _ :: _, [_], q2, _ => simp at q2
            rcases hx with rfl | rfl
            · exact ⟨d1, _, hres, _, φ1, rfl, s1, hvr, m1⟩
            · exact ⟨d1, _, hres, _, φ1, rfl, s1, hvr, m1⟩
        · cases hcf

end
end Ab
