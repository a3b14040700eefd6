/-
  THE ABSTRACT MACHINE: a region whose order is open comes to what the text's order comes to, where what is read does not hang on its place.
-/
import Derived.Test.YtleoicjpcdmfkaaAb15
set_option linter.unusedSimpArgs false
set_option linter.unusedVariables false
namespace Ab
open Go
open Heap (get put next skip)

/-- The windows are those that the masks give. -/
def winOk (l : List AOper) (m : Array Nat) : Prop := ∀ (i : Nat) (ao : AOper), l[i]? = some ao →
  ao.lo = ((List.range l.length).filter fun e => ((l[e]?).map (·.eff)).getD false && (m.getD i 0).testBit e).length ∧
  ao.hi = ((List.range l.length).filter fun e => ((l[e]?).map (·.eff)).getD false && !(m.getD e 0).testBit i).length

section
variable {H : Type} [Heap H]

structure Reg0 (P : Program) (l : List AOper) (base : Nat) (tm0 : Array Value) (H0 : H) (tr : List (Rec H)) (tmN : Array Value) (hN : H) : Prop where
  eff : ∀ (i : Nat) (ao : AOper), l[i]? = some ao → ao.eff = ao.op.eff
  trace : TrOK P base 0 l tm0 H0 tr tmN hN
  room : base + l.length ≤ next H0
  fresh : ∀ b, base ≤ b → get H0 b = none

structure Reg (P : Program) (ops : Array Oper) (l : List AOper) (base : Nat) (tm0 : Array Value) (H0 : H) (tr : List (Rec H)) (tmN : Array Value) (hN : H) (m : Array Nat) : Prop extends Reg0 P l base tm0 H0 tr tmN hN where
  len : l.length = ops.size
  pair : ∀ (i : Nat) (o : Oper) (ao : AOper), ops[i]? = some o → l[i]? = some ao → Pair P ops o ao
  stable : stableL base l tr hN l tr
  mask : maskOk ops m = true
  back : backOk ops = true
  tmps : tmpsOk l.toArray m = true
  effs : effsOk l.toArray m = true
  win : winOk l m

variable {P : Program} {ops : Array Oper} {l : List AOper} {base : Nat} {tm0 : Array Value} {H0 : H} {tr : List (Rec H)} {tmN : Array Value} {hN : H} {m : Array Nat}

theorem stableL_at {ops : List AOper} {trA : List (Rec H)} {h : H} : ∀ (l : List AOper) (t : List (Rec H)), stableL base ops trA h l t → ∀ (j : Nat) (o : AOper) (r : Rec H), l[j]? = some o → t[j]? = some r → ∀ k, o.lo ≤ k → k ≤ o.hi → stableAt base ops trA h o r k
  | [], _, _, j, o, r, ho, _ => by simp at ho
  | _ :: _, [], _, j, o, r, _, hr => by simp at hr
  | o' :: l, r' :: t, hs, j, o, r, ho, hr => by
    obtain ⟨h1, h2⟩ := hs
    cases j with
    | zero => simp at ho hr; subst ho; subst hr; exact h1
    | succ j => exact stableL_at l t h2 j o r (by simpa using ho) (by simpa using hr)

namespace Reg0
variable (R : Reg0 P l base tm0 H0 tr tmN hN)
include R

theorem trlen : tr.length = l.length := (tr_at l 0 _ _ _ _ _ R.trace).1

theorem at_ {j : Nat} (hj : j < l.length) : ∃ o r, l[j]? = some o ∧ tr[j]? = some r ∧ r.i = j ∧ r.h = hAt tr hN j ∧ r.tm = tmAt tr tmN j ∧
      StepOK P (base + j) o r.tm r.h r.v (hAt tr hN (j + 1)) ∧ tmAt tr tmN (j + 1) = putT r.tm o.dst r.v := by
  obtain ⟨o, r, h1, h2, h3, h4, h5, h6, h7⟩ := (tr_at l 0 _ _ _ _ _ R.trace).2.2.2 j hj
  rw [Nat.zero_add] at h3 h6
  exact ⟨o, r, h1, h2, h3, h4, h5, h6, h7⟩

theorem h0 : hAt tr hN 0 = H0 := (tr_at l 0 _ _ _ _ _ R.trace).2.1
theorem tm_0 : tmAt tr tmN 0 = tm0 := (tr_at l 0 _ _ _ _ _ R.trace).2.2.1
theorem hEnd : hAt tr hN l.length = hN := by simp [hAt, List.getElem?_eq_none (Nat.le_of_eq R.trlen)]
theorem tmEnd : tmAt tr tmN l.length = tmN := by simp [tmAt, List.getElem?_eq_none (Nat.le_of_eq R.trlen)]

theorem i_of {j : Nat} {r : Rec H} (hr : tr[j]? = some r) : r.i = 0 + j := by
  obtain ⟨h1, _⟩ := List.getElem?_eq_some_iff.1 hr
  obtain ⟨o, r', _, h3, h4, _⟩ := R.at_ (R.trlen ▸ h1)
  rw [hr] at h3; cases h3; omega

/-- Numbers of blocks are free till the operation is come to. -/
theorem next_mono {i j : Nat} (hij : i ≤ j) (hj : j ≤ l.length) : next (hAt tr hN i) ≤ next (hAt tr hN j) := by
  induction j with
  | zero => have : i = 0 := by omega
            subst this; exact Nat.le_refl _
  | succ j ih =>
    by_cases q : i = j + 1
    · rw [q]; exact Nat.le_refl _
    · have := ih (by omega) (by omega)
      obtain ⟨o, r, _, _, _, h4, _, h6, _⟩ := R.at_ (j := j) (by omega)
      have := (step_keeps h6).1
      rw [h4] at this
      omega

theorem none_yet {i j : Nat} (hij : i ≤ j) (hj : j < l.length) : get (hAt tr hN i) (base + j) = none := by
  induction i with
  | zero => rw [R.h0]; exact R.fresh _ (by omega)
  | succ i ih =>
    obtain ⟨o, r, _, _, _, h4, _, h6, _⟩ := R.at_ (j := i) (by omega)
    have hn := R.next_mono (Nat.zero_le i) (by omega)
    rw [R.h0] at hn
    have hr := R.room
    refine (step_keeps h6).2 _ ?_ (by omega) ?_
    · rw [h4]; omega
    · rw [h4]; exact ih (by omega)

/-- What does not write leaves all but its own block alone. -/
theorem quiet {j : Nat} {o : AOper} (ho : l[j]? = some o) (hf : o.eff = false) (b : Nat) (hb : b ≠ base + j) : get (hAt tr hN (j + 1)) b = get (hAt tr hN j) b := by
  obtain ⟨hj, _⟩ := List.getElem?_eq_some_iff.1 ho
  obtain ⟨o', r, h1, h2, h3, h4, h5, h6, h7⟩ := R.at_ hj
  rw [ho] at h1; cases h1
  have hef := R.eff j o ho
  rw [hf] at hef
  rw [← h4]
  rcases h6 with ⟨_, _, e⟩ | ⟨_, ⟨_, he⟩ | ⟨f, args, hc, _⟩⟩
  · rw [e]
  · rcases (aop_quiet hef.symm he).1 with e | ⟨B, e⟩
    · rw [e]
    · rw [e, Heap.get_put, if_neg hb]
  · rw [hc] at hef; simp [AOp.eff] at hef

/-- .. and where it makes no block, or is not come to, its own, too. -/
theorem quiet_all {j : Nat} {o : AOper} {r : Rec H} (ho : l[j]? = some o) (hr : tr[j]? = some r) (hf : o.eff = false) (hm : o.op.makes = true → wanted o.guard r.tm = false) (b : Nat) : get (hAt tr hN (j + 1)) b = get (hAt tr hN j) b := by
  obtain ⟨hj, _⟩ := List.getElem?_eq_some_iff.1 ho
  obtain ⟨o', r', h1, h2, h3, h4, h5, h6, h7⟩ := R.at_ hj
  rw [ho] at h1; cases h1
  rw [hr] at h2; cases h2
  have hef := R.eff j o ho
  rw [hf] at hef
  rw [← h4]
  rcases h6 with ⟨_, _, e⟩ | ⟨hg, ⟨_, he⟩ | ⟨f, args, hc, _⟩⟩
  · rw [e]
  · have hmk : o.op.makes = false := by
      cases q : o.op.makes with
      | false => rfl
      | true => have := hm q; simp [wanted, hg] at this
    rw [(aop_quiet hef.symm he).2 hmk]
  · rw [hc] at hef; simp [AOp.eff] at hef

theorem made_at {j : Nat} {o : AOper} {r : Rec H} (ho : l[j]? = some o) (hr : tr[j]? = some r) (hf : o.eff = false) (hw : wanted o.guard r.tm = true) : get (hAt tr hN (j + 1)) (base + j) = madeBy (base + j) o.op r.tm r.h := by
  obtain ⟨hj, _⟩ := List.getElem?_eq_some_iff.1 ho
  obtain ⟨o', r', h1, h2, h3, h4, h5, h6, h7⟩ := R.at_ hj
  rw [ho] at h1; cases h1
  rw [hr] at h2; cases h2
  have hef := R.eff j o ho
  rw [hf] at hef
  rcases h6 with ⟨hg, _, e⟩ | ⟨hg, ⟨_, he⟩ | ⟨f, args, hc, _⟩⟩
  · simp [wanted, hg] at hw
  · simp [madeBy, he]
  · rw [hc] at hef; simp [AOp.eff] at hef

theorem mk_eff {j : Nat} {o : AOper} (ho : l[j]? = some o) (hm : o.op.makes = true) : o.eff = false := by
  rw [R.eff j o ho]
  cases h : o.op <;> rw [h] at hm <;> simp [AOp.makes] at hm <;> rfl

/-- The heap before the p-th operation, all blocks that are made from there on laid beforehand. -/
def U (_ : Reg0 P l base tm0 H0 tr tmN hN) (k : Nat) : H := early base k l tr (heapNo l tr hN k)

theorem upto (p : Nat) (hp : p ≤ l.length) : ∃ e, p ≤ e ∧ e ≤ l.length ∧ cnt l e = cnt l p ∧ heapNo l tr hN (cnt l p) = hAt tr hN e ∧ ∀ j, p ≤ j → j < e → ∃ o, l[j]? = some o ∧ o.eff = false := by
  have key : ∀ d p, p + d = l.length → ∃ e, p ≤ e ∧ e ≤ l.length ∧ cnt l e = cnt l p ∧ heapNo l tr hN (cnt l p) = hAt tr hN e ∧ ∀ j, p ≤ j → j < e → ∃ o, l[j]? = some o ∧ o.eff = false := by
    intro d
    induction d with
    | zero =>
      intro p hp
      have : p = l.length := by omega
      subst this
      exact ⟨l.length, Nat.le_refl _, Nat.le_refl _, rfl, by unfold heapNo; rw [heapsAt_end l tr hN R.trlen, R.hEnd], fun j h1 h2 => by omega⟩
    | succ d ih =>
      intro p hp
      obtain ⟨o, ho⟩ : ∃ o, l[p]? = some o := ⟨_, List.getElem?_eq_getElem (by omega)⟩
      cases hf : o.eff with
      | true => exact ⟨p, Nat.le_refl _, by omega, rfl, by unfold heapNo; rw [heapsAt_at l tr hN R.trlen p o ho hf], fun j h1 h2 => by omega⟩
      | false =>
        obtain ⟨e, h1, h2, h3, h4, h5⟩ := ih (p + 1) (by omega)
        have hc : cnt l (p + 1) = cnt l p := by rw [cnt_succ ho, hf]; simp
        refine ⟨e, by omega, h2, by omega, by rw [← hc]; exact h4, fun j q1 q2 => ?_⟩
        by_cases q : j = p
        · rw [q]; exact ⟨o, ho, hf⟩
        · exact h5 j (by omega) q2
  exact key (l.length - p) p (by omega)

theorem U_made {p j : Nat} (hpj : p ≤ j) {o : AOper} {r : Rec H} (ho : l[j]? = some o) (hr : tr[j]? = some r) (hm : o.op.makes = true) (hw : wanted o.guard r.tm = true) : get (R.U (cnt l p)) (base + j) = madeBy (base + j) o.op r.tm r.h := by
  have hi := R.i_of hr
  have := early_made base l tr (heapNo l tr hN (cnt l p)) (cnt l p) 0 R.trlen (fun j r hj => R.i_of hj) j o r ho hr hm hw (cnt_mono l hpj)
  rw [show base + r.i = base + j by omega] at this
  exact this

theorem U_other {p : Nat} (hp : p ≤ l.length) (b : Nat) (hb : ∀ j o r, p ≤ j → l[j]? = some o → tr[j]? = some r → o.op.makes = true → wanted o.guard r.tm = true → b ≠ base + j) : get (R.U (cnt l p)) b = get (hAt tr hN p) b := by
  obtain ⟨e, e1, e2, e3, e4, e5⟩ := R.upto p hp
  -- from p to e
  have run : ∀ q, p ≤ q → q ≤ e → get (hAt tr hN q) b = get (hAt tr hN p) b := by
    intro q
    induction q with
    | zero => intro h1 _; have : p = 0 := by omega
              rw [this]
    | succ q ih =>
      intro h1 h2
      by_cases q0 : p = q + 1
      · rw [q0]
      · obtain ⟨o, ho, hf⟩ := e5 q (by omega) (by omega)
        obtain ⟨o', r, h3, h4, _⟩ := R.at_ (j := q) (by omega)
        rw [ho] at h3; cases h3
        rw [← ih (by omega) (by omega)]
        by_cases hbq : b = base + q
        · refine R.quiet_all ho h4 hf (fun hm => ?_) b
          cases hw : wanted o.guard r.tm with
          | false => rfl
          | true => exact absurd hbq (hb q o r (by omega) ho h4 hm hw)
        · exact R.quiet ho hf b hbq
  by_cases hx : ∃ j o r, j < p ∧ cnt l j = cnt l p ∧ l[j]? = some o ∧ tr[j]? = some r ∧ o.op.makes = true ∧ wanted o.guard r.tm = true ∧ b = base + j
  · obtain ⟨j, o, r, h1, h2, h3, h4, h5, h6, rfl⟩ := hx
    have := R.U_made (p := j) (Nat.le_refl j) h3 h4 h5 h6
    rw [h2] at this
    rw [this, ← R.made_at h3 h4 (R.mk_eff h3 h5) h6]
    -- nothing writes from there to p
    have same : ∀ q, j + 1 ≤ q → q ≤ p → get (hAt tr hN q) (base + j) = get (hAt tr hN (j + 1)) (base + j) := by
      intro q
      induction q with
      | zero => intro q1; omega
      | succ q ih =>
        intro q1 q2
        by_cases q0 : j = q
        · rw [q0]
        · obtain ⟨o', ho'⟩ : ∃ o', l[q]? = some o' := ⟨_, List.getElem?_eq_getElem (by omega)⟩
          have hf : o'.eff = false := by
            cases hf : o'.eff with
            | false => rfl
            | true =>
              have := cnt_succ ho'
              rw [hf] at this
              have c1 := cnt_mono l (show j ≤ q by omega)
              have c2 := cnt_mono l (show q + 1 ≤ p by omega)
              simp at this
              omega
          rw [R.quiet ho' hf _ (by omega), ih (by omega) (by omega)]
    rw [same p (by omega) (Nat.le_refl _)]
  · have := early_other base b l tr (heapNo l tr hN (cnt l p)) (cnt l p) R.trlen (fun j o r ho hr hm hw hk e => by
      have hi := R.i_of hr
      have hbj : b = base + j := by omega
      by_cases q : j < p
      · have c1 := cnt_mono l (show j ≤ p by omega)
        exact hx ⟨j, o, r, q, by omega, ho, hr, hm, hw, hbj⟩
      · exact hb j o r (by omega) ho hr hm hw hbj)
    show get (early base (cnt l p) l tr (heapNo l tr hN (cnt l p))) b = _
    rw [this, e4]
    exact run e e1 (Nat.le_refl _)

theorem next_U {p : Nat} (hp : p ≤ l.length) : ∃ e, p ≤ e ∧ e ≤ l.length ∧ cnt l e = cnt l p ∧ next (R.U (cnt l p)) = next (hAt tr hN e) ∧ next (hAt tr hN e) = next (hAt tr hN p) := by
  obtain ⟨e, e1, e2, e3, e4, e5⟩ := R.upto p hp
  refine ⟨e, e1, e2, e3, ?_, ?_⟩
  · show next (early base _ l tr _) = _
    rw [next_early, e4]
  · have run : ∀ q, p ≤ q → q ≤ e → next (hAt tr hN q) = next (hAt tr hN p) := by
      intro q
      induction q with
      | zero => intro h1 _; have : p = 0 := by omega
                rw [this]
      | succ q ih =>
        intro h1 h2
        by_cases q0 : p = q + 1
        · rw [q0]
        · obtain ⟨o, ho, hf⟩ := e5 q (by omega) (by omega)
          obtain ⟨o', r, h3, h4, _, h5, _, h6, _⟩ := R.at_ (j := q) (by omega)
          rw [ho] at h3; cases h3
          rw [← ih (by omega) (by omega), ← h5]
          have hef := R.eff q o ho
          rw [hf] at hef
          rcases h6 with ⟨_, _, e⟩ | ⟨_, ⟨_, he⟩ | ⟨f, args, hc, _⟩⟩
          · rw [e]
          · exact (aop_keeps he).1
          · rw [hc] at hef; simp [AOp.eff] at hef
    exact run e e1 (Nat.le_refl _)

end Reg0
end
end Ab
