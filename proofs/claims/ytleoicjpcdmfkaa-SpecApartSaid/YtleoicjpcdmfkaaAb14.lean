/-
  THE ABSTRACT MACHINE: one operation of a region, whatever it is.
-/
import Derived.Test.YtleoicjpcdmfkaaAb13
set_option linter.unusedSimpArgs false
set_option linter.unusedVariables false
namespace Ab
open Go
open Heap (get put next skip)

section
variable {H : Type} [Heap H]

/-- No block comes up again, but the one that is made. -/
def Keeps (id : Nat) (h h1 : H) : Prop := next h1 = next h ∧ ∀ b, b ≠ id → get h b = none → get h1 b = none

theorem Keeps.refl (id : Nat) (h : H) : Keeps id h h := ⟨rfl, fun _ _ hb => hb⟩
theorem Keeps.new (id : Nat) (h : H) (B : Option Blk) : Keeps id h (put h id B) := ⟨Heap.next_put _ _ _, fun b hb hg => by rw [Heap.get_put, if_neg hb]; exact hg⟩
theorem Keeps.old {id : Nat} {h : H} {r : Nat} {B0 : Blk} (hr : get h r = some B0) (B : Option Blk) : Keeps id h (put h r B) := ⟨Heap.next_put _ _ _, fun b _ hg => by
  rw [Heap.get_put, if_neg (fun e => by rw [e, hr] at hg; cases hg)]; exact hg⟩
theorem Keeps.goneNew (id r : Nat) (h : H) (B : Option Blk) : Keeps id h (put (put h r none) id B) := ⟨by rw [Heap.next_put, Heap.next_put], fun b hb hg => by
  rw [Heap.get_put, if_neg hb, Heap.get_put]
  split
  · rfl
  · exact hg⟩

theorem storeCs_keeps {id : Nat} {h h1 : H} {a : Addr} {xs : Array Value} (he : storeCs h a xs = some h1) : Keeps id h h1 := by
  unfold storeCs at he
  split at he
  · rename_i hg
    split at he
    · simp only [Option.some.injEq] at he; subst he; exact .old hg _
    · cases he
  · cases he

theorem aappend_keeps {id sz bytes : Nat} {h h1 : H} {s x v : Value} (he : aappend id sz bytes h s x = some (v, h1)) : Keeps id h h1 := by
  unfold aappend at he
  split at he
  · split at he
    · cases he
    · split at he
      · cases he
      · split at he
        · split at he
          · cases he
          · split at he
            · simp only [Option.some.injEq, Prod.mk.injEq] at he; obtain ⟨_, rfl⟩ := he; exact .refl _ _
            · simp only [Option.some.injEq, Prod.mk.injEq] at he; obtain ⟨_, rfl⟩ := he; exact .new _ _ _
        · split at he
          · split at he
            · split at he
              · simp only [Option.some.injEq, Prod.mk.injEq] at he; obtain ⟨_, rfl⟩ := he; exact .refl _ _
              · simp only [Option.map_eq_some_iff, Prod.mk.injEq] at he
                obtain ⟨h2, h3, _, rfl⟩ := he
                exact storeCs_keeps h3
            · split at he
              · cases he
              · split at he
                · split at he
                  · cases he
                  · simp only [Option.some.injEq, Prod.mk.injEq] at he; obtain ⟨_, rfl⟩ := he; exact .goneNew _ _ _ _
                · simp only [Option.some.injEq, Prod.mk.injEq] at he; obtain ⟨_, rfl⟩ := he; exact .new _ _ _
          · cases he
  · cases he

theorem aop_keeps {id : Nat} {op : AOp} {tm : Array Value} {h h1 : H} {v : Value} (he : aop id op tm h = some (v, h1)) : Keeps id h h1 := by
  cases op with
  | append sz bytes z s x => exact aappend_keeps he
  | store n a v =>
    simp only [aop] at he
    split at he
    · simp only [Option.bind_eq_some_iff, Option.map_eq_some_iff, Prod.mk.injEq] at he
      obtain ⟨xs, _, h2, h3, _, rfl⟩ := he
      exact storeCs_keeps h3
    · cases he
  | copy sz d s =>
    simp only [aop] at he
    split at he
    · simp only [Option.bind_eq_some_iff] at he
      obtain ⟨xs, _, he⟩ := he
      split at he
      · simp only [Option.some.injEq, Prod.mk.injEq] at he; obtain ⟨_, rfl⟩ := he; exact .refl _ _
      · split at he
        · simp only [Option.some.injEq, Prod.mk.injEq] at he; obtain ⟨_, rfl⟩ := he; exact .refl _ _
        · simp only [Option.map_eq_some_iff, Prod.mk.injEq] at he
          obtain ⟨h2, h3, _, rfl⟩ := he
          exact storeCs_keeps h3
    · cases he
  | mapUpdate kk m k v =>
    simp only [aop] at he
    split at he
    · split at he
      · rename_i hg
        split at he
        · simp only [Option.map_eq_some_iff, Prod.mk.injEq] at he; obtain ⟨_, _, _, rfl⟩ := he; exact .old hg _
        · cases he
      · cases he
    · cases he
  | delete kk m k =>
    simp only [aop] at he
    split at he
    · split at he
      · rename_i hg
        split at he
        · simp only [Option.map_eq_some_iff, Prod.mk.injEq] at he; obtain ⟨_, _, _, rfl⟩ := he; exact .old hg _
        · cases he
      · cases he
    · cases he
  | _ =>
    simp only [aop] at he
    repeat' split at he
    all_goals first
      | (cases he; done)
      | (simp only [Option.some.injEq, Prod.mk.injEq] at he; obtain ⟨_, rfl⟩ := he; first | exact .refl _ _ | exact .new _ _ _)
      | (simp only [Option.map_eq_some_iff, Prod.mk.injEq] at he; obtain ⟨_, _, _, rfl⟩ := he; first | exact .refl _ _ | exact .new _ _ _)

theorem ev_congr {tm tm' : Array Value} {x : Operand} (h : ∀ t, x = .tmp t → tm.getD t undef = tm'.getD t undef) : ev tm x = ev tm' x := by
  cases x with
  | tmp t => exact h t rfl
  | _ => rfl

theorem aop_congr {id : Nat} {op : AOp} {tm tm' : Array Value} {h : H} (hr : ∀ x ∈ op.reads, ev tm x = ev tm' x) : aop id op tm h = aop id op tm' h := by
  have parts : ∀ ps : List (Nat × Nat × Operand), (∀ x ∈ ps.map (·.2.2), ev tm x = ev tm' x) → (ps.map fun p => (p.1, p.2.1, ev tm p.2.2)) = ps.map fun p => (p.1, p.2.1, ev tm' p.2.2) := by
    intro ps hp
    refine List.map_congr_left fun p hm => ?_
    rw [hp p.2.2 (List.mem_map.2 ⟨p, hm, rfl⟩)]
  have bnd : ∀ (d : Nat) (x : Option Operand), (∀ y ∈ x.toList, ev tm y = ev tm' y) → boundV tm d x = boundV tm' d x := by
    intro d x hx
    cases x with
    | none => rfl
    | some y => simp only [boundV]; rw [hx y (by simp)]
  cases op with
  | build z ps => simp only [aop]; rw [parts ps hr]
  | buildSlice z n ps => simp only [aop]; rw [parts ps hr]
  | slice sz x lo hi =>
    simp only [AOp.reads, List.mem_cons, List.mem_append] at hr
    simp only [aop]
    rw [hr x (.inl rfl), bnd 0 lo fun y hy => hr y (.inr (.inl hy))]
    have : ∀ d, boundV tm d hi = boundV tm' d hi := fun d => bnd d hi fun y hy => hr y (.inr (.inr hy))
    simp only [this]
  | sliceArr len sz x lo hi =>
    simp only [AOp.reads, List.mem_cons, List.mem_append] at hr
    simp only [aop]
    rw [hr x (.inl rfl), bnd 0 lo fun y hy => hr y (.inr (.inl hy))]
    have : ∀ d, boundV tm d hi = boundV tm' d hi := fun d => bnd d hi fun y hy => hr y (.inr (.inr hy))
    simp only [this]
  | call f args => rfl
  | alloc z => rfl
  | makeMap => rfl
  | pick c x y => simp only [AOp.reads, List.mem_cons, List.not_mem_nil, or_false, forall_eq_or_imp, forall_eq] at hr; simp only [aop, hr.1, hr.2.1, hr.2.2]
  | mapUpdate kk m k v => simp only [AOp.reads, List.mem_cons, List.not_mem_nil, or_false, forall_eq_or_imp, forall_eq] at hr; simp only [aop, hr.1, hr.2.1, hr.2.2]
  | mov x | box _ x | load1 x | loadN _ x | nilCheck x | un _ x | conv _ x | sliceZero x | fieldAddr _ x | field1 _ x | fieldN _ _ x | extract x _ | lenS x | lenM x =>
    simp only [AOp.reads, List.mem_cons, List.not_mem_nil, or_false, forall_eq] at hr; simp only [aop, hr]
  | store _ x y | bin _ x y | eqv _ _ x y | indexSl _ x y | indexArr _ _ x y | lookup _ _ _ x y | append _ _ _ x y | copy _ x y | delete _ x y =>
    simp only [AOp.reads, List.mem_cons, List.not_mem_nil, or_false, forall_eq_or_imp, forall_eq] at hr; simp only [aop, hr.1, hr.2]

/-- What a call comes to, and that the model's does. -/
def CallOK (P : Program) (f : FuncId) (args : Array Value) (h : H) (v : Value) (h1 : H) : Prop :=
  next h ≤ next h1 ∧ (∀ b, b < next h → get h b = none → get h1 b = none) ∧
  ∀ φ w args', Sim φ h w → AR φ args args' → Calls P f args' w fun e w' => ∃ v' φ', e = .returned v' ∧ St φ h w φ' h1 w' ∧ VR φ' v v' ∧ (∀ b, φ' b ≠ none → φ b ≠ none ∨ next h ≤ b)

/-- What an operation comes to. -/
def StepOK (P : Program) (id : Nat) (o : AOper) (tm : Array Value) (h : H) (v : Value) (h1 : H) : Prop :=
  (guardIs o.guard tm = some false ∧ v = undef ∧ h1 = h) ∨
  (guardIs o.guard tm = some true ∧ ((isCall o.op = false ∧ aop id o.op tm h = some (v, h1)) ∨ ∃ f args, o.op = .call f args ∧ CallOK P f (args.map (ev tm)) h v h1))

/-- The operations, one behind the other. -/
def TrOK (P : Program) (base : Nat) : Nat → List AOper → Array Value → H → List (Rec H) → Array Value → H → Prop
  | _, [], tm, h, tr, tm', h' => tr = [] ∧ tm' = tm ∧ h' = h
  | i, o :: l, tm, h, tr, tm', h' => ∃ v h1 tr', tr = ⟨i, tm, h, v⟩ :: tr' ∧ StepOK P (base + i) o tm h v h1 ∧ TrOK P base (i + 1) l (putT tm o.dst v) h1 tr' tm' h'

/-- A translated operation, beside the model's. -/
structure Pair (P : Program) (ops : Array Oper) (o : Oper) (ao : AOper) : Prop where
  op : COp P o ao.op
  dst : ao.dst = o.dst
  guard : match o.guard with
    | none => ao.guard = none
    | some (j, b) => ∃ t, dstAt ops j = some t ∧ ao.guard = some (t, b)

variable {P : Program} {φ : Emb} {h h1 : H} {w : World} {tm : Array Value} {a : Act} {o : Oper} {ao : AOper} {ops : Array Oper} {id : Nat} {v : Value} {Q : Exit → Act → World → Prop}

theorem guard_rel (hp : Pair P ops o ao) {b : Bool} (hg : guardIs ao.guard tm = some b) (ht : ∀ t c, ao.guard = some (t, c) → VR φ (tm.getD t undef) (a.tmps.getD t undef)) : Region.wanted o (yielded ops a.tmps) = b := by
  have hpg := hp.guard
  cases ho : o.guard with
  | none =>
    rw [ho] at hpg
    simp only at hpg
    rw [hpg] at hg
    simp [guardIs] at hg
    subst hg
    simp [Region.wanted, ho]
  | some p =>
    obtain ⟨j, want⟩ := p
    rw [ho] at hpg
    obtain ⟨t, hd, hag⟩ := hpg
    have hr := ht t want hag
    rw [hag] at hg
    simp only [guardIs] at hg
    simp only [Region.wanted, ho, yielded]
    unfold dstAt at hd
    rw [hd]
    simp only [Option.bind_some]
    split at hg
    · rename_i c hc
      rw [hc] at hr
      have e := hr.bool_inv
      simp only [Option.some.injEq] at hg
      have hlt : t < a.tmps.size := by
        by_cases q : t < a.tmps.size
        · exact q
        · simp [Array.getD, q, undef] at e
      have : a.tmps[t]? = some (.bool c) := by
        rw [Array.getElem?_eq_getElem hlt]
        simpa [Array.getD, hlt] using e
      rw [this, ← hg]
      simp
    · rename_i vs hc
      rw [hc] at hr
      split at hg
      · rename_i hz
        simp only [Option.some.injEq] at hg
        subst hg
        have : ∀ c, a.tmps[t]? ≠ some (.bool c) := by
          intro c hc'
          have e : a.tmps.getD t undef = .bool c := by
            obtain ⟨h1, h2⟩ := Array.getElem?_eq_some_iff.1 hc'
            simp [Array.getD, h1, h2]
          rw [e] at hr
          generalize hz' : Value.tuple vs = z at hr
          cases hr with
          | junk => simp [junk] at hz'; subst hz'; simp at hz
          | bool => cases hz'
        split
        · rename_i c hc'; exact absurd hc' (this c)
        · simp
      · cases hg
    · cases hg

theorem putT_rel {tm : Array Value} {a : Act} (ht : AR φ tm a.tmps) {d : Option Tmp} {v v' : Value} (hv : VR φ v v') : AR φ (putT tm d v) (a.put d v').tmps := by
  cases d with
  | none => exact ht
  | some t => exact ht.set t hv

theorem put_defers {d : Option Tmp} {v : Value} : (a.put d v).defers = a.defers := by cases d <;> rfl

/-- The values of operands that are handed on. -/
theorem args_rel (ht : AR φ tm a.tmps) {xs ys : List Operand} (h : okOs xs = some ys) : AR φ (ys.toArray.map (ev tm)) (xs.toArray.map a.eval) := by
  induction xs generalizing ys with
  | nil => simp [okOs] at h; subst h; exact ⟨by simp, fun i h1 => by simp at h1⟩
  | cons x xs ih =>
    unfold okOs at h
    split at h
    · rename_i y r hy hr
      simp only [Option.some.injEq] at h
      subst h
      have := ih hr
      refine ⟨by simpa using this.1, fun i h1 h2 => ?_⟩
      cases i with
      | zero => simpa using ev_rel ht hy
      | succ i =>
        have := this.2 i (by simpa using h1) (by simpa using h2)
        simpa using this
    · cases h

/-- AN OPERATION: what it comes to is what the model's does. -/
theorem step_sound (hp : Pair P ops o ao) (hs : Sim φ h w) (ht : AR φ tm a.tmps) (hid : φ id = none) (hn : id < next h) (hst : StepOK P id ao tm h v h1) {i : Nat} (hi : ops[i]? = some o) {K : Act → World → Prop}
    (hK : ∀ φ' w' v', St φ h w φ' h1 w' → VR φ' v v' → (∀ b, φ' b ≠ none → φ b ≠ none ∨ b = id ∨ next h ≤ b) → K (a.put o.dst v') w') : wpOp P ops Q i K a w := by
  unfold wpOp
  rw [hi]
  simp only
  have hg : ∀ b, guardIs ao.guard tm = some b → Region.wanted o (yielded ops a.tmps) = b := fun b hb => guard_rel hp hb fun t c _ => ht.getD t
  rcases hst with ⟨hf, rfl, rfl⟩ | ⟨hf, hop⟩
  · rw [hg _ hf]
    simp only [Bool.false_eq_true, if_false]
    exact hK φ w undef (St.refl hs) (VR.undef _) fun b hb => .inl hb
  · rw [hg _ hf]
    simp only [if_true]
    refine .inl ?_
    rcases hop with ⟨hc, he⟩ | ⟨f, args, hop, _, _, hcall⟩
    · by_cases he1 : ao.op.eff = true
      · obtain ⟨φ', w', nx, v', r1, r2, r3, r4, r5⟩ := writes_of hs ht hid hn hp.op he1 hc he
        unfold Oper.wp
        rw [r1]
        rcases r2 with rfl | ⟨rfl, rfl⟩
        · exact hK φ' w' v' r3 r4 fun b hb => (r5 b hb).imp (fun q => q) .inl
        · exact hK φ' w' undef r3 r4 fun b hb => (r5 b hb).imp (fun q => q) .inl
      · have he1 : ao.op.eff = false := by simpa using he1
        by_cases hm : ao.op.makes = true
        · obtain ⟨B, rfl, φ', w', v', r1, r2, r3, r4, r5⟩ := makes_of hs ht hid hp.op hm he
          unfold Oper.wp
          rw [r1]
          exact hK φ' w' v' (r5 h hs hn) r4 fun b hb => (r3 b hb).imp (fun q => q) .inl
        · have hm : ao.op.makes = false := by simpa using hm
          obtain ⟨rfl, v', r1, r2⟩ := looks_of hs ht hp.op he1 hm he
          unfold Oper.wp
          rw [r1]
          exact hK φ w v' (St.refl hs) r2 fun b hb => .inl hb
    · have hcop := hp.op
      rw [hop] at hcop
      cases hcop with
      | call c f as fn h1' h2 h3 h4 h5 h6 =>
        have har : AR φ (as.toArray.map (ev tm)) (c.args.map a.eval) := by
          have := args_rel (a := a) ht h3
          simpa using this
        have hcl := hcall φ w (c.args.map a.eval) hs har
        unfold Oper.wp
        have hrun : (execOp a.eval o).run P w = .ok (.enter f (c.args.map a.eval)) w := by
          have hb : fn.body ≠ none := by
            intro e; rw [e] at h5; cases h5
          have hnm : ¬ fn.name = "runtime.NumGoroutine" := by simpa using h6
          simp [execOp, h1', resolve, h2, Act.eval, Deferred.ofValue, invoke, callFunc, h4, hb, hnm]
        rw [hrun]
        simp only [Oper.upon]
        refine hcl.mono fun e w' ⟨v', φ', he, r3, r4, r5⟩ => ?_
        subst he
        exact hK φ' w' v' r3 r4 fun b hb => (r5 b hb).imp (fun q => q) .inr

end
end Ab
