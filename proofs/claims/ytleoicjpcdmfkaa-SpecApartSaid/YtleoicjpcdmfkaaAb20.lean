/-
  THE ABSTRACT MACHINE: what an operation yields at another place: over a greater heap it yields the same; a drawn region's stability by few facts.
-/
import Derived.Test.YtleoicjpcdmfkaaAb19
set_option linter.unusedSimpArgs false
set_option linter.unusedVariables false
namespace Ab
open Go
open Heap (get put next skip)

/-- An operation that looks into the heap. -/
def AOp.looks : AOp → Bool
  | .load1 .. | .loadN .. | .lookup .. | .lenM .. | .slice .. | .sliceZero .. | .sliceArr .. | .eqv .. => true
  | _ => false

section
variable {H : Type} [Heap H]

def Inside (X Y : H) : Prop := ∀ b B, get X b = some B → get Y b = some B

theorem Inside.loadC {X Y : H} (hs : Inside X Y) {a : Addr} {v : Value} (h : loadC X a = some v) : loadC Y a = some v := by
  unfold Ab.loadC at h ⊢
  split at h
  · rename_i cs md h1 h2
    rw [h1, hs _ _ h2]; exact h
  · cases h

theorem Inside.loadCs {X Y : H} (hs : Inside X Y) {a : Addr} {n : Nat} {v : Array Value} (h : loadCs X a n = some v) : loadCs Y a n = some v := by
  unfold Ab.loadCs at h ⊢
  split at h
  · rename_i cs md h1 h2
    rw [h1, hs _ _ h2]; exact h
  · cases h

theorem Inside.samePtr {X Y : H} (hs : Inside X Y) {a b : Addr} {r : Bool} (h : samePtr X a b = some r) : samePtr Y a b = some r := by
  unfold Ab.samePtr at h ⊢
  split at h
  · rename_i h1 h2
    by_cases q : a.block = b.block
    · rw [if_pos q] at h ⊢; exact h
    · rw [if_neg q] at h
      rw [if_neg q]
      split at h
      · rename_i h3 h4
        rw [hs _ _ h3, hs _ _ h4]; exact h
      · cases h
  · cases h

theorem Inside.eqH {X Y : H} (hs : Inside X Y) {k : EqK} {x y : Value} {r : Bool} (h : eqH X k x y = some r) : eqH Y k x y = some r := by
  unfold Ab.eqH at h ⊢
  split at h
  · exact hs.samePtr h
  · exact h

/-- What makes nothing and writes nothing yields the same over a greater heap. -/
theorem aop_mono {id : Nat} {op : AOp} {tm : Array Value} {X Y X1 : H} {v : Value} (hs : Inside X Y) (hf : op.eff = false) (hm : op.makes = false) (h : aop id op tm X = some (v, X1)) : aop id op tm Y = some (v, Y) := by
  cases op <;> simp only [AOp.eff, AOp.makes, Bool.true_eq_false] at hf hm
  case mov x => simp only [aop, Option.some.injEq, Prod.mk.injEq] at h ⊢; exact ⟨h.1, trivial⟩
  case pick c a b =>
    simp only [aop] at h ⊢
    split at h
    · rename_i h1; try rw [h1]
      simp only [Option.some.injEq, Prod.mk.injEq] at h ⊢; exact ⟨h.1, trivial⟩
    · cases h
  case build z ps =>
    simp only [aop, Option.map_eq_some_iff, Prod.mk.injEq] at h ⊢
    obtain ⟨cs, h1, h2, _⟩ := h
    exact ⟨cs, h1, h2, trivial⟩
  case load1 a =>
    simp only [aop] at h ⊢
    split at h
    · rename_i h1; try rw [h1]
      simp only [Option.map_eq_some_iff, Prod.mk.injEq] at h ⊢
      obtain ⟨u, h2, h3, _⟩ := h
      exact ⟨u, hs.loadC h2, h3, trivial⟩
    · cases h
  case loadN n a =>
    simp only [aop] at h ⊢
    split at h
    · rename_i h1; try rw [h1]
      simp only [Option.map_eq_some_iff, Prod.mk.injEq] at h ⊢
      obtain ⟨u, h2, h3, _⟩ := h
      exact ⟨u, hs.loadCs h2, h3, trivial⟩
    · cases h
  case nilCheck x =>
    simp only [aop] at h ⊢
    split at h
    · rename_i h1; try rw [h1]
      simp only [Option.some.injEq, Prod.mk.injEq] at h ⊢; exact ⟨h.1, trivial⟩
    · cases h
  case bin op x y =>
    simp only [aop, Option.map_eq_some_iff, Prod.mk.injEq] at h ⊢
    obtain ⟨u, h2, h3, _⟩ := h
    exact ⟨u, h2, h3, trivial⟩
  case eqv neg k x y =>
    simp only [aop, Option.map_eq_some_iff, Prod.mk.injEq] at h ⊢
    obtain ⟨u, h2, h3, _⟩ := h
    exact ⟨u, hs.eqH h2, h3, trivial⟩
  case un op x =>
    simp only [aop, Option.map_eq_some_iff, Prod.mk.injEq] at h ⊢
    obtain ⟨u, h2, h3, _⟩ := h
    exact ⟨u, h2, h3, trivial⟩
  case conv k x =>
    simp only [aop] at h ⊢
    split at h
    · rename_i h1; try rw [h1]
      simp only [Option.some.injEq, Prod.mk.injEq] at h ⊢; exact ⟨h.1, trivial⟩
    · cases h
  case slice sz x lo hi =>
    simp only [aop] at h ⊢
    split at h
    · rename_i h1
      try rw [h1]
      try dsimp only
      split at h
      · rename_i h2 h3 h4 h5
        try rw [h2]
        rw [hs _ _ h3]
        try rw [h4]
        try rw [h5]
        try dsimp only
        repeat' (split at h)
        all_goals first | cases h | skip
        all_goals simp_all
      · cases h
    · rename_i h1
      try rw [h1]
      try dsimp only
      split at h
      · rename_i h2 h3
        try rw [h2]
        try rw [h3]
        try dsimp only
        repeat' (split at h)
        all_goals first | cases h | skip
        all_goals simp_all
      · cases h
    · cases h
  case sliceArr n sz x lo hi =>
    simp only [aop] at h ⊢
    split at h
    · rename_i h1
      try rw [h1]
      try dsimp only
      split at h
      · rename_i h2 h3 h4 h5
        try rw [h2]
        rw [hs _ _ h3]
        try rw [h4]
        try rw [h5]
        try dsimp only
        split at h
        · simp only [Option.some.injEq, Prod.mk.injEq] at h ⊢
          simp_all
        · cases h
      · cases h
    · cases h
  case fieldAddr off x =>
    simp only [aop] at h ⊢
    repeat' (split at h)
    all_goals first | cases h | skip
    all_goals simp_all
  case field1 off x =>
    simp only [aop] at h ⊢
    repeat' (split at h)
    all_goals first | cases h | skip
    all_goals simp_all
    obtain ⟨u, h1, h2, _⟩ := h
    rw [h1, h2]
  case fieldN off n x =>
    simp only [aop] at h ⊢
    repeat' (split at h)
    all_goals first | cases h | skip
    all_goals simp_all
  case indexSl sz x i =>
    simp only [aop] at h ⊢
    repeat' (split at h)
    all_goals first | cases h | skip
    all_goals simp_all
  case indexArr len sz x i =>
    simp only [aop] at h ⊢
    repeat' (split at h)
    all_goals first | cases h | skip
    all_goals simp_all
  case lookup kk z ok x k =>
    simp only [aop] at h ⊢
    split at h
    · rename_i h1; try rw [h1]
      try dsimp only
      repeat' (split at h)
      all_goals first | cases h | skip
      all_goals simp_all
    · rename_i r h1; try rw [h1]
      try dsimp only
      split at h
      · rename_i es h2
        rw [hs _ _ h2]
        try dsimp only
        repeat' (split at h)
        all_goals first | cases h | skip
        all_goals simp_all
      · cases h
    · cases h
  case extract x i =>
    simp only [aop] at h ⊢
    repeat' (split at h)
    all_goals first | cases h | skip
    all_goals simp_all
    obtain ⟨u, h1, h2, _⟩ := h
    rw [h1, h2]
  case lenS x =>
    simp only [aop] at h ⊢
    repeat' (split at h)
    all_goals first | cases h | skip
    all_goals simp_all
  case lenM x =>
    simp only [aop] at h ⊢
    split at h
    · rename_i h1; try rw [h1]
      simp only [Option.some.injEq, Prod.mk.injEq] at h ⊢; exact ⟨h.1, trivial⟩
    · rename_i r h1; try rw [h1]
      try dsimp only
      split at h
      · rename_i es h2
        rw [hs _ _ h2]
        simp only [Option.some.injEq, Prod.mk.injEq] at h ⊢; exact ⟨h.1, trivial⟩
      · cases h
    · cases h

/-- What makes a block makes the same over a greater heap. -/
theorem aop_mono_makes {id : Nat} {op : AOp} {tm : Array Value} {X Y X1 : H} {v : Value} (hs : op.looks = true → Inside X Y) (hm : op.makes = true) (h : aop id op tm X = some (v, X1)) : ∃ B, X1 = put X id (some B) ∧ aop id op tm Y = some (v, put Y id (some B)) := by
  cases op <;> simp only [AOp.makes, Bool.false_eq_true] at hm
  case alloc z =>
    simp only [aop, Option.some.injEq, Prod.mk.injEq] at h ⊢
    exact ⟨_, h.2.symm, h.1, rfl⟩
  case box n x =>
    simp only [aop, Option.map_eq_some_iff, Prod.mk.injEq] at h ⊢
    obtain ⟨cs, h1, h2, h3⟩ := h
    exact ⟨_, h3.symm, cs, h1, h2, rfl⟩
  case buildSlice z n ps =>
    simp only [aop, Option.map_eq_some_iff, Prod.mk.injEq] at h ⊢
    obtain ⟨cs, h1, h2, h3⟩ := h
    exact ⟨_, h3.symm, cs, h1, h2, rfl⟩
  case makeMap =>
    simp only [aop, Option.some.injEq, Prod.mk.injEq] at h ⊢
    exact ⟨_, h.2.symm, h.1, rfl⟩
  case sliceZero x =>
    have hs := hs rfl
    simp only [aop] at h ⊢
    split at h
    · rename_i h1
      try rw [h1]
      try dsimp only
      split at h
      · rename_i h2 h3
        try rw [h2]
        rw [hs _ _ h3]
        try dsimp only
        split at h
        · rename_i h4
          try rw [if_pos h4]
          simp only [Option.some.injEq, Prod.mk.injEq] at h ⊢
          exact ⟨_, h.2.symm, h.1, rfl⟩
        · cases h
      · cases h
    · rename_i h1
      try rw [h1]
      simp only [Option.some.injEq, Prod.mk.injEq] at h ⊢
      exact ⟨_, h.2.symm, h.1, rfl⟩
    · cases h

/-- What looks at nothing yields the same over every heap. -/
theorem aop_blind {id : Nat} {op : AOp} {tm : Array Value} {X Y X1 : H} {v : Value} (hl : op.looks = false) (hf : op.eff = false) (hm : op.makes = false) (h : aop id op tm X = some (v, X1)) : aop id op tm Y = some (v, Y) := by
  cases op <;> simp only [AOp.eff, AOp.makes, AOp.looks, Bool.true_eq_false] at hf hm hl
  case mov x => simp only [aop, Option.some.injEq, Prod.mk.injEq] at h ⊢; exact ⟨h.1, trivial⟩
  all_goals simp only [aop] at h ⊢
  all_goals first
    | (simp only [Option.map_eq_some_iff, Prod.mk.injEq] at h ⊢
       obtain ⟨u, h2, h3, _⟩ := h
       exact ⟨u, h2, h3, trivial⟩)
    | (repeat' (split at h)
       all_goals first | cases h | skip
       all_goals simp_all
       all_goals first | done | (obtain ⟨u, h1, h2, _⟩ := h; rw [h1, h2]))

end

/-! ### the places at which an operation's yield is asked for anew -/

/-- For each operation that looks: the places of its window but its own; an operation that makes: those behind its own. -/
def dynOf (l : List AOper) : List (Nat × Nat) :=
  (List.range l.length).flatMap fun i => match l[i]? with
    | some o => if o.eff then [] else
      ((List.range (o.hi + 1 - o.lo)).filterMap fun d =>
        let k := o.lo + d
        if k = cnt l i then none
        else if o.op.looks || (o.op.makes && decide (cnt l i < k)) then some (i, k) else none)
    | none => []

/-- No window reaches behind the last effect. -/
def calm (l : List AOper) : Bool := l.all fun o => o.eff == o.op.eff && decide (o.hi ≤ cnt l l.length)

section
variable {H : Type} [Heap H]

def dynAt (base : Nat) (l : List AOper) (tr : List (Rec H)) (hN : H) (p : Nat × Nat) : Prop :=
  match l[p.1]?, tr[p.1]? with
  | some o, some r => wanted o.guard r.tm = true → o.op.makes = false ∧ aop (base + p.1) o.op r.tm (heapNo l tr hN p.2) = some (r.v, heapNo l tr hN p.2)
  | _, _ => True

theorem stableL_mk {base : Nat} {ops : List AOper} {trA : List (Rec H)} {h : H} : ∀ (l : List AOper) (t : List (Rec H)), t.length = l.length → (∀ (j : Nat) (o : AOper) (r : Rec H), l[j]? = some o → t[j]? = some r → ∀ k, o.lo ≤ k → k ≤ o.hi → stableAt base ops trA h o r k) → stableL base ops trA h l t
  | [], [], _, _ => trivial
  | o :: l, r :: t, hl, hs => ⟨hs 0 o r rfl rfl, stableL_mk l t (by simpa using hl) fun j o' r' h1 h2 => hs (j + 1) o' r' (by simpa using h1) (by simpa using h2)⟩
  | [], _ :: _, hl, _ => by simp at hl
  | _ :: _, [], hl, _ => by simp at hl

theorem cnt_reach {l : List AOper} {k : Nat} (hk : k ≤ cnt l l.length) : ∃ p, p ≤ l.length ∧ cnt l p = k := by
  have key : ∀ q, q ≤ l.length → k ≤ cnt l q → ∃ p, p ≤ q ∧ cnt l p = k := by
    intro q
    induction q with
    | zero => intro _ h; rw [cnt_zero] at h; exact ⟨0, Nat.le_refl _, by rw [cnt_zero]; omega⟩
    | succ q ih =>
      intro hq h
      by_cases e : cnt l (q + 1) = k
      · exact ⟨q + 1, Nat.le_refl _, e⟩
      · have : cnt l (q + 1) ≤ cnt l q + 1 := by
          rw [cnt_succ (List.getElem?_eq_getElem (show q < l.length by omega))]; split <;> omega
        obtain ⟨p, h1, h2⟩ := ih (by omega) (by omega)
        exact ⟨p, by omega, h2⟩
  exact (key _ (Nat.le_refl _) hk)

theorem Reg0.stable {P : Program} {l : List AOper} {base : Nat} {tm0 : Array Value} {H0 : H} {tr : List (Rec H)} {tmN : Array Value} {hN : H} (R : Reg0 P l base tm0 H0 tr tmN hN) (hc : calm l = true) (hd : ∀ p ∈ dynOf l, dynAt base l tr hN p) : stableL base l tr hN l tr := by
  refine stableL_mk l tr R.trlen fun j o r ho hr k hk1 hk2 => ?_
  unfold stableAt
  split
  · trivial
  · rename_i hw
    simp only [Bool.or_eq_true, Bool.not_eq_true', not_or, Bool.not_eq_true, Bool.not_eq_false] at hw
    obtain ⟨hf, hw⟩ := hw
    obtain ⟨hj, _⟩ := List.getElem?_eq_some_iff.1 ho
    obtain ⟨o', r', h1, h2, hri, hrh, _, hst, _⟩ := R.at_ hj
    rw [ho] at h1; cases h1
    rw [hr] at h2; cases h2
    have hef : o.op.eff = false := by rw [← R.eff j o ho]; exact hf
    have hex : aop (base + j) o.op r.tm r.h = some (r.v, hAt tr hN (j + 1)) := by
      rcases hst with ⟨hg, _, _⟩ | ⟨_, ⟨_, he⟩ | ⟨f, args, e, _⟩⟩
      · simp [wanted, hg] at hw
      · exact he
      · rw [e] at hef; simp [AOp.eff] at hef
    rw [hri]
    have hcal := List.all_eq_true.1 hc o (List.mem_of_getElem? ho)
    simp only [Bool.and_eq_true, decide_eq_true_eq] at hcal
    have own : Inside r.h (R.U (cnt l j)) := fun b B hb => by
      rw [R.U_other (Nat.le_of_lt hj) b fun j' o' r' h3 h4 _ _ _ e => by
        obtain ⟨h5, _⟩ := List.getElem?_eq_some_iff.1 h4
        rw [hrh, e, R.none_yet h3 h5] at hb; cases hb]
      rw [← hrh]; exact hb
    have made : k ≤ cnt l j → o.op.makes = true → get (early base k l tr (heapNo l tr hN k)) (base + j) = get (hAt tr hN (j + 1)) (base + j) := fun hkj hm => by
      rw [R.made_at ho hr hf hw]
      have hi := R.i_of hr
      have := early_made base l tr (heapNo l tr hN k) k 0 R.trlen (fun j r hj => R.i_of hj) j o r ho hr hm hw hkj
      rw [show base + r.i = base + j by omega] at this
      exact this
    have byMake : k ≤ cnt l j → o.op.makes = true → (o.op.looks = true → Inside r.h (early base k l tr (heapNo l tr hN k))) → ∃ h', aop (base + j) o.op r.tm (early base k l tr (heapNo l tr hN k)) = some (r.v, h') ∧ (o.op.makes = true → get h' (base + j) = get (early base k l tr (heapNo l tr hN k)) (base + j)) := fun hkj hm hl => by
      obtain ⟨B, e1, e2⟩ := aop_mono_makes hl hm hex
      refine ⟨_, e2, fun _ => ?_⟩
      rw [made hkj hm, e1, Heap.get_put, if_pos rfl, Heap.get_put, if_pos rfl]
    by_cases hko : k = cnt l j
    · subst hko
      cases hm : o.op.makes with
      | true => obtain ⟨h', q1, q2⟩ := byMake (Nat.le_refl _) hm fun _ => own; exact ⟨h', q1, fun _ => q2 hm⟩
      | false => exact ⟨_, aop_mono own hef hm hex, fun h => by cases h⟩
    · by_cases hdy : (o.op.looks || (o.op.makes && decide (cnt l j < k))) = true
      · have hmem : (j, k) ∈ dynOf l := by
          unfold dynOf
          refine List.mem_flatMap.2 ⟨j, List.mem_range.2 hj, ?_⟩
          rw [ho]
          simp only [hf, Bool.false_eq_true, if_false]
          refine List.mem_filterMap.2 ⟨k - o.lo, List.mem_range.2 (by omega), ?_⟩
          have e : o.lo + (k - o.lo) = k := by omega
          simp only [e]
          rw [if_neg hko, if_pos hdy]
        have := hd _ hmem
        unfold dynAt at this
        simp only [ho, hr] at this
        obtain ⟨hm, hx⟩ := this hw
        obtain ⟨p, hp1, hp2⟩ := cnt_reach (Nat.le_trans hk2 hcal.2)
        obtain ⟨e, _, e2, e3, e4, _⟩ := R.upto p hp1
        rw [hp2] at e3 e4
        have ins : Inside (heapNo l tr hN k) (early base k l tr (heapNo l tr hN k)) := fun b B hb => by
          have := R.U_other e2 b fun j' o' r' h3 h4 _ _ _ q => by
            obtain ⟨h5, _⟩ := List.getElem?_eq_some_iff.1 h4
            rw [e4, q, R.none_yet h3 h5] at hb; cases hb
          rw [e3] at this
          show get (R.U k) b = _
          rw [this, ← e4]; exact hb
        exact ⟨_, aop_mono ins hef hm hx, fun _ => rfl⟩
      · simp only [Bool.or_eq_true, Bool.and_eq_true, decide_eq_true_eq, not_or, not_and, Bool.not_eq_true] at hdy
        cases hm : o.op.makes with
        | true => obtain ⟨h', q1, q2⟩ := byMake (by have := hdy.2 hm; omega) hm fun h => (by rw [hdy.1] at h; cases h); exact ⟨h', q1, fun _ => q2 hm⟩
        | false => exact ⟨_, aop_blind hdy.1 hef hm hex, fun h => by cases h⟩

/-! ### blocks that are not yet there -/

def Fresh (h : H) : Prop := ∀ b, next h ≤ b → get h b = none

theorem Fresh.lt {h : H} (hf : Fresh h) {b : Nat} {B : Blk} (hg : get h b = some B) : b < next h := by
  by_cases q : b < next h
  · exact q
  · rw [hf b (by omega)] at hg; cases hg

theorem Fresh.skip {h : H} (hf : Fresh h) (n : Nat) : Fresh (Heap.skip h n) := fun b hb => by
  rw [Heap.next_skip] at hb; rw [Heap.get_skip]; exact hf b (by omega)

theorem Fresh.aop {id : Nat} {op : AOp} {tm : Array Value} {h h1 : H} {v : Value} (hf : Fresh h) (hid : id < next h) (he : aop id op tm h = some (v, h1)) : Fresh h1 ∧ next h1 = next h := by
  obtain ⟨h2, h3⟩ := aop_keeps he
  exact ⟨fun b hb => h3 b (by omega) (hf b (by omega)), h2⟩

def Grows : Cfg H → Out H → Prop
  | .code _ _ h, .code _ _ h' => Fresh h → Fresh h' ∧ next h ≤ next h'
  | .ops base i l _ h, .ops _ _ h' => Fresh h → base + i + l.length ≤ next h → Fresh h' ∧ next h ≤ next h'
  | .call _ _ h, .call _ h' => Fresh h → Fresh h' ∧ next h ≤ next h'
  | _, _ => True

theorem Ex.grows {tab : FuncId → Option AFunc} {x : Cfg H} {y : Out H} (he : Ex tab x y) : Grows x y := by
  induction he with
  | skip tm h => exact fun hf => ⟨hf, Nat.le_refl _⟩
  | region l d tm h tr tm' h' _ _ ih =>
    intro hf
    obtain ⟨h1, h2⟩ := ih (hf.skip _) (by rw [Heap.next_skip]; omega)
    rw [Heap.next_skip] at h2
    exact ⟨h1, by omega⟩
  | seq a b tm h tm1 h1 e tm' h' _ _ ih1 ih2 =>
    intro hf
    obtain ⟨q1, q2⟩ := ih1 hf
    obtain ⟨q3, q4⟩ := ih2 q1
    exact ⟨q3, by omega⟩
  | seqX a b tm h e tm' h' _ _ ih => exact ih
  | cond c x y tm h t e tm' h' _ _ ih => exact ih
  | block id c tm h e tm' h' _ ih => exact ih
  | loop c tm h tm1 h1 e tm' h' _ _ ih1 ih2 =>
    intro hf
    obtain ⟨q1, q2⟩ := ih1 hf
    obtain ⟨q3, q4⟩ := ih2 q1
    exact ⟨q3, by omega⟩
  | loopX c tm h e tm' h' _ _ ih => exact ih
  | exit id tm h => exact fun hf => ⟨hf, Nat.le_refl _⟩
  | ret tm h => exact fun hf => ⟨hf, Nat.le_refl _⟩
  | forget c tm tm0 h e tm' h' _ _ _ ih => exact ih
  | onil base i tm h => exact fun hf _ => ⟨hf, Nat.le_refl _⟩
  | oskip base i o l tm h tr tm' h' _ _ ih => exact fun hf hl => ih hf (by simp at hl; omega)
  | odo base i o l tm h v h1 tr tm' h' _ _ he _ ih =>
    intro hf hl
    simp at hl
    obtain ⟨q1, q2⟩ := hf.aop (by omega) he
    obtain ⟨q3, q4⟩ := ih q1 (by omega)
    exact ⟨q3, by omega⟩
  | ocall base i o l tm h f args v h1 tr tm' h' _ _ _ _ ih1 ih2 =>
    intro hf hl
    simp at hl
    obtain ⟨q1, q2⟩ := ih1 hf
    obtain ⟨q3, q4⟩ := ih2 q1 (by omega)
    exact ⟨q3, by omega⟩
  | call f args h fn e tm' h' vs _ _ _ _ ih => exact ih

end
end Ab
