/-
  THE ABSTRACT MACHINE: more operations that only look: arithmetic, comparisons, structs built, maps looked into, slices cut.
-/
import Derived.Test.YtleoicjpcdmfkaaAb7
set_option linter.unusedSimpArgs false
set_option linter.unusedVariables false
namespace Ab
open Go
open Heap (get put next skip)

section
variable {H : Type} [Heap H] {P : Program} {φ : Emb} {h : H} {w : World} {tm : Array Value} {a : Act} {o : Oper} {id : Nat} {v : Value} {h1 : H}

theorem binV_run {op : BinOp} {t : TypeId} {x y u : Value} (hu : binV op x y = some u) : (binOp op t x y).run P w = .ok u w ∧ ∃ k n, (x = .int k n) ∧ ((∃ k' n', u = .int k' n') ∨ ∃ b, u = .bool b) := by
  cases x <;> cases y <;> simp [binV] at hu
  rename_i k a k' b
  cases op <;> simp at hu
  case shl => obtain ⟨h0, rfl⟩ := hu; exact ⟨by simp [binOp, Op.shift, Int.not_lt.2 h0], k, a, rfl, .inl ⟨_, _, rfl⟩⟩
  case shr => obtain ⟨h0, rfl⟩ := hu; exact ⟨by simp [binOp, Op.shift, Int.not_lt.2 h0], k, a, rfl, .inl ⟨_, _, rfl⟩⟩
  case quo => obtain ⟨rfl, h0, rfl⟩ := hu; exact ⟨by simp [binOp, Op.intDiv, h0], k, a, rfl, .inl ⟨_, _, rfl⟩⟩
  case rem => obtain ⟨rfl, h0, rfl⟩ := hu; exact ⟨by simp [binOp, Op.intDiv, h0], k, a, rfl, .inl ⟨_, _, rfl⟩⟩
  case add => obtain ⟨rfl, rfl⟩ := hu; exact ⟨by simp [binOp, Op.intArith], k, a, rfl, .inl ⟨_, _, rfl⟩⟩
  case sub => obtain ⟨rfl, rfl⟩ := hu; exact ⟨by simp [binOp, Op.intArith], k, a, rfl, .inl ⟨_, _, rfl⟩⟩
  case mul => obtain ⟨rfl, rfl⟩ := hu; exact ⟨by simp [binOp, Op.intArith], k, a, rfl, .inl ⟨_, _, rfl⟩⟩
  case and => obtain ⟨rfl, rfl⟩ := hu; exact ⟨by simp [binOp, Op.intBits], k, a, rfl, .inl ⟨_, _, rfl⟩⟩
  case or => obtain ⟨rfl, rfl⟩ := hu; exact ⟨by simp [binOp, Op.intBits], k, a, rfl, .inl ⟨_, _, rfl⟩⟩
  case xor => obtain ⟨rfl, rfl⟩ := hu; exact ⟨by simp [binOp, Op.intBits], k, a, rfl, .inl ⟨_, _, rfl⟩⟩
  case andNot => obtain ⟨rfl, rfl⟩ := hu; exact ⟨by simp [binOp, Op.intBits], k, a, rfl, .inl ⟨_, _, rfl⟩⟩
  all_goals (obtain ⟨rfl, rfl⟩ := hu; exact ⟨by simp [binOp, Op.intCmp], k, a, rfl, .inr ⟨_, rfl⟩⟩)

theorem binV_rel {op : BinOp} {x y x' y' u : Value} (hu : binV op x y = some u) (hx : VR φ x x') (hy : VR φ y y') : x' = x ∧ y' = y := by
  cases x <;> cases y <;> simp [binV] at hu
  exact ⟨hx.int_inv, hy.int_inv⟩

theorem s_bin (ht : AR φ tm a.tmps) {t t' : TypeId} {op : BinOp} {x y x' y' : Operand} (hop : o.op = .binOp op t x y t') (hx : okO x = some x') (hy : okO y = some y') (he : aop id (.bin op x' y') tm h = some (v, h1)) : h1 = h ∧ Looks P φ w a o v := by
  have e1 := ev_rel ht hx
  have e2 := ev_rel ht hy
  simp only [aop, Option.map_eq_some_iff, Prod.mk.injEq] at he
  obtain ⟨u, hu, rfl, rfl⟩ := he
  obtain ⟨f1, f2⟩ := binV_rel hu e1 e2
  obtain ⟨h2, k, n, h3, h4⟩ := binV_run (P := P) (w := w) (t := t) hu
  refine ⟨rfl, u, ?_, ?_⟩
  · have hg : (eqGuard op t x y (ev tm x') (ev tm y')).run P w = .ok () w := by
      rw [h3]; cases op <;> simp [eqGuard]
    simp [execOp, hop, f1, f2, h2, hg]
  · rcases h4 with ⟨_, _, rfl⟩ | ⟨_, rfl⟩
    · exact .int _ _
    · exact .bool _

/-! equality -/

theorem leaf_guard {op : BinOp} {t : TypeId} {x y : Operand} {u v : Value} (hu : ∀ cs, u ≠ .agg cs) (hv : u ≠ .nilIface) : (eqGuard op t x y u v).run P w = .ok () w := by
  cases op <;> simp [eqGuard]
  all_goals
    cases u <;> simp at hv ⊢
    exact absurd rfl (hu _)

theorem beq_bytes (a b : ByteArray) : (a == b) = (a.toList == b.toList) := beq_toListBytes a b

theorem sim_pointers (hs : Sim φ h w) {x y x' y' : Addr} {r : Bool} (hr : samePtr h x y = some r) (hx : VR φ (.pointer (some x)) (.pointer (some x'))) (hy : VR φ (.pointer (some y)) (.pointer (some y'))) : (sameAddr x' y').run P w = .ok r w := by
  obtain ⟨c, d, g, hb, hsp, e1⟩ := hx.ptr_inv
  obtain ⟨c', d', g', hb', hsp', e2⟩ := hy.ptr_inv
  cases e1
  cases e2
  simp only [samePtr, hsp, hsp'] at hr
  split at hr
  · rename_i hbl
    rw [hbl, hb'] at hb
    cases hb
    simp only [Option.some.injEq] at hr
    subst hr
    have : ((⟨c, x.off + d, none⟩ : Addr) == ⟨c, y.off + d, none⟩) = (x.off == y.off) := by
      rw [Bool.eq_iff_iff]; simp
    simp only [sameAddr, beq_self_eq_true, if_true, Sem.run_pure, this]
  · rename_i hbl
    split at hr
    · rename_i cs md cs' md' hg1 hg2
      split at hr
      · rename_i hc
        simp only [Option.some.injEq] at hr
        subst hr
        obtain ⟨ccs, e, fz, f1, f2, f3, f4, f5⟩ := hs.blk _ _ _ _ _ hb hg1
        obtain ⟨ccs', e', fz', q1, q2, q3, q4, q5⟩ := hs.blk _ _ _ _ _ hb' hg2
        have hne : c ≠ c' := by
          intro ec
          subst ec
          rcases hs.sep _ _ _ _ _ _ _ _ _ hb hb' hg1 hg2 (by simp [wr, hc.1]) with e0 | e0
          · exact hbl e0
          · exact hc.2.2 e0
        have hn : (c == c') = false := by simpa using hne
        have z1 := f4 hc.1
        have z2 := q4 hc.2.1
        subst z1; subst z2
        simp [sameAddr, hn, World.frozen?, f1, q1, noView, viewAt, World.shape?, mayBeOne, stringish]
      · cases hr
    · cases hr

theorem eqH_run (hs : Sim φ h w) {k : EqK} {op : BinOp} {t : TypeId} {x y : Operand} {u u' v v' : Value} {r : Bool} (hr : eqH h k u v = some r) (hu : VR φ u u') (hv : VR φ v v') (hop : op = .eql ∨ op = .neq)
    (hk : (k = .bool ∧ P.underlying t = some .bool) ∨ (k = .str) ∨ (k = .ptr ∧ ∃ e n, P.underlying t = some (.pointer e) ∧ sizeT P e = some (n + 1)) ∨
      (k = .nilSlice ∧ ∃ e, P.underlying t = some (.slice e)) ∨ (k = .nilMap ∧ ∃ e f, P.underlying t = some (.map e f)) ∨ (k = .nilFunc ∧ ∃ e f g, P.underlying t = some (.func e f g)) ∨
      (∃ ks, k = .agg ks ∧ ((∃ fs, P.underlying t = some (.struct fs)) ∨ ∃ n e, P.underlying t = some (.array n e)) ∧ lks P 50 t = some ks ∧ P.eqGuardType P.depth t = false)) :
    (do eqGuard op t x y u' v'; binOp op t u' v' : Sem Value).run P w = .ok (.bool (if (op == .neq) = true then !r else r)) w := by
  have fin : ∀ (b : Bool), (Op.equal t u' v').run P w = .ok b w → (∀ k n, u' ≠ .int k n) → (∀ s, u' ≠ .string s) → (∀ k n, u' ≠ .float k n) → (∀ k n m, u' ≠ .complex k n m) → (eqGuard op t x y u' v').run P w = .ok () w →
      (do eqGuard op t x y u' v'; binOp op t u' v' : Sem Value).run P w = .ok (.bool (if (op == .neq) = true then !b else b)) w := by
    intro b h1 h2 h3 h4 h5 h6
    rcases hop with rfl | rfl
    · have e : binOp .eql t u' v' = (do pure (.bool (← Op.equal t u' v'))) := by
        cases u' <;> first
          | exact absurd rfl (h2 _ _)
          | exact absurd rfl (h3 _)
          | exact absurd rfl (h4 _ _)
          | exact absurd rfl (h5 _ _ _)
          | (cases v' <;> rfl)
      simp [h6, e, h1]
    · have e : binOp .neq t u' v' = (do pure (.bool (!(← Op.equal t u' v')))) := by
        cases u' <;> first
          | exact absurd rfl (h2 _ _)
          | exact absurd rfl (h3 _)
          | exact absurd rfl (h4 _ _)
          | exact absurd rfl (h5 _ _ _)
          | (cases v' <;> rfl)
      simp [h6, e, h1]
  have lvl : ∀ (b : Bool), (∀ n, (Op.equalIn (n + 1) t u' v').run P w = .ok b w) → (Op.equal t u' v').run P w = .ok b w := fun b hb => hb 9999
  rcases hk with ⟨rfl, ht⟩ | rfl | ⟨rfl, e, n, ht, hz⟩ | ⟨rfl, e, ht⟩ | ⟨rfl, e, f, ht⟩ | ⟨rfl, e, f, g, ht⟩ | ⟨ks, rfl, hd, hks, hgd⟩
  · cases u <;> cases v <;> simp [eqH, eqV] at hr
    obtain rfl := hu.bool_inv
    obtain rfl := hv.bool_inv
    subst hr
    exact fin _ (lvl _ fun n => by simp [Op.equalIn, run_underlying ht]) (by simp) (by simp) (by simp) (by simp) (leaf_guard (by simp) (by simp))
  · cases u <;> cases v <;> simp [eqH, eqV] at hr
    obtain rfl := hu.string_inv
    obtain rfl := hv.string_inv
    subst hr
    rcases hop with rfl | rfl <;> simp [eqGuard, binOp, Op.stringOp, beq_bytes]
  · -- pointers
    have hg : ∀ p q : Option Addr, (eqGuard op t x y (.pointer p) (.pointer q)).run P w = .ok () w := fun p q => leaf_guard (by simp) (by simp)
    cases u <;> cases v <;> simp [eqH, eqV] at hr
    rename_i p q
    cases p with
    | none =>
      obtain rfl := hu.ptrNil_inv
      cases q with
      | none =>
        simp [eqH, eqV] at hr
        subst hr
        obtain rfl := hv.ptrNil_inv
        exact fin _ (lvl _ fun n => by simp [Op.equalIn, run_underlying ht]) (by simp) (by simp) (by simp) (by simp) (hg _ _)
      | some q =>
        simp [eqH, eqV] at hr
        subst hr
        obtain ⟨c, d, g, _, _, e2⟩ := hv.ptr_inv
        subst e2
        exact fin _ (lvl _ fun n => by simp [Op.equalIn, run_underlying ht]) (by simp) (by simp) (by simp) (by simp) (hg _ _)
    | some p =>
      obtain ⟨c, d, g, hb, hsp, e1⟩ := hu.ptr_inv
      subst e1
      cases q with
      | none =>
        simp [eqH, eqV] at hr
        subst hr
        obtain rfl := hv.ptrNil_inv
        exact fin _ (lvl _ fun n => by simp [Op.equalIn, run_underlying ht]) (by simp) (by simp) (by simp) (by simp) (hg _ _)
      | some q =>
        simp only [eqH] at hr
        obtain ⟨c', d', g', hb', hsp', e2⟩ := hv.ptr_inv
        subst e2
        have := sim_pointers (P := P) hs hr hu hv
        exact fin _ (lvl _ fun m => by simp [Op.equalIn, run_underlying ht, run_sizeT hz, this]) (by simp) (by simp) (by simp) (by simp) (hg _ _)
  · cases u <;> cases v <;> simp [eqH, eqV] at hr
    rename_i p n1 k1 q n2 k2
    cases p with
    | none =>
      obtain ⟨rfl, rfl, e1⟩ := hu.sliceNil_inv
      subst e1
      have : ∃ q' n k, v' = .slice q' n k ∧ q'.isNone = q.isNone := by
        cases q with
        | none => obtain ⟨_, _, e2⟩ := hv.sliceNil_inv; exact ⟨_, _, _, e2, rfl⟩
        | some q => rcases hv.slice_inv with ⟨_, _, _, _, e2⟩ | ⟨_, _, _, _, _, _, _, _, _, _, e2⟩ | ⟨_, _, _, _, _, _, _, _, _, _, _, e2⟩ <;> exact ⟨_, _, _, e2, rfl⟩
      obtain ⟨q', n, k, rfl, hq⟩ := this
      simp [eqV] at hr
      rw [← hr, ← hq]
      exact fin _ (lvl _ fun n => by simp [Op.equalIn, run_underlying ht]) (by simp) (by simp) (by simp) (by simp) (leaf_guard (by simp) (by simp))
    | some p =>
      cases q with
      | some q => simp [eqV] at hr
      | none =>
        obtain ⟨rfl, rfl, e1⟩ := hv.sliceNil_inv
        subst e1
        simp [eqV] at hr
        subst hr
        have : ∃ p' n k, u' = .slice (some p') n k := by
          rcases hu.slice_inv with ⟨_, _, _, _, e2⟩ | ⟨_, _, _, _, _, _, _, _, _, _, e2⟩ | ⟨_, _, _, _, _, _, _, _, _, _, _, e2⟩ <;> exact ⟨_, _, _, e2⟩
        obtain ⟨p', n, k, rfl⟩ := this
        exact fin _ (lvl _ fun n => by simp [Op.equalIn, run_underlying ht]) (by simp) (by simp) (by simp) (by simp) (leaf_guard (by simp) (by simp))
  · cases u <;> cases v <;> simp [eqH, eqV] at hr
    rename_i p q
    cases p with
    | none =>
      obtain rfl := hu.mapNil_inv
      simp [eqV] at hr
      have : ∃ q', v' = .map q' ∧ q'.isNone = q.isNone := by
        cases q with
        | none => exact ⟨_, hv.mapNil_inv, rfl⟩
        | some q => obtain ⟨_, _, e2⟩ := hv.map_inv; exact ⟨_, e2, rfl⟩
      obtain ⟨q', rfl, hq⟩ := this
      rw [← hr, ← hq]
      exact fin _ (lvl _ fun n => by simp [Op.equalIn, run_underlying ht]) (by simp) (by simp) (by simp) (by simp) (leaf_guard (by simp) (by simp))
    | some p =>
      cases q with
      | some q => simp [eqV] at hr
      | none =>
        simp [eqV] at hr
        subst hr
        obtain ⟨c, _, e2⟩ := hu.map_inv
        subst e2
        obtain rfl := hv.mapNil_inv
        exact fin _ (lvl _ fun n => by simp [Op.equalIn, run_underlying ht]) (by simp) (by simp) (by simp) (by simp) (leaf_guard (by simp) (by simp))
  · cases u <;> cases v <;> simp [eqH, eqV] at hr
    · subst hr
      cases hu; cases hv
      exact fin _ (lvl _ fun n => by simp [Op.equalIn, run_underlying ht]) (by simp) (by simp) (by simp) (by simp) (leaf_guard (by simp) (by simp))
    · subst hr
      cases hu; cases hv
      exact fin _ (lvl _ fun n => by simp [Op.equalIn, run_underlying ht]) (by simp) (by simp) (by simp) (by simp) (leaf_guard (by simp) (by simp))
    · subst hr
      cases hu; cases hv
      exact fin _ (lvl _ fun n => by simp [Op.equalIn, run_underlying ht]) (by simp) (by simp) (by simp) (by simp) (leaf_guard (by simp) (by simp))
  · cases u <;> cases v <;> simp [eqH, eqV] at hr
    rename_i xs ys
    obtain ⟨hsh, hall⟩ := hr
    have e1 : u' = .agg xs := agg_rel hu fun z hz z' hr => let ⟨l, e⟩ := shapeL_mem hsh z hz; LK.is_rel e hr
    have e2 : v' = .agg ys := agg_rel hv fun z hz z' hr => let ⟨l, e⟩ := shapeL_mem (allEq_shape hsh hall) z hz; LK.is_rel e hr
    subst e1; subst e2
    have mk : ∀ zs : Array Value, mkV P t zs.toList = .agg zs := fun zs => by rcases hd with ⟨_, hd⟩ | ⟨_, _, hd⟩ <;> simp [mkV, hd]
    have := eq_lks (P := P) 50 t ks hks 9950 w xs.toList ys.toList r hsh hall
    rw [mk, mk] at this
    exact fin _ this (by simp) (by simp) (by simp) (by simp) (run_eqGuard_agg w op t x y xs ys hgd)

end
end Ab
