/-
  THE ABSTRACT MACHINE: what writes: stores, maps' entries, append, copy.
-/
import Derived.Test.YtleoicjpcdmfkaaAb10
set_option linter.unusedSimpArgs false
set_option linter.unusedVariables false
namespace Ab
open Go
open Heap (get put next skip)

theorem setAll_get (xs : List Value) : ∀ (cs : Array Value) (off i : Nat), (setAll cs off xs)[i]? = if off ≤ i ∧ i < off + xs.length ∧ i < cs.size then xs[i - off]? else cs[i]? := by
  induction xs with
  | nil => intro cs off i; simp [setAll]; intro h1 h2; omega
  | cons x xs ih =>
    intro cs off i
    rw [setAll, ih]
    simp only [Array.size_setIfInBounds, List.length_cons]
    by_cases h1 : off + 1 ≤ i ∧ i < off + 1 + xs.length ∧ i < cs.size
    · rw [if_pos h1, if_pos (by omega), show i - off = (i - (off + 1)) + 1 by omega, List.getElem?_cons_succ]
    · rw [if_neg h1]
      by_cases h2 : i = off
      · subst h2
        by_cases h3 : i < cs.size
        · rw [if_pos (by omega)]
          simp [Array.getElem?_setIfInBounds, h3]
        · rw [if_neg (by omega)]
          rw [Array.getElem?_setIfInBounds]
          simp [h3]
      · rw [if_neg (by omega)]
        rw [Array.getElem?_setIfInBounds, if_neg (fun e => h2 e.symm)]

section
variable {H : Type} [Heap H] {P : Program} {φ : Emb} {h : H} {w : World} {tm : Array Value} {a : Act} {o : Oper} {id : Nat} {v : Value} {h1 : H}

/-- A world that differs in one object alone. -/
structure Turned (w w' : World) (c : Nat) (O : Obj) : Prop where
  at_ : w'.heap[c]? = some O
  size : w'.heap.size = w.heap.size
  other : ∀ k, k ≠ c → w'.heap[k]? = w.heap[k]?
  os : w'.os = w.os
  tape : w'.tape = w.tape
  output : w'.output = w.output

theorem run_storeCells {c of : Nat} {e : TypeId} : ∀ (vs : List Value) (i : Nat) (w : World) (cur : Array Value), w.heap[c]? = some (.cells cur e (0, 0)) → of + i + vs.length ≤ cur.size → (∀ v ∈ vs, v.oneCell' = true) →
    ∃ w', (storeCells ⟨c, of, none⟩ vs i).run P w = .ok () w' ∧ Turned w w' c (.cells (setAll cur (of + i) vs) e (0, 0))
  | [], i, w, cur, hc, _, _ => ⟨w, rfl, hc, rfl, fun _ _ => rfl, rfl, rfl, rfl⟩
  | v :: vs, i, w, cur, hc, hl, ho => by
    simp only [List.length_cons] at hl
    have hcell : w.cell? ⟨c, of + i, none⟩ = some cur[of + i] := by simp [World.cell?, hc, Array.getElem?_eq_getElem (show of + i < cur.size by omega)]
    have hfro : w.frozen? ⟨c, of + i, none⟩ = false := by simp [World.frozen?, hc]
    have hst : (store ((⟨c, of, none⟩ : Addr).add i) v).run P w = .ok () (w.setCell ⟨c, of + i, none⟩ v) := by
      rw [add_at, run_store P w _ v _ (ho v (by simp)), hcell]
      simp [hfro]
    have hat : (w.setCell ⟨c, of + i, none⟩ v).heap[c]? = some (.cells (cur.setIfInBounds (of + i) v) e (0, 0)) := by
      simp [World.setCell, Array.getElem?_modify, hc]
    obtain ⟨w', h1, h2⟩ := run_storeCells (of := of) vs (i + 1) _ _ hat (by simp; omega) (fun x hx => ho x (by simp [hx]))
    refine ⟨w', by simp only [storeCells, Sem.run_bind, hst, Result.andThen_ok, h1], ?_, ?_, fun k hk => ?_, h2.os, h2.tape, h2.output⟩
    · rw [h2.at_, show of + (i + 1) = of + i + 1 by omega]; rfl
    · rw [h2.size]; simp [World.setCell]
    · rw [h2.other k hk]
      simp only [World.setCell, Array.getElem?_modify]
      rw [if_neg (fun e => hk e.symm)]

theorem BR.store {cs : Array Value} {md : Md} {d : Nat} {g : Option (Nat × Nat)} {ccs : Array Value} {e : TypeId} {fz : Nat × Nat} (hb : BR φ (.cells cs md) d g (some (.cells ccs e fz))) {of : Nat} {xs ys : Array Value} (hr : AR φ xs ys) (hl : of + xs.size ≤ cs.size) :
    BR φ (.cells (setAll cs of xs.toList) md) d g (some (.cells (setAll ccs (of + d) ys.toList) e fz)) := by
  obtain ⟨ccs', e', fz', h1, h2, h3, h4, h5⟩ := hb
  cases h1
  refine ⟨_, _, _, rfl, by rw [setAll_size, setAll_size]; exact h2, fun i hi => ?_, h4, ?_⟩
  · rw [setAll_size] at hi
    have e1 := hr.1
    have g1 : (setAll cs of xs.toList)[i]? = some (setAll cs of xs.toList)[i] := Array.getElem?_eq_getElem (by rw [setAll_size]; exact hi)
    rw [setAll_get] at g1
    rw [setAll_get]
    simp only [Array.length_toList] at g1 ⊢
    by_cases q : of ≤ i ∧ i < of + xs.size ∧ i < cs.size
    · rw [if_pos q] at g1
      rw [if_pos (by omega)]
      obtain ⟨v', k1, k2⟩ := hr.at? (i := i - of) (v := (setAll cs of xs.toList)[i]) (by simpa using g1)
      exact ⟨v', by rw [show d + i - (of + d) = i - of by omega]; simpa using k1, k2⟩
    · rw [if_neg q] at g1
      rw [if_neg (by omega)]
      obtain ⟨v', k1, k2⟩ := h3 i hi
      refine ⟨v', k1, ?_⟩
      rw [Array.getElem?_eq_getElem hi] at g1
      simp only [Option.some.injEq] at g1
      rw [← g1]; exact k2
  · cases md <;> simp only at h5 ⊢
    · exact h5
    · exact h5
    · obtain ⟨E, q1, q2⟩ := h5
      exact ⟨E, q1, by rw [setAll_size]; exact q2⟩

/-- What an operation that writes comes to. -/
def Writes (P : Program) (φ : Emb) (h : H) (w : World) (a : Act) (o : Oper) (id : Nat) (v : Value) (h1 : H) : Prop :=
  ∃ φ' w' nx v', (execOp a.eval o).run P w = .ok nx w' ∧ (nx = .value v' ∨ (nx = .skip ∧ v' = Go.undef)) ∧ St φ h w φ' h1 w' ∧ VR φ' v v' ∧ (∀ b, φ' b ≠ none → φ b ≠ none ∨ b = id)

theorem all_one {xs ys : Array Value} (hr : AR φ xs ys) (ho : xs.all one = true) : ∀ v ∈ ys.toList, v.oneCell' = true := by
  intro v hv
  obtain ⟨i, hi, rfl⟩ := List.getElem_of_mem hv
  have hi' : i < ys.size := by simpa using hi
  have hx : i < xs.size := by rw [hr.1]; exact hi'
  have := hr.2 i hx hi'
  have h1 : one xs[i] = true := (Array.all_eq_true.1 ho) i hx
  simpa using (one_rel this h1).1

theorem store_st (hs : Sim φ h w) {b of c d : Nat} {g : Option (Nat × Nat)} (hb : φ b = some (c, d, g)) {xs ys : Array Value} (hr : AR φ xs ys) (he : storeCs h ⟨b, of, none⟩ xs = some h1) :
    ∃ w', (storeCells ⟨c, of + d, none⟩ ys.toList).run P w = .ok () w' ∧ St φ h w φ h1 w' := by
  unfold storeCs at he
  simp only at he
  split at he
  · rename_i cs md _ hg
    split at he
    · rename_i hc
      obtain ⟨c1, c2, c3⟩ := hc
      simp only [Option.some.injEq] at he
      subst he
      have hbr := hs.blk _ _ _ _ _ hb hg
      obtain ⟨ccs, ty, fz, f1, f2, f3, f4, f5⟩ := hbr
      have hf := f4 c1
      subst hf
      have hbr : BR φ (.cells cs md) d g (some (.cells ccs ty (0, 0))) := ⟨ccs, ty, _, rfl, f2, f3, f4, f5⟩
      have hsz := hr.1
      obtain ⟨w', r1, r2⟩ := run_storeCells (P := P) (of := of + d) ys.toList 0 w ccs f1 (by simp; omega) (all_one hr c3)
      refine ⟨w', r1, St.write hs hb hg (by simp [wr, c1]) f1 (O' := .cells (setAll ccs (of + d) ys.toList) ty (0, 0)) ⟨by rw [setAll_size], rfl⟩ (by simp [wr, c1]) (by simp [bsize, setAll_size]) (hbr.store hr c2) w' r2.at_ r2.size r2.other r2.os r2.tape r2.output⟩
    · cases he
  · cases he

theorem s_store (hs : Sim φ h w) (ht : AR φ tm a.tmps) {t : TypeId} {n : Nat} {x y x' y' : Operand} (hop : o.op = .store t x y) (hn : sizeT P t = some n) (hx : okO x = some x') (hy : okO y = some y') (he : aop id (.store n x' y') tm h = some (v, h1)) : Writes P φ h w a o id v h1 := by
  have e1 := ev_rel ht hx
  have e2 := ev_rel ht hy
  simp only [aop] at he
  split at he
  · rename_i ad hv
    rw [hv] at e1
    obtain ⟨c, d, g, hb, hsp, hev⟩ := e1.ptr_inv
    simp only [Option.bind_eq_some_iff, Option.map_eq_some_iff, Prod.mk.injEq] at he
    obtain ⟨xs, hc, h2, h3, rfl, rfl⟩ := he
    obtain ⟨hr, hsz⟩ := cells_rel e2 hc
    obtain ⟨bl, of, sp⟩ := ad
    simp only at hsp hb hev
    subst hsp
    obtain ⟨w', r1, r2⟩ := store_st (P := P) hs hb hr h3
    have hcs : (a.eval y).cells.size = n := by rw [← hr.1]; exact hsz
    refine ⟨φ, w', .skip, Go.undef, ?_, .inr ⟨rfl, rfl⟩, r2, VR.undef _, fun b hb => .inl hb⟩
    simp [execOp, hop, hev, Instr.storeAt, Instr.sureAddr, storeVar, run_sizeT hn, hcs, r1]
  · cases he

/-! maps -/

theorem map_write (hs : Sim φ h w) {r c : Nat} (hb : φ r = some (c, 0, none)) {es es' : List (Value × Value)} (hg : get h r = some (.map es)) {ents ents' : Array MapEntry} {clk clk' : Nat} (hc : w.heap[c]? = some (.map ents clk))
    (hl : ents'.size = es'.length) (hr : ∀ i (h1 : i < es'.length) (h2 : i < ents'.size), VR φ es'[i].1 ents'[i].key ∧ VR φ es'[i].2 ents'[i].val) :
    ∃ w', (setObj c (.map ents' clk')).run P w = .ok () w' ∧ St φ h w φ (put h r (some (.map es'))) w' := by
  refine ⟨_, MapKept.run_setObj_map _ hc, ?_⟩
  have hlt : c < w.heap.size := (Array.getElem?_eq_some_iff.1 hc).1
  refine St.write (B' := .map es') hs hb hg rfl hc (O' := .map ents' clk') trivial rfl rfl ⟨rfl, rfl, ents', clk', rfl, hl, hr⟩ _ ?_ ?_ ?_ rfl rfl rfl
  · simp [hlt]
  · simp
  · intro k hk
    simp only [Array.getElem?_setIfInBounds]
    rw [if_neg (fun e => hk e.symm)]

theorem s_mapUpdate (hs : Sim φ h w) (ht : AR φ tm a.tmps) {t kt et : TypeId} {kk : KeyK} {x y z x' y' z' : Operand} (hop : o.op = .mapUpdate t x y z) (hu : P.underlying t = some (.map kt et)) (hk : keyK P kt = some kk) (hx : okO x = some x') (hy : okO y = some y') (hz : okO z = some z')
    (he : aop id (.mapUpdate kk x' y' z') tm h = some (v, h1)) : Writes P φ h w a o id v h1 := by
  have e1 := ev_rel ht hx
  have e2 := ev_rel ht hy
  have e3 := ev_rel ht hz
  simp only [aop] at he
  split at he
  · rename_i r hv
    rw [hv] at e1
    obtain ⟨c, hb, f1⟩ := e1.map_inv
    split at he
    · rename_i es hg
      obtain ⟨ents, clk, m1, m2, m3⟩ := map_rel hs hb hg
      split at he
      · rename_i hkk
        simp only [Option.map_eq_some_iff, Prod.mk.injEq] at he
        obtain ⟨es', hsm, rfl, rfl⟩ := he
        have f2 := KeyK.is_rel hkk e2
        have e2' : VR φ (ev tm y') (ev tm y') := by have q := e2; rw [f2] at q; exact q
        have ck := run_checkKey (P := P) hk hkk false w
        have fd := found (P := P) hs hk hkk m2 m3
        have go := MapKept.run_getObj_map (P := P) m1
        rcases setM_spec hsm with ⟨q1, rfl⟩ | ⟨j, q1, rfl⟩
        · have fk := fd.1 q1
          obtain ⟨w', r1, r2⟩ := map_write (P := P) (clk' := clk + 1) (ents' := ents.push { key := ev tm y', val := a.eval z, born := clk }) (es' := es ++ [(ev tm y', ev tm z')]) hs hb hg m1 (by simp [m2]) (by
            intro i b1 b2
            simp only [List.length_append, List.length_cons, List.length_nil] at b1
            rw [List.getElem_append, Array.getElem_push]
            by_cases q : i < es.length
            · rw [dif_pos q, dif_pos (by omega)]; exact m3 i q (by omega)
            · rw [dif_neg q, dif_neg (by omega)]
              have : i - es.length = 0 := by omega
              simp only [this, List.getElem_cons_zero]
              exact ⟨e2', e3⟩)
          refine ⟨φ, w', .skip, Go.undef, ?_, .inr ⟨rfl, rfl⟩, r2, VR.undef _, fun b hb => .inl hb⟩
          simp [execOp, hop, f1, f2, Instr.mapUpdate, run_underlying hu, go, ck, fk, r1]
        · have q1' := q1
          obtain ⟨⟨u, hu'⟩, _⟩ := q1'
          obtain ⟨hj, hje⟩ := List.getElem?_eq_some_iff.1 hu'
          have hjs : j < ents.size := by omega
          have fk := fd.2 j q1 ents[j] (Array.getElem?_eq_getElem hjs)
          have hkey : ents[j].key = ev tm y' := by
            have := (m3 j hj hjs).1
            rw [hje] at this
            exact KeyK.is_rel hkk this
          have ks := run_keyThatStays hkk (P := P) w
          obtain ⟨w', r1, r2⟩ := map_write (P := P) (clk' := clk) (ents' := ents.modify j fun e => { e with key := ev tm y', val := a.eval z }) (es' := es.set j (ev tm y', ev tm z')) hs hb hg m1 (by simp [m2]) (by
            intro i b1 b2
            simp only [List.length_set] at b1
            rw [List.getElem_set, Array.getElem_modify]
            by_cases q : j = i
            · rw [if_pos q, if_pos q]
              exact ⟨e2', e3⟩
            · rw [if_neg q, if_neg q]; exact m3 i b1 (by omega))
          refine ⟨φ, w', .skip, Go.undef, ?_, .inr ⟨rfl, rfl⟩, r2, VR.undef _, fun b hb => .inl hb⟩
          simp [execOp, hop, f1, f2, Instr.mapUpdate, run_underlying hu, go, ck, fk, hjs, hkey, ks, r1]
      · cases he
    · cases he
  · cases he

theorem s_delete (hs : Sim φ h w) (ht : AR φ tm a.tmps) {c : Call} {t kt et : TypeId} {kk : KeyK} {x y x' y' : Operand} (hop : o.op = .call c) (hc : c.callee = .builtin .delete) (ha : c.args = #[x, y]) (hat : c.argTypes[0]? = some t) (hu : P.underlying t = some (.map kt et)) (hk : keyK P kt = some kk) (hx : okO x = some x') (hy : okO y = some y')
    (he : aop id (.delete kk x' y') tm h = some (v, h1)) : Writes P φ h w a o id v h1 := by
  have e1 := ev_rel ht hx
  have e2 := ev_rel ht hy
  simp only [aop] at he
  split at he
  · rename_i r hv
    rw [hv] at e1
    obtain ⟨c', hb, f1⟩ := e1.map_inv
    split at he
    · rename_i es hg
      obtain ⟨ents, clk, m1, m2, m3⟩ := map_rel hs hb hg
      split at he
      · rename_i hkk
        simp only [Option.map_eq_some_iff, Prod.mk.injEq] at he
        obtain ⟨es', hsm, rfl, rfl⟩ := he
        have f2 := KeyK.is_rel hkk e2
        have ck := run_checkKey (P := P) hk hkk ents.isEmpty w
        have fd := found (P := P) hs hk hkk m2 m3
        have go := MapKept.run_getObj_map (P := P) m1
        rcases delM_spec hsm with ⟨q1, rfl⟩ | ⟨j, q1, rfl⟩
        · have fk := fd.1 q1
          obtain ⟨w', r1, r2⟩ := map_write (P := P) (clk' := clk) (ents' := ents) (es' := es') hs hb hg m1 m2 m3
          refine ⟨φ, w', .value (.tuple #[]), .tuple #[], ?_, .inl rfl, r2, VR.undef _, fun b hb => .inl hb⟩
          simp [execOp, hop, resolve, hc, ha, invoke, builtin, f1, f2, Builtin.delete_, hat, run_underlying hu, go, ck, fk, r1]
        · have q1' := q1
          obtain ⟨⟨u, hu'⟩, _⟩ := q1'
          obtain ⟨hj, hje⟩ := List.getElem?_eq_some_iff.1 hu'
          have hjs : j < ents.size := by omega
          have fk := fd.2 j q1 ents[j] (Array.getElem?_eq_getElem hjs)
          have hle : (ents.eraseIdxIfInBounds j).toList = ents.toList.eraseIdx j := by
            unfold Array.eraseIdxIfInBounds
            rw [dif_pos hjs]
            simp
          have hsz : (ents.eraseIdxIfInBounds j).size = (es.eraseIdx j).length := by
            rw [← Array.length_toList, hle, List.length_eraseIdx, List.length_eraseIdx]
            simp [m2]
          obtain ⟨w', r1, r2⟩ := map_write (P := P) (clk' := clk) (ents' := ents.eraseIdxIfInBounds j) (es' := es.eraseIdx j) hs hb hg m1 hsz (by
            intro i b1 b2
            have g1 : (ents.eraseIdxIfInBounds j)[i] = (ents.toList.eraseIdx j)[i]'(by rw [← hle, Array.length_toList]; exact b2) := by
              rw [← Array.getElem_toList]; congr 1
            rw [g1, List.getElem_eraseIdx, List.getElem_eraseIdx]
            rw [List.length_eraseIdx] at b1
            split
            · rename_i q
              simpa using m3 i (by omega) (by omega)
            · rename_i q
              rw [if_pos hj] at b1
              simpa using m3 (i + 1) (by omega) (by omega))
          refine ⟨φ, w', .value (.tuple #[]), .tuple #[], ?_, .inl rfl, r2, VR.undef _, fun b hb => .inl hb⟩
          simp [execOp, hop, resolve, hc, ha, invoke, builtin, f1, f2, Builtin.delete_, hat, run_underlying hu, go, ck, fk, r1]
      · cases he
    · cases he
  · cases he

end
end Ab
