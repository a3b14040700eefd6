/-
  THE ABSTRACT MACHINE: append and copy.
-/
import Derived.Test.YtleoicjpcdmfkaaAb11
set_option linter.unusedSimpArgs false
set_option linter.unusedVariables false
namespace Ab
open Go
open Heap (get put next skip)

section
variable {H : Type} [Heap H] {P : Program} {φ : Emb} {h : H} {w : World} {tm : Array Value} {a : Act} {o : Oper} {id : Nat} {v : Value} {h1 : H}

theorem run_firstCells (hs : Sim φ h w) {sz m : Nat} {x x' : Value} (hx : VR φ x x') (hm : lenV x = some m) {k : Nat} (hk : k ≤ m) {xs : Array Value} (hc : sliceCells h sz k x = some xs) :
    ∃ ys, (Builtin.firstCells sz k x').run P w = .ok ys w ∧ AR φ xs ys ∧ (Builtin.lenOf x').run P w = .ok m w := by
  cases x <;> simp [lenV] at hm
  rename_i b n cap
  subst hm
  cases b with
  | none =>
    obtain ⟨rfl, rfl, rfl⟩ := hx.sliceNil_inv
    have hk0 : k = 0 := by omega
    subst hk0
    simp [sliceCells] at hc
    subst hc
    exact ⟨#[], by simp [Builtin.firstCells], ⟨rfl, fun i h1 => by simp at h1⟩, by simp [Builtin.lenOf]⟩
  | some ad =>
    have main : ∀ c d g cap', φ ad.block = some (c, d, g) → ad.spot = none → x' = .slice (some ⟨c, ad.off + d, none⟩) n cap' →
        ∃ ys, (Builtin.firstCells sz k x').run P w = .ok ys w ∧ AR φ xs ys ∧ (Builtin.lenOf x').run P w = .ok n w := by
      intro c d g cap' hb hsp hev
      subst hev
      obtain ⟨bl, of, sp⟩ := ad
      simp only at hsp hb
      subst hsp
      simp only [sliceCells] at hc
      split at hc
      · rename_i h0
        simp only [Option.some.injEq] at hc
        subst hc
        exact ⟨#[], by simp [Builtin.firstCells, h0, loadCells, loadCellsFrom], ⟨rfl, fun i h1 => by simp at h1⟩, by simp [Builtin.lenOf]⟩
      · obtain ⟨ys, r1, r2⟩ := cells_run (P := P) hs hb hc
        exact ⟨ys, by simp [Builtin.firstCells, r1], r2, by simp [Builtin.lenOf]⟩
    rcases hx.slice_inv with ⟨c, d, hb, hsp, hev⟩ | ⟨c, d, s, E, cap', hb, hsp, h0, hk', hE, hev⟩ | ⟨c, d, s, E, o', cap', hb, hsp, hl0, hk0, hoE, hev⟩
    · exact main c d _ _ hb hsp hev
    · exact main c d _ _ hb hsp hev
    · subst hl0
      subst hev
      have hk0 : k = 0 := by omega
      subst hk0
      simp [sliceCells] at hc
      subst hc
      exact ⟨#[], by simp [Builtin.firstCells, loadCells, loadCellsFrom], ⟨rfl, fun i h1 => by simp at h1⟩, by simp [Builtin.lenOf]⟩

theorem growBy_le (n : Nat) : ∀ (r c : Nat), Builtin.growBy n r c ≤ max c (2 * n + 192)
  | 0, c => by simp [Builtin.growBy]; omega
  | r + 1, c => by
    unfold Builtin.growBy
    split
    · omega
    · have := growBy_le n r (c + (c + 768) / 4)
      omega

theorem nextslicecap_le {n c : Nat} (h : c < n) : Builtin.nextslicecap n c ≤ 2 * n + 192 := by
  unfold Builtin.nextslicecap
  split
  · omega
  · split
    · omega
    · have := growBy_le n 4 c
      omega

theorem cap_small {n c bytes : Nat} (h : c < n) (hb : bytes ≤ 2 ^ 20) (hn : n * bytes ≤ roomy) : ¬ (Builtin.nextslicecap n c * bytes > 2 ^ 48) := by
  have h1 := nextslicecap_le h
  have h2 : Builtin.nextslicecap n c * bytes ≤ (2 * n + 192) * bytes := Nat.mul_le_mul_right _ h1
  have h3 : (2 * n + 192) * bytes = 2 * (n * bytes) + 192 * bytes := by rw [Nat.add_mul, Nat.mul_assoc]
  unfold roomy at hn
  omega

/-- Where the room is enough. -/
theorem run_append_fits {e sT xT ty : TypeId} {ats : Array TypeId} {sz n m cap : Nat} {i : TypeInfo} {b : Option Addr} {x : Value} {ys : Array Value} (ha0 : ats[0]? = some sT) (ha1 : ats[1]? = some xT) (hu : P.underlying sT = some (.slice e)) (hux : ∃ f, P.underlying xT = some (.slice f)) (hi : P.info? e = some i) (hsz : i.size = sz)
    (hlen : (Builtin.lenOf x).run P w = .ok m w) (hys : (Builtin.firstCells sz m x).run P w = .ok ys w) (hfit : n + m ≤ cap) {w' : World} (hw : match b with | some a => (storeCells (a.add (n * sz)) ys.toList).run P w = .ok () w' | none => w' = w) :
    (Builtin.append_ ats ty #[.slice b n cap, x]).run P w = .ok (.slice b (n + m) cap) w' := by
  obtain ⟨f, hux⟩ := hux
  have hso : (Go.sizeOf e).run P w = .ok sz w := by rw [run_sizeOf w hi]; simp [Program.cellsOf, hi, hsz]
  cases b with
  | none =>
    subst hw
    simp [Builtin.append_, ha0, ha1, run_underlying hu, run_underlying hux, hso, hlen, hfit, hys]
  | some ad =>
    simp [Builtin.append_, ha0, ha1, run_underlying hu, run_underlying hux, hso, hlen, hfit, hys, hw]

/-- Where it is not. -/
theorem run_append_grows {e sT xT ty : TypeId} {ats : Array TypeId} {sz n m cap : Nat} {i : TypeInfo} {b : Option Addr} {x : Value} {olds ys : Array Value} {z : Value} (ha0 : ats[0]? = some sT) (ha1 : ats[1]? = some xT) (hu : P.underlying sT = some (.slice e)) (hux : ∃ f, P.underlying xT = some (.slice f)) (hi : P.info? e = some i) (hsz : i.size = sz) (hb0 : i.bytes ≠ 0) (hb1 : i.bytes ≤ 2 ^ 20)
    (hz : i.zero = some z) (hlen : (Builtin.lenOf x).run P w = .ok m w) (hys : (Builtin.firstCells sz m x).run P w.drew = .ok ys w.drew) (hold : (Builtin.firstCells sz n (.slice b n cap)).run P w.drew = .ok olds w.drew)
    (hfit : ¬ n + m ≤ cap) (hroom : (n + m) * i.bytes ≤ roomy) :
    ∃ newCap, n + m ≤ newCap ∧ (Builtin.append_ ats ty #[.slice b n cap, x]).run P w = .ok (.slice (some ⟨w.heap.size, 0, none⟩) (n + m) newCap)
      (w.drew.alloc (.cells (olds ++ ys ++ Builtin.zeroCells z.cells (newCap - (n + m))) e)) := by
  obtain ⟨f, hux⟩ := hux
  have hso : ∀ w, (Go.sizeOf e).run P w = .ok sz w := fun w => by rw [run_sizeOf w hi]; simp [Program.cellsOf, hi, hsz]
  have hcap := cap_small (n := n + m) (c := cap) (by omega) hb1 hroom
  refine ⟨(Question.appendCap (n + m) cap e).cut (w.tape w.drawn (.appendCap (n + m) cap e)), by simp [Question.cut], ?_⟩
  simp [Builtin.append_, ha0, ha1, run_underlying hu, run_underlying hux, hso, hlen, hfit, typeInfo, hi, hb0, hcap, Question.forced, hold, hys, zeroValue, hz, newRow]

theorem zeroCells_size (z : Array Value) (n : Nat) : (Builtin.zeroCells z n).size = n * z.size := by simp [Builtin.zeroCells]

theorem sliceCells_size {sz n : Nat} {x : Value} {xs : Array Value} (hc : sliceCells h sz n x = some xs) : xs.size = n * sz := by
  unfold sliceCells at hc
  split at hc
  · split at hc
    · rename_i h0; cases hc; simp [h0]
    · cases hc
  · split at hc
    · rename_i h0; cases hc; simp [h0]
    · rename_i ad _ _ h0
      obtain ⟨bl, of, sp⟩ := ad
      cases sp with
      | none => exact (loadCs_at hc).1
      | some s => simp [loadCs] at hc
  · cases hc

/-- A new block that an append made. -/
theorem grown_br {cs cs' : Array Value} (hr : AR φ cs cs') (sz nc : Nat) (z : Array Value) (e : TypeId) (hE : nc * sz ≤ (cs' ++ z).size) : BR φ (.cells cs (.gr sz)) 0 (some (sz, nc * sz)) (some (.cells (cs' ++ z) e (0, 0))) := by
  refine ⟨_, e, (0, 0), rfl, by rw [hr.1]; simp, fun i hi => ?_, fun _ => rfl, nc * sz, rfl, hE⟩
  obtain ⟨v', k1, k2⟩ := hr.at? (Array.getElem?_eq_getElem hi)
  obtain ⟨k3, k4⟩ := Array.getElem?_eq_some_iff.1 k1
  exact ⟨v', by rw [Nat.zero_add, Array.getElem?_append_left k3]; exact k1, k2⟩

theorem s_append (hs : Sim φ h w) (ht : AR φ tm a.tmps) (hid : φ id = none) (hn : id < next h) {c : Call} {sT xT e : TypeId} {i : TypeInfo} {z : Array Value} {x y x' y' : Operand} (hop : o.op = .call c) (hc : c.callee = .builtin .append) (ha : c.args = #[x, y]) (hat0 : c.argTypes[0]? = some sT) (hat1 : c.argTypes[1]? = some xT)
    (hu : P.underlying sT = some (.slice e)) (hux : ∃ f, P.underlying xT = some (.slice f)) (hi : P.info? e = some i) (hz : zc P e = some z) (hs0 : i.size ≠ 0) (hb0 : i.bytes ≠ 0) (hb1 : i.bytes ≤ 2 ^ 20) (hx : okO x = some x') (hy : okO y = some y')
    (he : aop id (.append i.size i.bytes z x' y') tm h = some (v, h1)) : Writes P φ h w a o id v h1 := by
  have e1 := ev_rel ht hx
  have e2 := ev_rel ht hy
  obtain ⟨i', zv, q1, hzz, _, rfl, hzs⟩ := zc_spec hz
  rw [hi] at q1; cases q1
  have fin : ∀ r w', (Builtin.append_ c.argTypes o.type #[a.eval x, a.eval y]).run P w = .ok r w' → (execOp a.eval o).run P w = .ok (.value r) w' := by
    intro r w' hr
    simp [execOp, hop, resolve, hc, ha, invoke, builtin, hr]
  have hs1 : Sim φ h w.drew := hs.drew _
  simp only [aop, aappend] at he
  split at he
  · rename_i base n cap m hsv hlm
    rw [hsv] at e1
    split at he
    · cases he
    · rename_i new hnew
      have hnewz := sliceCells_size hnew
      split at he
      · cases he
      · rename_i hroom
        have hroom := Decidable.not_not.1 hroom
        obtain ⟨ys, y1, y2, y3⟩ := run_firstCells (P := P) hs e2 hlm (Nat.le_refl m) hnew
        obtain ⟨yd, d1, d2, d3⟩ := run_firstCells (P := P) hs1 e2 hlm (Nat.le_refl m) hnew
        -- a new array
        have grows : ∀ (h0 : H) (base' : Option Addr) (cap' : Nat) (old olds : Array Value), Sim φ h0 w → id < next h0 → St φ h w φ h0 w → a.eval x = .slice base' n cap' → ¬ n + m ≤ cap' → AR φ old olds → old.size = n * i.size →
            (Builtin.firstCells i.size n (.slice base' n cap')).run P w.drew = .ok olds w.drew →
            h1 = put h0 id (some (.cells (old ++ new) (.gr i.size))) → v = .slice (some ⟨id, 0, none⟩) (n + m) (n + m) → Writes P φ h w a o id v h1 := by
          intro h0 base' cap' old olds hs0' hn0 hst hev hnf hro hosz hfc hh hv
          subst hh; subst hv
          obtain ⟨nc, g1, g2⟩ := run_append_grows (P := P) (w := w) (ty := o.type) hat0 hat1 hu hux hi rfl hb0 hb1 hzz y3 d1 hfc hnf hroom
          have hsz : (old ++ new).size = (n + m) * i.size := by rw [Array.size_append, hosz, hnewz, Nat.add_mul]
          have hr := AR.append hro d2
          have hE : nc * i.size ≤ ((olds ++ yd) ++ Builtin.zeroCells zv.cells (nc - (n + m))).size := by
            have := hr.1
            rw [hsz] at this
            rw [Array.size_append, ← this, zeroCells_size, hzs, ← Nat.add_mul]
            exact Nat.mul_le_mul_right _ (by omega)
          refine ⟨_, w.drew.alloc (.cells (olds ++ yd ++ Builtin.zeroCells zv.cells (nc - (n + m))) e), _, _, fin _ _ (by rw [hev]; exact g2), .inl rfl, hst.trans (St.new hs0' hid hn0 _ _ _ (grown_br hr i.size nc _ e hE) (w.drew.alloc (.cells (olds ++ yd ++ Builtin.zeroCells zv.cells (nc - (n + m))) e)) rfl rfl rfl rfl), ?_, upd_dom⟩
          have := VR.sliceG (φ := Emb.upd φ id (w.heap.size, 0, some (i.size, nc * i.size))) id 0 w.heap.size 0 i.size (nc * i.size) (n + m) (n + m) nc (Emb.upd_same _ _ _) (by omega) g1 (by omega)
          simpa using this
        -- within the room
        have fits : ∀ (b of c d : Nat) (g : Option (Nat × Nat)) (cap' : Nat) (h2 : H), φ b = some (c, d, g) → a.eval x = .slice (some ⟨c, of + d, none⟩) n cap' → n + m ≤ cap' → storeCs h ⟨b, of + n * i.size, none⟩ new = some h2 → h1 = h2 →
            VR φ v (.slice (some ⟨c, of + d, none⟩) (n + m) cap') → Writes P φ h w a o id v h1 := by
          intro b of c d g cap' h2 hb hev hle hst hh hv
          subst hh
          obtain ⟨w', r1, r2⟩ := store_st (P := P) hs hb y2 hst
          refine ⟨φ, w', _, _, fin _ w' ?_, .inl rfl, r2, hv, fun b hb => .inl hb⟩
          rw [hev]
          refine run_append_fits hat0 hat1 hu hux hi rfl y3 y1 hle ?_
          simp only [add_at]
          rw [show of + d + n * i.size = of + n * i.size + d by omega]
          exact r1
        split at he
        · -- nothing was there
          obtain ⟨rfl, rfl, hev⟩ := e1.sliceNil_inv
          simp only [ne_eq, not_true_eq_false, or_self, if_false] at he
          split at he
          · rename_i hm
            subst hm
            simp only [Option.some.injEq, Prod.mk.injEq] at he
            obtain ⟨rfl, rfl⟩ := he
            refine ⟨φ, w, _, _, fin _ w ?_, .inl rfl, St.refl hs, .sliceNil, fun b hb => .inl hb⟩
            rw [hev]
            exact run_append_fits hat0 hat1 hu hux hi rfl y3 y1 (Nat.le_refl _) rfl
          · rename_i hm
            simp only [Option.some.injEq, Prod.mk.injEq] at he
            obtain ⟨hv, hh⟩ := he
            refine grows h none 0 #[] #[] hs hn (St.refl hs) hev (by omega) ⟨rfl, fun j hj => by simp at hj⟩ (by simp) (by simp [Builtin.firstCells]) (by rw [← hh]; simp) (by rw [← hv]; simp)
        · rename_i ad
          split at he
          · rename_i cs md hsp hg
            obtain ⟨bl, of, sp⟩ := ad
            have hsp' : sp = none := hsp
            subst hsp'
            split at he
            · rename_i hle
              split at he
              · rename_i hm
                subst hm
                simp only [Option.some.injEq, Prod.mk.injEq] at he
                obtain ⟨rfl, rfl⟩ := he
                have hys0 : ys = #[] := by
                  have := y2.1
                  rw [hnewz] at this
                  exact Array.eq_empty_of_size_eq_zero (by omega)
                have main : ∀ b' cap', a.eval x = .slice b' n cap' → n ≤ cap' → Writes P φ h w a o id (.slice (some ⟨bl, of, none⟩) n cap) h := by
                  intro b' cap' hev hle'
                  refine ⟨φ, w, .value (.slice b' n cap'), .slice b' n cap', fin _ w ?_, .inl rfl, St.refl hs, by rw [← hev]; exact e1, fun b hb => .inl hb⟩
                  rw [hev]
                  have := run_append_fits (P := P) (w := w) (w' := w) (ty := o.type) (b := b') (n := n) (m := 0) (cap := cap') hat0 hat1 hu hux hi rfl y3 y1 (by omega) (by
                    cases b' with
                    | none => rfl
                    | some q => simp [hys0, storeCells])
                  simpa using this
                rcases e1.slice_inv with ⟨c', d, hb, _, hev⟩ | ⟨c', d, s, E, cap', hb, _, h0, hk', hE, hev⟩ | ⟨c', d, s, E, o', cap', hb, _, hl0, hk0, hoE, hev⟩
                · exact main _ _ hev (by omega)
                · exact main _ _ hev (by omega)
                · subst hl0; exact main _ _ hev (by omega)
              · rename_i hm
                simp only [Option.map_eq_some_iff, Prod.mk.injEq] at he
                obtain ⟨h2, hst, hv, hh⟩ := he
                rcases e1.slice_inv with ⟨c', d, hb, _, hev⟩ | ⟨c', d, s, E, cap', hb, _, h0, hk', hE, hev⟩ | ⟨c', d, s, E, o', cap', hb, _, hl0, hk0, hoE, hev⟩
                · exact fits bl of c' d _ cap h2 hb hev hle hst hh.symm (by rw [← hv]; exact .slice _ _ _ _ _ _ hb)
                · exact fits bl of c' d _ cap' h2 hb hev (by omega) hst hh.symm (by rw [← hv]; exact .sliceG _ _ _ _ _ _ _ _ _ hb h0 hk' hE)
                · omega
            · rename_i hnle
              split at he
              · cases he
              · rename_i old hold
                have hosz : old.size = n * i.size := by
                  split at hold
                  · rename_i q; simp only [Option.some.injEq] at hold; subst hold; simp [q]
                  · exact (loadCs_at hold).1
                have oldsC : ∀ (c' d : Nat) (g : Option (Nat × Nat)) (cap' : Nat), φ bl = some (c', d, g) → ∃ olds, (Builtin.firstCells i.size n (.slice (some ⟨c', of + d, none⟩) n cap')).run P w.drew = .ok olds w.drew ∧ AR φ old olds := by
                  intro c' d g cap' hb
                  split at hold
                  · rename_i q
                    simp only [Option.some.injEq] at hold
                    subst hold
                    exact ⟨#[], by simp [Builtin.firstCells, q, loadCells, loadCellsFrom], ⟨rfl, fun j hj => by simp at hj⟩⟩
                  · obtain ⟨olds, r1, r2⟩ := cells_run (P := P) hs1 hb hold
                    exact ⟨olds, by simp [Builtin.firstCells, r1], r2⟩
                rcases e1.slice_inv with ⟨c', d, hb, _, hev⟩ | ⟨c', d, s, E, cap', hb, _, h0, hk', hE, hev⟩ | ⟨c', d, s, E, o', cap', hb, _, hl0, hk0, hoE, hev⟩
                · obtain ⟨olds, o1, o2⟩ := oldsC c' d _ cap hb
                  obtain ⟨ccs, ty, fz, _, _, _, _, f5⟩ := hs.blk _ _ _ _ _ hb hg
                  cases md with
                  | gr s => obtain ⟨_, q, _⟩ := f5; cases q
                  | rw | ro =>
                    simp only [Option.some.injEq, Prod.mk.injEq] at he
                    exact grows h _ cap old olds hs hn (St.refl hs) hev hnle o2 hosz o1 he.2.symm he.1.symm
                · obtain ⟨ccs, ty, fz, f1, f2, f3, f4, f5⟩ := hs.blk _ _ _ _ _ hb hg
                  cases md with
                  | rw => cases f5
                  | ro => cases f5
                  | gr s' =>
                    obtain ⟨E', q, f6⟩ := f5
                    simp only [Option.some.injEq, Prod.mk.injEq] at q
                    obtain ⟨rfl, rfl⟩ := q
                    simp only at he
                    split at he
                    · cases he
                    · rename_i hcond
                      simp only [not_or, Decidable.not_not] at hcond
                      obtain ⟨c1, c2, c3, c4⟩ := hcond
                      subst c1
                      simp only [Option.some.injEq, Prod.mk.injEq] at he
                      obtain ⟨hv, hh⟩ := he
                      obtain ⟨olds, o1, o2⟩ := oldsC c' d _ cap' hb
                      by_cases hin : n + m ≤ cap'
                      · -- the room was there all the same
                        have hmul : (n + m) * i.size ≤ cap' * i.size := Nat.mul_le_mul_right _ hin
                        have hnm : (n + m) * i.size = n * i.size + m * i.size := Nat.add_mul _ _ _
                        have hE' : of + d + cap' * i.size = E := hE
                        have hfz := f4 (by simp)
                        subst hfz
                        have hyz := y2.1
                        obtain ⟨w', r1, r2⟩ := run_storeCells (P := P) (of := of + d + n * i.size) ys.toList 0 w ccs f1 (by simp; omega) (all_one y2 (by simpa using c4))
                        refine ⟨Emb.upd φ id (c', of + d, some (i.size, E)), w', .value (.slice (some ⟨c', of + d, none⟩) (n + m) cap'), .slice (some ⟨c', of + d, none⟩) (n + m) cap', fin _ w' ?_, .inl rfl, ?_, ?_, upd_dom⟩
                        · rw [hev]
                          refine run_append_fits hat0 hat1 hu hux hi rfl y3 y1 hin ?_
                          simpa only [add_at] using r1
                        · rw [← hh]
                          refine St.regrown hs hid hn hb hg (by simp [wr]) f1 (O' := .cells (setAll ccs (of + d + n * i.size) ys.toList) ty (0, 0)) ⟨by rw [setAll_size], rfl⟩ (of + d) (some (i.size, E)) (by simp only [bsize]; have : 0 < cap * i.size := Nat.mul_pos (by omega) (by omega); omega) ?_ w' r2.at_ r2.size r2.other r2.os r2.tape r2.output
                          refine ⟨_, _, _, rfl, by rw [setAll_size, Array.size_append]; omega, fun j hj => ?_, fun _ => rfl, E, rfl, by rw [setAll_size]; exact f6⟩
                          rw [Array.size_append] at hj
                          rw [setAll_get]
                          simp only [Array.length_toList, Nat.add_zero]
                          by_cases q : j < n * i.size
                          · rw [if_neg (by omega)]
                            have hl : loadCs h ⟨bl, of, none⟩ (n * i.size) = some old := by
                              rw [if_neg (by omega)] at hold; exact hold
                            obtain ⟨u, u1, u2⟩ := (loadCs_at hl).2 j q
                            obtain ⟨u', u3, u4⟩ := cell_rel hs hb u1
                            refine ⟨u', ?_, ?_⟩
                            · simp [World.cell?, f1] at u3
                              rw [show of + d + j = of + j + d by omega]; exact u3
                            · have : (old ++ new)[j] = u := by
                                rw [Array.getElem_append_left (by omega)]
                                rw [Array.getElem?_eq_getElem (by omega)] at u2
                                simpa using u2
                              rw [this]; exact u4
                          · rw [if_pos (by omega)]
                            obtain ⟨u', u3, u4⟩ := y2.at? (i := j - n * i.size) (v := new[j - n * i.size]'(by omega)) (Array.getElem?_eq_getElem _)
                            refine ⟨u', by rw [show of + d + j - (of + d + n * i.size) = j - n * i.size by omega]; simpa using u3, ?_⟩
                            have : (old ++ new)[j] = new[j - n * i.size]'(by omega) := by
                              rw [Array.getElem_append_right (by omega)]
                              congr 1
                              rw [hosz]
                            rw [this]; exact u4
                        · rw [← hv]
                          have := VR.sliceG (φ := Emb.upd φ id (c', of + d, some (i.size, E))) id 0 c' (of + d) i.size E (n + m) (n + m) cap' (Emb.upd_same _ _ _) (by omega) hin (by omega)
                          rwa [Nat.zero_add] at this
                      · exact grows (put h bl none) _ cap' old olds (hs.gone bl) (by rw [Heap.next_put]; exact hn) (St.gone hs bl) hev hin o2 hosz o1 hh.symm hv.symm
                · obtain ⟨ccs, ty, fz, f1, f2, f3, f4, f5⟩ := hs.blk _ _ _ _ _ hb hg
                  cases md with
                  | rw => cases f5
                  | ro => cases f5
                  | gr s' =>
                    simp only at he
                    split at he
                    · cases he
                    · rename_i hcond
                      exact absurd (Or.inr (Or.inl hk0)) hcond
          · cases he
  · cases he

theorem s_copy (hs : Sim φ h w) (ht : AR φ tm a.tmps) {c : Call} {dT e : TypeId} {n : Nat} {x y x' y' : Operand} (hop : o.op = .call c) (hc : c.callee = .builtin .copy) (ha : c.args = #[x, y]) (hat : c.argTypes[0]? = some dT)
    (hu : P.underlying dT = some (.slice e)) (hn : sizeT P e = some n) (hx : okO x = some x') (hy : okO y = some y')
    (he : aop id (.copy n x' y') tm h = some (v, h1)) : Writes P φ h w a o id v h1 := by
  have e1 := ev_rel ht hx
  have e2 := ev_rel ht hy
  simp only [aop] at he
  split at he
  · rename_i base dn dcap m hsv hlm
    rw [hsv] at e1
    simp only [Option.bind_eq_some_iff] at he
    obtain ⟨xs, hxs, he⟩ := he
    obtain ⟨ys, y1, y2, y3⟩ := run_firstCells (P := P) hs e2 hlm (Nat.min_le_left m dn) hxs
    have fin : ∀ (b : Option Addr) (cap : Nat) (w' : World), a.eval x = .slice b dn cap → (match b with | some q => (storeCells q ys.toList).run P w = .ok () w' | none => w' = w) → (execOp a.eval o).run P w = .ok (.value (.int .i64 (Nat.min m dn))) w' := by
      intro b cap w' hev hw
      cases b with
      | none =>
        subst hw
        simp [execOp, hop, resolve, hc, ha, hat, invoke, builtin, Builtin.copy_, run_underlying hu, run_sizeT hn, hev, y1, y3, goInt]
      | some q =>
        simp [execOp, hop, resolve, hc, ha, hat, invoke, builtin, Builtin.copy_, run_underlying hu, run_sizeT hn, hev, y1, y3, goInt, hw]
    have idle : Nat.min m dn * n = 0 → ys = #[] := by
      intro h0
      have := y2.1
      rw [sliceCells_size hxs] at this
      exact Array.eq_empty_of_size_eq_zero (by omega)
    split at he
    · obtain ⟨rfl, rfl, hev⟩ := e1.sliceNil_inv
      simp only [Option.some.injEq, Prod.mk.injEq] at he
      obtain ⟨rfl, rfl⟩ := he
      exact ⟨φ, w, _, _, fin _ _ w hev rfl, .inl rfl, St.refl hs, .int _ _, fun b hb => .inl hb⟩
    · rename_i ad
      split at he
      · rename_i h0
        simp only [Option.some.injEq, Prod.mk.injEq] at he
        obtain ⟨rfl, rfl⟩ := he
        have hys := idle h0
        have : ∃ b cap, a.eval x = .slice (some b) dn cap := by
          rcases e1.slice_inv with ⟨_, _, _, _, e⟩ | ⟨_, _, _, _, _, _, _, _, _, _, e⟩ | ⟨_, _, _, _, _, _, _, _, rfl, _, _, e⟩ <;> exact ⟨_, _, e⟩
        obtain ⟨b, cap, hev⟩ := this
        exact ⟨φ, w, _, _, fin _ _ w hev (by simp [hys, storeCells]), .inl rfl, St.refl hs, .int _ _, fun b hb => .inl hb⟩
      · rename_i h0
        simp only [Option.map_eq_some_iff, Prod.mk.injEq] at he
        obtain ⟨h2, hst, rfl, rfl⟩ := he
        have main : ∀ c' d g cap', φ ad.block = some (c', d, g) → ad.spot = none → a.eval x = .slice (some ⟨c', ad.off + d, none⟩) dn cap' → Writes P φ h w a o id (.int .i64 (Nat.min m dn)) h2 := by
          intro c' d g cap' hb hsp hev
          obtain ⟨bl, of, sp⟩ := ad
          simp only at hsp hb hev
          subst hsp
          obtain ⟨w', r1, r2⟩ := store_st (P := P) hs hb y2 hst
          exact ⟨φ, w', _, _, fin _ _ w' hev r1, .inl rfl, r2, .int _ _, fun b hb => .inl hb⟩
        rcases e1.slice_inv with ⟨c', d, hb, hsp, hev⟩ | ⟨c', d, s, E, cap', hb, hsp, _, hk', hE, hev⟩ | ⟨c', d, s, E, o', cap', hb, hsp, hl0, hk0, hoE, hev⟩
        · exact main _ _ _ _ hb hsp hev
        · exact main _ _ _ _ hb hsp hev
        · subst hl0; exact absurd (by simp) h0
  · cases he

end
end Ab
