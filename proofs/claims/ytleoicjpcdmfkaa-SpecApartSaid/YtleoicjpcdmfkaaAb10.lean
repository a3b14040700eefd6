/-
  THE ABSTRACT MACHINE: slices cut; what makes a block.
-/
import Derived.Test.YtleoicjpcdmfkaaAb9
set_option linter.unusedSimpArgs false
set_option linter.unusedVariables false
namespace Ab
open Go
open Heap (get put next skip)

section
variable {H : Type} [Heap H] {P : Program} {φ : Emb} {h : H} {w : World} {tm : Array Value} {a : Act} {o : Oper} {id : Nat} {v : Value} {h1 : H}

theorem bound_rel (ht : AR φ tm a.tmps) {x x' : Option Operand} {d k : Nat} (hx : okOO x = some x') (hb : boundV tm d x' = some k) :
    (x.map a.eval = none ∧ k = d) ∨ ∃ q z, x.map a.eval = some (.int q z) ∧ 0 ≤ z ∧ z.toNat = k := by
  cases x with
  | none =>
    simp [okOO] at hx
    subst hx
    simp [boundV] at hb
    exact .inl ⟨rfl, hb.symm⟩
  | some x =>
    simp only [okOO, Option.map_eq_some_iff] at hx
    obtain ⟨y, hy, rfl⟩ := hx
    obtain ⟨q, z, _, f2, f3, f4⟩ := natV_inv (ev_rel ht hy) hb
    exact .inr ⟨q, z, by simp [f2], f3, f4⟩

theorem run_bounds {b : Bool} {len cap l u : Nat} {lo hi : Option Value} (hlo : (lo = none ∧ l = 0) ∨ ∃ q z, lo = some (.int q z) ∧ 0 ≤ z ∧ z.toNat = l) (hhi : (hi = none ∧ u = len) ∨ ∃ q z, hi = some (.int q z) ∧ 0 ≤ z ∧ z.toNat = u)
    (h1 : l ≤ u) (h2 : u ≤ cap) : (Instr.sliceBounds b len cap lo hi none).run P w = .ok (l, u, cap) w := by
  unfold Instr.sliceBounds
  rcases hlo with ⟨rfl, rfl⟩ | ⟨q, z, rfl, hz, rfl⟩ <;> rcases hhi with ⟨rfl, rfl⟩ | ⟨q', z', rfl, hz', rfl⟩
  · simp
  · have : z' ≤ (cap : Int) := by omega
    simp [Instr.sliceBound, asIntOf, hz', this]
  · have : z ≤ (u : Int) := by omega
    simp [Instr.sliceBound, asIntOf, hz, this]
  · have t1 : z' ≤ (cap : Int) := by omega
    have t2 : z ≤ z' := by omega
    have t4 : ¬ max z' 0 < z := by omega
    simp [Instr.sliceBound, asIntOf, hz, hz', t1, t2, t4]

theorem s_slice (hs : Sim φ h w) (ht : AR φ tm a.tmps) {t e : TypeId} {n : Nat} {x y : Operand} {lo hi lo' hi' : Option Operand} (hop : o.op = .slice t x lo hi none) (hu : P.underlying t = some (.slice e)) (hn : sizeT P e = some n) (hx : okO x = some y) (hl : okOO lo = some lo') (hh : okOO hi = some hi')
    (he : aop id (.slice n y lo' hi') tm h = some (v, h1)) : h1 = h ∧ Looks P φ w a o v := by
  have e1 := ev_rel ht hx
  have run : ∀ (b : Option Addr) (len cap l u : Nat), a.eval x = .slice b len cap → ((lo.map a.eval = none ∧ l = 0) ∨ ∃ q z, lo.map a.eval = some (.int q z) ∧ 0 ≤ z ∧ z.toNat = l) → ((hi.map a.eval = none ∧ u = len) ∨ ∃ q z, hi.map a.eval = some (.int q z) ∧ 0 ≤ z ∧ z.toNat = u) → l ≤ u → u ≤ cap →
      (execOp a.eval o).run P w = .ok (.value (.slice (if cap = l then b else b.map (·.add (l * n))) (u - l) (cap - l))) w := by
    intro b len cap l u hev h1 h2 h3 h4
    have := run_bounds (P := P) (w := w) (b := true) h1 h2 h3 h4
    simp [execOp, hop, hev, Instr.sliceAt, run_underlying hu, Instr.slice, this, run_sizeT hn]
  simp only [aop] at he
  split at he
  · rename_i ad len cap hv
    rw [hv] at e1
    split at he
    · rename_i cs md l u hsp hg hb1 hb2
      have b1 := bound_rel ht hl hb1
      have b2 := bound_rel ht hh hb2
      split at he
      · rename_i hle
        rcases e1.slice_inv with ⟨c, d, hb, _, hev⟩ | ⟨c, d, sz, E, cap', hb, _, h0, hk, hE, hev⟩ | ⟨c, d, sz, E, o', cap', hb, _, hl0, hk0, _, hev⟩
        · obtain ⟨ccs, ty, fz, _, _, _, _, f5⟩ := hs.blk _ _ _ _ _ hb hg
          have r := run _ _ _ _ _ hev b1 b2 hle.1 hle.2
          obtain ⟨bl, of, sp⟩ := ad
          simp only at hsp hb
          subst hsp
          cases md with
          | gr s => obtain ⟨_, q, _⟩ := f5; cases q
          | rw | ro =>
            simp only [Option.some.injEq, Prod.mk.injEq] at he
            obtain ⟨rfl, rfl⟩ := he
            refine ⟨rfl, _, r, ?_⟩
            split
            · exact .slice _ _ _ _ _ _ hb
            · simp only [Option.map_some, add_at]
              rw [show of + d + l * n = of + l * n + d by omega]
              exact .slice _ _ _ _ _ _ hb
        · obtain ⟨ccs, ty, fz, _, _, _, _, f5⟩ := hs.blk _ _ _ _ _ hb hg
          obtain ⟨bl, of, sp⟩ := ad
          simp only at hsp hb
          have hE : of + d + cap' * sz = E := hE
          subst hsp
          cases md with
          | rw => cases f5
          | ro => cases f5
          | gr s =>
            obtain ⟨E', q, f6⟩ := f5
            simp only [Option.some.injEq, Prod.mk.injEq] at q
            obtain ⟨rfl, rfl⟩ := q
            simp only at he
            split at he
            · cases he
            · rename_i hc
              have hsz : sz = n := by
                by_cases q : sz = n
                · exact q
                · exact absurd (Or.inl q) hc
              subst hsz
              simp only [Option.some.injEq, Prod.mk.injEq] at he
              obtain ⟨rfl, rfl⟩ := he
              have r := run _ _ _ l u hev b1 b2 hle.1 (by omega)
              refine ⟨rfl, _, r, ?_⟩
              have hmul : l * sz + (cap' - l) * sz = cap' * sz := by rw [← Nat.add_mul]; congr 1; omega
              by_cases q : cap = l
              · subst q
                have hul : u - cap = 0 := by omega
                rw [if_pos rfl, hul, Nat.sub_self]
                split
                · exact .sliceE _ _ _ _ _ _ _ _ hb (by omega)
                · simp only [Option.map_some, add_at]
                  exact .sliceE _ _ _ _ _ _ _ _ hb (by omega)
              · rw [if_neg q, if_neg (by omega)]
                simp only [Option.map_some, add_at]
                rw [show of + d + l * sz = of + l * sz + d by omega]
                exact .sliceG _ _ _ _ _ _ _ _ _ hb (by omega) (by omega) (by omega)
        · obtain ⟨ccs, ty, fz, _, _, _, _, f5⟩ := hs.blk _ _ _ _ _ hb hg
          cases md with
          | rw => cases f5
          | ro => cases f5
          | gr s =>
            simp only at he
            split at he
            · cases he
            · rename_i hc
              exact absurd (Or.inr hk0) hc
      · cases he
    · cases he
  · rename_i n0 cap hv
    rw [hv] at e1
    obtain ⟨rfl, rfl, hev⟩ := e1.sliceNil_inv
    split at he
    · rename_i hb1 hb2
      simp only [if_true, Option.some.injEq, Prod.mk.injEq] at he
      obtain ⟨rfl, rfl⟩ := he
      have r := run _ _ _ 0 0 hev (bound_rel ht hl hb1) (bound_rel ht hh hb2) (Nat.le_refl _) (Nat.le_refl _)
      exact ⟨rfl, _, r, by simpa using VR.sliceNil⟩
    · cases he
  · cases he

theorem s_sliceArr (hs : Sim φ h w) (ht : AR φ tm a.tmps) {t e : TypeId} {len n : Nat} {x y : Operand} {lo hi lo' hi' : Option Operand} (hop : o.op = .slice t x lo hi none) (hu : P.underlying t = some (.array len e)) (hn : sizeT P e = some n) (hx : okO x = some y) (hl : okOO lo = some lo') (hh : okOO hi = some hi')
    (he : aop id (.sliceArr len n y lo' hi') tm h = some (v, h1)) : h1 = h ∧ Looks P φ w a o v := by
  have e1 := ev_rel ht hx
  simp only [aop] at he
  split at he
  · rename_i ad hv
    rw [hv] at e1
    obtain ⟨c, d, g, hb, hsp, hev⟩ := e1.ptr_inv
    split at he
    · rename_i cs md l u hsp' hg hb1 hb2
      have b1 := bound_rel ht hl hb1
      have b2 := bound_rel ht hh hb2
      split at he
      · rename_i hle
        obtain ⟨h1, h2, rfl, h4⟩ := hle
        obtain ⟨ccs, ty, fz, _, _, _, _, f5⟩ := hs.blk _ _ _ _ _ hb hg
        simp only at f5
        subst f5
        simp only [Option.some.injEq, Prod.mk.injEq] at he
        obtain ⟨rfl, rfl⟩ := he
        have bd := run_bounds (P := P) (w := w) (b := false) b1 b2 h1 h2
        obtain ⟨bl, of, sp⟩ := ad
        simp only at hsp hb
        subst hsp
        refine ⟨rfl, .slice (some (if len = l then ⟨c, of + d, none⟩ else (⟨c, of + d, none⟩ : Addr).add (l * n))) (u - l) (len - l), ?_, ?_⟩
        · simp [execOp, hop, hev, Instr.sliceAt, run_underlying hu, Instr.sureAddr, bd, run_sizeT hn]
        · split
          · exact .slice _ _ _ _ _ _ hb
          · simp only [add_at]
            rw [show of + d + l * n = of + l * n + d by omega]
            exact .slice _ _ _ _ _ _ hb
      · cases he
    · cases he
  · cases he

/-! ### what makes a block -/

/-- The operation makes a block B of the number id. -/
def Makes (H : Type) [Heap H] (P : Program) (φ : Emb) (w : World) (a : Act) (o : Oper) (id : Nat) (v : Value) (B : Blk) : Prop :=
  ∃ φ' w' v', (execOp a.eval o).run P w = .ok (.value v') w' ∧ Emb.le φ φ' ∧ (∀ b, φ' b ≠ none → φ b ≠ none ∨ b = id) ∧ VR φ' v v' ∧ (∀ U : H, Sim φ U w → id < next U → St φ U w φ' (put U id (some B)) w')

theorem upd_dom {x : Nat × Nat × Option (Nat × Nat)} : ∀ b, Emb.upd φ id x b ≠ none → φ b ≠ none ∨ b = id := by
  intro b hb
  by_cases e : b = id
  · exact .inr e
  · rw [Emb.upd_other _ _ e] at hb; exact .inl hb

theorem br_cells {cs cs' : Array Value} {e : TypeId} (hr : AR φ cs cs') (md : Md) (hm : ∀ s, md ≠ .gr s) : BR φ (.cells cs md) 0 none (some (.cells cs' e (0, 0))) := by
  refine ⟨cs', e, (0, 0), rfl, by rw [hr.1]; omega, fun i hi => ?_, fun _ => rfl, ?_⟩
  · obtain ⟨v', h1, h2⟩ := hr.at? (Array.getElem?_eq_getElem hi)
    exact ⟨v', by simpa using h1, h2⟩
  · cases md with
    | gr s => exact absurd rfl (hm s)
    | rw => rfl
    | ro => rfl

theorem s_alloc (hid : φ id = none) {t : TypeId} {z : Array Value} (hop : o.op = .alloc t) (hz : zc P t = some z) (he : aop id (.alloc z) tm h = some (v, h1)) : ∃ B, h1 = put h id (some B) ∧ Makes H P φ w a o id v B := by
  obtain ⟨y, hy, rfl, hr⟩ := run_zc (φ := φ) (w := w) hz
  simp only [aop, Option.some.injEq, Prod.mk.injEq] at he
  obtain ⟨rfl, rfl⟩ := he
  refine ⟨_, rfl, _, { w with heap := w.heap.push (.cells y.cells t) }, .pointer (some ⟨w.heap.size, 0, none⟩), ?_, Emb.le_upd hid (w.heap.size, 0, none), upd_dom, .ptr _ _ _ _ _ (Emb.upd_same _ _ _), fun U hU hn => St.new hU hid hn _ (.cells y.cells t) none (br_cells hr _ (by simp)) _ rfl rfl rfl rfl⟩
  simp [execOp, hop, Instr.alloc, hy, newVar, newRow]

theorem s_box (ht : AR φ tm a.tmps) (hid : φ id = none) {t : TypeId} {n : Nat} {x y : Operand} (hop : o.op = .box t x) (hx : okO x = some y) (he : aop id (.box n y) tm h = some (v, h1)) : ∃ B, h1 = put h id (some B) ∧ Makes H P φ w a o id v B := by
  simp only [aop, Option.map_eq_some_iff, Prod.mk.injEq] at he
  obtain ⟨cs, hc, rfl, rfl⟩ := he
  obtain ⟨hr, _⟩ := cells_rel (ev_rel ht hx) hc
  refine ⟨_, rfl, _, { w with heap := w.heap.push (.cells (a.eval x).cells t) }, .pointer (some ⟨w.heap.size, 0, none⟩), ?_, Emb.le_upd hid (w.heap.size, 0, none), upd_dom, .ptr _ _ _ _ _ (Emb.upd_same _ _ _), fun U hU hn => St.new hU hid hn _ (.cells (a.eval x).cells t) none (br_cells hr _ (by simp)) _ rfl rfl rfl rfl⟩
  simp [execOp, hop, Instr.box, newVar, newRow]

theorem s_makeMap (hid : φ id = none) {t : TypeId} (hop : o.op = .makeMap t none) (he : aop id .makeMap tm h = some (v, h1)) : ∃ B, h1 = put h id (some B) ∧ Makes H P φ w a o id v B := by
  simp only [aop, Option.some.injEq, Prod.mk.injEq] at he
  obtain ⟨rfl, rfl⟩ := he
  refine ⟨_, rfl, _, { w with heap := w.heap.push (.map #[] 0) }, .map (some w.heap.size), ?_, Emb.le_upd hid (w.heap.size, 0, none), upd_dom, .map _ _ (Emb.upd_same _ _ _), fun U hU hn => St.new hU hid hn (.map []) (.map #[] 0) none ⟨rfl, rfl, #[], 0, rfl, rfl, fun i hi => by simp at hi⟩ _ rfl rfl rfl rfl⟩
  simp [execOp, hop, Instr.makeMap]

theorem s_buildSlice (ht : AR φ tm a.tmps) (hid : φ id = none) {t e : TypeId} {len n : Nat} {parts : Array (Nat × Operand)} {z : Array Value} {qs : List (Nat × Nat × Operand)} (hop : o.op = .buildSlice t len parts) (hu : P.underlying t = some (.slice e)) (hn : sizeT P e = some n) (hz : zc P e = some z) (hle : len * n ≤ 2 ^ 24) (hn0 : n ≠ 0)
    (hq : elemsP n parts.toList = some qs) (he : aop id (.buildSlice ((Array.range (len * n)).map (z[· % z.size]!)) len qs) tm h = some (v, h1)) : ∃ B, h1 = put h id (some B) ∧ Makes H P φ w a o id v B := by
  simp only [aop, Option.map_eq_some_iff, Prod.mk.injEq] at he
  obtain ⟨cs, hc, rfl, rfl⟩ := he
  obtain ⟨i, y0, hi, _, _, _, hzs⟩ := zc_spec hz
  obtain ⟨y, hy, hzy, hz'⟩ := run_zc (φ := φ) (w := w) hz
  have hsz : z.size = n := by
    obtain ⟨i', h1, h2, _⟩ := sizeT_info hn
    rw [hi] at h1; cases h1
    rw [hzs, h2]
  have hz0 : AR φ ((Array.range (len * n)).map (z[· % z.size]!)) ((Array.range (len * n)).map (z[· % z.size]!)) := by
    refine ⟨rfl, fun j b1 b2 => ?_⟩
    simp only [Array.getElem_map, Array.getElem_range]
    have hj : j % z.size < z.size := Nat.mod_lt _ (by omega)
    rw [getElem!_pos z (j % z.size) hj]
    exact hz'.2 _ hj hj
  obtain ⟨l, sp⟩ := elemsP_spec _ _ hq
  obtain ⟨r', h2, h3⟩ := fill_rel (φ := φ) (place := fun i => some (i * n, n)) (qs.map fun p => (p.1, p.2.1, ev tm p.2.2)) (parts.toList.map fun (i, x) => (i, a.eval x)) _ _ cs (by simp [l]) (by
    intro i b1 b2
    obtain ⟨f1, f2, f3⟩ := sp i (by simpa using b1) (by simpa using b2)
    simp only [List.getElem_map]
    exact ⟨by rw [f1, f2], ev_rel ht f3⟩) hz0 hc
  refine ⟨_, rfl, _, { w with heap := w.heap.push (.cells r' e) }, .slice (some ⟨w.heap.size, 0, none⟩) len len, ?_, Emb.le_upd hid (w.heap.size, 0, none), upd_dom, .slice _ _ _ _ _ _ (Emb.upd_same _ _ _), fun U hU hn => St.new hU hid hn _ (.cells r' e) none (br_cells h3 _ (by simp)) _ rfl rfl rfl rfl⟩
  have e2 : (parts.map fun (i, x) => (i, a.eval x)).toList = parts.toList.map fun (i, x) => (i, a.eval x) := by simp
  have hng : ¬ len * n > 2 ^ 24 := by omega
  by_cases h0 : len * n = 0
  · have hr : (Array.range (len * n)).map ((#[] : Array Value)[· % (#[] : Array Value).size]!) = (Array.range (len * n)).map (z[· % z.size]!) := by rw [h0]; simp
    simp only [execOp, hop, Instr.buildSlice, Sem.run_bind, run_underlying hu, Result.andThen_ok, run_sizeT hn, hng, if_false, Sem.run_ite, if_pos h0, Sem.run_pure, hr, e2, h2, newRow, run_newObj]
  · rw [hzy] at h2
    simp only [execOp, hop, Instr.buildSlice, Sem.run_bind, run_underlying hu, Result.andThen_ok, run_sizeT hn, hng, if_false, Sem.run_ite, if_neg h0, hy, Sem.run_pure, e2, h2, newRow, run_newObj]

theorem s_sliceZero (hs : Sim φ h w) (ht : AR φ tm a.tmps) (hid : φ id = none) {t e : TypeId} {x y hi mx : Operand} (hop : o.op = .slice t x none (some hi) (some mx)) (h0 : isNum hi = true) (h0' : isNum mx = true) (hu : P.underlying t = some (.slice e)) (hn : ∃ n, sizeT P e = some n) (hx : okO x = some y)
    (he : aop id (.sliceZero y) tm h = some (v, h1)) : ∃ B, h1 = put h id (some B) ∧ Makes H P φ w a o id v B := by
  have e1 := ev_rel ht hx
  obtain ⟨n, hn⟩ := hn
  have num : ∀ x, isNum x = true → ∃ k, a.eval x = .int k 0 := by
    intro x hx
    cases x <;> simp [isNum] at hx
    rename_i v
    cases v <;> simp at hx
    subst hx
    exact ⟨_, rfl⟩
  obtain ⟨k1, n1⟩ := num _ h0
  obtain ⟨k2, n2⟩ := num _ h0'
  have run : ∀ b len cap, a.eval x = .slice b len cap → (execOp a.eval o).run P w = .ok (.value (.slice b 0 0)) w := by
    intro b len cap hev
    simp [execOp, hop, hev, n1, n2, Instr.sliceAt, run_underlying hu, Instr.slice, Instr.sliceBounds, Instr.sliceBound, asIntOf, run_sizeT hn]
  simp only [aop] at he
  split at he
  · rename_i ad len cap hv
    rw [hv] at e1
    split at he
    · rename_i cs md hsp hg
      split at he
      · rename_i hle
        simp only [Option.some.injEq, Prod.mk.injEq] at he
        obtain ⟨rfl, rfl⟩ := he
        have main : ∀ c d g o' cap', φ ad.block = some (c, d, g) → a.eval x = .slice (some ⟨c, o', none⟩) len cap' → (∀ ccs : Array Value, d + cs.size ≤ ccs.size → (∀ s E, g = some (s, E) → E ≤ ccs.size) → o' ≤ ccs.size) →
            ∃ B, put h id (some (Blk.cells #[] .ro)) = put h id (some B) ∧ Makes H P φ w a o id (.slice (some ⟨id, 0, none⟩) 0 0) B := by
          intro c d g o' cap' hb hev ho
          obtain ⟨ccs, ty, fz, f1, f2, _, _, f5⟩ := hs.blk _ _ _ _ _ hb hg
          have hoc : o' ≤ ccs.size := ho ccs f2 (fun s E hg' => by
            subst hg'
            cases md with
            | rw => cases f5
            | ro => cases f5
            | gr s' =>
              obtain ⟨E', q, f6⟩ := f5
              cases q
              exact f6)
          refine ⟨_, rfl, _, w, _, run _ _ _ hev, Emb.le_upd hid (c, o', none), upd_dom, ?_, fun U hU hn => St.zero hU hid hn c o' f1 hoc⟩
          have := VR.slice (φ := Emb.upd φ id (c, o', none)) id 0 c o' 0 0 (Emb.upd_same _ _ _)
          rwa [Nat.zero_add] at this
        rcases e1.slice_inv with ⟨c, d, hb, _, hev⟩ | ⟨c, d, sz, E, cap', hb, _, _, _, hE, hev⟩ | ⟨c, d, sz, E, o', cap', hb, _, hl0, hk0, hoE, hev⟩
        · exact main c d _ _ _ hb hev fun ccs q _ => by omega
        · exact main c d _ _ _ hb hev fun ccs q _ => by omega
        · subst hl0
          exact main c d _ _ _ hb hev fun ccs q qq => Nat.le_trans hoE (qq _ _ rfl)
      · cases he
    · cases he
  · rename_i n0 cap hv
    rw [hv] at e1
    obtain ⟨rfl, rfl, hev⟩ := e1.sliceNil_inv
    simp only [Option.some.injEq, Prod.mk.injEq] at he
    obtain ⟨rfl, rfl⟩ := he
    refine ⟨_, rfl, φ, w, _, run _ _ _ hev, Emb.le_refl _, fun b hb => .inl hb, .sliceNil, fun U hU hn => ?_⟩
    have old : ∀ b x, φ b = some x → b ≠ id := fun b x hb e => by rw [e, hid] at hb; cases hb
    refine ⟨Emb.le_refl _, ⟨fun b x hx => by rw [Heap.next_put]; exact hU.dom b x hx, hU.rng, fun b hb => ?_, fun b c d g B hx hg => ?_, fun b1 b2 c d1 g1 d2 g2 B1 B2 q1 q2 q3 q4 q5 => ?_⟩, ⟨rfl, rfl, rfl, Nat.le_refl _, fun _ _ _ => rfl, fun _ => keepsO.refl _⟩, fun b c d g B hx _ hg _ => ?_⟩
    · rw [Heap.next_put] at hb
      rw [Heap.get_put, if_neg (by omega)]
      exact hU.fresh b hb
    · rw [Heap.get_put, if_neg (old b _ hx)] at hg
      exact hU.blk b c d g B hx hg
    · rw [Heap.get_put, if_neg (old b1 _ q1)] at q3
      rw [Heap.get_put, if_neg (old b2 _ q2)] at q4
      exact hU.sep b1 b2 c d1 g1 d2 g2 B1 B2 q1 q2 q3 q4 q5
    · rw [Heap.get_put, if_neg (old b _ hx)] at hg
      exact ⟨b, d, g, B, hx, hg, fun q => q, fun q => q⟩
  · cases he

end
end Ab
