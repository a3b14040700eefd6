/-
  THE ABSTRACT MACHINE: structs built, maps looked into, slices cut; what makes a block.
-/
import Derived.Test.YtleoicjpcdmfkaaAb8
set_option linter.unusedSimpArgs false
set_option linter.unusedVariables false
namespace Ab
open Go
open Heap (get put next skip)

section
variable {H : Type} [Heap H] {P : Program} {φ : Emb} {h : H} {w : World} {tm : Array Value} {a : Act} {o : Oper} {id : Nat} {v : Value} {h1 : H}

theorem s_eqv (hs : Sim φ h w) (ht : AR φ tm a.tmps) {t t' : TypeId} {op : BinOp} {k : EqK} {x y x' y' : Operand} (hop : o.op = .binOp op t x y t') (ho : op = .eql ∨ op = .neq) (hx : okO x = some x') (hy : okO y = some y')
    (hk : (k = .bool ∧ P.underlying t = some .bool) ∨ (k = .str) ∨ (k = .ptr ∧ ∃ e n, P.underlying t = some (.pointer e) ∧ sizeT P e = some (n + 1)) ∨
      (k = .nilSlice ∧ ∃ e, P.underlying t = some (.slice e)) ∨ (k = .nilMap ∧ ∃ e f, P.underlying t = some (.map e f)) ∨ (k = .nilFunc ∧ ∃ e f g, P.underlying t = some (.func e f g)) ∨
      (∃ ks, k = .agg ks ∧ ((∃ fs, P.underlying t = some (.struct fs)) ∨ ∃ n e, P.underlying t = some (.array n e)) ∧ lks P 50 t = some ks ∧ P.eqGuardType P.depth t = false))
    (he : aop id (.eqv (op == .neq) k x' y') tm h = some (v, h1)) : h1 = h ∧ Looks P φ w a o v := by
  have e1 := ev_rel ht hx
  have e2 := ev_rel ht hy
  simp only [aop, Option.map_eq_some_iff, Prod.mk.injEq] at he
  obtain ⟨r, hr, rfl, rfl⟩ := he
  refine ⟨rfl, _, ?_, .bool _⟩
  have := eqH_run (P := P) (x := x) (y := y) hs hr e1 e2 ho hk
  simp only [execOp, hop]
  simp only [Sem.run_bind] at this ⊢
  rw [this]
  rfl

/-! parts -/

theorem setAll_rel {φ : Emb} : ∀ (xs ys : List Value) (cs cs' : Array Value) (off : Nat), AR φ cs cs' → AR φ xs.toArray ys.toArray →
    AR φ (setAll cs off xs) ((ys.zipIdx).foldl (fun cs (c, j) => cs.setIfInBounds (off + j) c) cs')
  | [], ys, cs, cs', off, h, hl => by
    have : ys = [] := List.length_eq_zero_iff.1 (by simpa using hl.1.symm)
    subst this
    simpa [setAll] using h
  | x :: xs, [], cs, cs', off, h, hl => by simp [AR] at hl
  | x :: xs, y :: ys, cs, cs', off, h, hl => by
    have h0 : VR φ x y := by simpa using hl.2 0 (by simp) (by simp)
    have h1 : AR φ xs.toArray ys.toArray := ⟨by simpa using hl.1, fun i a b => by have := hl.2 (i + 1) (by simpa using a) (by simpa using b); simpa only [List.getElem_toArray, List.getElem_cons_succ] using this⟩
    have ih := setAll_rel xs ys (cs.setIfInBounds off x) (cs'.setIfInBounds off y) (off + 1) (h.set off h0) h1
    have e : ∀ (l : List Value) (k : Nat) (z : Array Value), (l.zipIdx (k + 1)).foldl (fun cs (c, j) => cs.setIfInBounds (off + j) c) z = (l.zipIdx k).foldl (fun cs (c, j) => cs.setIfInBounds (off + 1 + j) c) z := by
      intro l
      induction l with
      | nil => intro k z; rfl
      | cons q l ih => intro k z; simp only [List.zipIdx_cons, List.foldl_cons]; rw [ih, show off + (k + 1) = off + 1 + k by omega]
    simp only [setAll, List.zipIdx_cons, List.foldl_cons, Nat.add_zero, Nat.zero_add]
    rw [show (1 : Nat) = 0 + 1 from rfl, e]
    exact ih

theorem setAll_size (cs : Array Value) (off : Nat) (xs : List Value) : (setAll cs off xs).size = cs.size := by
  induction xs generalizing cs off with
  | nil => rfl
  | cons x xs ih => simp [setAll, ih]

theorem fill_rel {place : Nat → Option (Nat × Nat)} : ∀ (ps : List (Nat × Nat × Value)) (qs : List (Nat × Value)) (cs cs' : Array Value) (r : Array Value), ps.length = qs.length →
    (∀ i (h1 : i < ps.length) (h2 : i < qs.length), place qs[i].1 = some (ps[i].1, ps[i].2.1) ∧ VR φ ps[i].2.2 qs[i].2) → AR φ cs cs' → fillV cs ps = some r → ∃ r', Instr.fill place cs' qs = some r' ∧ AR φ r r'
  | [], [], cs, cs', r, _, _, hc, hf => by
    simp only [fillV, Option.some.injEq] at hf
    subst hf
    exact ⟨cs', rfl, hc⟩
  | (off, n, x) :: ps, (i, y) :: qs, cs, cs', r, hl, hp, hc, hf => by
    have h0 := hp 0 (by simp) (by simp)
    simp only [List.getElem_cons_zero] at h0
    unfold fillV at hf
    split at hf
    · rename_i xs hx
      obtain ⟨c1, c2⟩ := cells_rel h0.2 hx
      split at hf
      · rename_i hle
        have ih := fill_rel ps qs (setAll cs off xs.toList) (y.cells.zipIdx.foldl (fun cs (c, j) => cs.setIfInBounds (off + j) c) cs') r (by simpa using hl)
          (fun i a b => hp (i + 1) (by simpa using a) (by simpa using b)) (by
            have := setAll_rel xs.toList y.cells.toList cs cs' off hc (by simpa using c1)
            have e : (y.cells.zipIdx.foldl (fun cs (c, j) => cs.setIfInBounds (off + j) c) cs') = y.cells.toList.zipIdx.foldl (fun cs (c, j) => cs.setIfInBounds (off + j) c) cs' := by
              rw [← Array.foldl_toList, Array.toList_zipIdx]
            rw [e]; exact this) hf
        obtain ⟨r', h2, h3⟩ := ih
        refine ⟨r', ?_, h3⟩
        unfold Instr.fill
        simp only [h0.1]
        have s1 := c1.1
        have s2 := hc.1
        rw [if_neg (by simp; omega)]
        exact h2
      · cases hf
    · cases hf
  | [], _ :: _, _, _, _, hl, _, _, _ => by simp at hl
  | _ :: _, [], _, _, _, hl, _, _, _ => by simp at hl

theorem fieldsP_spec {fs : Array Field} : ∀ (ps : List (Nat × Operand)) (qs : List (Nat × Nat × Operand)), fieldsP P fs ps = some qs → ps.length = qs.length ∧
    ∀ i (h1 : i < qs.length) (h2 : i < ps.length), ∃ f, fs[ps[i].1]? = some f ∧ sizeT P f.type = some qs[i].2.1 ∧ f.offset = qs[i].1 ∧ okO ps[i].2 = some qs[i].2.2
  | [], qs, h => by simp [fieldsP] at h; subst h; exact ⟨rfl, fun i h1 => by simp at h1⟩
  | (j, x) :: ps, qs, h => by
    unfold fieldsP at h
    split at h
    · rename_i f x' r hf hx hr
      split at h
      · rename_i n hn
        simp only [Option.some.injEq] at h
        subst h
        obtain ⟨l, ih⟩ := fieldsP_spec ps r hr
        refine ⟨by simp [l], fun i h1 h2 => ?_⟩
        cases i with
        | zero => exact ⟨f, hf, hn, rfl, hx⟩
        | succ i => exact ih i (by simpa using h1) (by simpa using h2)
      · cases h
    · cases h

theorem elemsP_spec {n : Nat} : ∀ (ps : List (Nat × Operand)) (qs : List (Nat × Nat × Operand)), elemsP n ps = some qs → ps.length = qs.length ∧
    ∀ i (h1 : i < qs.length) (h2 : i < ps.length), qs[i].1 = ps[i].1 * n ∧ qs[i].2.1 = n ∧ okO ps[i].2 = some qs[i].2.2
  | [], qs, h => by simp [elemsP] at h; subst h; exact ⟨rfl, fun i h1 => by simp at h1⟩
  | (j, x) :: ps, qs, h => by
    unfold elemsP at h
    split at h
    · rename_i x' r hx hr
      simp only [Option.some.injEq] at h
      subst h
      obtain ⟨l, ih⟩ := elemsP_spec ps r hr
      refine ⟨by simp [l], fun i h1 h2 => ?_⟩
      cases i with
      | zero => exact ⟨rfl, rfl, hx⟩
      | succ i => exact ih i (by simpa using h1) (by simpa using h2)
    · cases h

theorem zc_spec {t : TypeId} {z : Array Value} (h : zc P t = some z) : ∃ i y, P.info? t = some i ∧ i.zero = some y ∧ closedC y = true ∧ z = y.cells ∧ z.size = i.size := by
  unfold zc at h
  split at h
  · rename_i i hi
    split at h
    · rename_i y hy
      split at h
      · rename_i hc
        simp only [Option.some.injEq] at h
        exact ⟨i, y, hi, hy, hc.1, h.symm, h ▸ hc.2⟩
      · cases h
    · cases h
  · cases h

theorem run_zc {t : TypeId} {z : Array Value} (h : zc P t = some z) : ∃ y, (zeroValue t).run P w = .ok y w ∧ z = y.cells ∧ AR φ z z := by
  obtain ⟨i, y, h1, h2, h3, rfl, _⟩ := zc_spec h
  exact ⟨y, by simp [zeroValue, typeInfo, h1, h2], rfl, AR.closed h3 φ⟩

theorem run_zv {t : TypeId} {z : Value} (h : zv P t = some z) : (zeroValue t).run P w = .ok z w ∧ VR φ z z := by
  unfold zv at h
  split at h
  · rename_i i hi
    split at h
    · rename_i y hy
      split at h
      · rename_i hc
        simp only [Option.some.injEq] at h
        subst h
        exact ⟨by simp [zeroValue, typeInfo, hi, hy], VR.closedC hc φ⟩
      · cases h
    · cases h
  · cases h

theorem run_places (fs : List Field) (hf : ∀ f ∈ fs, (P.info? f.type).isSome = true) : (fs.mapM (fun f => (do pure (f.offset, ← Go.sizeOf f.type) : Sem (Nat × Nat)))).run P w = .ok (fs.map fun f => (f.offset, P.cellsOf f.type)) w := by
  induction fs with
  | nil => simp
  | cons f fs ih =>
    obtain ⟨i, hi⟩ := Option.isSome_iff_exists.1 (hf f (by simp))
    simp only [List.mapM_cons, Sem.run_bind, run_sizeOf w hi, Result.andThen_ok, Sem.run_pure, ih fun g hg => hf g (by simp [hg]), List.map_cons]

theorem s_buildS (ht : AR φ tm a.tmps) {t : TypeId} {parts : Array (Nat × Operand)} {fs : Array Field} {z : Array Value} {qs : List (Nat × Nat × Operand)} (hop : o.op = .build t parts) (hz : zc P t = some z) (hu : P.underlying t = some (.struct fs)) (hall : fs.all (fun f => (P.info? f.type).isSome) = true)
    (hq : fieldsP P fs parts.toList = some qs) (he : aop id (.build z qs) tm h = some (v, h1)) : h1 = h ∧ Looks P φ w a o v := by
  simp only [aop, Option.map_eq_some_iff, Prod.mk.injEq] at he
  obtain ⟨cs, hc, rfl, rfl⟩ := he
  obtain ⟨y, hy, rfl, hz'⟩ := run_zc (φ := φ) (w := w) hz
  obtain ⟨l, sp⟩ := fieldsP_spec _ _ hq
  obtain ⟨r', h2, h3⟩ := fill_rel (φ := φ) (place := fun i => ((fs.toList.map fun f => (f.offset, P.cellsOf f.type)).toArray)[i]?) (qs.map fun p => (p.1, p.2.1, ev tm p.2.2)) (parts.toList.map fun (i, x) => (i, a.eval x)) _ _ cs (by simp [l]) (by
    intro i b1 b2
    obtain ⟨f, f1, f2, f3, f4⟩ := sp i (by simpa using b1) (by simpa using b2)
    obtain ⟨_, _, _, f5⟩ := sizeT_info f2
    simp only [List.getElem_map]
    refine ⟨?_, ev_rel ht f4⟩
    simp only [List.getElem?_toArray, List.getElem?_map, Array.getElem?_toList, f1, Option.map_some, f3, f5]) hz' hc
  refine ⟨rfl, .agg r', ?_, .agg _ _ h3.1 h3.2⟩
  have hp := run_places (P := P) (w := w) fs.toList (fun f hf => (Array.all_eq_true_iff_forall_mem.1 hall) f (Array.mem_toList_iff.1 hf))
  have e1 : (fs.mapM (fun f => (do pure (f.offset, ← Go.sizeOf f.type) : Sem (Nat × Nat)))).run P w = .ok ((fs.toList.map fun f => (f.offset, P.cellsOf f.type)).toArray) w := by
    rw [Array.mapM_eq_mapM_toList]
    simp only [Sem.run_map, hp, Result.andThen_ok]
  have e2 : (parts.map fun (i, x) => (i, a.eval x)).toList = parts.toList.map fun (i, x) => (i, a.eval x) := by simp
  simp only [execOp, hop, Instr.build, Sem.run_bind, hy, Result.andThen_ok, run_underlying hu, e1, e2, h2, Sem.run_pure]

theorem s_buildA (ht : AR φ tm a.tmps) {t e : TypeId} {len n : Nat} {parts : Array (Nat × Operand)} {z : Array Value} {qs : List (Nat × Nat × Operand)} (hop : o.op = .build t parts) (hz : zc P t = some z) (hu : P.underlying t = some (.array len e)) (hn : sizeT P e = some n)
    (hq : elemsP n parts.toList = some qs) (he : aop id (.build z qs) tm h = some (v, h1)) : h1 = h ∧ Looks P φ w a o v := by
  simp only [aop, Option.map_eq_some_iff, Prod.mk.injEq] at he
  obtain ⟨cs, hc, rfl, rfl⟩ := he
  obtain ⟨y, hy, rfl, hz'⟩ := run_zc (φ := φ) (w := w) hz
  obtain ⟨l, sp⟩ := elemsP_spec _ _ hq
  obtain ⟨r', h2, h3⟩ := fill_rel (φ := φ) (place := fun i => some (i * n, n)) (qs.map fun p => (p.1, p.2.1, ev tm p.2.2)) (parts.toList.map fun (i, x) => (i, a.eval x)) _ _ cs (by simp [l]) (by
    intro i b1 b2
    obtain ⟨f1, f2, f3⟩ := sp i (by simpa using b1) (by simpa using b2)
    simp only [List.getElem_map]
    exact ⟨by rw [f1, f2], ev_rel ht f3⟩) hz' hc
  refine ⟨rfl, .agg r', ?_, .agg _ _ h3.1 h3.2⟩
  have e2 : (parts.map fun (i, x) => (i, a.eval x)).toList = parts.toList.map fun (i, x) => (i, a.eval x) := by simp
  simp only [execOp, hop, Instr.build, Sem.run_bind, hy, Result.andThen_ok, run_underlying hu, run_sizeT hn, e2, h2, Sem.run_pure]

/-! maps -/

theorem map_rel (hs : Sim φ h w) {r c : Nat} (hb : φ r = some (c, 0, none)) {es : List (Value × Value)} (hg : get h r = some (.map es)) :
    ∃ ents clk, w.heap[c]? = some (.map ents clk) ∧ ents.size = es.length ∧ ∀ i (h1 : i < es.length) (h2 : i < ents.size), VR φ es[i].1 ents[i].key ∧ VR φ es[i].2 ents[i].val := by
  obtain ⟨_, _, ents, clk, h1, h2, h3⟩ := hs.blk _ _ _ _ _ hb hg
  exact ⟨ents, clk, h1, h2, h3⟩

theorem found (hs : Sim φ h w) {kt : TypeId} {kk : KeyK} (hk : keyK P kt = some kk) {k : Value} (hkk : kk.is k = true) {es : List (Value × Value)} {ents : Array MapEntry} (hl : ents.size = es.length)
    (hr : ∀ i (h1 : i < es.length) (h2 : i < ents.size), VR φ es[i].1 ents[i].key ∧ VR φ es[i].2 ents[i].val) :
    (NoneAt k es → (Instr.findKey kt k ents.toList).run P w = .ok none w) ∧ (∀ j, FirstAt k es j → ∀ e, ents[j]? = some e → (Instr.findKey kt k ents.toList).run P w = .ok (some (j, e.val)) w) := by
  have := run_findKey (P := P) hk hkk w es ents.toList (by simp [hl]) (fun i b1 b2 r hq => by
    have := (hr i b1 (by simpa using b2)).1
    have := keyEq_rel hq this
    simpa using this)
  exact ⟨this.1, fun j hj e he => this.2 j hj e (by simpa using he)⟩

theorem s_lookup (hs : Sim φ h w) (ht : AR φ tm a.tmps) {t kt et : TypeId} {ok : Bool} {kk : KeyK} {z : Value} {x y x' y' : Operand} (hop : o.op = .lookup t x y ok) (hu : P.underlying t = some (.map kt et)) (hk : keyK P kt = some kk) (hz : zv P et = some z) (hx : okO x = some x') (hy : okO y = some y')
    (he : aop id (.lookup kk z ok x' y') tm h = some (v, h1)) : h1 = h ∧ Looks P φ w a o v := by
  have e1 := ev_rel ht hx
  have e2 := ev_rel ht hy
  obtain ⟨z1, z2⟩ := run_zv (φ := φ) (w := w) hz
  simp only [aop] at he
  have tup : ∀ (u u' : Value) (b : Bool), VR φ u u' → VR φ (if ok = true then .tuple #[u, .bool b] else u) (if ok = true then .tuple #[u', .bool b] else u') := by
    intro u u' b hv
    cases ok
    · simpa using hv
    · simp only [if_true]
      refine .tuple _ _ rfl fun i h1 h2 => ?_
      match i, h1 with
      | 0, _ => simpa using hv
      | 1, _ => simpa using VR.bool b
  split at he
  · rename_i hv
    rw [hv] at e1
    have f1 := e1.mapNil_inv
    split at he
    · rename_i hkk
      simp only [Option.some.injEq, Prod.mk.injEq] at he
      obtain ⟨rfl, rfl⟩ := he
      have f2 := KeyK.is_rel hkk e2
      refine ⟨rfl, _, ?_, tup _ _ false z2⟩
      have ck := run_checkKey (P := P) hk hkk true w
      have fk : (Instr.findKey kt (ev tm y') []).run P w = .ok none w := (found (P := P) (es := []) (ents := #[]) hs hk hkk rfl (fun i h1 => by simp at h1)).1 (fun i x u hx => by simp at hx)
      simp [execOp, hop, f1, f2, Instr.lookup, run_underlying hu, ck, fk, z1]
    · cases he
  · rename_i r hv
    rw [hv] at e1
    obtain ⟨c, hb, f1⟩ := e1.map_inv
    split at he
    · rename_i es hg
      obtain ⟨ents, clk, m1, m2, m3⟩ := map_rel hs hb hg
      split at he
      · rename_i hkk
        have f2 := KeyK.is_rel hkk e2
        have ck := run_checkKey (P := P) hk hkk ents.isEmpty w
        have fd := found (P := P) hs hk hkk m2 m3
        have go := MapKept.run_getObj_map (P := P) m1
        split at he
        · rename_i u hfm
          simp only [Option.some.injEq, Prod.mk.injEq] at he
          obtain ⟨rfl, rfl⟩ := he
          rcases findM_spec hfm with ⟨h2, _⟩ | ⟨j, u2, h2, h3, h4⟩
          · cases h2
          · cases h2
            obtain ⟨h5, h6⟩ := List.getElem?_eq_some_iff.1 h4
            have h7 : j < ents.size := by omega
            have fk := fd.2 j h3 ents[j] (Array.getElem?_eq_getElem h7)
            have := (m3 j h5 h7).2
            rw [h6] at this
            refine ⟨rfl, _, ?_, tup _ _ true this⟩
            simp [execOp, hop, f1, f2, Instr.lookup, run_underlying hu, go, ck, fk]
        · rename_i hfm
          simp only [Option.some.injEq, Prod.mk.injEq] at he
          obtain ⟨rfl, rfl⟩ := he
          rcases findM_spec hfm with ⟨_, h2⟩ | ⟨j, u2, h2, _⟩
          · have fk := fd.1 h2
            refine ⟨rfl, _, ?_, tup _ _ false z2⟩
            simp [execOp, hop, f1, f2, Instr.lookup, run_underlying hu, go, ck, fk, z1]
          · cases h2
        · cases he
      · cases he
    · cases he
  · cases he

theorem s_lenS (ht : AR φ tm a.tmps) {c : Call} {t e : TypeId} {x y : Operand} (hop : o.op = .call c) (hc : c.callee = .builtin .len) (ha : c.args = #[x]) (hat : c.argTypes[0]? = some t) (hu : P.underlying t = some (.slice e)) (hx : okO x = some y)
    {n : Nat} {b : Option Addr} {k : Nat} (hv : ev tm y = .slice b n k) : Looks P φ w a o (.int .i64 n) := by
  have e1 := ev_rel ht hx
  rw [hv] at e1
  have : ∃ b' k', a.eval x = .slice b' n k' := by
    cases b with
    | none => obtain ⟨rfl, rfl, e⟩ := e1.sliceNil_inv; exact ⟨_, _, e⟩
    | some b => rcases e1.slice_inv with ⟨_, _, _, _, e2⟩ | ⟨_, _, _, _, _, _, _, _, _, _, e2⟩ | ⟨_, _, _, _, _, _, _, _, rfl, rfl, _, e2⟩ <;> exact ⟨_, _, e2⟩
  obtain ⟨b', k', e2⟩ := this
  refine ⟨.int .i64 n, ?_, .int _ _⟩
  simp [execOp, hop, resolve, hc, ha, invoke, builtin, Builtin.len_, hat, run_underlying hu, e2, goInt]

theorem s_lenM (hs : Sim φ h w) (ht : AR φ tm a.tmps) {c : Call} {t e f : TypeId} {x y : Operand} (hop : o.op = .call c) (hc : c.callee = .builtin .len) (ha : c.args = #[x]) (hat : c.argTypes[0]? = some t) (hu : P.underlying t = some (.map e f)) (hx : okO x = some y)
    {m : Option Nat} (hv : ev tm y = .map m) {n : Nat} (hn : (m = none ∧ n = 0) ∨ ∃ r es, m = some r ∧ get h r = some (.map es) ∧ n = es.length) : Looks P φ w a o (.int .i64 n) := by
  have e1 := ev_rel ht hx
  rw [hv] at e1
  refine ⟨.int .i64 n, ?_, .int _ _⟩
  rcases hn with ⟨rfl, rfl⟩ | ⟨r, es, rfl, hg, rfl⟩
  · have e2 := e1.mapNil_inv
    simp [execOp, hop, resolve, hc, ha, invoke, builtin, Builtin.len_, hat, run_underlying hu, e2, goInt]
  · obtain ⟨c', hb, e2⟩ := e1.map_inv
    obtain ⟨ents, clk, m1, m2, _⟩ := map_rel hs hb hg
    have go := MapKept.run_getObj_map (P := P) m1
    simp [execOp, hop, resolve, hc, ha, invoke, builtin, Builtin.len_, hat, run_underlying hu, e2, goInt, go, m2]

end
end Ab
