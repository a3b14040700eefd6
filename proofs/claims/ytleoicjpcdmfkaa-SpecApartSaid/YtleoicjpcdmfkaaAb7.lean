/-
  THE ABSTRACT MACHINE: its operations that only look are the model's.
-/
import Derived.Test.YtleoicjpcdmfkaaAb6
import Derived.Laws.Cells
set_option linter.unusedSimpArgs false
set_option linter.unusedVariables false
namespace Ab
open Go
open Heap (get put next skip)

theorem okO_eq {x y : Operand} (h : okO x = some y) : y = x := by
  cases x <;> simp [okO] at h
  · exact h.symm
  · exact h.2.symm

theorem ev_rel {φ : Emb} {tm : Array Value} {a : Act} (ht : AR φ tm a.tmps) {x y : Operand} (h : okO x = some y) : VR φ (ev tm y) (a.eval x) := by
  cases x <;> simp [okO] at h
  · subst h; exact ht.getD _
  · obtain ⟨hc, rfl⟩ := h; exact VR.closedC hc φ

theorem VR.ptr_inv {φ : Emb} {x : Addr} {v : Value} (h : VR φ (.pointer (some x)) v) : ∃ c d g, φ x.block = some (c, d, g) ∧ x.spot = none ∧ v = .pointer (some ⟨c, x.off + d, none⟩) := by
  cases h with
  | ptr b o c d g hb => exact ⟨c, d, g, hb, rfl, rfl⟩

theorem VR.int_inv {φ : Emb} {k : IntKind} {n : Int} {v : Value} (h : VR φ (.int k n) v) : v = .int k n := by cases h; rfl
theorem VR.bool_inv {φ : Emb} {b : Bool} {v : Value} (h : VR φ (.bool b) v) : v = .bool b := by cases h; rfl
theorem VR.string_inv {φ : Emb} {s : ByteArray} {v : Value} (h : VR φ (.string s) v) : v = .string s := by cases h; rfl
theorem VR.agg_inv {φ : Emb} {xs : Array Value} {v : Value} (h : VR φ (.agg xs) v) : ∃ ys, v = .agg ys ∧ AR φ xs ys := by
  cases h with
  | agg _ ys hs hr => exact ⟨ys, rfl, hs, hr⟩
theorem VR.mapNil_inv {φ : Emb} {v : Value} (h : VR φ (.map none) v) : v = .map none := by cases h; rfl
theorem VR.map_inv {φ : Emb} {r : Nat} {v : Value} (h : VR φ (.map (some r)) v) : ∃ c, φ r = some (c, 0, none) ∧ v = .map (some c) := by
  cases h with
  | map _ c hc => exact ⟨c, hc, rfl⟩
theorem VR.ptrNil_inv {φ : Emb} {v : Value} (h : VR φ (.pointer none) v) : v = .pointer none := by cases h; rfl
theorem VR.sliceNil_inv {φ : Emb} {n k : Nat} {v : Value} (h : VR φ (.slice none n k) v) : n = 0 ∧ k = 0 ∧ v = .slice none 0 0 := by cases h; exact ⟨rfl, rfl, rfl⟩

theorem VR.slice_inv {φ : Emb} {x : Addr} {n k : Nat} {v : Value} (h : VR φ (.slice (some x) n k) v) :
    (∃ c d, φ x.block = some (c, d, none) ∧ x.spot = none ∧ v = .slice (some ⟨c, x.off + d, none⟩) n k) ∨
    (∃ c d sz e k', φ x.block = some (c, d, some (sz, e)) ∧ x.spot = none ∧ 0 < k ∧ k ≤ k' ∧ x.off + d + k' * sz = e ∧ v = .slice (some ⟨c, x.off + d, none⟩) n k') ∨
    (∃ c d sz e o' k', φ x.block = some (c, d, some (sz, e)) ∧ x.spot = none ∧ n = 0 ∧ k = 0 ∧ o' ≤ e ∧ v = .slice (some ⟨c, o', none⟩) 0 k') := by
  cases h with
  | slice b o c d n' k' hb => exact .inl ⟨c, d, hb, rfl, rfl⟩
  | sliceG b o c d sz e n' k' k2 hb h1 h2 h3 => exact .inr (.inl ⟨c, d, sz, e, k2, hb, rfl, h1, h2, h3, rfl⟩)
  | sliceE b o c d sz e a' k2 hb h1 => exact .inr (.inr ⟨c, d, sz, e, a', k2, hb, rfl, rfl, rfl, h1, rfl⟩)

theorem add_at (b o n : Nat) : (⟨b, o, none⟩ : Addr).add n = ⟨b, o + n, none⟩ := by
  unfold Addr.add
  split
  · rename_i h; rw [h]; rfl
  · rfl

section
variable {H : Type} [Heap H] {P : Program} {φ : Emb} {h : H} {w : World}

theorem cell_rel (hs : Sim φ h w) {b o c d : Nat} {g : Option (Nat × Nat)} (hb : φ b = some (c, d, g)) {v : Value} (hl : loadC h ⟨b, o, none⟩ = some v) :
    ∃ v', w.cell? ⟨c, o + d, none⟩ = some v' ∧ VR φ v v' := by
  unfold loadC at hl
  simp only at hl
  split at hl
  · rename_i cs md _ hg
    obtain ⟨ccs, e, fz, h1, h2, h3, _, _⟩ := hs.blk b c d g _ hb hg
    obtain ⟨h4, rfl⟩ := Array.getElem?_eq_some_iff.1 hl
    obtain ⟨v', h5, h6⟩ := h3 o h4
    exact ⟨v', by simp [World.cell?, h1, Nat.add_comm o d, h5], h6⟩
  · cases hl

theorem loadCs_at {b o n : Nat} {cs : Array Value} (hl : loadCs h ⟨b, o, none⟩ n = some cs) : cs.size = n ∧ ∀ j, j < n → ∃ v, loadC h ⟨b, o + j, none⟩ = some v ∧ cs[j]? = some v := by
  unfold loadCs at hl
  simp only at hl
  split at hl
  · rename_i xs md _ hg
    split at hl
    · rename_i hle
      simp only [Option.some.injEq] at hl
      subst hl
      refine ⟨by simp; omega, fun j hj => ⟨xs[o + j], ?_, ?_⟩⟩
      · simp [loadC, hg, Array.getElem?_eq_getElem (show o + j < xs.size by omega)]
      · rw [Array.getElem?_extract, if_pos (by omega), Array.getElem?_eq_getElem]
    · cases hl
  · cases hl

theorem cells_run (hs : Sim φ h w) {b o c d n : Nat} {g : Option (Nat × Nat)} (hb : φ b = some (c, d, g)) {cs : Array Value} (hl : loadCs h ⟨b, o, none⟩ n = some cs) :
    ∃ cs', (loadCells ⟨c, o + d, none⟩ n).run P w = .ok cs' w ∧ AR φ cs cs' := by
  obtain ⟨h1, h2⟩ := loadCs_at hl
  have hc : ∀ j, j < n → w.cell? ((⟨c, o + d, none⟩ : Addr).add j) = some ((w.cell? ⟨c, o + d + j, none⟩).getD Go.undef) := by
    intro j hj
    obtain ⟨v, h3, _⟩ := h2 j hj
    obtain ⟨v', h4, _⟩ := cell_rel hs hb h3
    rw [add_at, show o + d + j = o + j + d by omega, h4]
    rfl
  refine ⟨_, run_loadCells w _ n (fun j => (w.cell? ⟨c, o + d + j, none⟩).getD Go.undef) hc, by simp [h1], fun i hi hi' => ?_⟩
  obtain ⟨v, h3, h5⟩ := h2 i (by omega)
  obtain ⟨v', h4, h6⟩ := cell_rel hs hb h3
  have e1 : cs[i] = v := by simpa [Array.getElem?_eq_getElem hi] using h5
  simp only [List.getElem_toArray, List.getElem_map, List.getElem_range]
  rw [e1, show o + d + i = o + i + d by omega, h4]
  exact h6

theorem run_isAggT {t : TypeId} {b : Bool} (h : isAggT P t = some b) : (isAgg t).run P w = .ok b w := by
  unfold isAggT at h
  cases hu : P.underlying t with
  | none => simp [hu] at h
  | some d => cases d <;> simp [hu] at h <;> subst h <;> simp [isAgg, run_underlying hu]

theorem run_sizeT {t : TypeId} {n : Nat} (h : sizeT P t = some n) : (Go.sizeOf t).run P w = .ok n w := by
  obtain ⟨i, h1, h2, h3⟩ := sizeT_info h
  rw [run_sizeOf w h1, h3]

/-- The operation yields a value that v stands for, and changes nothing. -/
def Looks (P : Program) (φ : Emb) (w : World) (a : Act) (o : Oper) (v : Value) : Prop := ∃ v', (execOp a.eval o).run P w = .ok (.value v') w ∧ VR φ v v'

variable {tm : Array Value} {a : Act} {o : Oper} {id : Nat} {v : Value} {h1 : H}

theorem s_mov (ht : AR φ tm a.tmps) {x y : Operand} (hop : o.op = .move x ∨ o.op = .assign x) (hx : okO x = some y) : Looks P φ w a o (ev tm y) := by
  rcases hop with hop | hop <;> exact ⟨a.eval x, by simp [execOp, hop], ev_rel ht hx⟩

theorem s_pick (ht : AR φ tm a.tmps) {c x y c' x' y' : Operand} (hop : o.op = .pick c x y) (hc : okO c = some c') (hx : okO x = some x') (hy : okO y = some y') (he : aop id (.pick c' x' y') tm h = some (v, h1)) :
    h1 = h ∧ Looks P φ w a o v := by
  have e := ev_rel ht hc
  simp only [aop] at he
  split at he
  · rename_i t hv
    rw [hv] at e
    simp only [Option.some.injEq, Prod.mk.injEq] at he
    obtain ⟨rfl, rfl⟩ := he
    refine ⟨rfl, if t then a.eval x else a.eval y, ?_, ?_⟩
    · simp [execOp, hop, e.bool_inv, asBool]
    · cases t
      · exact ev_rel ht hy
      · exact ev_rel ht hx
  · cases he

theorem s_load1 (hs : Sim φ h w) (ht : AR φ tm a.tmps) {t : TypeId} {x y : Operand} (hop : o.op = .load t x) (hg : isAggT P t = some false) (hx : okO x = some y) (he : aop id (.load1 y) tm h = some (v, h1)) :
    h1 = h ∧ Looks P φ w a o v := by
  have e := ev_rel ht hx
  simp only [aop] at he
  split at he
  · rename_i ad hv
    rw [hv] at e
    obtain ⟨c, d, g, hb, hsp, he'⟩ := e.ptr_inv
    simp only [Option.map_eq_some_iff, Prod.mk.injEq] at he
    obtain ⟨u, hl, rfl, rfl⟩ := he
    obtain ⟨b, of, sp⟩ := ad
    simp only at hsp hb he'
    subst hsp
    obtain ⟨v', h4, h6⟩ := cell_rel hs hb hl
    refine ⟨rfl, v', ?_, h6⟩
    simp [execOp, hop, he', Instr.loadAt, Instr.sureAddr, loadVar, run_isAggT hg, h4]
  · cases he

theorem s_loadN (hs : Sim φ h w) (ht : AR φ tm a.tmps) {t : TypeId} {n : Nat} {x y : Operand} (hop : o.op = .load t x) (hg : isAggT P t = some true) (hn : sizeT P t = some n) (hx : okO x = some y) (he : aop id (.loadN n y) tm h = some (v, h1)) :
    h1 = h ∧ Looks P φ w a o v := by
  have e := ev_rel ht hx
  simp only [aop] at he
  split at he
  · rename_i ad hv
    rw [hv] at e
    obtain ⟨c, d, g, hb, hsp, he'⟩ := e.ptr_inv
    simp only [Option.map_eq_some_iff, Prod.mk.injEq] at he
    obtain ⟨u, hl, rfl, rfl⟩ := he
    obtain ⟨b, of, sp⟩ := ad
    simp only at hsp hb he'
    subst hsp
    obtain ⟨cs', h4, h6⟩ := cells_run (P := P) hs hb hl
    refine ⟨rfl, .agg cs', ?_, .agg _ _ h6.1 h6.2⟩
    simp [execOp, hop, he', Instr.loadAt, Instr.sureAddr, loadVar, run_isAggT hg, run_sizeT hn, h4]
  · cases he

theorem s_nilCheck (ht : AR φ tm a.tmps) {x y : Operand} (hop : o.op = .nilCheck x) (hx : okO x = some y) (he : aop id (.nilCheck y) tm h = some (v, h1)) : h1 = h ∧ Looks P φ w a o v := by
  have e := ev_rel ht hx
  simp only [aop] at he
  split at he
  · rename_i ad hv
    rw [hv] at e
    simp only [Option.some.injEq, Prod.mk.injEq] at he
    obtain ⟨rfl, rfl⟩ := he
    obtain ⟨c, d, g, hb, hsp, he'⟩ := e.ptr_inv
    exact ⟨rfl, a.eval x, by simp [execOp, hop, he'], e⟩
  · cases he

theorem s_un (ht : AR φ tm a.tmps) {t : TypeId} {op : UnOp} {x y : Operand} (hop : o.op = .unOp op t x) (hx : okO x = some y) (he : aop id (.un op y) tm h = some (v, h1)) : h1 = h ∧ Looks P φ w a o v := by
  have e := ev_rel ht hx
  simp only [aop, Option.map_eq_some_iff, Prod.mk.injEq] at he
  obtain ⟨u, hu, rfl, rfl⟩ := he
  refine ⟨rfl, u, ?_, ?_⟩
  · generalize ev tm y = z at e hu
    cases z <;> simp [unV] at hu
    · cases op <;> simp at hu
      subst hu
      simp [execOp, hop, e.bool_inv, Op.unary]
    · cases op <;> simp at hu <;> subst hu <;> simp [execOp, hop, e.int_inv, Op.unary, Op.intArith, Op.intBits]
  · generalize ev tm y = z at hu
    cases z <;> simp [unV] at hu
    · cases op <;> simp at hu; subst hu; exact .bool _
    · cases op <;> simp at hu <;> subst hu <;> exact .int _ _

theorem s_conv (ht : AR φ tm a.tmps) {s t : TypeId} {k : IntKind} {x y : Operand} (hop : o.op = .convert s t x) (hu : P.underlying t = some (.int k)) (hsrc : ∃ d, P.underlying s = some d) (hx : okO x = some y) (he : aop id (.conv k y) tm h = some (v, h1)) : h1 = h ∧ Looks P φ w a o v := by
  have e := ev_rel ht hx
  obtain ⟨d, hd⟩ := hsrc
  simp only [aop] at he
  split at he
  · rename_i k0 n hv
    rw [hv] at e
    simp only [Option.some.injEq, Prod.mk.injEq] at he
    obtain ⟨rfl, rfl⟩ := he
    refine ⟨rfl, _, ?_, .int _ _⟩
    simp [execOp, hop, e.int_inv, convert, run_underlying hu, run_underlying hd, Conv.intToInt]
  · cases he

theorem s_fieldAddr (ht : AR φ tm a.tmps) {t : TypeId} {fs : Array Field} {f : Nat} {fd : Field} {n : Nat} {x y : Operand} (hop : o.op = .fieldAddr t x f) (hu : P.underlying t = some (.struct fs)) (hf : fs[f]? = some fd) (hn : sizeT P fd.type = some (n + 1))
    (hx : okO x = some y) (he : aop id (.fieldAddr fd.offset y) tm h = some (v, h1)) : h1 = h ∧ Looks P φ w a o v := by
  have e := ev_rel ht hx
  simp only [aop] at he
  split at he
  · rename_i ad hv
    rw [hv] at e
    obtain ⟨c, d, g, hb, hsp, he'⟩ := e.ptr_inv
    obtain ⟨b, of, sp⟩ := ad
    simp only at hsp hb he' he
    subst hsp
    simp only [Option.some.injEq, Prod.mk.injEq] at he
    obtain ⟨rfl, rfl⟩ := he
    refine ⟨rfl, .pointer (some ⟨c, of + fd.offset + d, none⟩), ?_, .ptr _ _ _ _ _ hb⟩
    simp [execOp, hop, he', Instr.fieldAt, Instr.sureAddr, run_underlying hu, hf, fieldPlace, run_sizeT hn, add_at]
    omega
  · cases he

theorem s_field1 (ht : AR φ tm a.tmps) {t : TypeId} {fs : Array Field} {f : Nat} {fd : Field} {x y : Operand} (hop : o.op = .field t x f) (hu : P.underlying t = some (.struct fs)) (hf : fs[f]? = some fd) (hg : isAggT P fd.type = some false)
    (hx : okO x = some y) (he : aop id (.field1 fd.offset y) tm h = some (v, h1)) : h1 = h ∧ Looks P φ w a o v := by
  have e := ev_rel ht hx
  simp only [aop] at he
  split at he
  · rename_i cs hv
    rw [hv] at e
    obtain ⟨ys, he', hr⟩ := e.agg_inv
    simp only [Option.map_eq_some_iff, Prod.mk.injEq] at he
    obtain ⟨u, hu', rfl, rfl⟩ := he
    obtain ⟨v', h4, h5⟩ := hr.at? hu'
    refine ⟨rfl, v', ?_, h5⟩
    simp [execOp, hop, he', Instr.field, run_underlying hu, hf, asAgg, part, run_isAggT hg, h4]
  · cases he

theorem s_fieldN (ht : AR φ tm a.tmps) {t : TypeId} {fs : Array Field} {f n : Nat} {fd : Field} {x y : Operand} (hop : o.op = .field t x f) (hu : P.underlying t = some (.struct fs)) (hf : fs[f]? = some fd) (hg : isAggT P fd.type = some true) (hn : sizeT P fd.type = some n)
    (hx : okO x = some y) (he : aop id (.fieldN fd.offset n y) tm h = some (v, h1)) : h1 = h ∧ Looks P φ w a o v := by
  have e := ev_rel ht hx
  simp only [aop] at he
  split at he
  · rename_i cs hv
    rw [hv] at e
    obtain ⟨ys, he', hr⟩ := e.agg_inv
    split at he
    · simp only [Option.some.injEq, Prod.mk.injEq] at he
      obtain ⟨rfl, rfl⟩ := he
      have hr' := hr.extract fd.offset (fd.offset + n)
      refine ⟨rfl, .agg (ys.extract fd.offset (fd.offset + n)), ?_, .agg _ _ hr'.1 hr'.2⟩
      simp [execOp, hop, he', Instr.field, run_underlying hu, hf, asAgg, part, run_isAggT hg, run_sizeT hn]
    · cases he
  · cases he

theorem natV_inv {x y : Value} {n : Nat} (hv : VR φ x y) (hn : natV x = some n) : ∃ k i, x = .int k i ∧ y = .int k i ∧ 0 ≤ i ∧ i.toNat = n := by
  cases x <;> simp [natV] at hn
  rename_i k i
  exact ⟨k, i, rfl, hv.int_inv, hn.1, hn.2⟩

theorem s_indexSl (ht : AR φ tm a.tmps) {t e : TypeId} {sz : Nat} {x y i j : Operand} (hop : o.op = .indexAddr t x i) (hu : P.underlying t = some (.slice e)) (hn : sizeT P e = some sz) (hx : okO x = some y) (hi : okO i = some j)
    (he : aop id (.indexSl sz y j) tm h = some (v, h1)) : h1 = h ∧ Looks P φ w a o v := by
  have e1 := ev_rel ht hx
  have e2 := ev_rel ht hi
  simp only [aop] at he
  split at he
  · rename_i ad n cap k hv hk
    rw [hv] at e1
    obtain ⟨q, z, f1, f2, f3, f4⟩ := natV_inv e2 hk
    obtain ⟨b, of, sp⟩ := ad
    simp only at he
    have main : ∀ c d g cap', φ b = some (c, d, g) → a.eval x = .slice (some ⟨c, of + d, none⟩) n cap' → sp = none → h1 = h ∧ Looks P φ w a o v := by
      intro c d g cap' hb hev hsp
      subst hsp
      simp only at he
      split at he
      · rename_i hlt
        simp only [Option.some.injEq, Prod.mk.injEq] at he
        obtain ⟨rfl, rfl⟩ := he
        refine ⟨rfl, .pointer (some ⟨c, of + k * sz + d, none⟩), ?_, .ptr _ _ _ _ _ hb⟩
        have hlt' : z < (n : Int) := by omega
        simp [execOp, hop, hev, f2, Instr.indexAt, asIntOf, run_underlying hu, f3, hlt', run_sizeT hn, add_at, f4]
        omega
      · cases he
    rcases e1.slice_inv with ⟨c, d, hb, hsp, hev⟩ | ⟨c, d, s, e, k', hb, hsp, _, _, _, hev⟩ | ⟨c, d, s, e, a', k', hb, hsp, h0, _, _, hev⟩
    · exact main c d _ _ hb hev hsp
    · exact main c d _ _ hb hev hsp
    · simp only at hsp
      subst hsp
      simp only at he
      split at he
      · omega
      · cases he
  · cases he

theorem s_indexArr (ht : AR φ tm a.tmps) {t e : TypeId} {len sz : Nat} {x y i j : Operand} (hop : o.op = .indexAddr t x i) (hu : P.underlying t = some (.array len e)) (hn : sizeT P e = some sz) (hx : okO x = some y) (hi : okO i = some j)
    (he : aop id (.indexArr len sz y j) tm h = some (v, h1)) : h1 = h ∧ Looks P φ w a o v := by
  have e1 := ev_rel ht hx
  have e2 := ev_rel ht hi
  simp only [aop] at he
  split at he
  · rename_i ad k hv hk
    rw [hv] at e1
    obtain ⟨q, z, f1, f2, f3, f4⟩ := natV_inv e2 hk
    obtain ⟨c, d, g, hb, hsp, hev⟩ := e1.ptr_inv
    obtain ⟨b, of, sp⟩ := ad
    simp only at hsp hb hev he
    subst hsp
    simp only at he
    split at he
    · rename_i hlt
      simp only [Option.some.injEq, Prod.mk.injEq] at he
      obtain ⟨rfl, rfl⟩ := he
      refine ⟨rfl, .pointer (some ⟨c, of + k * sz + d, none⟩), ?_, .ptr _ _ _ _ _ hb⟩
      have hlt' : z < (len : Int) := by omega
      simp [execOp, hop, hev, f2, Instr.indexAt, Instr.sureAddr, asIntOf, run_underlying hu, f3, hlt', run_sizeT hn, add_at, f4]
      omega
    · cases he
  · cases he

theorem s_extract (ht : AR φ tm a.tmps) {x y : Operand} {i : Nat} (hop : o.op = .extract x i) (hx : okO x = some y) (he : aop id (.extract y i) tm h = some (v, h1)) : h1 = h ∧ Looks P φ w a o v := by
  have e := ev_rel ht hx
  simp only [aop] at he
  split at he
  · rename_i vs hv
    rw [hv] at e
    split at he
    · rename_i hne
      simp only [Option.map_eq_some_iff, Prod.mk.injEq] at he
      obtain ⟨u, hu, rfl, rfl⟩ := he
      generalize hz : Value.tuple vs = z at e
      generalize hy : a.eval x = z' at e
      cases e <;> simp [junk] at hz
      case junk => subst hz; simp at hne
      case tuple xs ys hs hr =>
        subst hz
        obtain ⟨v', h4, h5⟩ := AR.at? ⟨hs, hr⟩ hu
        refine ⟨rfl, v', ?_, h5⟩
        simp [execOp, hop, hy, Instr.extract, h4]
    · cases he
  · cases he

end
end Ab
