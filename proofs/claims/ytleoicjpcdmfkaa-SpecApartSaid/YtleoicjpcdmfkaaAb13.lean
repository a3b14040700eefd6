/-
  THE ABSTRACT MACHINE: each operation of a translation is the model's.
-/
import Derived.Test.YtleoicjpcdmfkaaAb12
set_option linter.unusedSimpArgs false
set_option linter.unusedVariables false
namespace Ab
open Go
open Heap (get put next skip)

inductive COp (P : Program) (o : Oper) : AOp → Prop
  | mov (x y) : (o.op = .move x ∨ o.op = .assign x) → okO x = some y → COp P o (.mov y)
  | pick (c x y c' x' y') : o.op = .pick c x y → okO c = some c' → okO x = some x' → okO y = some y' → COp P o (.pick c' x' y')
  | alloc (t z) : o.op = .alloc t → zc P t = some z → COp P o (.alloc z)
  | box (t n x y) : o.op = .box t x → sizeT P t = some n → okO x = some y → COp P o (.box n y)
  | buildS (t parts fs z qs) : o.op = .build t parts → zc P t = some z → P.underlying t = some (.struct fs) → fs.all (fun f => (P.info? f.type).isSome) = true → fieldsP P fs parts.toList = some qs → COp P o (.build z qs)
  | buildA (t parts len e n z qs) : o.op = .build t parts → zc P t = some z → P.underlying t = some (.array len e) → sizeT P e = some n → elemsP n parts.toList = some qs → COp P o (.build z qs)
  | buildSlice (t len parts e n z qs) : o.op = .buildSlice t len parts → P.underlying t = some (.slice e) → sizeT P e = some n → zc P e = some z → len * n ≤ 2 ^ 24 → n ≠ 0 → elemsP n parts.toList = some qs →
      COp P o (.buildSlice ((Array.range (len * n)).map (z[· % z.size]!)) len qs)
  | loadN (t x n y) : o.op = .load t x → isAggT P t = some true → sizeT P t = some n → okO x = some y → COp P o (.loadN n y)
  | load1 (t x y) : o.op = .load t x → isAggT P t = some false → okO x = some y → COp P o (.load1 y)
  | store (t x y n x' y') : o.op = .store t x y → sizeT P t = some n → okO x = some x' → okO y = some y' → COp P o (.store n x' y')
  | nilCheck (x y) : o.op = .nilCheck x → okO x = some y → COp P o (.nilCheck y)
  | bin (op t x y t' x' y') : o.op = .binOp op t x y t' → okO x = some x' → okO y = some y' → COp P o (.bin op x' y')
  | eqv (op t x y t' x' y' k) : o.op = .binOp op t x y t' → (op = .eql ∨ op = .neq) → okO x = some x' → okO y = some y' →
      ((k = .bool ∧ P.underlying t = some .bool) ∨ (k = .str) ∨ (k = .ptr ∧ ∃ e n, P.underlying t = some (.pointer e) ∧ sizeT P e = some (n + 1)) ∨
        (k = .nilSlice ∧ ∃ e, P.underlying t = some (.slice e)) ∨ (k = .nilMap ∧ ∃ e f, P.underlying t = some (.map e f)) ∨ (k = .nilFunc ∧ ∃ e f g, P.underlying t = some (.func e f g)) ∨
        (∃ ks, k = .agg ks ∧ ((∃ fs, P.underlying t = some (.struct fs)) ∨ ∃ n e, P.underlying t = some (.array n e)) ∧ lks P 50 t = some ks ∧ P.eqGuardType P.depth t = false)) → COp P o (.eqv (op == .neq) k x' y')
  | un (op t x y) : o.op = .unOp op t x → okO x = some y → COp P o (.un op y)
  | conv (s t k x y) : o.op = .convert s t x → P.underlying t = some (.int k) → (∃ d, P.underlying s = some d) → okO x = some y → COp P o (.conv k y)
  | makeMap (t) : o.op = .makeMap t none → COp P o .makeMap
  | slice (t x lo hi e n y lo' hi') : o.op = .slice t x lo hi none → P.underlying t = some (.slice e) → sizeT P e = some n → okO x = some y → okOO lo = some lo' → okOO hi = some hi' → COp P o (.slice n y lo' hi')
  | sliceArr (t x lo hi len e n y lo' hi') : o.op = .slice t x lo hi none → P.underlying t = some (.array len e) → sizeT P e = some n → okO x = some y → okOO lo = some lo' → okOO hi = some hi' → COp P o (.sliceArr len n y lo' hi')
  | sliceZero (t x hi mx e y) : o.op = .slice t x none (some hi) (some mx) → isNum hi = true → isNum mx = true → P.underlying t = some (.slice e) → (∃ n, sizeT P e = some n) → okO x = some y → COp P o (.sliceZero y)
  | fieldAddr (t x f fs fd n y) : o.op = .fieldAddr t x f → P.underlying t = some (.struct fs) → fs[f]? = some fd → sizeT P fd.type = some (n + 1) → okO x = some y → COp P o (.fieldAddr fd.offset y)
  | field1 (t x f fs fd y) : o.op = .field t x f → P.underlying t = some (.struct fs) → fs[f]? = some fd → isAggT P fd.type = some false → okO x = some y → COp P o (.field1 fd.offset y)
  | fieldN (t x f fs fd n y) : o.op = .field t x f → P.underlying t = some (.struct fs) → fs[f]? = some fd → isAggT P fd.type = some true → sizeT P fd.type = some n → okO x = some y → COp P o (.fieldN fd.offset n y)
  | indexSl (t x i e sz x' i') : o.op = .indexAddr t x i → P.underlying t = some (.slice e) → sizeT P e = some sz → okO x = some x' → okO i = some i' → COp P o (.indexSl sz x' i')
  | indexArr (t x i len e sz x' i') : o.op = .indexAddr t x i → P.underlying t = some (.array len e) → sizeT P e = some sz → okO x = some x' → okO i = some i' → COp P o (.indexArr len sz x' i')
  | lookup (t x k ok kt et kk z x' k') : o.op = .lookup t x k ok → P.underlying t = some (.map kt et) → keyK P kt = some kk → zv P et = some z → okO x = some x' → okO k = some k' → COp P o (.lookup kk z ok x' k')
  | mapUpdate (t m k v kt et kk m' k' v') : o.op = .mapUpdate t m k v → P.underlying t = some (.map kt et) → keyK P kt = some kk → okO m = some m' → okO k = some k' → okO v = some v' → COp P o (.mapUpdate kk m' k' v')
  | extract (x i y) : o.op = .extract x i → okO x = some y → COp P o (.extract y i)
  | call (c f as fn) : o.op = .call c → c.callee = .value (.func f) → okOs c.args.toList = some as → P.funcs[f]? = some fn → fn.body.isSome = true → (fn.name == "runtime.NumGoroutine") = false → COp P o (.call f as.toArray)
  | lenS (c t e x y) : o.op = .call c → c.callee = .builtin .len → c.args = #[x] → c.argTypes[0]? = some t → P.underlying t = some (.slice e) → okO x = some y → COp P o (.lenS y)
  | lenM (c t e f x y) : o.op = .call c → c.callee = .builtin .len → c.args = #[x] → c.argTypes[0]? = some t → P.underlying t = some (.map e f) → okO x = some y → COp P o (.lenM y)
  | append (c sT xT e i z x y x' y') : o.op = .call c → c.callee = .builtin .append → c.args = #[x, y] → c.argTypes[0]? = some sT → c.argTypes[1]? = some xT → P.underlying sT = some (.slice e) → (∃ f, P.underlying xT = some (.slice f)) → P.info? e = some i → zc P e = some z →
      i.size ≠ 0 → i.bytes ≠ 0 → i.bytes ≤ 2 ^ 20 → okO x = some x' → okO y = some y' → COp P o (.append i.size i.bytes z x' y')
  | copy (c dT e n x y x' y') : o.op = .call c → c.callee = .builtin .copy → c.args = #[x, y] → c.argTypes[0]? = some dT → P.underlying dT = some (.slice e) → sizeT P e = some n → okO x = some x' → okO y = some y' → COp P o (.copy n x' y')
  | delete (c t kt et kk x y x' y') : o.op = .call c → c.callee = .builtin .delete → c.args = #[x, y] → c.argTypes[0]? = some t → P.underlying t = some (.map kt et) → keyK P kt = some kk → okO x = some x' → okO y = some y' → COp P o (.delete kk x' y')

theorem arr1 {α : Type} {as : Array α} {x : α} (h : as.toList = [x]) : as = #[x] := by rw [← Array.toArray_toList (xs := as), h]
theorem arr2 {α : Type} {as : Array α} {x y : α} (h : as.toList = [x, y]) : as = #[x, y] := by rw [← Array.toArray_toList (xs := as), h]

theorem bind_under {P : Program} {o : Option TypeId} {d : TypeDesc} (h : o.bind P.underlying = some d) : ∃ t, o = some t ∧ P.underlying t = some d := by
  cases o with
  | none => simp at h
  | some t => exact ⟨t, rfl, h⟩

theorem cop_inv {P : Program} {o : Oper} {ao : AOp} (h : cop P o = some ao) : COp P o ao := by
  unfold cop at h
  split at h
  case h_1 x hop => simp only [Option.map_eq_some_iff] at h; obtain ⟨y, hy, rfl⟩ := h; exact .mov x y (.inl hop) hy
  case h_2 x hop => simp only [Option.map_eq_some_iff] at h; obtain ⟨y, hy, rfl⟩ := h; exact .mov x y (.inr hop) hy
  case h_3 hop =>
    split at h
    · simp only [Option.some.injEq] at h; subst h; exact .pick _ _ _ _ _ _ hop ‹_› ‹_› ‹_›
    · cases h
  case h_4 t hop => simp only [Option.map_eq_some_iff] at h; obtain ⟨y, hy, rfl⟩ := h; exact .alloc t y hop hy
  case h_5 hop =>
    split at h
    · simp only [Option.some.injEq] at h; subst h; exact .box _ _ _ _ hop ‹_› ‹_›
    · cases h
  case h_6 hop =>
    split at h
    · split at h
      · simp only [Option.map_eq_some_iff] at h; obtain ⟨y, hy, rfl⟩ := h; exact .buildS _ _ _ _ _ hop ‹_› ‹_› ‹_› hy
      · cases h
    · split at h
      · simp only [Option.map_eq_some_iff] at h; obtain ⟨y, hy, rfl⟩ := h; exact .buildA _ _ _ _ _ _ _ hop ‹_› ‹_› ‹_› hy
      · cases h
    · cases h
  case h_7 hop =>
    split at h
    · split at h
      · split at h
        · rename_i hc
          simp only [Option.map_eq_some_iff] at h; obtain ⟨y, hy, rfl⟩ := h; exact .buildSlice _ _ _ _ _ _ _ hop ‹_› ‹_› ‹_› hc.1 hc.2 hy
        · cases h
      · cases h
    · cases h
  case h_8 hop =>
    split at h
    · simp only [Option.some.injEq] at h; subst h; exact .loadN _ _ _ _ hop ‹_› ‹_› ‹_›
    · simp only [Option.some.injEq] at h; subst h; exact .load1 _ _ _ hop ‹_› ‹_›
    · cases h
  case h_9 hop =>
    split at h
    · simp only [Option.some.injEq] at h; subst h; exact .store _ _ _ _ _ _ hop ‹_› ‹_› ‹_›
    · cases h
  case h_10 hop => simp only [Option.map_eq_some_iff] at h; obtain ⟨y, hy, rfl⟩ := h; exact .nilCheck _ _ hop hy
  case h_11 op t x y t' hop =>
    split at h
    · rename_i x' y' hx hy
      have eqs : ∀ (hq : op = .eql ∨ op = .neq), (match P.underlying t with
          | some (.int _) => some (AOp.bin op x' y')
          | some .bool => some (.eqv (op == .neq) .bool x' y')
          | some .string => some (.eqv (op == .neq) .str x' y')
          | some (.pointer e) => match sizeT P e with
            | some (_ + 1) => some (.eqv (op == .neq) .ptr x' y')
            | _ => none
          | some (.struct _) | some (.array _ _) => match lks P 50 t with
            | some ks => if P.eqGuardType P.depth t then none else some (.eqv (op == .neq) (.agg ks) x' y')
            | none => none
          | some (.slice _) => some (.eqv (op == .neq) .nilSlice x' y')
          | some (.map _ _) => some (.eqv (op == .neq) .nilMap x' y')
          | some (.func _ _ _) => some (.eqv (op == .neq) .nilFunc x' y')
          | _ => none) = some ao → COp P o ao := by
        intro hq h
        split at h
        · simp only [Option.some.injEq] at h; subst h; exact .bin _ _ _ _ _ _ _ hop hx hy
        · simp only [Option.some.injEq] at h; subst h; exact .eqv _ _ _ _ _ _ _ _ hop hq hx hy (.inl ⟨rfl, ‹_›⟩)
        · simp only [Option.some.injEq] at h; subst h; exact .eqv _ _ _ _ _ _ _ _ hop hq hx hy (.inr (.inl rfl))
        · rename_i e he
          split at h
          · simp only [Option.some.injEq] at h; subst h; exact .eqv _ _ _ _ _ _ _ _ hop hq hx hy (.inr (.inr (.inl ⟨rfl, e, _, he, ‹_›⟩)))
          · cases h
        · rename_i fs hfs
          split at h
          · split at h
            · cases h
            · rename_i ks hks hg
              simp only [Option.some.injEq] at h; subst h; exact .eqv _ _ _ _ _ _ _ _ hop hq hx hy (.inr (.inr (.inr (.inr (.inr (.inr ⟨ks, rfl, .inl ⟨fs, hfs⟩, hks, by simpa using hg⟩))))))
          · cases h
        · rename_i n e hfs
          split at h
          · split at h
            · cases h
            · rename_i ks hks hg
              simp only [Option.some.injEq] at h; subst h; exact .eqv _ _ _ _ _ _ _ _ hop hq hx hy (.inr (.inr (.inr (.inr (.inr (.inr ⟨ks, rfl, .inr ⟨n, e, hfs⟩, hks, by simpa using hg⟩))))))
          · cases h
        · simp only [Option.some.injEq] at h; subst h; exact .eqv _ _ _ _ _ _ _ _ hop hq hx hy (.inr (.inr (.inr (.inl ⟨rfl, _, ‹_›⟩))))
        · simp only [Option.some.injEq] at h; subst h; exact .eqv _ _ _ _ _ _ _ _ hop hq hx hy (.inr (.inr (.inr (.inr (.inl ⟨rfl, _, _, ‹_›⟩)))))
        · simp only [Option.some.injEq] at h; subst h; exact .eqv _ _ _ _ _ _ _ _ hop hq hx hy (.inr (.inr (.inr (.inr (.inr (.inl ⟨rfl, _, _, _, ‹_›⟩))))))
        · cases h
      cases op <;> first
        | exact eqs (.inl rfl) h
        | exact eqs (.inr rfl) h
        | (simp only [Option.some.injEq] at h; subst h; exact .bin _ _ _ _ _ _ _ hop hx hy)
    · cases h
  case h_12 hop => simp only [Option.map_eq_some_iff] at h; obtain ⟨y, hy, rfl⟩ := h; exact .un _ _ _ _ hop hy
  case h_13 hop =>
    split at h
    · simp only [Option.some.injEq] at h; subst h; exact .conv _ _ _ _ _ hop ‹_› ⟨_, ‹_›⟩ ‹_›
    · cases h
  case h_14 hop =>
    split at h
    · simp only [Option.some.injEq] at h; subst h; exact .makeMap _ hop
    · cases h
  case h_15 hop =>
    split at h
    · simp only [Option.map_eq_some_iff] at h; obtain ⟨y, hy, rfl⟩ := h; exact .slice _ _ _ _ _ _ _ _ _ hop ‹_› hy ‹_› ‹_› ‹_›
    · simp only [Option.map_eq_some_iff] at h; obtain ⟨y, hy, rfl⟩ := h; exact .sliceArr _ _ _ _ _ _ _ _ _ _ hop ‹_› hy ‹_› ‹_› ‹_›
    · cases h
  case h_16 hop =>
    split at h
    · rename_i hnum
      simp only [Bool.and_eq_true] at hnum
      split at h
      · split at h
        · simp only [Option.some.injEq] at h; subst h; exact .sliceZero _ _ _ _ _ _ hop hnum.1 hnum.2 ‹_› ⟨_, ‹_›⟩ ‹_›
        · cases h
      · cases h
    · cases h
  case h_17 hop =>
    split at h
    · split at h
      · split at h
        · simp only [Option.some.injEq] at h; subst h; exact .fieldAddr _ _ _ _ _ _ _ hop ‹_› ‹_› ‹_› ‹_›
        · cases h
      · cases h
    · cases h
  case h_18 hop =>
    split at h
    · split at h
      · split at h
        · simp only [Option.some.injEq] at h; subst h; exact .fieldN _ _ _ _ _ _ _ hop ‹_› ‹_› ‹_› ‹_› ‹_›
        · simp only [Option.some.injEq] at h; subst h; exact .field1 _ _ _ _ _ _ hop ‹_› ‹_› ‹_› ‹_›
        · cases h
      · cases h
    · cases h
  case h_19 hop =>
    split at h
    · simp only [Option.map_eq_some_iff] at h; obtain ⟨y, hy, rfl⟩ := h; exact .indexSl _ _ _ _ _ _ _ hop ‹_› hy ‹_› ‹_›
    · simp only [Option.map_eq_some_iff] at h; obtain ⟨y, hy, rfl⟩ := h; exact .indexArr _ _ _ _ _ _ _ _ hop ‹_› hy ‹_› ‹_›
    · cases h
  case h_20 hop =>
    split at h
    · split at h
      · simp only [Option.some.injEq] at h; subst h; exact .lookup _ _ _ _ _ _ _ _ _ _ hop ‹_› ‹_› ‹_› ‹_› ‹_›
      · cases h
    · cases h
  case h_21 hop =>
    split at h
    · simp only [Option.map_eq_some_iff] at h; obtain ⟨y, hy, rfl⟩ := h; exact .mapUpdate _ _ _ _ _ _ _ _ _ _ hop ‹_› hy ‹_› ‹_› ‹_›
    · cases h
  case h_22 hop => simp only [Option.map_eq_some_iff] at h; obtain ⟨y, hy, rfl⟩ := h; exact .extract _ _ _ hop hy
  case h_23 c hop =>
    split at h
    · rename_i f hcl
      split at h
      · rename_i as has
        split at h
        · rename_i fn hfn
          split at h
          · rename_i hc
            simp only [Option.some.injEq] at h; subst h; exact .call _ _ _ _ hop hcl has hfn hc.1 hc.2
          · cases h
        · cases h
      · cases h
    · rename_i hcl
      split at h
      · rename_i x hargs
        split at h
        · rename_i y e hx hu
          obtain ⟨t, h1, h2⟩ := bind_under hu
          simp only [Option.some.injEq] at h; subst h; exact .lenS _ _ _ _ _ hop hcl (arr1 hargs) h1 h2 hx
        · rename_i y e f hx hu
          obtain ⟨t, h1, h2⟩ := bind_under hu
          simp only [Option.some.injEq] at h; subst h; exact .lenM _ _ _ _ _ _ hop hcl (arr1 hargs) h1 h2 hx
        · cases h
      · cases h
    · rename_i hcl
      split at h
      · rename_i s x e hargs hu
        obtain ⟨t, h1, h2⟩ := bind_under hu
        split at h
        · rename_i s' x' i z f hs hx hi hz hux
          obtain ⟨t', h3, h4⟩ := bind_under hux
          split at h
          · rename_i hc
            simp only [Option.some.injEq] at h; subst h; exact .append _ _ _ _ _ _ _ _ _ _ hop hcl (arr2 hargs) h1 h3 h2 ⟨_, h4⟩ hi hz hc.1 hc.2.1 hc.2.2 hs hx
          · cases h
        · cases h
      · cases h
    · rename_i hcl
      split at h
      · rename_i s x e hargs hu
        obtain ⟨t, h1, h2⟩ := bind_under hu
        split at h
        · simp only [Option.some.injEq] at h; subst h; exact .copy _ _ _ _ _ _ _ _ hop hcl (arr2 hargs) h1 h2 ‹_› ‹_› ‹_›
        · cases h
      · cases h
    · rename_i hcl
      split at h
      · rename_i s x kt et hargs hu
        obtain ⟨t, h1, h2⟩ := bind_under hu
        split at h
        · simp only [Option.some.injEq] at h; subst h; exact .delete _ _ _ _ _ _ _ _ _ hop hcl (arr2 hargs) h1 h2 ‹_› ‹_› ‹_›
        · cases h
      · cases h
    · cases h
  case h_24 => cases h

section
variable {H : Type} [Heap H] {P : Program} {φ : Emb} {h : H} {w : World} {tm : Array Value} {a : Act} {o : Oper} {id : Nat} {v : Value} {h1 : H} {ao : AOp}

theorem looks_of (hs : Sim φ h w) (ht : AR φ tm a.tmps) (hc : COp P o ao) (he : ao.eff = false) (hm : ao.makes = false) (hx : aop id ao tm h = some (v, h1)) : h1 = h ∧ Looks P φ w a o v := by
  cases hc with
  | mov x y h1 h2 =>
    simp only [aop, Option.some.injEq, Prod.mk.injEq] at hx
    obtain ⟨rfl, rfl⟩ := hx
    exact ⟨rfl, s_mov ht h1 h2⟩
  | pick c x y c' x' y' h1 h2 h3 h4 => exact s_pick ht h1 h2 h3 h4 hx
  | buildS t parts fs z qs h1 h2 h3 h4 h5 => exact s_buildS ht h1 h2 h3 h4 h5 hx
  | buildA t parts len e n z qs h1 h2 h3 h4 h5 => exact s_buildA ht h1 h2 h3 h4 h5 hx
  | loadN t x n y h1 h2 h3 h4 => exact s_loadN hs ht h1 h2 h3 h4 hx
  | load1 t x y h1 h2 h3 => exact s_load1 hs ht h1 h2 h3 hx
  | nilCheck x y h1 h2 => exact s_nilCheck ht h1 h2 hx
  | bin op t x y t' x' y' h1 h2 h3 => exact s_bin ht h1 h2 h3 hx
  | eqv op t x y t' x' y' k h1 h2 h3 h4 h5 => exact s_eqv hs ht h1 h2 h3 h4 h5 hx
  | un op t x y h1 h2 => exact s_un ht h1 h2 hx
  | conv s t k x y h1 h2 h3 h4 => exact s_conv ht h1 h2 h3 h4 hx
  | slice t x lo hi e n y lo' hi' h1 h2 h3 h4 h5 h6 => exact s_slice hs ht h1 h2 h3 h4 h5 h6 hx
  | sliceArr t x lo hi len e n y lo' hi' h1 h2 h3 h4 h5 h6 => exact s_sliceArr hs ht h1 h2 h3 h4 h5 h6 hx
  | fieldAddr t x f fs fd n y h1 h2 h3 h4 h5 => exact s_fieldAddr ht h1 h2 h3 h4 h5 hx
  | field1 t x f fs fd y h1 h2 h3 h4 h5 => exact s_field1 ht h1 h2 h3 h4 h5 hx
  | fieldN t x f fs fd n y h1 h2 h3 h4 h5 h6 => exact s_fieldN ht h1 h2 h3 h4 h5 h6 hx
  | indexSl t x i e sz x' i' h1 h2 h3 h4 h5 => exact s_indexSl ht h1 h2 h3 h4 h5 hx
  | indexArr t x i len e sz x' i' h1 h2 h3 h4 h5 => exact s_indexArr ht h1 h2 h3 h4 h5 hx
  | lookup t x k ok kt et kk z x' k' h1 h2 h3 h4 h5 h6 => exact s_lookup hs ht h1 h2 h3 h4 h5 h6 hx
  | extract x i y h1 h2 => exact s_extract ht h1 h2 hx
  | lenS c t e x y h1 h2 h3 h4 h5 h6 =>
    simp only [aop] at hx
    split at hx
    · rename_i b n k hv
      simp only [Option.some.injEq, Prod.mk.injEq] at hx
      obtain ⟨rfl, rfl⟩ := hx
      exact ⟨rfl, s_lenS ht h1 h2 h3 h4 h5 h6 hv⟩
    · cases hx
  | lenM c t e f x y h1 h2 h3 h4 h5 h6 =>
    simp only [aop] at hx
    split at hx
    · rename_i hv
      simp only [Option.some.injEq, Prod.mk.injEq] at hx
      obtain ⟨rfl, rfl⟩ := hx
      exact ⟨rfl, s_lenM (n := 0) hs ht h1 h2 h3 h4 h5 h6 hv (.inl ⟨rfl, rfl⟩)⟩
    · rename_i r hv
      split at hx
      · rename_i es hg
        simp only [Option.some.injEq, Prod.mk.injEq] at hx
        obtain ⟨rfl, rfl⟩ := hx
        exact ⟨rfl, s_lenM hs ht h1 h2 h3 h4 h5 h6 hv (.inr ⟨r, es, rfl, hg, rfl⟩)⟩
      · cases hx
    · cases hx
  | _ => first
    | simp [AOp.eff] at he; done
    | simp [AOp.makes] at hm; done

theorem makes_of (hs : Sim φ h w) (ht : AR φ tm a.tmps) (hid : φ id = none) (hc : COp P o ao) (hm : ao.makes = true) (hx : aop id ao tm h = some (v, h1)) : ∃ B, h1 = put h id (some B) ∧ Makes H P φ w a o id v B := by
  cases hc with
  | alloc t z h1 h2 => exact s_alloc hid h1 h2 hx
  | box t n x y h1 h2 h3 => exact s_box ht hid h1 h3 hx
  | buildSlice t len parts e n z qs h1 h2 h3 h4 h5 h6 h7 => exact s_buildSlice ht hid h1 h2 h3 h4 h5 h6 h7 hx
  | makeMap t h1 => exact s_makeMap hid h1 hx
  | sliceZero t x hi mx e y h1 h2 h3 h4 h5 h6 => exact s_sliceZero hs ht hid h1 h2 h3 h4 h5 h6 hx
  | _ => simp [AOp.makes] at hm

theorem writes_of (hs : Sim φ h w) (ht : AR φ tm a.tmps) (hid : φ id = none) (hn : id < next h) (hc : COp P o ao) (hm : ao.eff = true) (hcl : isCall ao = false) (hx : aop id ao tm h = some (v, h1)) : Writes P φ h w a o id v h1 := by
  cases hc with
  | store t x y n x' y' h1 h2 h3 h4 => exact s_store hs ht h1 h2 h3 h4 hx
  | mapUpdate t m k v kt et kk m' k' v' h1 h2 h3 h4 h5 h6 => exact s_mapUpdate hs ht h1 h2 h3 h4 h5 h6 hx
  | append c sT xT e i z x y x' y' h1 h2 h3 h4 h5 h6 h7 h8 h9 h10 h11 h12 h13 h14 => exact s_append hs ht hid hn h1 h2 h3 h4 h5 h6 h7 h8 h9 h10 h11 h12 h13 h14 hx
  | copy c dT e n x y x' y' h1 h2 h3 h4 h5 h6 h7 h8 => exact s_copy hs ht h1 h2 h3 h4 h5 h6 h7 h8 hx
  | delete c t kt et kk x y x' y' h1 h2 h3 h4 h5 h6 h7 h8 => exact s_delete hs ht h1 h2 h3 h4 h5 h6 h7 h8 hx
  | call c f as fn h1 h2 h3 h4 h5 h6 => simp [isCall] at hcl
  | _ => simp [AOp.eff] at hm

end
end Ab
