/-
  THE ABSTRACT MACHINE: lemmas for stepping by simp. What is still to be done stands under a token that is bound, so that simp does not step through it ahead of its time.
-/
import Derived.Test.YtleoicjpcdmfkaaAb21
set_option linter.unusedSimpArgs false
set_option linter.unusedVariables false
namespace Ab
open Go
open Heap (get put next skip)

inductive Tok where
  | go

/-- So that simp keeps each step in the proof. -/
theorem nr {α : Sort _} {a b : α} (h : a = b) : a = b := h

section
variable {H : Type} [Heap H]

theorem get_self (h : H) (k : Nat) (b : Option Blk) : get (put h k b) k = b := by rw [Heap.get_put, if_pos rfl]
theorem get_ne (h : H) {k j : Nat} (b : Option Blk) (hn : j ≠ k) : get (put h k b) j = get h j := by rw [Heap.get_put, if_neg hn]

theorem upd_some (e : Env) (t : Nat) (v : Value) (k : Nat) : upd e (some t) v k = if k = t then v else e k := nr rfl
theorem upd_none (e : Env) (v : Value) : upd e none v = e := nr rfl

def gcaseG (g : Option Bool) (T F : Tok → Prop) : Prop := gcase g (T .go) (F .go)
theorem gcase_true (T F : Tok → Prop) : gcaseG (some true) T F = T .go := by simp [gcaseG, gcase]
theorem gcase_false (T F : Tok → Prop) : gcaseG (some false) T F = F .go := by simp [gcaseG, gcase]

def ocase (x : Option (Value × H)) (K : Tok → Value → H → Prop) : Prop :=
  match x with
  | some (v, h1) => K .go v h1
  | none => False
omit [Heap H] in
theorem ocase_some (v : Value) (h1 : H) (K : Tok → Value → H → Prop) : ocase (some (v, h1)) K = K .go v h1 := nr rfl
omit [Heap H] in
theorem ocase_none (K : Tok → Value → H → Prop) : ocase (none : Option (Value × H)) K = False := nr rfl

def ccase (x : Value) (T F : Tok → Prop) : Prop :=
  match x with
  | .bool b => if b = true then T .go else F .go
  | _ => False
theorem ccase_true (T F : Tok → Prop) : ccase (.bool true) T F = T .go := by simp [ccase]
theorem ccase_false (T F : Tok → Prop) : ccase (.bool false) T F = F .go := by simp [ccase]

def seqK (_ : Tok) (x : AExit) (B Q : Tok → Prop) : Prop := match x with
  | .normal => B .go
  | _ => Q .go
theorem seqK_normal (B Q : Tok → Prop) : seqK .go .normal B Q = B .go := nr rfl
theorem seqK_exit (id : Nat) (B Q : Tok → Prop) : seqK .go (.exit id) B Q = Q .go := nr rfl
theorem seqK_ret (B Q : Tok → Prop) : seqK .go .ret B Q = Q .go := nr rfl

def blockX (id : Nat) (x : AExit) : AExit := if x = .exit id then .normal else x
theorem blockX_normal (id : Nat) : blockX id .normal = .normal := nr rfl
theorem blockX_ret (id : Nat) : blockX id .ret = .ret := nr rfl
theorem blockX_same (id : Nat) : blockX id (.exit id) = .normal := if_pos rfl
theorem blockX_other (id k : Nat) (h : k ≠ id) : blockX id (.exit k) = .exit k := if_neg (fun q => h (by cases q; rfl))

def CallsG (_ : Tok) (tab : FuncId → Option AFunc) (f : FuncId) (args : Array Value) (h : H) (K : Tok → Value → H → Prop) : Prop :=
  Fresh h → CallsTo tab f args h fun v h1 => Fresh h1 → next h ≤ next h1 → K .go v h1

def stepG (_ : Tok) (tab : FuncId → Option AFunc) (n id : Nat) (op : AOp) (e : Env) (h : H) (K : Tok → Value → H → Prop) : Prop := stepW tab n id op e h (K .go)
def wpOG (_ : Tok) (tab : FuncId → Option AFunc) (n base i : Nat) (l : List BOper) (e : Env) (h : H) (K : Tok → Env → H → Prop) : Prop := wpO tab n base i l e h (K .go)
def wpTG (_ : Tok) (tab : FuncId → Option AFunc) (n base i : Nat) (l : List BOper) (e : Env) (h : H) (K : Tok → List (Rec H) → Env → H → Prop) : Prop := wpT tab n base i l e h (K .go)
def wpG (_ : Tok) (tab : FuncId → Option AFunc) (n : Nat) (c : BCode) (e : Env) (h : H) (Q : Tok → AExit → Env → H → Prop) : Prop := wp tab n c e h (Q .go)

/-- What a drawn region owes besides. -/
def DynAll (base : Nat) (l : List BOper) (tr : List (Rec H)) (hN : H) (ps : List (Nat × Nat)) : Prop := ∀ q ∈ ps, dynB base l tr hN q

section
variable {tab : FuncId → Option AFunc} {n : Nat}

theorem g_nil (base i : Nat) (e : Env) (h : H) (K : Tok → Env → H → Prop) : wpOG .go tab n base i [] e h K = K .go e h := nr rfl
theorem g_cons (base i : Nat) (d : Option Tmp) (op : AOp) (g : Tmp × Bool) (l : List BOper) (e : Env) (h : H) (K : Tok → Env → H → Prop) : wpOG .go tab n base i (⟨d, op, some g⟩ :: l) e h K =
    gcaseG (guardIs (some g) (tmOf n e)) (fun t => stepG t tab n (base + i) op e h fun t v h1 => wpOG t tab n base (i + 1) l (upd e d v) h1 K) (fun t => wpOG t tab n base (i + 1) l (upd e d undef) h K) := nr rfl
theorem g_cons0 (base i : Nat) (d : Option Tmp) (op : AOp) (l : List BOper) (e : Env) (h : H) (K : Tok → Env → H → Prop) : wpOG .go tab n base i (⟨d, op, none⟩ :: l) e h K =
    stepG .go tab n (base + i) op e h fun t v h1 => wpOG t tab n base (i + 1) l (upd e d v) h1 K := nr (gcase_true (fun t => stepG t tab n (base + i) op e h fun t v h1 => wpOG t tab n base (i + 1) l (upd e d v) h1 K) (fun t => wpOG t tab n base (i + 1) l (upd e d undef) h K))
theorem gT_nil (base i : Nat) (e : Env) (h : H) (K : Tok → List (Rec H) → Env → H → Prop) : wpTG .go tab n base i [] e h K = K .go [] e h := nr rfl
theorem gT_cons (base i : Nat) (d : Option Tmp) (op : AOp) (g : Tmp × Bool) (l : List BOper) (e : Env) (h : H) (K : Tok → List (Rec H) → Env → H → Prop) : wpTG .go tab n base i (⟨d, op, some g⟩ :: l) e h K =
    gcaseG (guardIs (some g) (tmOf n e)) (fun t => stepG t tab n (base + i) op e h fun t v h1 => wpTG t tab n base (i + 1) l (upd e d v) h1 fun t tr => K t (⟨i, tmOf n e, h, v⟩ :: tr))
      (fun t => wpTG t tab n base (i + 1) l (upd e d undef) h fun t tr => K t (⟨i, tmOf n e, h, undef⟩ :: tr)) := nr rfl
theorem gT_cons0 (base i : Nat) (d : Option Tmp) (op : AOp) (l : List BOper) (e : Env) (h : H) (K : Tok → List (Rec H) → Env → H → Prop) : wpTG .go tab n base i (⟨d, op, none⟩ :: l) e h K =
    stepG .go tab n (base + i) op e h fun t v h1 => wpTG t tab n base (i + 1) l (upd e d v) h1 fun t tr => K t (⟨i, tmOf n e, h, v⟩ :: tr) := nr (gcase_true (fun t => stepG t tab n (base + i) op e h fun t v h1 => wpTG t tab n base (i + 1) l (upd e d v) h1 fun t tr => K t (⟨i, tmOf n e, h, v⟩ :: tr)) (fun t => wpTG t tab n base (i + 1) l (upd e d undef) h fun t tr => K t (⟨i, tmOf n e, h, undef⟩ :: tr)))
theorem g_mov (id : Nat) (x : Operand) (e : Env) (h : H) (K : Tok → Value → H → Prop) : stepG .go tab n id (.mov x) e h K = ocase (aop id (.mov x) (tmOf n e) h) K := nr rfl
theorem g_pick (id : Nat) (c a b : Operand) (e : Env) (h : H) (K : Tok → Value → H → Prop) : stepG .go tab n id (.pick c a b) e h K = ocase (aop id (.pick c a b) (tmOf n e) h) K := nr rfl
theorem g_alloc (id : Nat) (z : Array Value) (e : Env) (h : H) (K : Tok → Value → H → Prop) : stepG .go tab n id (.alloc z) e h K = ocase (aop id (.alloc z) (tmOf n e) h) K := nr rfl
theorem g_box (id : Nat) (k : Nat) (x : Operand) (e : Env) (h : H) (K : Tok → Value → H → Prop) : stepG .go tab n id (.box k x) e h K = ocase (aop id (.box k x) (tmOf n e) h) K := nr rfl
theorem g_build (id : Nat) (z : Array Value) (ps : List (Nat × Nat × Operand)) (e : Env) (h : H) (K : Tok → Value → H → Prop) : stepG .go tab n id (.build z ps) e h K = ocase (aop id (.build z ps) (tmOf n e) h) K := nr rfl
theorem g_buildSlice (id : Nat) (z : Array Value) (k : Nat) (ps : List (Nat × Nat × Operand)) (e : Env) (h : H) (K : Tok → Value → H → Prop) : stepG .go tab n id (.buildSlice z k ps) e h K = ocase (aop id (.buildSlice z k ps) (tmOf n e) h) K := nr rfl
theorem g_load1 (id : Nat) (a : Operand) (e : Env) (h : H) (K : Tok → Value → H → Prop) : stepG .go tab n id (.load1 a) e h K = ocase (aop id (.load1 a) (tmOf n e) h) K := nr rfl
theorem g_loadN (id : Nat) (k : Nat) (a : Operand) (e : Env) (h : H) (K : Tok → Value → H → Prop) : stepG .go tab n id (.loadN k a) e h K = ocase (aop id (.loadN k a) (tmOf n e) h) K := nr rfl
theorem g_store (id : Nat) (k : Nat) (a v : Operand) (e : Env) (h : H) (K : Tok → Value → H → Prop) : stepG .go tab n id (.store k a v) e h K = ocase (aop id (.store k a v) (tmOf n e) h) K := nr rfl
theorem g_nilCheck (id : Nat) (x : Operand) (e : Env) (h : H) (K : Tok → Value → H → Prop) : stepG .go tab n id (.nilCheck x) e h K = ocase (aop id (.nilCheck x) (tmOf n e) h) K := nr rfl
theorem g_bin (id : Nat) (o : BinOp) (x y : Operand) (e : Env) (h : H) (K : Tok → Value → H → Prop) : stepG .go tab n id (.bin o x y) e h K = ocase (aop id (.bin o x y) (tmOf n e) h) K := nr rfl
theorem g_eqv (id : Nat) (b : Bool) (k : EqK) (x y : Operand) (e : Env) (h : H) (K : Tok → Value → H → Prop) : stepG .go tab n id (.eqv b k x y) e h K = ocase (aop id (.eqv b k x y) (tmOf n e) h) K := nr rfl
theorem g_un (id : Nat) (o : UnOp) (x : Operand) (e : Env) (h : H) (K : Tok → Value → H → Prop) : stepG .go tab n id (.un o x) e h K = ocase (aop id (.un o x) (tmOf n e) h) K := nr rfl
theorem g_conv (id : Nat) (k : IntKind) (x : Operand) (e : Env) (h : H) (K : Tok → Value → H → Prop) : stepG .go tab n id (.conv k x) e h K = ocase (aop id (.conv k x) (tmOf n e) h) K := nr rfl
theorem g_makeMap (id : Nat)  (e : Env) (h : H) (K : Tok → Value → H → Prop) : stepG .go tab n id (.makeMap ) e h K = ocase (aop id (.makeMap ) (tmOf n e) h) K := nr rfl
theorem g_slice (id : Nat) (s : Nat) (x : Operand) (a b : Option Operand) (e : Env) (h : H) (K : Tok → Value → H → Prop) : stepG .go tab n id (.slice s x a b) e h K = ocase (aop id (.slice s x a b) (tmOf n e) h) K := nr rfl
theorem g_sliceZero (id : Nat) (x : Operand) (e : Env) (h : H) (K : Tok → Value → H → Prop) : stepG .go tab n id (.sliceZero x) e h K = ocase (aop id (.sliceZero x) (tmOf n e) h) K := nr rfl
theorem g_sliceArr (id : Nat) (k s : Nat) (x : Operand) (a b : Option Operand) (e : Env) (h : H) (K : Tok → Value → H → Prop) : stepG .go tab n id (.sliceArr k s x a b) e h K = ocase (aop id (.sliceArr k s x a b) (tmOf n e) h) K := nr rfl
theorem g_fieldAddr (id : Nat) (o : Nat) (x : Operand) (e : Env) (h : H) (K : Tok → Value → H → Prop) : stepG .go tab n id (.fieldAddr o x) e h K = ocase (aop id (.fieldAddr o x) (tmOf n e) h) K := nr rfl
theorem g_field1 (id : Nat) (o : Nat) (x : Operand) (e : Env) (h : H) (K : Tok → Value → H → Prop) : stepG .go tab n id (.field1 o x) e h K = ocase (aop id (.field1 o x) (tmOf n e) h) K := nr rfl
theorem g_fieldN (id : Nat) (o k : Nat) (x : Operand) (e : Env) (h : H) (K : Tok → Value → H → Prop) : stepG .go tab n id (.fieldN o k x) e h K = ocase (aop id (.fieldN o k x) (tmOf n e) h) K := nr rfl
theorem g_indexSl (id : Nat) (s : Nat) (x y : Operand) (e : Env) (h : H) (K : Tok → Value → H → Prop) : stepG .go tab n id (.indexSl s x y) e h K = ocase (aop id (.indexSl s x y) (tmOf n e) h) K := nr rfl
theorem g_indexArr (id : Nat) (k s : Nat) (x y : Operand) (e : Env) (h : H) (K : Tok → Value → H → Prop) : stepG .go tab n id (.indexArr k s x y) e h K = ocase (aop id (.indexArr k s x y) (tmOf n e) h) K := nr rfl
theorem g_lookup (id : Nat) (k : KeyK) (z : Value) (b : Bool) (x y : Operand) (e : Env) (h : H) (K : Tok → Value → H → Prop) : stepG .go tab n id (.lookup k z b x y) e h K = ocase (aop id (.lookup k z b x y) (tmOf n e) h) K := nr rfl
theorem g_mapUpdate (id : Nat) (k : KeyK) (x y z : Operand) (e : Env) (h : H) (K : Tok → Value → H → Prop) : stepG .go tab n id (.mapUpdate k x y z) e h K = ocase (aop id (.mapUpdate k x y z) (tmOf n e) h) K := nr rfl
theorem g_delete (id : Nat) (k : KeyK) (x y : Operand) (e : Env) (h : H) (K : Tok → Value → H → Prop) : stepG .go tab n id (.delete k x y) e h K = ocase (aop id (.delete k x y) (tmOf n e) h) K := nr rfl
theorem g_extract (id : Nat) (x : Operand) (k : Nat) (e : Env) (h : H) (K : Tok → Value → H → Prop) : stepG .go tab n id (.extract x k) e h K = ocase (aop id (.extract x k) (tmOf n e) h) K := nr rfl
theorem g_lenS (id : Nat) (x : Operand) (e : Env) (h : H) (K : Tok → Value → H → Prop) : stepG .go tab n id (.lenS x) e h K = ocase (aop id (.lenS x) (tmOf n e) h) K := nr rfl
theorem g_lenM (id : Nat) (x : Operand) (e : Env) (h : H) (K : Tok → Value → H → Prop) : stepG .go tab n id (.lenM x) e h K = ocase (aop id (.lenM x) (tmOf n e) h) K := nr rfl
theorem g_append (id : Nat) (s b : Nat) (z : Array Value) (x y : Operand) (e : Env) (h : H) (K : Tok → Value → H → Prop) : stepG .go tab n id (.append s b z x y) e h K = ocase (aop id (.append s b z x y) (tmOf n e) h) K := nr rfl
theorem g_copy (id : Nat) (s : Nat) (x y : Operand) (e : Env) (h : H) (K : Tok → Value → H → Prop) : stepG .go tab n id (.copy s x y) e h K = ocase (aop id (.copy s x y) (tmOf n e) h) K := nr rfl
theorem g_call (id f : Nat) (args : Array Operand) (e : Env) (h : H) (K : Tok → Value → H → Prop) :
    stepG .go tab n id (.call f args) e h K = CallsG .go tab f (args.map (ev (tmOf n e))) h K := nr rfl
theorem g_skip (e : Env) (h : H) (Q : Tok → AExit → Env → H → Prop) : wpG .go tab n .skip e h Q = Q .go .normal e h := nr rfl
theorem g_exit (id : Nat) (e : Env) (h : H) (Q : Tok → AExit → Env → H → Prop) : wpG .go tab n (.exit id) e h Q = Q .go (.exit id) e h := nr rfl
theorem g_ret (e : Env) (h : H) (Q : Tok → AExit → Env → H → Prop) : wpG .go tab n .ret e h Q = Q .go .ret e h := nr rfl
theorem g_region (l : List BOper) (e : Env) (h : H) (Q : Tok → AExit → Env → H → Prop) : wpG .go tab n (.region l []) e h Q = wpOG .go tab n (next h) 0 l e (skip h l.length) fun t => Q t .normal := nr rfl
theorem g_dyn (l : List BOper) (p : Nat × Nat) (r : List (Nat × Nat)) (e : Env) (h : H) (Q : Tok → AExit → Env → H → Prop) : wpG .go tab n (.region l (p :: r)) e h Q =
    wpTG .go tab n (next h) 0 l e (skip h l.length) fun t tr e' h' => DynAll (next h) l tr h' (p :: r) ∧ Q t .normal e' h' := nr rfl
theorem g_seq (a b : BCode) (e : Env) (h : H) (Q : Tok → AExit → Env → H → Prop) : wpG .go tab n (.seq a b) e h Q = wpG .go tab n a e h fun t x e h => seqK t x (fun t => wpG t tab n b e h Q) (fun t => Q t x e h) := by
  show (wp tab n a e h fun x e h => match x with | .normal => wp tab n b e h (Q .go) | x => Q .go x e h) = wp tab n a e h _
  congr 1
  funext x e h
  cases x <;> rfl
theorem g_cond (c : Operand) (a b : BCode) (e : Env) (h : H) (Q : Tok → AExit → Env → H → Prop) : wpG .go tab n (.cond c a b) e h Q = ccase (ev (tmOf n e) c) (fun t => wpG t tab n a e h Q) (fun t => wpG t tab n b e h Q) := nr rfl
theorem g_block (id : Nat) (a : BCode) (e : Env) (h : H) (Q : Tok → AExit → Env → H → Prop) : wpG .go tab n (.block id a) e h Q = wpG .go tab n a e h fun t x e h => Q t (blockX id x) e h := nr rfl

/-- A loop, by an invariant with a measure. -/
theorem g_loop {a : BCode} {e : Env} {h : H} {Q : Tok → AExit → Env → H → Prop} (I : Nat → Env → H → Prop) (m : Nat) (h0 : I m e h)
    (hs : ∀ m e h, Fresh h → I m e h → wpG .go tab n a e h fun t x e h => seqK t x (fun _ => ∃ m', m' < m ∧ I m' e h) (fun _ => Q t x e h)) : wpG .go tab n (.loop a) e h Q := by
  refine ⟨I, ⟨m, h0⟩, fun m e h hf hi => ?_⟩
  have := hs m e h hf hi
  unfold wpG at this
  refine Eq.mp ?_ this
  congr 1
  funext x e h
  cases x <;> rfl

/-- A call, by a contract. -/
theorem CallsG.of {f : FuncId} {args : Array Value} {h : H} {K : Tok → Value → H → Prop} {Q : Value → H → Prop} (hc : Fresh h → CallsTo tab f args h Q) (hk : ∀ v h1, Fresh h → Q v h1 → Fresh h1 → next h ≤ next h1 → K .go v h1) : CallsG .go tab f args h K :=
  fun hf => (hc hf).mono fun v h1 hq hf1 hn => hk v h1 hf hq hf1 hn
end

theorem a_mov (id : Nat) (x : Operand) (tm : Array Value) (h : H) : aop id (.mov x) tm h =
    (some (ev tm x, h)) := nr rfl
theorem a_pick (id : Nat) (c : Operand) (a : Operand) (b : Operand) (tm : Array Value) (h : H) : aop id (.pick c a b) tm h =
    (match ev tm c with
      | .bool t => some (if t then ev tm a else ev tm b, h)
      | _ => none) := nr rfl
theorem a_alloc (id : Nat) (zero : Array Value) (tm : Array Value) (h : H) : aop id (.alloc zero) tm h =
    (some (.pointer (some ⟨id, 0, none⟩), put h id (some (.cells zero .rw)))) := nr rfl
theorem a_box (id : Nat) (n : Nat) (x : Operand) (tm : Array Value) (h : H) : aop id (.box n x) tm h =
    ((cellsN n (ev tm x)).map fun cs => (.pointer (some ⟨id, 0, none⟩), put h id (some (.cells cs .rw)))) := nr rfl
theorem a_build (id : Nat) (zero : Array Value) (parts : List (Nat × Nat × Operand)) (tm : Array Value) (h : H) : aop id (.build zero parts) tm h =
    ((fillV zero (parts.map fun p => (p.1, p.2.1, ev tm p.2.2))).map fun cs => (.agg cs, h)) := nr rfl
theorem a_buildSlice (id : Nat) (zero : Array Value) (len : Nat) (parts : List (Nat × Nat × Operand)) (tm : Array Value) (h : H) : aop id (.buildSlice zero len parts) tm h =
    ((fillV zero (parts.map fun p => (p.1, p.2.1, ev tm p.2.2))).map fun cs =>
        (.slice (some ⟨id, 0, none⟩) len len, put h id (some (.cells cs .rw)))) := nr rfl
theorem a_load1 (id : Nat) (a : Operand) (tm : Array Value) (h : H) : aop id (.load1 a) tm h =
    (match ev tm a with
      | .pointer (some a) => (loadC h a).map fun v => (v, h)
      | _ => none) := nr rfl
theorem a_loadN (id : Nat) (n : Nat) (a : Operand) (tm : Array Value) (h : H) : aop id (.loadN n a) tm h =
    (match ev tm a with
      | .pointer (some a) => (loadCs h a n).map fun cs => (.agg cs, h)
      | _ => none) := nr rfl
theorem a_store (id : Nat) (n : Nat) (a : Operand) (v : Operand) (tm : Array Value) (h : H) : aop id (.store n a v) tm h =
    (match ev tm a with
      | .pointer (some a) => (cellsN n (ev tm v)).bind fun xs => (storeCs h a xs).map fun h' => (undef, h')
      | _ => none) := nr rfl
theorem a_nilCheck (id : Nat) (x : Operand) (tm : Array Value) (h : H) : aop id (.nilCheck x) tm h =
    (match ev tm x with
      | .pointer (some a) => some (.pointer (some a), h)
      | _ => none) := nr rfl
theorem a_bin (id : Nat) (op : BinOp) (x : Operand) (y : Operand) (tm : Array Value) (h : H) : aop id (.bin op x y) tm h =
    ((binV op (ev tm x) (ev tm y)).map fun v => (v, h)) := nr rfl
theorem a_eqv (id : Nat) (neg : Bool) (k : EqK) (x : Operand) (y : Operand) (tm : Array Value) (h : H) : aop id (.eqv neg k x y) tm h =
    ((eqH h k (ev tm x) (ev tm y)).map fun r => (.bool (if neg then !r else r), h)) := nr rfl
theorem a_un (id : Nat) (op : UnOp) (x : Operand) (tm : Array Value) (h : H) : aop id (.un op x) tm h =
    ((unV op (ev tm x)).map fun v => (v, h)) := nr rfl
theorem a_conv (id : Nat) (k : IntKind) (x : Operand) (tm : Array Value) (h : H) : aop id (.conv k x) tm h =
    (match ev tm x with
      | .int _ n => some (.int k (k.wrap n), h)
      | _ => none) := nr rfl
theorem a_makeMap (id : Nat)  (tm : Array Value) (h : H) : aop id (.makeMap ) tm h =
    (some (.map (some id), put h id (some (.map [])))) := nr rfl
theorem a_slice (id : Nat) (sz : Nat) (x : Operand) (lo : Option Operand) (hi : Option Operand) (tm : Array Value) (h : H) : aop id (.slice sz x lo hi) tm h =
    (match ev tm x with
      | .slice (some a) n cap =>
        match a.spot, get h a.block, boundV tm 0 lo, boundV tm n hi with
        | none, some (.cells _ md), some l, some u =>
          if l ≤ u ∧ u ≤ cap then
            match md with
            | .gr sz' => if sz' ≠ sz ∨ cap = 0 then none else
              some (.slice (some (if cap = l then a else { a with off := a.off + l * sz })) (u - l) (cap - l), h)
            | _ => some (.slice (some (if cap = l then a else { a with off := a.off + l * sz })) (u - l) (cap - l), h)
          else none
        | _, _, _, _ => none
      | .slice none _ cap => match boundV tm 0 lo, boundV tm 0 hi with
        | some 0, some 0 => if cap = 0 then some (.slice none 0 0, h) else none
        | _, _ => none
      | _ => none) := nr rfl
theorem a_sliceZero (id : Nat) (x : Operand) (tm : Array Value) (h : H) : aop id (.sliceZero x) tm h =
    (match ev tm x with
      | .slice (some a) _ _ => match a.spot, get h a.block with
        | none, some (.cells cs _) => if a.off ≤ cs.size then some (.slice (some ⟨id, 0, none⟩) 0 0, put h id (some (.cells #[] .ro))) else none
        | _, _ => none
      | .slice none _ _ => some (.slice none 0 0, put h id (some (.cells #[] .ro)))
      | _ => none) := nr rfl
theorem a_sliceArr (id : Nat) (n : Nat) (sz : Nat) (x : Operand) (lo : Option Operand) (hi : Option Operand) (tm : Array Value) (h : H) : aop id (.sliceArr n sz x lo hi) tm h =
    (match ev tm x with
      | .pointer (some a) => match a.spot, get h a.block, boundV tm 0 lo, boundV tm n hi with
        | none, some (.cells cs md), some l, some u =>
          if l ≤ u ∧ u ≤ n ∧ md = .rw ∧ a.off + n * sz ≤ cs.size then
            some (.slice (some (if n = l then a else { a with off := a.off + l * sz })) (u - l) (n - l), h)
          else none
        | _, _, _, _ => none
      | _ => none) := nr rfl
theorem a_fieldAddr (id : Nat) (off : Nat) (x : Operand) (tm : Array Value) (h : H) : aop id (.fieldAddr off x) tm h =
    (match ev tm x with
      | .pointer (some a) => match a.spot with
        | none => some (.pointer (some { a with off := a.off + off }), h)
        | _ => none
      | _ => none) := nr rfl
theorem a_field1 (id : Nat) (off : Nat) (x : Operand) (tm : Array Value) (h : H) : aop id (.field1 off x) tm h =
    (match ev tm x with
      | .agg cs => (cs[off]?).map fun v => (v, h)
      | _ => none) := nr rfl
theorem a_fieldN (id : Nat) (off : Nat) (n : Nat) (x : Operand) (tm : Array Value) (h : H) : aop id (.fieldN off n x) tm h =
    (match ev tm x with
      | .agg cs => if off + n ≤ cs.size then some (.agg (cs.extract off (off + n)), h) else none
      | _ => none) := nr rfl
theorem a_indexSl (id : Nat) (sz : Nat) (x : Operand) (i : Operand) (tm : Array Value) (h : H) : aop id (.indexSl sz x i) tm h =
    (match ev tm x, natV (ev tm i) with
      | .slice (some a) n _, some i => match a.spot with
        | none => if i < n then some (.pointer (some { a with off := a.off + i * sz }), h) else none
        | _ => none
      | _, _ => none) := nr rfl
theorem a_indexArr (id : Nat) (len : Nat) (sz : Nat) (x : Operand) (i : Operand) (tm : Array Value) (h : H) : aop id (.indexArr len sz x i) tm h =
    (match ev tm x, natV (ev tm i) with
      | .pointer (some a), some i => match a.spot with
        | none => if i < len then some (.pointer (some { a with off := a.off + i * sz }), h) else none
        | _ => none
      | _, _ => none) := nr rfl
theorem a_lookup (id : Nat) (kk : KeyK) (zero : Value) (ok : Bool) (x : Operand) (k : Operand) (tm : Array Value) (h : H) : aop id (.lookup kk zero ok x k) tm h =
    (match ev tm x with
      | .map none => if kk.is (ev tm k) then some (if ok then .tuple #[zero, .bool false] else zero, h) else none
      | .map (some r) => match get h r with
        | some (.map es) => if kk.is (ev tm k) then (match findM (ev tm k) es with
          | some (some v) => some (if ok then .tuple #[v, .bool true] else v, h)
          | some none => some (if ok then .tuple #[zero, .bool false] else zero, h)
          | none => none) else none
        | _ => none
      | _ => none) := nr rfl
theorem a_mapUpdate (id : Nat) (kk : KeyK) (m : Operand) (k : Operand) (v : Operand) (tm : Array Value) (h : H) : aop id (.mapUpdate kk m k v) tm h =
    (match ev tm m with
      | .map (some r) => match get h r with
        | some (.map es) => if kk.is (ev tm k) then (setM (ev tm k) (ev tm v) es).map fun es' => (undef, put h r (some (.map es'))) else none
        | _ => none
      | _ => none) := nr rfl
theorem a_delete (id : Nat) (kk : KeyK) (m : Operand) (k : Operand) (tm : Array Value) (h : H) : aop id (.delete kk m k) tm h =
    (match ev tm m with
      | .map (some r) => match get h r with
        | some (.map es) => if kk.is (ev tm k) then (delM (ev tm k) es).map fun es' => (.tuple #[], put h r (some (.map es'))) else none
        | _ => none
      | _ => none) := nr rfl
theorem a_extract (id : Nat) (x : Operand) (i : Nat) (tm : Array Value) (h : H) : aop id (.extract x i) tm h =
    (match ev tm x with
      | .tuple vs => if vs.size ≠ 1 then (vs[i]?).map fun v => (v, h) else none
      | _ => none) := nr rfl
theorem a_lenS (id : Nat) (x : Operand) (tm : Array Value) (h : H) : aop id (.lenS x) tm h =
    (match ev tm x with
      | .slice _ n _ => some (.int .i64 n, h)
      | _ => none) := nr rfl
theorem a_lenM (id : Nat) (x : Operand) (tm : Array Value) (h : H) : aop id (.lenM x) tm h =
    (match ev tm x with
      | .map none => some (.int .i64 0, h)
      | .map (some r) => match get h r with
        | some (.map es) => some (.int .i64 es.length, h)
        | _ => none
      | _ => none) := nr rfl
theorem a_append (id : Nat) (sz : Nat) (bytes : Nat) (u2 : Array Value) (s : Operand) (x : Operand) (tm : Array Value) (h : H) : aop id (.append sz bytes u2 s x) tm h =
    (aappend id sz bytes h (ev tm s) (ev tm x)) := nr rfl
theorem a_copy (id : Nat) (sz : Nat) (d : Operand) (s : Operand) (tm : Array Value) (h : H) : aop id (.copy sz d s) tm h =
    (match ev tm d, lenV (ev tm s) with
      | .slice base dn _, some m =>
        let n := Nat.min m dn
        (sliceCells h sz n (ev tm s)).bind fun xs =>
          match base with
          | none => some (.int .i64 n, h)
          | some a => if n * sz = 0 then some (.int .i64 n, h) else (storeCs h a xs).map fun h' => (.int .i64 n, h')
      | _, _ => none) := nr rfl

theorem guardIs_none (tm : Array Value) : guardIs none tm = some true := nr rfl
theorem beq_t (c : Bool) : (c == true) = c := by cases c <;> rfl
theorem beq_f (c : Bool) : (c == false) = !c := by cases c <;> rfl
theorem guard_bool (n : Nat) (e : Env) (t : Nat) (b c : Bool) (hn : t < n) (he : e t = .bool c) : guardIs (some (t, b)) (tmOf n e) = some (c == b) := by
  simp only [guardIs, getD_tmOf, if_pos hn, he]

theorem ev_tmp (n : Nat) (e : Env) (t : Nat) (h : t < n) : ev (tmOf n e) (.tmp t) = e t := by rw [ev_tmOf, if_pos h]
theorem getD_tmp (n : Nat) (e : Env) (t : Nat) (d : Value) (h : t < n) : (tmOf n e).getD t d = e t := by rw [getD_tmOf, if_pos h]
theorem getD_arg0 (a : Value) (l : List Value) (d : Value) : (List.toArray (a :: l)).getD 0 d = a := rfl
theorem getD_argS (a : Value) (l : List Value) (n : Nat) (d : Value) : (List.toArray (a :: l)).getD (n + 1) d = (List.toArray l).getD n d := by
  simp [Array.getD_eq_getD_getElem?]
theorem all_one_list (l : List Value) (n : Nat) (hn : n = l.length) : (l.toArray).all one 0 n = l.all one := by subst hn; simp

end
end Ab
