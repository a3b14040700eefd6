/-
  THE ABSTRACT MACHINE: the translation of the model's code into its own, and the relation 'Ex': what a piece of code comes to.
-/
import Derived.Test.YtleoicjpcdmfkaaAb1
set_option linter.unusedSimpArgs false
set_option linter.unusedVariables false
namespace Ab
open Go
open Heap (get put next skip)

def leafC : Value → Bool
  | .bool _ | .int .. | .string _ | .pointer none | .slice none 0 0 | .map none | .nilFunc | .nilIface => true
  | _ => false

def closedC : Value → Bool
  | .agg cs => cs.toList.all leafC
  | v => leafC v

def okO : Operand → Option Operand
  | .tmp t => some (.tmp t)
  | .const v => if closedC v then some (.const v) else none
  | _ => none

def okOs : List Operand → Option (List Operand)
  | [] => some []
  | x :: r => match okO x, okOs r with
    | some x, some r => some (x :: r)
    | _, _ => none

def okP : List (Nat × Nat × Operand) → Option (List (Nat × Nat × Operand))
  | [] => some []
  | (a, n, x) :: r => match okO x, okP r with
    | some x, some r => some ((a, n, x) :: r)
    | _, _ => none

def okOO : Option Operand → Option (Option Operand)
  | none => some none
  | some x => (okO x).map some

section
variable (P : Program)

/-- A type's zero value, as cells. -/
def zc (t : TypeId) : Option (Array Value) :=
  match P.info? t with
  | some i => match i.zero with
    | some z => if closedC z ∧ z.cells.size = i.size then some z.cells else none
    | none => none
  | none => none

def zv (t : TypeId) : Option Value :=
  match P.info? t with
  | some i => match i.zero with
    | some z => if closedC z then some z else none
    | none => none
  | none => none

def sizeT (t : TypeId) : Option Nat := (P.info? t).map (·.size)

def isAggT (t : TypeId) : Option Bool :=
  match P.underlying t with
  | some (.struct _) | some (.array _ _) => some true
  | some _ => some false
  | none => none

/-- The kinds of a struct's cells, in order. -/
def lksF (rec : TypeId → Option (List LK)) : List Field → Nat → Option (List LK)
  | [], _ => some []
  | f :: fs, off => match rec f.type with
    | some ks => match lksF rec fs (off + ks.length) with
      | some l => if f.offset = off ∧ (f.name == "_") = false ∧ sizeT P f.type = some ks.length then some (ks ++ l) else none
      | none => none
    | none => none

/-- The kinds of a type's cells, in order. -/
def lks : Nat → TypeId → Option (List LK)
  | 0, _ => none
  | n + 1, t =>
    match P.underlying t with
    | some (.int _) => some [.int]
    | some .bool => some [.bool]
    | some .string => some [.str]
    | some (.struct fs) => if P.stoodInHeld t then none else lksF P (lks n) fs.toList 0
    | some (.array len e) => match lks n e with
      | some ks => if sizeT P e = some ks.length then some ((List.replicate len ks).flatten) else none
      | none => none
    | _ => none

def keyK (t : TypeId) : Option KeyK :=
  match P.underlying t with
  | some (.int _) => some (.leaf .int)
  | some .bool => some (.leaf .bool)
  | some .string => some (.leaf .str)
  | some (.struct _) | some (.array _ _) => (lks P 50 t).map .agg
  | _ => none

def fieldsP (fs : Array Field) : List (Nat × Operand) → Option (List (Nat × Nat × Operand))
  | [] => some []
  | (i, x) :: r => match fs[i]?, okO x, fieldsP fs r with
    | some f, some x, some r => match sizeT P f.type with
      | some n => some ((f.offset, n, x) :: r)
      | none => none
    | _, _, _ => none

def elemsP (n : Nat) : List (Nat × Operand) → Option (List (Nat × Nat × Operand))
  | [] => some []
  | (i, x) :: r => match okO x, elemsP n r with
    | some x, some r => some ((i * n, n, x) :: r)
    | _, _ => none

def isNum : Operand → Bool
  | .const (.int _ n) => n == 0
  | _ => false

def cop (o : Oper) : Option AOp :=
  match o.op with
  | .move x | .assign x => (okO x).map .mov
  | .pick c a b => match okO c, okO a, okO b with
    | some c, some a, some b => some (.pick c a b)
    | _, _, _ => none
  | .alloc e => (zc P e).map .alloc
  | .box e x => match sizeT P e, okO x with
    | some n, some x => some (.box n x)
    | _, _ => none
  | .build t parts => match zc P t, P.underlying t with
    | some z, some (.struct fs) => if fs.all (fun f => (P.info? f.type).isSome) then (fieldsP P fs parts.toList).map (.build z) else none
    | some z, some (.array _ e) => match sizeT P e with
      | some n => (elemsP n parts.toList).map (.build z)
      | none => none
    | _, _ => none
  | .buildSlice t len parts => match P.underlying t with
    | some (.slice e) => match sizeT P e, zc P e with
      | some n, some z => if len * n ≤ 2 ^ 24 ∧ n ≠ 0 then
          (elemsP n parts.toList).map (.buildSlice ((Array.range (len * n)).map (z[· % z.size]!)) len) else none
      | _, _ => none
    | _ => none
  | .load t a => match isAggT P t, sizeT P t, okO a with
    | some true, some n, some a => some (.loadN n a)
    | some false, some _, some a => some (.load1 a)
    | _, _, _ => none
  | .store t a v => match sizeT P t, okO a, okO v with
    | some n, some a, some v => some (.store n a v)
    | _, _, _ => none
  | .nilCheck x => (okO x).map .nilCheck
  | .binOp op t x y _ => match okO x, okO y with
    | some x, some y => match op with
      | .eql | .neq => match P.underlying t with
        | some (.int _) => some (.bin op x y)
        | some .bool => some (.eqv (op == .neq) .bool x y)
        | some .string => some (.eqv (op == .neq) .str x y)
        | some (.pointer e) => match sizeT P e with
          | some (_ + 1) => some (.eqv (op == .neq) .ptr x y)
          | _ => none
        | some (.struct _) | some (.array _ _) => match lks P 50 t with
          | some ks => if P.eqGuardType P.depth t then none else some (.eqv (op == .neq) (.agg ks) x y)
          | none => none
        | some (.slice _) => some (.eqv (op == .neq) .nilSlice x y)
        | some (.map _ _) => some (.eqv (op == .neq) .nilMap x y)
        | some (.func _ _ _) => some (.eqv (op == .neq) .nilFunc x y)
        | _ => none
      | _ => some (.bin op x y)
    | _, _ => none
  | .unOp op _ x => (okO x).map (.un op)
  | .convert src dst x => match P.underlying src, P.underlying dst, okO x with
    | some _, some (.int k), some x => some (.conv k x)
    | _, _, _ => none
  | .makeMap t none => match P.underlying t with
    | some (.map _ _) => some .makeMap
    | _ => none
  | .slice t x lo hi none => match P.underlying t, okO x, okOO lo, okOO hi with
    | some (.slice e), some x, some lo, some hi => (sizeT P e).map fun n => .slice n x lo hi
    | some (.array len e), some x, some lo, some hi => (sizeT P e).map fun n => .sliceArr len n x lo hi
    | _, _, _, _ => none
  | .slice t x none (some hi) (some mx) => if isNum hi && isNum mx then
      match P.underlying t, okO x with
      | some (.slice e), some x => match sizeT P e with
        | some _ => some (.sliceZero x)
        | none => none
      | _, _ => none
    else none
  | .fieldAddr s x f => match P.underlying s, okO x with
    | some (.struct fs), some x => match fs[f]? with
      | some fd => match sizeT P fd.type with
        | some (_ + 1) => some (.fieldAddr fd.offset x)
        | _ => none
      | none => none
    | _, _ => none
  | .field s x f => match P.underlying s, okO x with
    | some (.struct fs), some x => match fs[f]? with
      | some fd => match isAggT P fd.type, sizeT P fd.type with
        | some true, some n => some (.fieldN fd.offset n x)
        | some false, some _ => some (.field1 fd.offset x)
        | _, _ => none
      | none => none
    | _, _ => none
  | .indexAddr t x i => match P.underlying t, okO x, okO i with
    | some (.slice e), some x, some i => (sizeT P e).map fun n => .indexSl n x i
    | some (.array len e), some x, some i => (sizeT P e).map fun n => .indexArr len n x i
    | _, _, _ => none
  | .lookup t x k ok => match P.underlying t, okO x, okO k with
    | some (.map kt et), some x, some k => match keyK P kt, zv P et with
      | some kk, some z => some (.lookup kk z ok x k)
      | _, _ => none
    | _, _, _ => none
  | .mapUpdate t m k v => match P.underlying t, okO m, okO k, okO v with
    | some (.map kt _), some m, some k, some v => (keyK P kt).map fun kk => .mapUpdate kk m k v
    | _, _, _, _ => none
  | .extract x i => (okO x).map fun x => .extract x i
  | .call c => match c.callee with
    | .value (.func f) => match okOs c.args.toList with
      | some as => match P.funcs[f]? with
        | some fn => if fn.body.isSome ∧ (fn.name == "runtime.NumGoroutine") = false then some (.call f as.toArray) else none
        | none => none
      | none => none
    | .builtin .len => match c.args.toList with
      | [x] => match okO x, (c.argTypes[0]?).bind P.underlying with
        | some x, some (.slice _) => some (.lenS x)
        | some x, some (.map _ _) => some (.lenM x)
        | _, _ => none
      | _ => none
    | .builtin .append => match c.args.toList, (c.argTypes[0]?).bind P.underlying with
      | [s, x], some (.slice e) => match okO s, okO x, P.info? e, zc P e, (c.argTypes[1]?).bind P.underlying with
        | some s, some x, some i, some z, some (.slice _) => if i.size ≠ 0 ∧ i.bytes ≠ 0 ∧ i.bytes ≤ 2 ^ 20 then some (.append i.size i.bytes z s x) else none
        | _, _, _, _, _ => none
      | _, _ => none
    | .builtin .copy => match c.args.toList, (c.argTypes[0]?).bind P.underlying with
      | [d, s], some (.slice e) => match okO d, okO s, sizeT P e with
        | some d, some s, some n => some (.copy n d s)
        | _, _, _ => none
      | _, _ => none
    | .builtin .delete => match c.args.toList, (c.argTypes[0]?).bind P.underlying with
      | [m, k], some (.map kt _) => match okO m, okO k, keyK P kt with
        | some m, some k, some kk => some (.delete kk m k)
        | _, _, _ => none
      | _, _ => none
    | _ => none
  | _ => none

end

def AOp.eff : AOp → Bool
  | .store .. | .mapUpdate .. | .delete .. | .append .. | .copy .. | .call .. => true
  | _ => false

def AOp.makes : AOp → Bool
  | .alloc .. | .box .. | .buildSlice .. | .makeMap | .sliceZero .. => true
  | _ => false

def dstAt (ops : Array Oper) (j : Nat) : Option Tmp := (ops[j]?).bind (·.dst)

/-- The slots that an operation names. -/
def AOper.names (o : AOper) : List Tmp :=
  o.dst.toList ++ (o.op.reads.filterMap fun | .tmp t => some t | _ => none) ++ (match o.guard with
    | some (t, _) => [t]
    | none => [])

/-- The masks say of no operation more than its edges do. -/
def maskOk (ops : Array Oper) (m : Array Nat) : Bool :=
  (List.range ops.size).all fun i => (List.range ops.size).all fun j =>
    !(m.getD i 0).testBit j || (match ops[i]? with
      | some o => o.after.toList.any fun e => Region.binds .any e && decide (e.on < i) && (e.on == j || (m.getD e.on 0).testBit j)
      | none => false)

def backOk (ops : Array Oper) : Bool :=
  (List.range ops.size).all fun i => match ops[i]? with
    | some o => o.after.toList.all fun e => !Region.binds .any e || decide (e.on < i)
    | none => false

def tmpsOk (l : Array AOper) (m : Array Nat) : Bool :=
  (List.range l.size).all fun j => (List.range j).all fun i =>
    match l[i]?, l[j]? with
    | some x, some y =>
      ((match x.dst with
        | some d => !y.names.contains d
        | none => true) && (match y.dst with
        | some d => !x.names.contains d
        | none => true)) || (m.getD j 0).testBit i
    | _, _ => false

def effsOk (l : Array AOper) (m : Array Nat) : Bool :=
  (List.range l.size).all fun j => (List.range j).all fun i =>
    match l[i]?, l[j]? with
    | some x, some y => !(x.eff && y.eff) || (m.getD j 0).testBit i
    | _, _ => false

def cops (P : Program) : List Oper → Option (List AOp)
  | [] => some []
  | o :: r => match cop P o, cops P r with
    | some x, some r => some (x :: r)
    | _, _ => none

def guardT (ops : Array Oper) : Option (Nat × Bool) → Option (Option (Tmp × Bool))
  | none => some none
  | some (j, b) => match dstAt ops j with
    | some t => some (some (t, b))
    | none => none

def loOf (as : Array AOp) (m : Array Nat) (i : Nat) : Nat :=
  ((List.range as.size).filter fun e => ((as[e]?).map (·.eff)).getD false && (m.getD i 0).testBit e).length
def hiOf (as : Array AOp) (m : Array Nat) (i : Nat) : Nat :=
  ((List.range as.size).filter fun e => ((as[e]?).map (·.eff)).getD false && !(m.getD e 0).testBit i).length

def cregL (ops : Array Oper) (as : Array AOp) (m : Array Nat) (draw : Bool) : Nat → List Oper → List AOp → Option (List AOper)
  | _, [], [] => some []
  | i, o :: r, a :: s => match guardT ops o.guard, cregL ops as m draw (i + 1) r s with
    | some g, some l => some ({ dst := o.dst, op := a, guard := g, eff := a.eff, lo := if draw then loOf as m i else 0, hi := if draw then hiOf as m i else 0 } :: l)
    | _, _ => none
  | _, _, _ => none

def creg (P : Program) (ops : Array Oper) (draw : Bool) : Option (List AOper) :=
  match cops P ops.toList with
  | none => none
  | some as =>
    let m := if draw then Region.before ops else #[]
    match cregL ops as.toArray m draw 0 ops.toList as with
    | none => none
    | some l => if draw && !(maskOk ops m && backOk ops && tmpsOk l.toArray m && effsOk l.toArray m) then none else some l

def ccode (P : Program) : Code → Option ACode
  | .skip => some .skip
  | .region _ ops draw => (creg P ops draw).map fun l => .region l draw
  | .seq a b => match ccode P a, ccode P b with
    | some a, some b => some (.seq a b)
    | _, _ => none
  | .cond c x y => match okO c, ccode P x, ccode P y with
    | some c, some x, some y => some (.cond c x y)
    | _, _, _ => none
  | .block id c => (ccode P c).map (.block id)
  | .loop c => (ccode P c).map .loop
  | .exit id => some (.exit id)
  | .ret => some .ret
  | _ => none

def cres (P : Program) : List ResultVar → Option (List ARes)
  | [] => some []
  | .tmp t :: r => (cres P r).map (.tmp t :: ·)
  | .cell a t :: r => match isAggT P t, sizeT P t, cres P r with
    | some true, some n, some r => some (.cellN n a :: r)
    | some false, some _, some r => some (.cell1 a :: r)
    | _, _, _ => none

def cfunc (P : Program) (f : FuncId) : Option AFunc :=
  match P.funcs[f]? with
  | none => none
  | some fn => match fn.body with
    | none => none
    | some c => match ccode P c, cres P fn.results.toList with
      | some b, some r => some { ntmps := fn.ntmps, results := r, body := b }
      | _, _ => none

/-! ### what code comes to -/

inductive Cfg (H : Type) where
  | code (c : ACode) (tm : Array Value) (h : H)
  | ops (base i : Nat) (l : List AOper) (tm : Array Value) (h : H)
  | call (f : FuncId) (args : Array Value) (h : H)

inductive Out (H : Type) where
  | code (e : AExit) (tm : Array Value) (h : H)
  | ops (tr : List (Rec H)) (tm : Array Value) (h : H)
  | call (v : Value) (h : H)

section
variable {H : Type} [Heap H]

/-- The heaps ahead of each effect, and the last one. -/
def heapsAt : List AOper → List (Rec H) → H → List H
  | o :: l, r :: tr, h => if o.eff then r.h :: heapsAt l tr h else heapsAt l tr h
  | _, _, h => [h]

/-- A block that an operation makes. -/
def madeBy (id : Nat) (op : AOp) (tm : Array Value) (h : H) : Option Blk :=
  match aop id op tm h with
  | some (_, h') => get h' id
  | none => none

/-- Of the blocks made behind the k-th effect, those that are not there yet, laid beforehand: the heap in which an operation may look that is not bound to its place. -/
def early (base : Nat) : Nat → List AOper → List (Rec H) → H → H
  | 0, o :: l, r :: tr, h =>
    let h' := early base 0 l tr h
    if o.op.makes && wanted o.guard r.tm then put h' (base + r.i) (madeBy (base + r.i) o.op r.tm r.h) else h'
  | k + 1, o :: l, _ :: tr, h => early base (if o.eff then k else k + 1) l tr h
  | _, _, _, h => h

def heapNo (ops : List AOper) (tr : List (Rec H)) (h : H) (k : Nat) : H := (heapsAt ops tr h).getD k h

/-- What an operation yields does not hang on its place. -/
def stableAt (base : Nat) (ops : List AOper) (tr : List (Rec H)) (h : H) (o : AOper) (r : Rec H) (k : Nat) : Prop :=
  if o.eff || !wanted o.guard r.tm then True
  else ∃ h', aop (base + r.i) o.op r.tm (early base k ops tr (heapNo ops tr h k)) = some (r.v, h') ∧
    (o.op.makes = true → get h' (base + r.i) = get (early base k ops tr (heapNo ops tr h k)) (base + r.i))

def stableL (base : Nat) (ops : List AOper) (tr : List (Rec H)) (h : H) : List AOper → List (Rec H) → Prop
  | o :: l, r :: t => (∀ k, o.lo ≤ k → k ≤ o.hi → stableAt base ops tr h o r k) ∧ stableL base ops tr h l t
  | _, _ => True

def isCall : AOp → Bool
  | .call .. => true
  | _ => false

inductive Ex (tab : FuncId → Option AFunc) : Cfg H → Out H → Prop
  | skip (tm h) : Ex tab (.code .skip tm h) (.code .normal tm h)
  | region (ops draw tm h tr tm' h') : Ex tab (.ops (next h) 0 ops tm (skip h ops.length)) (.ops tr tm' h') →
      (draw = true → stableL (next h) ops tr h' ops tr) → Ex tab (.code (.region ops draw) tm h) (.code .normal tm' h')
  | seq (a b tm h tm1 h1 e tm' h') : Ex tab (.code a tm h) (.code .normal tm1 h1) → Ex tab (.code b tm1 h1) (.code e tm' h') → Ex tab (.code (.seq a b) tm h) (.code e tm' h')
  | seqX (a b tm h e tm' h') : Ex tab (.code a tm h) (.code e tm' h') → e ≠ .normal → Ex tab (.code (.seq a b) tm h) (.code e tm' h')
  | cond (c x y tm h t e tm' h') : ev tm c = .bool t → Ex tab (.code (if t then x else y) tm h) (.code e tm' h') → Ex tab (.code (.cond c x y) tm h) (.code e tm' h')
  | block (id c tm h e tm' h') : Ex tab (.code c tm h) (.code e tm' h') → Ex tab (.code (.block id c) tm h) (.code (if e = .exit id then .normal else e) tm' h')
  | loop (c tm h tm1 h1 e tm' h') : Ex tab (.code c tm h) (.code .normal tm1 h1) → Ex tab (.code (.loop c) tm1 h1) (.code e tm' h') → Ex tab (.code (.loop c) tm h) (.code e tm' h')
  | loopX (c tm h e tm' h') : Ex tab (.code c tm h) (.code e tm' h') → e ≠ .normal → Ex tab (.code (.loop c) tm h) (.code e tm' h')
  | exit (id tm h) : Ex tab (.code (.exit id) tm h) (.code (.exit id) tm h)
  | ret (tm h) : Ex tab (.code .ret tm h) (.code .ret tm h)
  /-- what was in a slot may be forgotten -/
  | forget (c tm tm0 h e tm' h') : tm0.size = tm.size → (∀ t, tm0.getD t undef = junk ∨ tm0.getD t undef = tm.getD t undef) → Ex tab (.code c tm0 h) (.code e tm' h') → Ex tab (.code c tm h) (.code e tm' h')
  | onil (base i tm h) : Ex tab (.ops base i [] tm h) (.ops [] tm h)
  | oskip (base i o l tm h tr tm' h') : guardIs o.guard tm = some false → Ex tab (.ops base (i + 1) l (putT tm o.dst undef) h) (.ops tr tm' h') →
      Ex tab (.ops base i (o :: l) tm h) (.ops (⟨i, tm, h, undef⟩ :: tr) tm' h')
  | odo (base i o l tm h v h1 tr tm' h') : guardIs o.guard tm = some true → isCall o.op = false → aop (base + i) o.op tm h = some (v, h1) →
      Ex tab (.ops base (i + 1) l (putT tm o.dst v) h1) (.ops tr tm' h') → Ex tab (.ops base i (o :: l) tm h) (.ops (⟨i, tm, h, v⟩ :: tr) tm' h')
  | ocall (base i o l tm h f args v h1 tr tm' h') : guardIs o.guard tm = some true → o.op = .call f args → Ex tab (.call f (args.map (ev tm)) h) (.call v h1) →
      Ex tab (.ops base (i + 1) l (putT tm o.dst v) h1) (.ops tr tm' h') → Ex tab (.ops base i (o :: l) tm h) (.ops (⟨i, tm, h, v⟩ :: tr) tm' h')
  | call (f args h fn e tm' h' vs) : tab f = some fn → Ex tab (.code fn.body (args ++ Array.replicate (fn.ntmps - args.size) undef) h) (.code e tm' h') →
      (e = .normal ∨ e = .ret) → aresL tm' h' fn.results = some vs → Ex tab (.call f args h) (.call (tupV vs) h')

end
end Ab
