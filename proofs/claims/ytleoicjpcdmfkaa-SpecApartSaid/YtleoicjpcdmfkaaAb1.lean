/-
  AN ABSTRACT MACHINE beside the model's: the same code, over a heap of numbered blocks of its own, in the text's order, with no draw.
  This text holds its definitions: values, blocks, operations, the translation of the model's code, and the relation of what it comes to.
-/
import Derived.Orders
import Derived.Below
set_option linter.unusedSimpArgs false
set_option linter.unusedVariables false
namespace Ab
open Go

/-- How a block may be used: written; only read; made by an append (its room is not known). -/
inductive Md where
  | rw | ro
  | gr (sz : Nat)
  deriving DecidableEq, Repr

inductive Blk where
  | cells (cs : Array Value) (md : Md)
  | map (es : List (Value × Value))

class Heap (H : Type) where
  get : H → Nat → Option Blk
  put : H → Nat → Option Blk → H
  next : H → Nat
  skip : H → Nat → H
  get_put : ∀ (h : H) (k : Nat) (b : Option Blk) (j : Nat), get (put h k b) j = if j = k then b else get h j
  next_put : ∀ (h : H) (k : Nat) (b : Option Blk), next (put h k b) = next h
  get_skip : ∀ (h : H) (n j : Nat), get (skip h n) j = get h j
  next_skip : ∀ (h : H) (n : Nat), next (skip h n) = next h + n

open Heap (get put next skip)
attribute [simp] Heap.next_put Heap.get_skip Heap.next_skip

/-- A value of which nothing is known. -/
def junk : Value := .tuple #[.tuple #[]]

/-- A value's cells, of a type of n cells. -/
def cellsN (n : Nat) : Value → Option (Array Value)
  | .agg cs => if cs.size = n then some cs else none
  | .tuple _ => none
  | v => if n = 1 then some #[v] else none

def one : Value → Bool
  | .agg _ | .tuple _ => false
  | _ => true

/-- The kinds of cells that are compared. -/
inductive LK where
  | int | bool | str
  deriving DecidableEq, Repr

def LK.is : LK → Value → Bool
  | .int, .int .. => true
  | .bool, .bool _ => true
  | .str, .string _ => true
  | _, _ => false

def shapeL : List LK → List Value → Bool
  | [], [] => true
  | k :: ks, v :: vs => k.is v && shapeL ks vs
  | _, _ => false

inductive EqK where
  | bool | str | ptr | nilSlice | nilMap | nilFunc
  | agg (ks : List LK)
  deriving DecidableEq, Repr

/-- The kinds of a map's keys. -/
inductive KeyK where
  | leaf (k : LK)
  | agg (ks : List LK)
  deriving DecidableEq, Repr

def KeyK.is : KeyK → Value → Bool
  | .leaf k, v => k.is v
  | .agg ks, .agg vs => shapeL ks vs.toList
  | .agg _, _ => false

inductive AOp where
  | mov (x : Operand)
  | pick (c a b : Operand)
  | alloc (zero : Array Value)
  | box (n : Nat) (x : Operand)
  | build (zero : Array Value) (parts : List (Nat × Nat × Operand))
  | buildSlice (zero : Array Value) (len : Nat) (parts : List (Nat × Nat × Operand))
  | load1 (a : Operand)
  | loadN (n : Nat) (a : Operand)
  | store (n : Nat) (a v : Operand)
  | nilCheck (x : Operand)
  | bin (op : BinOp) (x y : Operand)
  | eqv (neg : Bool) (k : EqK) (x y : Operand)
  | un (op : UnOp) (x : Operand)
  | conv (k : IntKind) (x : Operand)
  | makeMap
  | slice (sz : Nat) (x : Operand) (lo hi : Option Operand)
  | sliceZero (x : Operand)
  | sliceArr (n sz : Nat) (x : Operand) (lo hi : Option Operand)
  | fieldAddr (off : Nat) (x : Operand)
  | field1 (off : Nat) (x : Operand)
  | fieldN (off n : Nat) (x : Operand)
  | indexSl (sz : Nat) (x i : Operand)
  | indexArr (len sz : Nat) (x i : Operand)
  | lookup (kk : KeyK) (zero : Value) (ok : Bool) (x k : Operand)
  | mapUpdate (kk : KeyK) (m k v : Operand)
  | delete (kk : KeyK) (m k : Operand)
  | extract (x : Operand) (i : Nat)
  | lenS (x : Operand)
  | lenM (x : Operand)
  | append (sz bytes : Nat) (zero : Array Value) (s x : Operand)
  | copy (sz : Nat) (d s : Operand)
  | call (f : FuncId) (args : Array Operand)

def AOp.reads : AOp → List Operand
  | .mov x | .box _ x | .load1 x | .loadN _ x | .nilCheck x | .un _ x | .conv _ x | .sliceZero x | .fieldAddr _ x | .field1 _ x | .fieldN _ _ x | .extract x _ | .lenS x | .lenM x => [x]
  | .pick c a b => [c, a, b]
  | .alloc _ | .makeMap => []
  | .build _ ps | .buildSlice _ _ ps => ps.map (·.2.2)
  | .store _ a v => [a, v]
  | .bin _ x y | .eqv _ _ x y | .indexSl _ x y | .indexArr _ _ x y | .lookup _ _ _ x y | .append _ _ _ x y | .copy _ x y | .delete _ x y => [x, y]
  | .mapUpdate _ m k v => [m, k, v]
  | .slice _ x lo hi | .sliceArr _ _ x lo hi => x :: (lo.toList ++ hi.toList)
  | .call _ args => args.toList

structure AOper where
  dst : Option Tmp
  op : AOp
  guard : Option (Tmp × Bool)
  eff : Bool
  lo : Nat
  hi : Nat

inductive ACode where
  | skip
  | region (ops : List AOper) (draw : Bool)
  | seq (a b : ACode)
  | cond (c : Operand) (thn els : ACode)
  | block (id : Nat) (body : ACode)
  | loop (body : ACode)
  | exit (id : Nat)
  | ret

inductive ARes where
  | tmp (t : Tmp)
  | cell1 (a : Tmp)
  | cellN (n : Nat) (a : Tmp)

structure AFunc where
  ntmps : Nat
  results : List ARes
  body : ACode

/-! ### values -/

def ev (tm : Array Value) : Operand → Value
  | .tmp t => tm.getD t undef
  | .const v => v
  | .global _ => junk
  | .func f => .func (.func f) #[] #[]

def putT (tm : Array Value) (d : Option Tmp) (v : Value) : Array Value :=
  match d with
  | some t => tm.setIfInBounds t v
  | none => tm

/-- Is a guarded operation come to? -/
def guardIs (g : Option (Tmp × Bool)) (tm : Array Value) : Option Bool :=
  match g with
  | none => some true
  | some (t, b) => match tm.getD t undef with
    | .bool c => some (c == b)
    | .tuple vs => if vs.size = 0 then some false else none
    | _ => none

def wanted (g : Option (Tmp × Bool)) (tm : Array Value) : Bool := guardIs g tm == some true

/-- Two cells are the same: of integers, bools, strings. -/
def leafEq : Value → Value → Option Bool
  | .bool a, .bool b => some (a == b)
  | .int k a, .int k' b => if k = k' then some (a == b) else none
  | .string a, .string b => some (a == b)
  | _, _ => none

def allEq : List Value → List Value → Option Bool
  | [], [] => some true
  | x :: xs, y :: ys => (leafEq x y).bind fun r => (allEq xs ys).map fun s => r && s
  | _, _ => none

def eqV : EqK → Value → Value → Option Bool
  | .bool, .bool a, .bool b => some (a == b)
  | .str, .string a, .string b => some (a == b)
  | .agg ks, .agg xs, .agg ys => if shapeL ks xs.toList then allEq xs.toList ys.toList else none
  | .ptr, .pointer none, .pointer b => some b.isNone
  | .ptr, .pointer (some _), .pointer none => some false
  | .nilSlice, .slice none _ _, .slice b _ _ => some b.isNone
  | .nilSlice, .slice (some _) _ _, .slice none _ _ => some false
  | .nilMap, .map none, .map b => some b.isNone
  | .nilMap, .map (some _), .map none => some false
  | .nilFunc, .nilFunc, .nilFunc => some true
  | .nilFunc, .nilFunc, .func .. => some false
  | .nilFunc, .func .., .nilFunc => some false
  | _, _, _ => none

def binV (op : BinOp) : Value → Value → Option Value
  | .int k a, .int k' b =>
    match op with
    | .shl => if b < 0 then none else some (.int k (k.wrap (a * 2 ^ (min b.toNat k.bits))))
    | .shr => if b < 0 then none else some (.int k (a.fdiv (2 ^ (min b.toNat k.bits))))
    | op => if k ≠ k' then none else
      match op with
      | .add => some (.int k (k.wrap (a + b)))
      | .sub => some (.int k (k.wrap (a - b)))
      | .mul => some (.int k (k.wrap (a * b)))
      | .quo => if b = 0 then none else some (.int k (k.wrap (a.tdiv b)))
      | .rem => if b = 0 then none else some (.int k (a.tmod b))
      | .and => some (.int k (k.wrap (BitVec.ofInt k.bits a &&& BitVec.ofInt k.bits b).toNat))
      | .or => some (.int k (k.wrap (BitVec.ofInt k.bits a ||| BitVec.ofInt k.bits b).toNat))
      | .xor => some (.int k (k.wrap (BitVec.ofInt k.bits a ^^^ BitVec.ofInt k.bits b).toNat))
      | .andNot => some (.int k (k.wrap (BitVec.ofInt k.bits a &&& ~~~BitVec.ofInt k.bits b).toNat))
      | .eql => some (.bool (a == b))
      | .neq => some (.bool (a != b))
      | .lss => some (.bool (decide (a < b)))
      | .leq => some (.bool (decide (a ≤ b)))
      | .gtr => some (.bool (decide (a > b)))
      | .geq => some (.bool (decide (a ≥ b)))
      | _ => none
  | _, _ => none

def unV (op : UnOp) : Value → Option Value
  | .bool b => match op with
    | .not => some (.bool !b)
    | _ => none
  | .int k n => match op with
    | .neg => some (.int k (k.wrap (0 - n)))
    | .xor => some (.int k (k.wrap (BitVec.ofInt k.bits (if k.signed then -1 else k.max) ^^^ BitVec.ofInt k.bits n).toNat))
    | _ => none
  | _ => none

/-- Parts laid into cells. -/
def setAll (cs : Array Value) (off : Nat) : List Value → Array Value
  | [] => cs
  | v :: r => setAll (cs.setIfInBounds off v) (off + 1) r

def fillV (cs : Array Value) : List (Nat × Nat × Value) → Option (Array Value)
  | [] => some cs
  | (off, n, v) :: r =>
    match cellsN n v with
    | some xs => if off + n ≤ cs.size then fillV (setAll cs off xs.toList) r else none
    | none => none

def natV : Value → Option Nat
  | .int _ n => if 0 ≤ n then some n.toNat else none
  | _ => none

def boundV (tm : Array Value) (d : Nat) : Option Operand → Option Nat
  | none => some d
  | some x => natV (ev tm x)

def keyEq : Value → Value → Option Bool
  | .agg xs, .agg ys => allEq xs.toList ys.toList
  | x, y => leafEq x y

def findM (k : Value) : List (Value × Value) → Option (Option Value)
  | [] => some none
  | (x, v) :: r => match keyEq k x with
    | some true => some (some v)
    | some false => findM k r
    | none => none

def setM (k v : Value) : List (Value × Value) → Option (List (Value × Value))
  | [] => some [(k, v)]
  | (x, u) :: r => match keyEq k x with
    | some true => some ((k, v) :: r)
    | some false => (setM k v r).map ((x, u) :: ·)
    | none => none

def delM (k : Value) : List (Value × Value) → Option (List (Value × Value))
  | [] => some []
  | (x, u) :: r => match keyEq k x with
    | some true => some r
    | some false => (delM k r).map ((x, u) :: ·)
    | none => none

section
variable {H : Type} [Heap H]

def loadC (h : H) (a : Addr) : Option Value :=
  match a.spot, get h a.block with
  | none, some (.cells cs _) => cs[a.off]?
  | _, _ => none

def loadCs (h : H) (a : Addr) (n : Nat) : Option (Array Value) :=
  match a.spot, get h a.block with
  | none, some (.cells cs _) => if a.off + n ≤ cs.size then some (cs.extract a.off (a.off + n)) else none
  | _, _ => none

def storeCs (h : H) (a : Addr) (xs : Array Value) : Option H :=
  match a.spot, get h a.block with
  | none, some (.cells cs md) =>
    if md ≠ .ro ∧ a.off + xs.size ≤ cs.size ∧ xs.all one then some (put h a.block (some (.cells (setAll cs a.off xs.toList) md))) else none
  | _, _ => none

/-- Two addresses are one. -/
def samePtr (h : H) (a b : Addr) : Option Bool :=
  match a.spot, b.spot with
  | none, none => if a.block = b.block then some (a.off == b.off) else
    match get h a.block, get h b.block with
    | some (.cells _ md), some (.cells cs' md') => if md ≠ .ro ∧ md' ≠ .ro ∧ cs'.size ≠ 0 then some false else none
    | _, _ => none
  | _, _ => none

def eqH (h : H) (k : EqK) (x y : Value) : Option Bool :=
  match k, x, y with
  | .ptr, .pointer (some a), .pointer (some b) => samePtr h a b
  | k, x, y => eqV k x y

def sliceCells (h : H) (sz n : Nat) : Value → Option (Array Value)
  | .slice none _ _ => if n = 0 then some #[] else none
  | .slice (some a) _ _ => if n * sz = 0 then some #[] else loadCs h a (n * sz)
  | _ => none

def lenV : Value → Option Nat
  | .slice _ n _ => some n
  | _ => none

/-- An append's room is asked for at most so many bytes: far below what ends a call. -/
def roomy : Nat := 2 ^ 44

def aappend (id sz bytes : Nat) (h : H) (s x : Value) : Option (Value × H) :=
  match s, lenV x with
  | .slice base n cap, some m =>
    match sliceCells h sz m x with
    | none => none
    | some new =>
      if ¬ ((n + m) * bytes ≤ roomy) then none else
      match base with
      | none =>
        if n ≠ 0 ∨ cap ≠ 0 then none else
        if m = 0 then some (.slice none 0 0, h)
        else some (.slice (some ⟨id, 0, none⟩) m m, put h id (some (.cells new (.gr sz))))
      | some a =>
        match a.spot, get h a.block with
        | none, some (.cells cs md) =>
          if n + m ≤ cap then
            if m = 0 then some (.slice base n cap, h) else
            (storeCs h { a with off := a.off + n * sz } new).map fun h' => (.slice base (n + m) cap, h')
          else
            match (if n * sz = 0 then some #[] else loadCs h a (n * sz)) with
            | none => none
            | some old =>
              match md with
              | .gr sz' =>
                if sz' ≠ sz ∨ cap = 0 ∨ a.off + cap * sz ≠ cs.size ∨ ¬ new.all one then none else
                some (.slice (some ⟨id, 0, none⟩) (n + m) (n + m), put (put h a.block none) id (some (.cells (old ++ new) (.gr sz))))
              | _ => some (.slice (some ⟨id, 0, none⟩) (n + m) (n + m), put h id (some (.cells (old ++ new) (.gr sz))))
        | _, _ => none
  | _, _ => none

/-- An operation that calls nothing; id: the number of a block that it may make. -/
def aop (id : Nat) (op : AOp) (tm : Array Value) (h : H) : Option (Value × H) :=
  match op with
  | .mov x => some (ev tm x, h)
  | .pick c a b => match ev tm c with
    | .bool t => some (if t then ev tm a else ev tm b, h)
    | _ => none
  | .alloc zero => some (.pointer (some ⟨id, 0, none⟩), put h id (some (.cells zero .rw)))
  | .box n x => (cellsN n (ev tm x)).map fun cs => (.pointer (some ⟨id, 0, none⟩), put h id (some (.cells cs .rw)))
  | .build zero parts => (fillV zero (parts.map fun p => (p.1, p.2.1, ev tm p.2.2))).map fun cs => (.agg cs, h)
  | .buildSlice zero len parts => (fillV zero (parts.map fun p => (p.1, p.2.1, ev tm p.2.2))).map fun cs =>
      (.slice (some ⟨id, 0, none⟩) len len, put h id (some (.cells cs .rw)))
  | .load1 a => match ev tm a with
    | .pointer (some a) => (loadC h a).map fun v => (v, h)
    | _ => none
  | .loadN n a => match ev tm a with
    | .pointer (some a) => (loadCs h a n).map fun cs => (.agg cs, h)
    | _ => none
  | .store n a v => match ev tm a with
    | .pointer (some a) => (cellsN n (ev tm v)).bind fun xs => (storeCs h a xs).map fun h' => (undef, h')
    | _ => none
  | .nilCheck x => match ev tm x with
    | .pointer (some a) => some (.pointer (some a), h)
    | _ => none
  | .bin op x y => (binV op (ev tm x) (ev tm y)).map fun v => (v, h)
  | .eqv neg k x y => (eqH h k (ev tm x) (ev tm y)).map fun r => (.bool (if neg then !r else r), h)
  | .un op x => (unV op (ev tm x)).map fun v => (v, h)
  | .conv k x => match ev tm x with
    | .int _ n => some (.int k (k.wrap n), h)
    | _ => none
  | .makeMap => some (.map (some id), put h id (some (.map [])))
  | .slice sz x lo hi => match ev tm x with
    | .slice (some a) n cap =>
      match a.spot, get h a.block, boundV tm 0 lo, boundV tm n hi with
      | none, some (.cells _ md), some l, some u =>
        if l ≤ u ∧ u ≤ cap then
          match md with
          | .gr sz' => if sz' ≠ sz ∨ cap = 0 then none else
            some (.slice (some (if cap = l then a else { a with off := a.off + l * sz })) (u - l) (cap - l), h)
          | _ => some (.slice (some (if cap = l then a else { a with off := a.off + l * sz })) (u - l) (cap - l), h)
        else none
      | _, _, _, _ => none
    | .slice none _ cap => match boundV tm 0 lo, boundV tm 0 hi with
      | some 0, some 0 => if cap = 0 then some (.slice none 0 0, h) else none
      | _, _ => none
    | _ => none
  | .sliceZero x => match ev tm x with
    | .slice (some a) _ _ => match a.spot, get h a.block with
      | none, some (.cells cs _) => if a.off ≤ cs.size then some (.slice (some ⟨id, 0, none⟩) 0 0, put h id (some (.cells #[] .ro))) else none
      | _, _ => none
    | .slice none _ _ => some (.slice none 0 0, put h id (some (.cells #[] .ro)))
    | _ => none
  | .sliceArr n sz x lo hi => match ev tm x with
    | .pointer (some a) => match a.spot, get h a.block, boundV tm 0 lo, boundV tm n hi with
      | none, some (.cells cs md), some l, some u =>
        if l ≤ u ∧ u ≤ n ∧ md = .rw ∧ a.off + n * sz ≤ cs.size then
          some (.slice (some (if n = l then a else { a with off := a.off + l * sz })) (u - l) (n - l), h)
        else none
      | _, _, _, _ => none
    | _ => none
  | .fieldAddr off x => match ev tm x with
    | .pointer (some a) => match a.spot with
      | none => some (.pointer (some { a with off := a.off + off }), h)
      | _ => none
    | _ => none
  | .field1 off x => match ev tm x with
    | .agg cs => (cs[off]?).map fun v => (v, h)
    | _ => none
  | .fieldN off n x => match ev tm x with
    | .agg cs => if off + n ≤ cs.size then some (.agg (cs.extract off (off + n)), h) else none
    | _ => none
  | .indexSl sz x i => match ev tm x, natV (ev tm i) with
    | .slice (some a) n _, some i => match a.spot with
      | none => if i < n then some (.pointer (some { a with off := a.off + i * sz }), h) else none
      | _ => none
    | _, _ => none
  | .indexArr len sz x i => match ev tm x, natV (ev tm i) with
    | .pointer (some a), some i => match a.spot with
      | none => if i < len then some (.pointer (some { a with off := a.off + i * sz }), h) else none
      | _ => none
    | _, _ => none
  | .lookup kk zero ok x k => match ev tm x with
    | .map none => if kk.is (ev tm k) then some (if ok then .tuple #[zero, .bool false] else zero, h) else none
    | .map (some r) => match get h r with
      | some (.map es) => if kk.is (ev tm k) then (match findM (ev tm k) es with
        | some (some v) => some (if ok then .tuple #[v, .bool true] else v, h)
        | some none => some (if ok then .tuple #[zero, .bool false] else zero, h)
        | none => none) else none
      | _ => none
    | _ => none
  | .mapUpdate kk m k v => match ev tm m with
    | .map (some r) => match get h r with
      | some (.map es) => if kk.is (ev tm k) then (setM (ev tm k) (ev tm v) es).map fun es' => (undef, put h r (some (.map es'))) else none
      | _ => none
    | _ => none
  | .delete kk m k => match ev tm m with
    | .map (some r) => match get h r with
      | some (.map es) => if kk.is (ev tm k) then (delM (ev tm k) es).map fun es' => (.tuple #[], put h r (some (.map es'))) else none
      | _ => none
    | _ => none
  | .extract x i => match ev tm x with
    | .tuple vs => if vs.size ≠ 1 then (vs[i]?).map fun v => (v, h) else none
    | _ => none
  | .lenS x => match ev tm x with
    | .slice _ n _ => some (.int .i64 n, h)
    | _ => none
  | .lenM x => match ev tm x with
    | .map none => some (.int .i64 0, h)
    | .map (some r) => match get h r with
      | some (.map es) => some (.int .i64 es.length, h)
      | _ => none
    | _ => none
  | .append sz bytes _ s x => aappend id sz bytes h (ev tm s) (ev tm x)
  | .copy sz d s => match ev tm d, lenV (ev tm s) with
    | .slice base dn _, some m =>
      let n := Nat.min m dn
      (sliceCells h sz n (ev tm s)).bind fun xs =>
        match base with
        | none => some (.int .i64 n, h)
        | some a => if n * sz = 0 then some (.int .i64 n, h) else (storeCs h a xs).map fun h' => (.int .i64 n, h')
    | _, _ => none
  | .call _ _ => none

/-! ### what code comes to -/

inductive AExit where
  | normal
  | exit (id : Nat)
  | ret
  deriving DecidableEq

/-- A record of an operation that was come to: its number, the slots and the heap ahead of it, what it yielded. -/
structure Rec (H : Type) where
  i : Nat
  tm : Array Value
  h : H
  v : Value

def ares1 (tm : Array Value) (h : H) : ARes → Option Value
  | .tmp t => some (tm.getD t undef)
  | .cell1 a => match tm.getD a undef with
    | .pointer (some a) => loadC h a
    | _ => none
  | .cellN n a => match tm.getD a undef with
    | .pointer (some a) => (loadCs h a n).map .agg
    | _ => none

def aresL (tm : Array Value) (h : H) : List ARes → Option (List Value)
  | [] => some []
  | r :: rs => (ares1 tm h r).bind fun v => (aresL tm h rs).map (v :: ·)

def tupV : List Value → Value
  | [v] => v
  | vs => .tuple vs.toArray

end
end Ab
