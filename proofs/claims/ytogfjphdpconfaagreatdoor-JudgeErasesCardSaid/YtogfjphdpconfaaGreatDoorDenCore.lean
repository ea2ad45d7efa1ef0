/- A deterministic interpreter of the model's code, over values with frozen lists: definitions alone. -/
import Derived.Calls
import Derived.LoopN
namespace Go.Den
open Go

inductive AVal where
  | bool (b : Bool)
  | int (k : IntKind) (n : Int)
  | str (s : List UInt8)
  | ptr (id off : Nat)
  | fptr (cells : List AVal)
  | nilptr
  | slice (id off len cap : Nat) (full : Bool) (esz : Nat)
  | list (cells : List AVal) (len : Nat) (exact : Bool)
  | nilslice
  | map (id : Nat)
  | nilmap
  | func (f : FuncId) (first captured : List AVal)
  | nilfunc
  | iface (t : TypeId) (v : AVal)
  | niliface
  | agg (cells : List AVal)
  | tuple (vs : List AVal)
  deriving Inhabited

inductive Trie (α : Type) where
  | nil
  | node (v : Option α) (l r : Trie α)

namespace Trie
variable {α : Type}
def get : Trie α → Nat → Option α
  | .nil, _ => none
  | .node v _ _, 0 => v
  | .node _ l r, m + 1 => bif Nat.beq (m % 2) 0 then l.get (m / 2) else r.get (m / 2)
def single (a : α) : Nat → Nat → Trie α
  | _, 0 => .node (some a) .nil .nil
  | 0, _ + 1 => .nil
  | f + 1, m + 1 => bif Nat.beq (m % 2) 0 then .node none (single a f (m / 2)) .nil else .node none .nil (single a f (m / 2))
def set (a : α) : Trie α → Nat → Trie α
  | .nil, n => single a n n
  | .node _ l r, 0 => .node (some a) l r
  | .node v l r, m + 1 => bif Nat.beq (m % 2) 0 then .node v (l.set a (m / 2)) r else .node v l (r.set a (m / 2))
def del : Trie α → Nat → Trie α
  | .nil, _ => .nil
  | .node _ l r, 0 => .node none l r
  | .node v l r, m + 1 => bif Nat.beq (m % 2) 0 then .node v (l.del (m / 2)) r else .node v l (r.del (m / 2))
end Trie

inductive HObj where
  | arr (cells : List AVal) (esz : Nat) (grow : Bool)
  | map (es : List (AVal × AVal))

structure Heap where
  next : Nat
  objs : Trie HObj

def Heap.empty : Heap := ⟨0, .nil⟩
def Heap.get (h : Heap) (id : Nat) : Option HObj := h.objs.get id
def Heap.put (h : Heap) (id : Nat) (o : HObj) : Heap := ⟨h.next, h.objs.set o id⟩
def Heap.del (h : Heap) (id : Nat) : Heap := ⟨h.next, h.objs.del id⟩
def Heap.dels (h : Heap) : List Nat → Heap
  | [] => h
  | i :: l => (h.del i).dels l

abbrev Tmps := Trie AVal

def mapO {α β : Type} (f : α → Option β) : List α → Option (List β)
  | [] => some []
  | x :: l => match f x with
    | some y => match mapO f l with
      | some ys => some (y :: ys)
      | none => none
    | none => none

def isCell : AVal → Bool
  | .agg _ | .tuple _ => false
  | _ => true
/-- A value as a constant of the program. -/
def ofValue : Nat → Value → Option AVal
  | 0, _ => none
  | n + 1, v => match v with
    | .bool b => some (.bool b)
    | .int k i => some (.int k i)
    | .string s => some (.str s.data.toList)
    | .pointer none => some .nilptr
    | .slice none 0 0 => some .nilslice
    | .map none => some .nilmap
    | .nilFunc => some .nilfunc
    | .nilIface => some .niliface
    | .agg cs => match mapO (ofValue n) cs.toList with
      | some l => bif l.all isCell then some (.agg l) else none
      | none => none
    | .tuple cs => match mapO (ofValue n) cs.toList with
      | some l => some (.tuple l)
      | none => none
    | _ => none

def cellsOf : AVal → List AVal
  | .agg cs => cs
  | v => [v]

mutual
def beq : AVal → AVal → Bool
  | .bool a, .bool b => a == b
  | .int k a, .int l b => decide (k = l) && a == b
  | .str a, .str b => a == b
  | .ptr a b, .ptr c d => a == c && b == d
  | .fptr a, .fptr b => beqL a b
  | .nilptr, .nilptr | .nilslice, .nilslice | .nilmap, .nilmap | .nilfunc, .nilfunc | .niliface, .niliface => true
  | .slice a b c d x e, .slice a' b' c' d' x' e' => a == a' && b == b' && c == c' && d == d' && x == x' && e == e'
  | .list a b c, .list a' b' c' => b == b' && c == c' && beqL a a'
  | .map a, .map b => a == b
  | .func f a b, .func f' a' b' => f == f' && beqL a a' && beqL b b'
  | .iface t v, .iface t' v' => t == t' && beq v v'
  | .agg a, .agg b => beqL a b
  | .tuple a, .tuple b => beqL a b
  | _, _ => false
def beqL : List AVal → List AVal → Bool
  | [], [] => true
  | a :: x, b :: y => beq a b && beqL x y
  | _, _ => false
end

inductive Mode where
  | heap | pure
  deriving DecidableEq

structure Cfg where
  P : Program
  glob : Nat → Option (List AVal)
  mode : FuncId → FuncId → Mode
  re : FuncId → Nat → List (Nat × Nat)
  ext : FuncId → Option (List AVal → Option AVal)
  ok : FuncId → Bool
  perm : FuncId → Nat → List Nat

section
variable (C : Cfg)

def isAgg (t : TypeId) : Option Bool :=
  match C.P.underlying t with
  | some (.struct _) | some (.array _ _) => some true
  | some _ => some false
  | none => none

/-- A part of a struct or an array, or a variable's cells: from cell off on. -/
def partA (t : TypeId) (cs : List AVal) (off : Nat) : Option AVal :=
  match C.P.info? t, isAgg C t with
  | some i, some true => bif Nat.ble (off + i.size) cs.length then some (.agg ((cs.drop off).take i.size)) else none
  | some _, some false => cs[off]?
  | _, _ => none

def ev (t : Tmps) : Operand → Option AVal
  | .tmp i => t.get i
  | .const v => ofValue 5 v
  | .global g => (C.glob g).map .fptr
  | .func f => some (.func f [] [])

def evL (t : Tmps) (l : List Operand) : Option (List AVal) := mapO (ev C t) l

def evO (t : Tmps) : Option Operand → Option (Option AVal)
  | none => some none
  | some x => match ev C t x with
    | some v => some (some v)
    | none => none

def cellsAt (h : Heap) : AVal → Option (List AVal)
  | .ptr id off => match h.get id with
    | some (.arr cs _ _) => bif Nat.ble off cs.length then some (cs.drop off) else none
    | _ => none
  | .fptr cs => some cs
  | _ => none

def loadA (t : TypeId) (h : Heap) (a : AVal) : Option AVal :=
  match cellsAt h a with
  | some cs => partA C t cs 0
  | none => none

def setRange (l : List AVal) (off : Nat) (vs : List AVal) : List AVal := l.take off ++ (vs ++ l.drop (off + vs.length))

def storeA (t : TypeId) (h : Heap) (a v : AVal) : Option Heap :=
  match C.P.info? t, a, v with
  | _, _, .tuple _ => none
  | some i, .ptr id off, v => match h.get id with
    | some (.arr cs e g) =>
      let vs := cellsOf v
      bif Nat.beq vs.length i.size && Nat.ble (off + vs.length) cs.length then some (h.put id (.arr (setRange cs off vs) e g)) else none
    | _ => none
  | _, _, _ => none

def zeroA (t : TypeId) : Option AVal :=
  match C.P.info? t with
  | some i => match i.zero with
    | some v => match ofValue 5 v with
      | some (.tuple _) => none
      | r => r
    | none => none
  | none => none

/-- Parts laid over cells, each at its place. -/
def fillA (place : Nat → Option (Nat × Nat)) (cells : List AVal) : List (Nat × AVal) → Option (List AVal)
  | [] => some cells
  | (i, v) :: rest => match place i with
    | none => none
    | some (off, size) =>
      let vs := cellsOf v
      bif Nat.beq vs.length size && Nat.ble (off + vs.length) cells.length then fillA place (setRange cells off vs) rest else none

def evParts (t : Tmps) : List (Nat × Operand) → Option (List (Nat × AVal))
  | [] => some []
  | (i, x) :: l => match ev C t x with
    | some (.tuple _) => none
    | none => none
    | some v => match evParts t l with
      | none => none
      | some vs => some ((i, v) :: vs)

def repl (z : List AVal) : Nat → List AVal
  | 0 => []
  | n + 1 => z ++ repl z n

def placesA (fields : Array Field) : Option (List (Nat × Nat)) :=
  mapO (fun f => match C.P.info? f.type with | some n => some (f.offset, n.size) | none => none) fields.toList

def buildA (t : TypeId) (parts : List (Nat × AVal)) : Option AVal :=
  match zeroA C t, C.P.underlying t with
  | some (.agg z), some (.struct fields) => match placesA C fields with
    | some pl => match fillA (fun i => pl[i]?) z parts with
      | some cs => some (.agg cs)
      | none => none
    | none => none
  | some (.agg z), some (.array _ elem) => match C.P.info? elem with
    | some n => match fillA (fun i => some (i * n.size, n.size)) z parts with
      | some cs => some (.agg cs)
      | none => none
    | none => none
  | _, _ => none

def buildSliceA (t : TypeId) (len : Nat) (parts : List (Nat × AVal)) : Option ((Nat → AVal) × HObj) :=
  match C.P.underlying t with
  | some (.slice elem) => match C.P.info? elem, zeroA C elem with
    | some n, some z =>
      bif Nat.ble (len * n.size) 16777216 && Nat.beq (cellsOf z).length n.size && Nat.ble 1 n.size then
        match fillA (fun i => some (i * n.size, n.size)) (repl (cellsOf z) len) parts with
        | some cs => some (fun id => .slice id 0 len len true n.size, .arr cs 0 false)
        | none => none
      else none
    | _, _ => none
  | _ => none

/-- An address so many cells on. -/
def moved (n : Nat) : AVal → Option AVal
  | .ptr id off => some (.ptr id (off + n))
  | .fptr cs => bif Nat.ble n cs.length then some (.fptr (cs.drop n)) else none
  | _ => none

def fieldAddrA (s : TypeId) (a : AVal) (f : Nat) : Option AVal :=
  match C.P.underlying s with
  | some (.struct fields) => match fields[f]? with
    | some fd => match C.P.info? fd.type with
      | some n => bif Nat.beq n.size 0 then none else moved fd.offset a
      | none => none
    | none => none
  | _ => none

def fieldA (t : TypeId) (x : AVal) (f : Nat) : Option AVal :=
  match C.P.underlying t, x with
  | some (.struct fields), .agg cs => match fields[f]? with
    | some fd => partA C fd.type cs fd.offset
    | none => none
  | _, _ => none

def indexAddrA (t : TypeId) (x i : AVal) : Option AVal :=
  match C.P.underlying t, i with
  | some (.array len elem), .int _ i => match C.P.info? elem with
    | some n => bif decide (0 ≤ i) && decide (i < len) then moved (i.toNat * n.size) x else none
    | none => none
  | some (.slice elem), .int _ i => match C.P.info? elem with
    | some n => match x with
      | .slice id off len _ _ _ => bif decide (0 ≤ i) && decide (i < len) then some (.ptr id (off + i.toNat * n.size)) else none
      | .list cs len _ => bif decide (0 ≤ i) && decide (i < len) && Nat.blt (i.toNat * n.size) cs.length then some (.fptr (cs.drop (i.toNat * n.size))) else none
      | _ => none
    | none => none
  | _, _ => none

def indexA (t : TypeId) (x i : AVal) : Option AVal :=
  match C.P.underlying t, x, i with
  | some (.array len elem), .agg cs, .int _ i => match C.P.info? elem with
    | some n => bif decide (0 ≤ i) && decide (i < len) then partA C elem cs (i.toNat * n.size) else none
    | none => none
  | some .string, .str s, .int _ i => bif decide (0 ≤ i) then (match s[i.toNat]? with | some b => some (.int .u8 b.toNat) | none => none) else none
  | _, _, _ => none

def boundA (y : Nat) : Option AVal → Nat → Option Nat
  | none, d => some d
  | some (.int _ i), _ => bif decide (0 ≤ i) && decide (i ≤ y) then some i.toNat else none
  | _, _ => none

/-- x[lo:hi:max] of len elements and room for cap: where it begins, where it ends, where its room ends. -/
def boundsA (len cap : Nat) (lo hi mx : Option AVal) : Option (Nat × Nat × Nat) :=
  match mx, hi with
  | some _, none => none
  | mx, hi => match boundA cap mx cap with
    | none => none
    | some m => match boundA m hi len with
      | none => none
      | some b => match boundA b lo 0 with
        | none => none
        | some a => some (a, b, m)

def sliceA (t : TypeId) (x : AVal) (lo hi mx : Option AVal) : Option AVal :=
  match C.P.underlying t, x with
  | some .string, .str s => match mx with
    | some _ => none
    | none => match boundsA s.length s.length lo hi none with
      | some (a, b, _) => some (.str ((s.take b).drop a))
      | none => none
  | some (.slice elem), x => match C.P.info? elem with
    | none => none
    | some n => match x with
      | .nilslice => match boundsA 0 0 lo hi mx with
        | some _ => some .nilslice
        | none => none
      | .slice id off len c full e => match boundsA len c lo hi mx with
        | some (a, b, m) => match mx with
          | some _ => bif Nat.beq a m then some (.list [] 0 true) else some (.slice id (off + a * n.size) (b - a) (m - a) true e)
          | none => bif full then (bif Nat.beq a c then some (.list [] 0 true) else some (.slice id (off + a * n.size) (b - a) (c - a) true e))
            else (bif Nat.beq e n.size then (bif Nat.beq a 0 || Nat.blt a c then some (.slice id (off + a * n.size) (b - a) (c - a) false e) else some (.list [] 0 false)) else none)
        | none => none
      | .list cs len ex => match boundsA len len lo hi mx with
        | some (a, b, m) => some (.list ((cs.drop (a * n.size)).take ((b - a) * n.size)) (b - a) (match mx with | none => ex && Nat.beq b len | some _ => Nat.beq b m))
        | none => none
      | _ => none
  | some (.array len elem), .ptr id off => match C.P.info? elem with
    | some n => match boundsA len len lo hi mx with
      | some (a, b, m) => bif Nat.beq a m then some (.list [] 0 true) else some (.slice id (off + a * n.size) (b - a) (m - a) true n.size)
      | none => none
    | none => none
  | _, _ => none

def intsEq : List AVal → List AVal → Option Bool
  | [], [] => some true
  | .int k a :: x, .int k' b :: y => bif decide (k = k') then (match intsEq x y with | some r => some (a == b && r) | none => none) else none
  | _, _ => none

/-- Is a type a struct or an array of numbers only, one a cell? -/
def intsTy (t : TypeId) (n : Nat) : Bool :=
  match C.P.underlying t with
  | some (.struct fields) => Nat.beq fields.size n && fields.toList.zipIdx.all fun (f, i) => f.name != "_" && Nat.beq f.offset i && (match C.P.underlying f.type, C.P.info? f.type with | some (.int _), some n => Nat.beq n.size 1 | _, _ => false)
  | some (.array len elem) => Nat.beq len n && (match C.P.underlying elem, C.P.info? elem with | some (.int _), some n => Nat.beq n.size 1 | _, _ => false)
  | _ => false

def eqA (t : TypeId) (const : Bool) (a b : AVal) : Option Bool :=
  match C.P.underlying t, a, b with
  | some .bool, .bool x, .bool y => some (x == y)
  | some (.pointer _), .nilptr, .nilptr | some (.slice _), .nilslice, .nilslice | some (.map _ _), .nilmap, .nilmap | some (.func ..), .nilfunc, .nilfunc => some true
  | some (.pointer _), .nilptr, .ptr _ _ | some (.pointer _), .nilptr, .fptr _ | some (.pointer _), .ptr _ _, .nilptr | some (.pointer _), .fptr _, .nilptr => some false
  | some (.slice _), .nilslice, .slice .. | some (.slice _), .nilslice, .list .. | some (.slice _), .slice .., .nilslice | some (.slice _), .list .., .nilslice => some false
  | some (.map _ _), .nilmap, .map _ | some (.map _ _), .map _, .nilmap => some false
  | some (.func ..), .nilfunc, .func .. | some (.func ..), .func .., .nilfunc => some false
  | some (.interface _), .niliface, .niliface => bif const then some true else none
  | some (.interface _), .niliface, .iface .. | some (.interface _), .iface .., .niliface => some false
  | _, .agg x, .agg y => bif intsTy C t x.length && Nat.beq x.length y.length && (!(C.P.eqGuardType C.P.depth t) && !(C.P.stoodInHeld t)) then intsEq x y else none
  | _, _, _ => none

def bytesLess : List UInt8 → List UInt8 → Bool
  | _, [] => false
  | [], _ :: _ => true
  | a :: x, b :: y => decide (a < b) || (a == b && bytesLess x y)

def bitsA (op : BinOp) (k : IntKind) (x y : Int) : Option AVal :=
  let a := BitVec.ofInt k.bits x
  let b := BitVec.ofInt k.bits y
  match op with
  | .and => some (.int k (k.wrap ((a &&& b).toNat)))
  | .or => some (.int k (k.wrap ((a ||| b).toNat)))
  | .xor => some (.int k (k.wrap ((a ^^^ b).toNat)))
  | .andNot => some (.int k (k.wrap ((a &&& ~~~b).toNat)))
  | _ => none

def intA (op : BinOp) (k : IntKind) (x y : Int) : Option AVal :=
  match op with
  | .add => some (.int k (k.wrap (x + y)))
  | .sub => some (.int k (k.wrap (x - y)))
  | .mul => some (.int k (k.wrap (x * y)))
  | .quo => bif y == 0 then none else some (.int k (k.wrap (x.tdiv y)))
  | .rem => bif y == 0 then none else some (.int k (x.tmod y))
  | .and | .or | .xor | .andNot => bitsA op k x y
  | .eql => some (.bool (x == y))
  | .neq => some (.bool (x != y))
  | .lss => some (.bool (decide (x < y)))
  | .leq => some (.bool (decide (x ≤ y)))
  | .gtr => some (.bool (decide (x > y)))
  | .geq => some (.bool (decide (x ≥ y)))
  | _ => none

def shiftA (left : Bool) (k : IntKind) (x y : Int) : Option AVal :=
  bif decide (y < 0) then none
  else
    let n := min y.toNat k.bits
    bif left then some (.int k (k.wrap (x * 2 ^ n))) else some (.int k (x.fdiv (2 ^ n)))

def strA (op : BinOp) (x y : List UInt8) : Option AVal :=
  match op with
  | .add => bif decide (((x.length + y.length : Nat) : Int) > IntKind.i64.max) then none else some (.str (x ++ y))
  | .eql => some (.bool (x == y))
  | .neq => some (.bool (!(x == y)))
  | .lss => some (.bool (bytesLess x y))
  | .leq => some (.bool (bytesLess x y || x == y))
  | .gtr => some (.bool (!(bytesLess x y || x == y)))
  | .geq => some (.bool (!(bytesLess x y)))
  | _ => none

def isConst : Operand → Bool
  | .const _ => true
  | _ => false

def binA (op : BinOp) (t : TypeId) (const : Bool) (a b : AVal) : Option AVal :=
  match a, b with
  | .int k x, .int k' y => match op with
    | .shl => shiftA true k x y
    | .shr => shiftA false k x y
    | op => bif decide (k = k') then intA op k x y else none
  | .str x, .str y => strA op x y
  | a, b => match op with
    | .eql => match eqA C t const a b with
      | some r => some (.bool r)
      | none => none
    | .neq => match eqA C t const a b with
      | some r => some (.bool (!r))
      | none => none
    | _ => none

def unA (op : UnOp) (a : AVal) : Option AVal :=
  match op, a with
  | .neg, .int k n => some (.int k (k.wrap (0 - n)))
  | .xor, .int k n => bitsA .xor k (if k.signed then -1 else k.max) n
  | .not, .bool b => some (.bool !b)
  | _, _ => none

def bytesOf : List AVal → Option (List UInt8)
  | [] => some []
  | .int .u8 n :: l => match bytesOf l with
    | some r => some (UInt8.ofNat n.toNat :: r)
    | none => none
  | _ => none

/-- The cells of a slice's elements (or a string's bytes). -/
def elemsOf (h : Heap) (size : Nat) : AVal → Option (List AVal × Nat)
  | .nilslice => some ([], 0)
  | .slice id off len _ _ _ => match h.get id with
    | some (.arr cs _ _) => bif Nat.ble (off + len * size) cs.length then some ((cs.drop off).take (len * size), len) else none
    | _ => none
  | .list cs len _ => bif Nat.beq cs.length (len * size) then some (cs, len) else none
  | .str s => bif Nat.beq size 1 then some (s.map fun b => .int .u8 b.toNat, s.length) else none
  | _ => none

/-- A conversion that looks at no memory. -/
def convP (src dst : TypeId) (x : AVal) : Option AVal :=
  match C.P.underlying src, C.P.underlying dst, x with
  | some _, some (.int k), .int _ n => some (.int k (k.wrap n))
  | some .string, some .string, .str s => some (.str s)
  | _, _, _ => none

/-- Does a conversion look at memory, or make some? -/
def convMem (src dst : TypeId) : Bool :=
  match C.P.underlying src, C.P.underlying dst with
  | some (.slice _), _ => true
  | some .string, some (.slice _) => true
  | _, _ => false

def convE (src dst : TypeId) (h : Heap) (nid : Nat) (x : AVal) : Option (Option AVal × Heap) :=
  match C.P.underlying src, C.P.underlying dst, x with
  | some (.slice _), some (.slice e), .slice id off len cap full esz => match Nat.beq src dst, C.P.underlying e, h.get id with
    | true, some (.int .u8), some (.arr _ _ _) => some (some (.slice id off len cap full esz), h)
    | _, _, _ => none
  | some (.slice e), some .string, x => match C.P.underlying e with
    | some (.int .u8) => match x with
      | .str _ => none
      | x => match elemsOf h 1 x with
        | some (cs, _) => match bytesOf cs with
          | some s => some (some (.str s), h)
          | none => none
        | none => none
    | _ => none
  | some .string, some (.slice e), .str s => match C.P.underlying e with
    | some (.int .u8) => some (some (.slice nid 0 s.length s.length false 1), h.put nid (.arr (s.map fun b => .int .u8 b.toNat) 1 true))
    | _ => none
  | _, _, _ => none

def maxLenN : Nat := 9223372036854775807
def roomN : Nat := 140737488355328

def grownA (i : TypeInfo) (nid : Nat) (old new : List AVal) (len n : Nat) (h : Heap) : Option (Option AVal × Heap) :=
  bif Nat.ble (len + n) maxLenN && Nat.ble ((len + n) * i.bytes) roomN then
    some (some (.slice nid 0 (len + n) (len + n) false i.size), h.put nid (.arr (old ++ new) i.size true))
  else none

/-- The element type of a slice type, one cell at least, and what append's second argument may be. -/
def appendTy (st xt : TypeId) : Option TypeInfo :=
  match C.P.underlying st with
  | some (.slice elem) => match C.P.info? elem, zeroA C elem, (match C.P.underlying xt with | some (.int _) | none => true | _ => false) with
    | some i, some z, false => bif Nat.blt 0 i.size && Nat.beq (cellsOf z).length i.size then some i else none
    | _, _, _ => none
  | _ => none

def appendA (st xt : TypeId) (h : Heap) (nid : Nat) (s x : AVal) : Option (Option AVal × Heap) :=
  match appendTy C st xt with
  | none => none
  | some i => match elemsOf h i.size x with
    | none => none
    | some (new, n) => match s with
      | .nilslice => bif Nat.beq n 0 then some (some .nilslice, h) else grownA i nid [] new 0 n h
      | .list cs len ex =>
        bif Nat.beq n 0 then some (some (.list cs len ex), h)
        else bif ex && Nat.beq cs.length (len * i.size) then grownA i nid cs new len n h else none
      | .slice id off len cap full e => match h.get id with
        | some (.arr cs e' g) =>
          bif Nat.ble (len + n) cap then
            (bif Nat.ble (off + (len + n) * i.size) cs.length then some (some (.slice id off (len + n) cap full e), h.put id (.arr (setRange cs (off + len * i.size) new) e' g)) else none)
          else bif Nat.ble (off + len * i.size) cs.length then
            (bif full then grownA i nid ((cs.drop off).take (len * i.size)) new len n h
            else bif g && Nat.beq e' i.size then grownA i nid ((cs.drop off).take (len * i.size)) new len n (h.del id) else none)
          else none
        | _ => none
      | _ => none

def copyA (t : TypeId) (h : Heap) (d s : AVal) : Option (Option AVal × Heap) :=
  match C.P.underlying t with
  | some (.slice elem) => match C.P.info? elem with
    | some i => match elemsOf h i.size s with
      | none => none
      | some (src, m) => match d with
        | .nilslice => some (some (.int .i64 0), h)
        | .slice id off len _ _ _ => match h.get id with
          | some (.arr cs e g) =>
            let n := Nat.min m len
            bif Nat.ble (off + n * i.size) cs.length then
              some (some (.int .i64 n), h.put id (.arr (setRange cs off (src.take (n * i.size))) e g)) else none
          | _ => none
        | _ => none
    | none => none
  | _ => none

def clearA (t : TypeId) (h : Heap) (d : AVal) : Option Heap :=
  match C.P.underlying t with
  | some (.slice elem) => match C.P.info? elem, zeroA C elem with
    | some i, some z => match d with
      | .nilslice => some h
      | .slice id off len _ _ _ => match h.get id with
        | some (.arr cs e g) =>
          bif Nat.ble (off + len * i.size) cs.length && Nat.beq (cellsOf z).length i.size then
            some (h.put id (.arr (setRange cs off (repl (cellsOf z) len)) e g)) else none
        | _ => none
      | .list [] 0 _ => some h
      | _ => none
    | _, _ => none
  | _ => none

def lenP (t : TypeId) (x : AVal) : Option AVal :=
  match C.P.underlying t, x with
  | some .string, .str s => some (.int .i64 s.length)
  | some (.array n _), _ => some (.int .i64 n)
  | some (.slice _), .nilslice => some (.int .i64 0)
  | some (.slice _), .slice _ _ n _ _ _ => some (.int .i64 n)
  | some (.slice _), .list _ n _ => some (.int .i64 n)
  | _, _ => none

def isMap (t : TypeId) : Bool :=
  match C.P.underlying t with
  | some (.map _ _) => true
  | _ => false

def lenM (t : TypeId) (h : Heap) (x : AVal) : Option AVal :=
  match C.P.underlying t, x with
  | some (.map _ _), .nilmap => some (.int .i64 0)
  | some (.map _ _), .map id => match h.get id with
    | some (.map es) => some (.int .i64 es.length)
    | _ => none
  | _, _ => none

def makeSliceA (t : TypeId) (l c : AVal) : Option ((Nat → AVal) × HObj) :=
  match C.P.underlying t, l, c with
  | some (.slice elem), .int _ l, .int _ c => match C.P.info? elem, zeroA C elem with
    | some i, some z =>
      bif decide (0 ≤ l) && decide (l ≤ c) && decide (c ≤ 9223372036854775807) && Nat.ble (i.bytes * c.toNat) roomN && Nat.beq (cellsOf z).length i.size && Nat.ble 1 i.size then
        some (fun id => .slice id 0 l.toNat c.toNat true i.size, .arr (repl (cellsOf z) c.toNat) 0 false)
      else none
    | _, _ => none
  | _, _, _ => none

def minA (mx : Bool) : AVal → List AVal → Option AVal
  | x, [] => some x
  | .int k x, .int k' y :: l => bif decide (k = k') then minA mx (.int k (bif mx then (if y > x then y else x) else (if y < x then y else x))) l else none
  | _, _ => none

def mapFind (k : AVal) : List (AVal × AVal) → Nat → Option (Option (Nat × AVal))
  | [], _ => some none
  | (k', v) :: l, i => match k, k' with
    | .agg x, .agg y => match intsEq x y with
      | some true => some (some (i, v))
      | some false => mapFind k l (i + 1)
      | none => none
    | .int a x, .int b y => bif decide (a = b) then (bif x == y then some (some (i, v)) else mapFind k l (i + 1)) else none
    | _, _ => none

def keyOk (t : TypeId) : AVal → Bool
  | .agg x => intsTy C t x.length && x.all (fun c => match c with | .int _ _ => true | _ => false)
  | .int _ _ => match C.P.underlying t with | some (.int _) => true | _ => false
  | _ => false

def lookupA (t : TypeId) (h : Heap) (m k : AVal) (ok : Bool) : Option AVal :=
  match C.P.underlying t with
  | some (.map kt et) =>
    bif keyOk C kt k then
      match (match m with
        | .nilmap => some []
        | .map id => match h.get id with
          | some (.map es) => some es
          | _ => none
        | _ => none), zeroA C et with
      | some es, some z => match mapFind k es 0 with
        | some (some (_, v)) => some (bif ok then .tuple [v, .bool true] else v)
        | some none => some (bif ok then .tuple [z, .bool false] else z)
        | none => none
      | _, _ => none
    else none
  | _ => none

def mapSet (es : List (AVal × AVal)) (i : Nat) (v : AVal) : List (AVal × AVal) := es.modify i fun e => (e.1, v)

def mapUpdateA (t : TypeId) (h : Heap) (m k v : AVal) : Option Heap :=
  match C.P.underlying t, m with
  | some (.map kt _), .map id =>
    bif keyOk C kt k then
      match h.get id with
      | some (.map es) => match mapFind k es 0 with
        | some (some (i, _)) => some (h.put id (.map (mapSet es i v)))
        | some none => some (h.put id (.map (es ++ [(k, v)])))
        | none => none
      | _ => none
    else none
  | _, _ => none

def builtinP (b : Builtin) (ts : List TypeId) (args : List AVal) : Option AVal :=
  match b, ts, args with
  | .len, t :: _, x :: _ => lenP C t x
  | .min, _, x :: l => minA false x l
  | .max, _, x :: l => minA true x l
  | _, _, _ => none

def builtinE (b : Builtin) (ts : List TypeId) (h : Heap) (nid : Nat) (args : List AVal) : Option (Option AVal × Heap) :=
  match b, ts, args with
  | .len, t :: _, x :: _ => match lenM C t h x with
    | some v => some (some v, h)
    | none => none
  | .append, [st, xt], [s, x] => appendA C st xt h nid s x
  | .copy, t :: _, [d, s] => copyA C t h d s
  | .clear, t :: _, [d] => match clearA C t h d with
    | some h => some (some (.tuple []), h)
    | none => none
  | _, _, _ => none

/-- What an operation needs: nothing of the heap; it reads it; it makes a new place; all else. -/
inductive Kind where
  | P | L | N | E
  deriving DecidableEq

def kind (o : Oper) : Kind :=
  match o.op with
  | .move _ | .assign _ | .pick .. | .build .. | .nilCheck _ | .binOp .. | .unOp .. | .makeInterface .. | .makeFunc .. | .slice .. | .fieldAddr .. | .field .. | .indexAddr .. | .index .. | .extract .. => .P
  | .convert s d _ => bif convMem C s d then .E else .P
  | .load .. => .L
  | .alloc _ | .box .. | .buildSlice .. | .makeSlice .. | .makeMap .. => .N
  | .call { callee := .builtin b, argTypes, .. } => match b with
    | .len => bif (match argTypes[0]? with | some t => isMap C t | none => true) then .E else .P
    | .min | .max => .P
    | _ => .E
  | _ => .E

def opP (o : Oper) (t : Tmps) : Option AVal :=
  match o.op with
  | .move x | .assign x => ev C t x
  | .pick c a b => match ev C t c with
    | some (.bool x) => bif x then ev C t a else ev C t b
    | _ => none
  | .build ty ps => match evParts C t ps.toList with
    | some ps => buildA C ty ps
    | none => none
  | .nilCheck x => match ev C t x with
    | some (.ptr i j) => some (.ptr i j)
    | some (.fptr cs) => some (.fptr cs)
    | _ => none
  | .binOp op ty x y _ => match ev C t x, ev C t y with
    | some a, some b => binA C op ty (isConst x || isConst y) a b
    | _, _ => none
  | .unOp op _ x => match ev C t x with
    | some a => unA op a
    | none => none
  | .convert s d x => match ev C t x with
    | some a => convP C s d a
    | none => none
  | .makeInterface ty x => match ev C t x, C.P.underlying ty with
    | some _, some (.interface _) => none
    | some a, some _ => some (.iface ty a)
    | _, _ => none
  | .makeFunc (.func f) first captured => match evL C t first.toList, evL C t captured.toList with
    | some a, some b => some (.func f a b)
    | _, _ => none
  | .slice ty x lo hi mx => match ev C t x, evO C t lo, evO C t hi, evO C t mx with
    | some x, some lo, some hi, some mx => sliceA C ty x lo hi mx
    | _, _, _, _ => none
  | .fieldAddr s x f => match ev C t x with
    | some a => fieldAddrA C s a f
    | none => none
  | .field ty x f => match ev C t x with
    | some a => fieldA C ty a f
    | none => none
  | .indexAddr ty x i => match ev C t x, ev C t i with
    | some a, some b => indexAddrA C ty a b
    | _, _ => none
  | .index ty x i => match ev C t x, ev C t i with
    | some a, some b => indexA C ty a b
    | _, _ => none
  | .extract x i => match ev C t x with
    | some (.tuple vs) => vs[i]?
    | _ => none
  | .call c => match c.callee with
    | .builtin b => match evL C t c.args.toList with
      | some args => builtinP C b c.argTypes.toList args
      | none => none
    | _ => none
  | _ => none

def opL (o : Oper) (t : Tmps) (h : Heap) : Option AVal :=
  match o.op with
  | .load ty a => match ev C t a with
    | some a => match loadA C ty h a with
      | some (.tuple _) => none
      | r => r
    | none => none
  | _ => none

def boxA (v : AVal) : Option ((Nat → AVal) × HObj) :=
  match v with
  | .tuple _ => none
  | v => some (fun id => .ptr id 0, .arr (cellsOf v) 0 false)

def opN (o : Oper) (t : Tmps) : Option ((Nat → AVal) × HObj) :=
  match o.op with
  | .alloc e => match zeroA C e with
    | some z => boxA z
    | none => none
  | .box _ x => match ev C t x with
    | some x => boxA x
    | none => none
  | .buildSlice ty n ps => match evParts C t ps.toList with
    | some ps => buildSliceA C ty n ps
    | none => none
  | .makeMap _ none => some (fun id => .map id, .map [])
  | .makeSlice ty l c => match ev C t l, ev C t c with
    | some a, some b => makeSliceA C ty a b
    | _, _ => none
  | _ => none

/-- What is left, but for calls of functions. -/
def opE (o : Oper) (t : Tmps) (h : Heap) (nid : Nat) : Option (Option AVal × Heap) :=
  match o.op with
  | .store ty a x => match ev C t a, ev C t x with
    | some a, some x => match storeA C ty h a x with
      | some h => some (none, h)
      | none => none
    | _, _ => none
  | .convert s d x => match ev C t x with
    | some a => convE C s d h nid a
    | none => none
  | .call c => match c.callee with
    | .builtin b => match evL C t c.args.toList with
      | some args => builtinE C b c.argTypes.toList h nid args
      | none => none
    | _ => none
  | _ => none

/-- A value without a place of the heap: slices are read, whole. -/
def freeze (h : Heap) : Nat → AVal → Option AVal
  | 0, _ => none
  | n + 1, v => match v with
    | .ptr _ _ | .map _ => none
    | .slice id off len cap full esz => match h.get id with
      | some (.arr cs _ _) =>
        bif Nat.ble (off + len * esz) cs.length then
          match mapO (freeze h n) ((cs.drop off).take (len * esz)) with
          | some cs => some (.list cs len (full && Nat.beq cap len))
          | none => none
        else none
      | _ => none
    | .agg cs => match mapO (freeze h n) cs with | some cs => some (.agg cs) | none => none
    | .tuple cs => match mapO (freeze h n) cs with | some cs => some (.tuple cs) | none => none
    | .iface t v => match freeze h n v with | some v => some (.iface t v) | none => none
    | .func f a b => match mapO (freeze h n) a, mapO (freeze h n) b with | some a, some b => some (.func f a b) | _, _ => none
    | v => some v

/-- The places of the heap that a value's slices lead to. -/
def reach (h : Heap) : Nat → AVal → List Nat
  | 0, _ => []
  | n + 1, v => match v with
    | .slice id off len _ _ esz => id :: (match h.get id with
      | some (.arr cs _ _) => ((cs.drop off).take (len * esz)).flatMap (reach h n)
      | _ => [])
    | .agg cs | .tuple cs => cs.flatMap (reach h n)
    | .iface _ v => reach h n v
    | .func _ a b => a.flatMap (reach h n) ++ b.flatMap (reach h n)
    | _ => []

def flat : AVal → Bool
  | .bool _ | .int _ _ | .str _ | .nilptr | .nilslice | .nilmap | .nilfunc | .niliface => true
  | .agg cs | .tuple cs => cs.all fun c => match c with
    | .bool _ | .int _ _ | .str _ | .nilptr | .nilslice | .nilmap | .nilfunc | .niliface => true
    | .agg cs => cs.all fun c => match c with
      | .bool _ | .int _ _ | .str _ | .nilptr | .nilslice | .nilmap | .nilfunc | .niliface => true
      | _ => false
    | _ => false
  | _ => false

/-- A call of a function of the program, by its caller's mode. -/
def doCall (F : FuncId → List AVal → Heap → Option (AVal × Heap)) (caller f : FuncId) (args : List AVal) (h : Heap) : Option (AVal × Heap) :=
  match C.mode caller f with
  | .heap => F f args h
  | .pure => match mapO (freeze h 8) args with
    | none => none
    | some args' => match F f args' .empty with
      | none => none
      | some (r, hc) => match freeze hc 8 r with
        | none => none
        | some r => some (r, bif flat r then h else h.dels (args.flatMap (reach h 8)))

/-- An operation: its value, if it has one, and the heap behind it. -/
def stepA (F : FuncId → List AVal → Heap → Option (AVal × Heap)) (caller : FuncId) (o : Oper) (t : Tmps) (h : Heap) (nid : Nat) : Option (Option AVal × Heap) :=
  match kind C o with
  | .P => match opP C o t with
    | some v => some (some v, h)
    | none => none
  | .L => match opL C o t h with
    | some v => some (some v, h)
    | none => none
  | .N => match opN C o t with
    | some (mk, ob) => some (some (mk nid), h.put nid ob)
    | none => none
  | .E => match o.op with
    | .call { callee := .value (.func f), args, .. } => match evL C t args.toList with
      | some args => match C.ext f with
        | some r => match r args with
          | some v => some (some v, h)
          | none => none
        | none => match doCall C F caller f args h with
          | some (v, h) => some (some v, h)
          | none => none
      | none => none
    | .call { callee := .value x, args, .. } => match ev C t x, evL C t args.toList with
      | some (.func f a b), some args => match doCall C F caller f (a ++ args ++ b) h with
        | some (v, h) => some (some v, h)
        | none => none
      | _, _ => none
    | _ => opE C o t h nid

def putA (t : Tmps) (dst : Option Tmp) (v : Option AVal) : Tmps :=
  match dst, v with
  | none, _ => t
  | some d, some v => t.set v d
  | some d, none => t.set (.tuple []) d

def wantedA (ops : Array Oper) (o : Oper) (t : Tmps) : Bool :=
  match o.guard with
  | none => true
  | some (j, want) => match (ops[j]?).bind (·.dst) with
    | some d => match t.get d with
      | some (.bool b) => b == want
      | _ => false
    | none => false

def unwanted (ops : Array Oper) (o : Oper) (t : Tmps) : Bool :=
  match o.guard with
  | none => false
  | some (j, want) => match (ops[j]?).bind (·.dst) with
    | none => true
    | some d => match t.get d with
      | some (.bool b) => !(b == want)
      | some (.tuple []) => true
      | _ => false

/-- Does a load, met already, read the same in another heap? -/
def sameLoad (ops : Array Oper) (t : Tmps) (h : Heap) (l : Nat) : Bool :=
  match ops[l]? with
  | some o => match o.op, o.dst with
    | .load ty a, some d => match t.get d with
      | none => true
      | some (.tuple []) => true
      | some v => match ev C t a with
        | some a => match loadA C ty h a with
          | some v' => beq v v'
          | none => false
        | none => false
    | _, _ => false
  | none => false

/-- Loads l and calls e, in no order: each load reads the same ahead of the call and behind it. -/
def reOk (ops : Array Oper) (re : List (Nat × Nat)) (i : Nat) (past : List (Nat × Heap)) (t : Tmps) (h : Heap) : Bool :=
  re.all fun p => bif Nat.beq p.2 i && Nat.blt p.1 i then sameLoad C ops t h p.1
    else bif Nat.beq p.1 i then past.all (fun q => bif Nat.beq q.1 p.2 then sameLoad C ops t q.2 i else true)
    else true

def runOps {ρ : Type} (F : FuncId → List AVal → Heap → Option (AVal × Heap)) (caller : FuncId) (ops : Array Oper) (re : List (Nat × Nat)) (base : Nat) (k : Tmps → Heap → Option ρ) :
    List Oper → Nat → List (Nat × Heap) → Tmps → Heap → Option ρ
  | [], _, _, t, h => k t h
  | o :: rest, i, past, t, h =>
    bif wantedA ops o t then
      match stepA C F caller o t h (base + i) with
      | none => none
      | some (v, h') =>
        match re with
        | [] => runOps F caller ops re base k rest (i + 1) past (putA t o.dst v) h'
        | _ :: _ =>
          bif reOk C ops re i past (putA t o.dst v) h' then
            runOps F caller ops re base k rest (i + 1) (bif re.any (fun p => Nat.beq p.2 i) then (i, h) :: past else past) (putA t o.dst v) h'
          else none
    else bif unwanted ops o t then
      match re with
      | [] => runOps F caller ops re base k rest (i + 1) past (putA t o.dst none) h
      | _ :: _ =>
        bif reOk C ops re i past (putA t o.dst none) h then
          runOps F caller ops re base k rest (i + 1) (bif re.any (fun p => Nat.beq p.2 i) then (i, h) :: past else past) (putA t o.dst none) h
        else none
    else none

/-- Where a number stands in a list. -/
def posOf (l : List Nat) (i : Nat) : Nat := l.findIdx (Nat.beq · i)

def relabelOp (l : List Nat) (o : Oper) : Oper :=
  { o with after := o.after.map (fun e => { e with on := posOf l e.on }), guard := o.guard.map fun p => (posOf l p.1, p.2) }

/-- The operations of a region in another order, their marks with them. -/
def relabel (l : List Nat) (ops : Array Oper) : Array Oper := (l.filterMap fun i => (ops[i]?).map (relabelOp l)).toArray

def prm (fid : FuncId) (id : Nat) (ops : Array Oper) : Bool → Array Oper
  | false => ops
  | true => match C.perm fid id with
    | [] => ops
    | l => relabel l ops

def permOk (l : List Nat) (n : Nat) : Bool := Nat.beq l.length n && ((List.range n).all fun i => l.contains i) && l.zipIdx.all fun q => Nat.blt q.1 n && Nat.beq (posOf l q.1) q.2

inductive Ex where
  | normal
  | exit (id : Nat)
  | ret

def loopN {σ ρ : Type} (body : (Ex → σ) → σ) (fail : σ) (k : Ex → σ) : Nat → σ
  | 0 => fail
  | n + 1 => body fun e => match e with
    | .normal => loopN (ρ := ρ) body fail k n
    | e => k e

def exec {ρ : Type} (F : FuncId → List AVal → Heap → Option (AVal × Heap)) (lf : Nat) (fid : FuncId) : Code → (Ex → Tmps → Heap → Option ρ) → Tmps → Heap → Option ρ
  | .skip, k => k .normal
  | .label _, k => k .normal
  | .region id ops draw, k => fun t h =>
    let ops := prm C fid id ops draw
    runOps C F fid ops (C.re fid id) h.next (k .normal) ops.toList 0 [] t ⟨h.next + ops.toList.length, h.objs⟩
  | .seq a b, k => exec F lf fid a fun e => match e with
    | .normal => exec F lf fid b k
    | e => k e
  | .cond c a b, k => fun t h => match ev C t c with
    | some (.bool x) => bif x then exec F lf fid a k t h else exec F lf fid b k t h
    | _ => none
  | .block id c, k => exec F lf fid c fun e => match e with
    | .exit id' => bif Nat.beq id' id then k .normal else k (.exit id')
    | e => k e
  | .loop c, k => loopN (ρ := ρ) (exec F lf fid c) (fun _ _ => none) k lf
  | .scope c, k => exec F lf fid c k
  | .exit id, k => k (.exit id)
  | .ret, k => k .ret
  | _, _ => fun _ _ => none

def initT : List AVal → Nat → Tmps → Tmps
  | [], _, t => t
  | v :: l, i, t => initT l (i + 1) (t.set v i)

def resA (t : Tmps) (h : Heap) : ResultVar → Option AVal
  | .tmp i => t.get i
  | .cell i ty => match t.get i with
    | some a => loadA C ty h a
    | none => none

def packA : List AVal → AVal
  | [v] => v
  | vs => .tuple vs

def resultsA (fn : Func) (t : Tmps) (h : Heap) : Option AVal :=
  match mapO (resA C t h) fn.results.toList with
  | some vs => some (packA vs)
  | none => none

def callH : Nat → FuncId → List AVal → Heap → Option (AVal × Heap)
  | 0, _, _, _ => none
  | n + 1, f, args, h => match bif C.ok f then C.P.funcs[f]? else none with
    | none => none
    | some fn => match fn.body with
      | none => none
      | some c => exec C (callH n) n f c (fun e t h => match e with
          | .exit _ => none
          | _ => match resultsA C fn t h with
            | some v => some (v, h)
            | none => none) (initT args 0 .nil) h

def callP (n : Nat) (f : FuncId) (args : List AVal) : Option AVal :=
  match callH C n f args .empty with
  | some (r, hc) => freeze hc 8 r
  | none => none

/-! What holds of the code that the interpreter runs, whatever it is run on. -/

def maskOf (acc : List Nat) (o : Oper) : Nat :=
  o.after.toList.foldl (fun s e => bif Region.binds .any e then s ||| 2 ^ e.on ||| acc.getD e.on 0 else s) 0
/-- Of each operation, those that stand ahead of it. -/
def befs : List Oper → List Nat → List Nat
  | [], acc => acc
  | o :: l, acc => befs l (acc ++ [maskOf acc o])
def ahead (m : List Nat) (i j : Nat) : Bool := (m.getD j 0).testBit i

def looks (ops : List Oper) (o : Oper) : List Tmp :=
  (o.op.operands.toList.filterMap fun | .tmp t => some t | _ => none) ++
  (match o.guard with
   | some (g, _) => ((ops[g]?).bind (·.dst)).toList
   | none => [])

def pairOk (re : List (Nat × Nat)) (m : List Nat) (i j : Nat) (a b : Oper) : Bool :=
  ahead m i j || match kind C a, kind C b with
    | .P, _ | _, .P | .L, .L | .L, .N | .N, .N | .E, .N => true
    | .L, .E => re.contains (i, j)
    | .E, .L => re.contains (j, i)
    | _, _ => false

def slotOk (ops : List Oper) (m : List Nat) (i j : Nat) (a b : Oper) : Bool :=
  match b.dst with
  | none => true
  | some d => (Nat.beq i j || !(a.dst == some d)) && (!(looks ops a).contains d || (Nat.blt j i && ahead m j i) || (Nat.blt i j && ahead m i j))

def reStill (ops : List Oper) (l : Nat) : Bool :=
  match ops[l]? with
  | some o => match o.op with
    | .load _ (.tmp d) => ops.zipIdx.all fun p => Nat.blt p.2 l || !(p.1.dst == some d)
    | _ => true
  | none => false

def ordOk (ops : List Oper) (re : List (Nat × Nat)) : Bool :=
  let m := befs ops []
  (ops.zipIdx.all fun p => Nat.blt (m.getD p.2 0) (2 ^ p.2) && p.1.after.toList.all fun e => !(Region.binds .any e) || Nat.blt e.on p.2) &&
  (ops.zipIdx.all fun p => ops.zipIdx.all fun q => slotOk ops m p.2 q.2 p.1 q.1 && (!(Nat.blt p.2 q.2) || pairOk C re m p.2 q.2 p.1 q.1)) &&
  re.all fun p => reStill ops p.1

def codeOk (f : FuncId) (nt : Nat) : Code → Bool
  | .region id ops draw => (ops.toList.all fun o => match o.dst with | some d => Nat.blt d nt | none => true) && (!draw || (ordOk C (prm C f id ops draw).toList (C.re f id) && (match C.perm f id with
    | [] => true
    | l => permOk l ops.size && ops.toList.all fun o => (match o.guard with | some (j, _) => Nat.blt j ops.size | none => true) && o.after.toList.all fun e => Nat.blt e.on ops.size)))
  | .seq a b => codeOk f nt a && codeOk f nt b
  | .cond _ a b => codeOk f nt a && codeOk f nt b
  | .block _ c => codeOk f nt c
  | .loop c => codeOk f nt c
  | .scope c => codeOk f nt c
  | _ => true

def fnOk (f : FuncId) : Bool :=
  match C.P.funcs[f]? with
  | none => true
  | some fn => !(fn.name == "runtime.NumGoroutine") && match fn.body with
    | none => true
    | some c => codeOk C f fn.ntmps c

/-- n functions from s on. -/
def checkFrom : Nat → Nat → Bool
  | _, 0 => true
  | s, n + 1 => (!(C.ok s) || fnOk C s) && checkFrom (s + 1) n
end
end Go.Den
