/-
  A small machine that runs a Go program by abstract values: definitions. No statement of the seat is proved here. Conditions: none.
-/
import Derived.Calls
set_option linter.unusedVariables false
namespace Go.Ab

/-- Eight of a kind. -/
structure N8 (α : Type) where
  a : α
  b : α
  c : α
  d : α
  e : α
  f : α
  g : α
  h : α
  deriving Inhabited
/-- A digit. -/
inductive D8 where
  | d0 | d1 | d2 | d3 | d4 | d5 | d6 | d7
def dig (n : Nat) : D8 := match n with | 0 => .d0 | n + 1 => match n with | 0 => .d1 | n + 1 => match n with | 0 => .d2 | n + 1 => match n with | 0 => .d3 | n + 1 => match n with | 0 => .d4 | n + 1 => match n with | 0 => .d5 | n + 1 => match n with | 0 => .d6 | n + 1 => .d7
namespace N8
def get {α : Type} : N8 α → Nat → α
  | ⟨a, b, c, d, e, f, g, h⟩, n => match dig n with
    | .d0 => a
    | .d1 => b
    | .d2 => c
    | .d3 => d
    | .d4 => e
    | .d5 => f
    | .d6 => g
    | .d7 => h
def set {α : Type} : N8 α → Nat → α → N8 α
  | ⟨a, b, c, d, e, f, g, h⟩, n, x => match dig n with
    | .d0 => ⟨x, b, c, d, e, f, g, h⟩
    | .d1 => ⟨a, x, c, d, e, f, g, h⟩
    | .d2 => ⟨a, b, x, d, e, f, g, h⟩
    | .d3 => ⟨a, b, c, x, e, f, g, h⟩
    | .d4 => ⟨a, b, c, d, x, f, g, h⟩
    | .d5 => ⟨a, b, c, d, e, x, g, h⟩
    | .d6 => ⟨a, b, c, d, e, f, x, h⟩
    | .d7 => ⟨a, b, c, d, e, f, g, x⟩
def rep {α : Type} (x : α) : N8 α := ⟨x, x, x, x, x, x, x, x⟩
end N8

/-- A full tree, each node with eight branches, by the lowest digit first. -/
inductive Br (α : Type) where
  | leaf (x : α)
  | node (a b c d e f g h : Br α)
  deriving Inhabited
namespace Br
def get {α : Type} : Br α → Nat → α
  | .leaf x, _ => x
  | .node a b c d e f g h, n => match n % 8 with
    | 0 => a.get (n / 8)
    | 1 => b.get (n / 8)
    | 2 => c.get (n / 8)
    | 3 => d.get (n / 8)
    | 4 => e.get (n / 8)
    | 5 => f.get (n / 8)
    | 6 => g.get (n / 8)
    | _ => h.get (n / 8)
def set {α : Type} : Br α → Nat → α → Br α
  | .leaf _, _, x => .leaf x
  | .node a b c d e f g h, n, x => match n % 8 with
    | 0 => .node (a.set (n / 8) x) b c d e f g h
    | 1 => .node a (b.set (n / 8) x) c d e f g h
    | 2 => .node a b (c.set (n / 8) x) d e f g h
    | 3 => .node a b c (d.set (n / 8) x) e f g h
    | 4 => .node a b c d (e.set (n / 8) x) f g h
    | 5 => .node a b c d e (f.set (n / 8) x) g h
    | 6 => .node a b c d e f (g.set (n / 8) x) h
    | _ => .node a b c d e f g (h.set (n / 8) x)
def mk {α : Type} : Nat → α → Br α
  | 0, x => .leaf x
  | d + 1, x => .node (mk d x) (mk d x) (mk d x) (mk d x) (mk d x) (mk d x) (mk d x) (mk d x)
end Br

/-- Trees of a fixed depth each; any other depth: as branches. -/
inductive Tr (α : Type) where
  | two (x : N8 (N8 α))
  | three (x : N8 (N8 (N8 α)))
  | five (x : N8 (N8 (N8 (N8 (N8 α)))))
  | big (x : Br α)
  deriving Inhabited

namespace Tr
def get {α : Type} : Tr α → Nat → α
  | .two x, n => (x.get (n % 8)).get (n / 8)
  | .three x, n => ((x.get (n % 8)).get (n / 8 % 8)).get (n / 64)
  | .five x, n => ((((x.get (n % 8)).get (n / 8 % 8)).get (n / 64 % 8)).get (n / 512 % 8)).get (n / 4096)
  | .big x, n => x.get n
def set2 {α : Type} (x : N8 (N8 α)) (i j : Nat) (v : α) : N8 (N8 α) := x.set i ((x.get i).set j v)
def set3 {α : Type} (x : N8 (N8 (N8 α))) (i j k : Nat) (v : α) : N8 (N8 (N8 α)) := x.set i (set2 (x.get i) j k v)
def set4 {α : Type} (x : N8 (N8 (N8 (N8 α)))) (i j k l : Nat) (v : α) : N8 (N8 (N8 (N8 α))) := x.set i (set3 (x.get i) j k l v)
def set5 {α : Type} (x : N8 (N8 (N8 (N8 (N8 α))))) (i j k l m : Nat) (v : α) : N8 (N8 (N8 (N8 (N8 α)))) := x.set i (set4 (x.get i) j k l m v)
def set {α : Type} : Tr α → Nat → α → Tr α
  | .two x, n, v => .two (set2 x (n % 8) (n / 8) v)
  | .three x, n, v => .three (set3 x (n % 8) (n / 8 % 8) (n / 64) v)
  | .five x, n, v => .five (set5 x (n % 8) (n / 8 % 8) (n / 64 % 8) (n / 512 % 8) (n / 4096) v)
  | .big x, n, v => .big (x.set n v)
def mk {α : Type} (d : Nat) (x : α) : Tr α := match d with
  | 2 => .two (.rep (.rep x))
  | 3 => .three (.rep (.rep (.rep x)))
  | 5 => .five (.rep (.rep (.rep (.rep (.rep x)))))
  | d => .big (Br.mk d x)
end Tr

/-- A loop over a function, its temporaries as a tree. -/
structure ALoop where
  state : LoopState
  pending : Option Code
  fn : FuncId
  n : Nat
  tmps : Tr Value
  params : List Tmp
  assign : Code
  body : Code
  defers : Nat
  deriving Inhabited

/-- What a row of cells is: a variable; slots that are all there are; slots that an append may have more of (so many cells each); read only. -/
inductive AKind where
  | var (e : TypeId)
  | row (e : TypeId)
  | grow (e : TypeId) (size : Nat)
  | ro
  deriving Inhabited, DecidableEq

inductive AObj where
  | none
  | cells (c : List Value) (g : AKind)
  | map (l : List (Value × Value))
  | iter (m : Option Nat) (left : List (Value × Value)) (cur : Option (Value × Value))
  | loop (l : ALoop)
  | deferred (d : Option (List Deferred))
  deriving Inhabited

/-- Blocks below 'floor' are not turned; 'busy': maps that are ranged over, each with its iterator. -/
structure AHeap where
  t : Tr AObj
  next : Nat
  floor : Nat
  busy : List (Nat × Nat)
  deriving Inhabited

/-- How deep the heap's tree is. -/
def heapDepth : Nat := 5
def heapMost : Nat := 32768
/-- How deep the temporaries' tree is. -/
def tDepth (n : Nat) : Nat := bif Nat.blt n 64 then 2 else bif Nat.blt n 512 then 3 else n.log2 / 3 + 6

inductive AItem where
  | code (c : Code)
  | inBlock (id : Nat)
  | inLoop (c : Code)
  | inScope (c : Code)
  | inRegion (ops : Array Oper) (rest : List Oper)
  | draw (ops : Array Oper) (left done : List (Nat × Oper)) (mask : Nat)
  | inRangeFunc (l : Nat)
  | endRangeFunc (l : Nat)
  | beginRound
  deriving Inhabited

structure AFrame where
  fn : FuncId
  n : Nat
  tmps : Tr Value
  todo : List AItem
  defers : List Deferred
  ret : Bool
  deferred : Bool
  round : Option Nat
  deriving Inhabited

structure AState where
  fr : AFrame
  cs : List AFrame
  h : AHeap
  deriving Inhabited

structure Env where
  P : Program
  globals : Nat
  sum : FuncId → Option (List Value → AHeap → Option (Value × AHeap))
  ext : FuncId → Option (List Value → Option Value)

inductive ANext where
  | value (v : Value)
  | enter (f : FuncId) (args : List Value)
  | round (l : Nat) (f : FuncId) (n : Nat) (tmps : Tr Value) (assign body : Code)
  | defer (d : Deferred)
  | recover

/-- A constant without an address. -/
def atom : Value → Bool
  | .bool _ | .int .. | .float .. | .complex .. | .string _ | .nilFunc | .nilIface => true
  | .pointer none | .slice none 0 0 | .map none | .chan none => true
  | _ => false
def constOk : Value → Bool
  | .agg cs => cs.toList.all atom
  | .tuple cs => cs.toList.all atom
  | v => atom v

def evT (E : Env) (n : Nat) (t : Tr Value) : Operand → Option Value
  | .tmp i => bif Nat.blt i n then some (t.get i) else none
  | .const v => bif constOk v then some v else none
  | .global g => bif Nat.blt g E.globals then some (.pointer (some ⟨g, 0, none⟩)) else none
  | .func f => some (.func (.func f) #[] #[])

def evs (ρ : Operand → Option Value) : List Operand → Option (List Value)
  | [] => some []
  | x :: r => (ρ x).bind fun v => (evs ρ r).bind fun vs => some (v :: vs)

def evParts (ρ : Operand → Option Value) : List (Nat × Operand) → Option (List (Nat × Value))
  | [] => some []
  | (i, x) :: r => (ρ x).bind fun v => (evParts ρ r).bind fun vs => some ((i, v) :: vs)

def getCells (h : AHeap) (b : Nat) : Option (List Value × AKind) := match h.t.get b with
  | .cells c k => some (c, k)
  | _ => none

def AHeap.put (h : AHeap) (b : Nat) (o : AObj) : Option AHeap := bif Nat.blt b h.floor then none else some { h with t := h.t.set b o }
def AHeap.alloc (h : AHeap) (o : AObj) : Option (Nat × AHeap) :=
  bif Nat.blt h.next heapMost then some (h.next, { h with t := h.t.set h.next o, next := h.next + 1 }) else none

def takeN : Nat → List Value → Option (List Value)
  | 0, _ => some []
  | _ + 1, [] => none
  | n + 1, v :: r => (takeN n r).bind fun l => some (v :: l)
/-- n cells from off on. -/
def cut (c : List Value) (off n : Nat) : Option (List Value) := takeN n (c.drop off)
/-- These cells from off on are turned. -/
def splice : List Value → Nat → List Value → Option (List Value)
  | c, _, [] => some c
  | [], _, _ :: _ => none
  | _ :: c, 0, v :: new => (splice c 0 new).bind fun l => some (v :: l)
  | u :: c, off + 1, new => (splice c off new).bind fun l => some (u :: l)

def isAggD : TypeDesc → Bool
  | .struct _ | .array _ _ => true
  | _ => false

def sizeE (E : Env) (t : TypeId) : Option Nat := (E.P.info? t).map (·.size)
def bytesE (E : Env) (t : TypeId) : Option Nat := (E.P.info? t).map (·.bytes)
def zeroE (E : Env) (t : TypeId) : Option Value := (E.P.info? t).bind fun i => i.zero.bind fun v => bif constOk v then some v else none
def undE (E : Env) (t : TypeId) : Option TypeDesc := E.P.underlying t

def partE (E : Env) (t : TypeId) (cs : List Value) (off : Nat) : Option Value :=
  (undE E t).bind fun d => bif isAggD d then (sizeE E t).bind fun n => (cut cs off n).bind fun l => some (.agg l.toArray)
    else (cs.drop off).head?

/-- No struct, array or tuple stands in one cell. -/
def oneCell : Value → Bool
  | .agg _ | .tuple _ => false
  | _ => true

def loadE (E : Env) (h : AHeap) (t : TypeId) (b off : Nat) : Option Value :=
  (undE E t).bind fun d => bif isAggD d then
    (sizeE E t).bind fun n => match n with
      | 0 => some (.agg #[])
      | n + 1 => (getCells h b).bind fun c => (cut c.1 off (n + 1)).bind fun l => some (.agg l.toArray)
  else (getCells h b).bind fun c => (c.1.drop off).head?

def storeCellsE (h : AHeap) (b off : Nat) : List Value → Option AHeap
  | [] => some h
  | v :: new => match h.t.get b with
    | .cells _ .ro => none
    | .cells c g => (splice c off (v :: new)).bind fun c => h.put b (.cells c g)
    | _ => none

def storeE (E : Env) (h : AHeap) (t : TypeId) (b off : Nat) (v : Value) : Option AHeap :=
  (sizeE E t).bind fun n =>
    bif Nat.beq v.cells.toList.length n && v.cells.toList.all oneCell then storeCellsE h b off v.cells.toList else none

def fillE (place : Nat → Option (Nat × Nat)) (cells : List Value) : List (Nat × Value) → Option (List Value)
  | [] => some cells
  | (i, v) :: rest => (place i).bind fun p =>
    bif Nat.beq v.cells.toList.length p.2 && !Nat.beq p.2 0 then (splice cells p.1 v.cells.toList).bind fun cs => fillE place cs rest else none

def placesE (E : Env) : List Field → Option (List (Nat × Nat))
  | [] => some []
  | f :: r => (sizeE E f.type).bind fun n => (placesE E r).bind fun l => some ((f.offset, n) :: l)

def intOp (op : BinOp) (k : IntKind) (a b : Int) : Option Value :=
  match op with
  | .add => some (.int k (k.wrap (a + b)))
  | .sub => some (.int k (k.wrap (a - b)))
  | .mul => some (.int k (k.wrap (a * b)))
  | .quo => if b = 0 then none else some (.int k (k.wrap (a.tdiv b)))
  | .rem => if b = 0 then none else some (.int k (a.tmod b))
  | .and => some (.int k (k.wrap (BitVec.ofInt k.bits a &&& BitVec.ofInt k.bits b).toNat))
  | .or => some (.int k (k.wrap (BitVec.ofInt k.bits a ||| BitVec.ofInt k.bits b).toNat))
  | .xor => some (.int k (k.wrap (BitVec.ofInt k.bits a ^^^ BitVec.ofInt k.bits b).toNat))
  | .eql => some (.bool (a == b))
  | .neq => some (.bool (a != b))
  | .lss => some (.bool (a < b))
  | .leq => some (.bool (a ≤ b))
  | .gtr => some (.bool (a > b))
  | .geq => some (.bool (a ≥ b))
  | _ => none

def shiftE (op : BinOp) (k : IntKind) (x y : Int) : Option Value :=
  if y < 0 then none else
  match op with
  | .shl => some (.int k (k.wrap (x * 2 ^ min y.toNat k.bits)))
  | .shr => some (.int k (x.fdiv (2 ^ min y.toNat k.bits)))
  | _ => none

/-- The same bytes. -/
def eqU : List UInt8 → List UInt8 → Bool
  | [], [] => true
  | a :: r, b :: s => Nat.beq a.toNat b.toNat && eqU r s
  | _, _ => false
def strOp (op : BinOp) (x y : ByteArray) : Option Value :=
  match op with
  | .add => if ((x.size + y.size : Nat) : Int) > IntKind.i64.max then none else some (.string (x ++ y))
  | .eql => some (.bool (eqU x.data.toList y.data.toList))
  | .neq => some (.bool !(eqU x.data.toList y.data.toList))
  | _ => none

def samePtrE (h : AHeap) (a b : Addr) : Option Bool :=
  bif Nat.beq a.block b.block then some (Nat.beq a.off b.off) else
  match h.t.get a.block, h.t.get b.block with
  | .cells (_ :: _) (.var _), .cells (_ :: _) (.var _) => some false
  | _, _ => none

/-- The fields of a struct one by one. -/
def allFields (eq : TypeId → Value → Value → Option Bool) (part : TypeId → Nat → Option (Value × Value)) : List Field → Option Bool
  | [] => some true
  | f :: fs => if f.name = "_" then allFields eq part fs else
    (part f.type f.offset).bind fun p => (eq f.type p.1 p.2).bind fun t => match t with
      | true => allFields eq part fs
      | false => some false

/-- Equality of two values of the same type. -/
def eqE (E : Env) (h : AHeap) : Nat → TypeId → Value → Value → Option Bool
  | 0, _, _, _ => none
  | d + 1, t, x, y => (undE E t).bind fun u => match u, x, y with
    | .bool, .bool a, .bool b => some (a == b)
    | .int _, .int k a, .int k' b => if k = k' then some (a == b) else none
    | .string, .string a, .string b => some (a == b)
    | .pointer _, .pointer none, .pointer none => some true
    | .pointer _, .pointer none, .pointer (some _) => some false
    | .pointer _, .pointer (some _), .pointer none => some false
    | .pointer e, .pointer (some a), .pointer (some b) => (sizeE E e).bind fun n =>
      bif Nat.beq n 0 || a.spot.isSome || b.spot.isSome then none else samePtrE h a b
    | .interface _, .nilIface, .nilIface => some true
    | .interface _, .nilIface, .iface _ _ => some false
    | .interface _, .iface _ _, .nilIface => some false
    | .struct fields, .agg xs, .agg ys =>
      if E.P.stoodInHeld t then none else
      allFields (eqE E h d) (fun t off => (partE E t xs.toList off).bind fun a => (partE E t ys.toList off).bind fun b => some (a, b)) fields.toList
    | .slice _, .slice none _ _, .slice none _ _ => some true
    | .slice _, .slice none _ _, .slice (some _) _ _ => some false
    | .slice _, .slice (some _) _ _, .slice none _ _ => some false
    | .map _ _, .map none, .map none => some true
    | .map _ _, .map none, .map (some _) => some false
    | .map _ _, .map (some _), .map none => some false
    | _, _, _ => none

/-- Is '==' at these operands free of the guard on two nil values of an interface type with methods? -/
def eqFree (E : Env) (t : TypeId) (x y : Operand) (a b : Value) : Bool :=
  match a, b with
  | .nilIface, .nilIface => (x matches .const _) || (y matches .const _)
  | .agg _, .agg _ => !E.P.eqGuardType E.P.depth t
  | _, _ => true

def notNum : Value → Bool
  | .int .. | .float .. | .complex .. | .string _ => false
  | _ => true
def binE (E : Env) (h : AHeap) (op : BinOp) (xt : TypeId) (ox oy : Operand) (x y : Value) : Option Value :=
  match x, y with
  | .int k a, .int k' b => match op with
    | .shl => shiftE .shl k a b
    | .shr => shiftE .shr k a b
    | op => if k = k' then intOp op k a b else none
  | .string a, .string b => strOp op a b
  | x, y => match op with
    | .eql => bif notNum x && eqFree E xt ox oy x y then (eqE E h 8 xt x y).bind fun t => some (.bool t) else none
    | .neq => bif notNum x && eqFree E xt ox oy x y then (eqE E h 8 xt x y).bind fun t => some (.bool !t) else none
    | _ => none

def unE (op : UnOp) (x : Value) : Option Value :=
  match op, x with
  | .neg, .int k n => some (.int k (k.wrap (0 - n)))
  | .xor, .int k n => intOp .xor k (if k.signed then -1 else k.max) n
  | .not, .bool b => some (.bool !b)
  | _, _ => none

def intOf : Value → Option Int
  | .int _ n => some n
  | _ => none

def bytesOf : List Value → Option (List UInt8)
  | [] => some []
  | .int .u8 n :: r => (bytesOf r).bind fun l => some (UInt8.ofNat n.toNat :: l)
  | _ :: _ => none

/-- An address of which nothing is known: of an empty slice behind another one. -/
def junk : Addr := ⟨0, 0, some 0⟩
def addrAdd (a : Addr) (n : Nat) : Addr := ⟨a.block, a.off + n, none⟩
def strBytes (s : ByteArray) : List Value := s.data.toList.map fun b => .int .u8 b.toNat

/-- The type of a bare pointer: the one that is none of the others. -/
def bareD : TypeDesc → Bool
  | .invalid | .bool | .int _ | .float _ | .complex _ | .string | .pointer _ | .slice _ | .array _ _ | .map _ _ | .chan _ _ | .struct _ | .func _ _ _ | .interface _ | .tuple _ | .named _ _ => false
  | _ => true

/-- Conversions that turn no memory. -/
def convE (E : Env) (h : AHeap) (src dst : TypeId) (x : Value) : Option Value :=
  (undE E src).bind fun s => (undE E dst).bind fun d => match s, d, x with
  | .int _, .int k, .int _ n => some (.int k (k.wrap n))
  | .slice e, .string, .slice (some a) len _ =>
    (undE E e).bind fun u => match u with
    | .int .u8 => match len with
      | 0 => some (.string .empty)
      | len + 1 => match a.spot with
        | some _ => none
        | none => (getCells h a.block).bind fun c => (cut c.1 a.off (len + 1)).bind fun l => (bytesOf l).bind fun l => some (.string ⟨l.toArray⟩)
    | _ => none
  | .pointer t, d, .pointer (some a) => bif bareD d then
    (match h.t.get a.block, a.spot with
    | .cells c (.var _), none => (sizeE E t).bind fun n => bif Nat.blt a.off c.length && !Nat.beq n 0 then some (.pointer (some a)) else none
    | _, _ => none) else none
  | s, .pointer u, .pointer (some a) => bif bareD s then
    (match h.t.get a.block, a.spot with
    | .cells c (.var e), none => (sizeE E u).bind fun n => bif Nat.beq a.off 0 && Nat.beq e u && !Nat.beq n 0 && Nat.beq c.length n then some (.pointer (some a)) else none
    | _, _ => none) else none
  | _, _, _ => none

def boundE (x : Option Value) (lo : Nat) : Option Nat := match x with
  | none => some lo
  | some (.int _ (.ofNat n)) => some n
  | _ => none

def kindGrow : AKind → Bool
  | .grow .. => true
  | _ => false

/-- Slicing: bounds in elements. -/
def arrSlice (E : Env) (h : AHeap) (n : Nat) (elem : TypeId) (a : Addr) (l u m : Nat) : Option Value :=
  match a.spot with
  | some _ => none
  | none => (getCells h a.block).bind fun c => bif kindGrow c.2 then none else (sizeE E elem).bind fun size =>
    bif Nat.ble l u && Nat.ble u m && Nat.ble m n then some (.slice (some (bif Nat.beq m l then a else addrAdd a (l * size))) (u - l) (m - l)) else none

def sliceE (E : Env) (h : AHeap) (t : TypeId) (x : Value) (lo hi mx : Option Value) : Option Value :=
  bif hi.isNone && mx.isSome then none else
  (boundE lo 0).bind fun l => (undE E t).bind fun d => match d, x with
  | .string, .string s => (boundE hi s.size).bind fun u =>
    bif Nat.ble l u && Nat.ble u s.size && mx.isNone then some (.string (s.extract l u)) else none
  | .slice elem, .slice none 0 0 => (boundE hi 0).bind fun u => (boundE mx 0).bind fun m => (sizeE E elem).bind fun _ =>
    bif Nat.beq l 0 && Nat.beq u 0 && Nat.beq m 0 then some (.slice none 0 0) else none
  | .slice elem, .slice (some a) len cap => (boundE hi len).bind fun u => (boundE mx cap).bind fun m =>
    bif !(Nat.ble l u && Nat.ble u m && Nat.ble m cap) then none else
    match a.spot with
    | some _ => none
    | none => (getCells h a.block).bind fun c => (sizeE E elem).bind fun size =>
      match c.2, mx with
      | .grow _ s, none => bif Nat.beq s size then (bif Nat.blt l cap || Nat.beq l 0 then some (.slice (some (addrAdd a (l * size))) (u - l) (m - l)) else some (.slice (some junk) 0 0)) else none
      | .grow _ s, some _ => bif Nat.beq s size then some (.slice (some (bif Nat.beq m l then a else addrAdd a (l * size))) (u - l) (m - l)) else none
      | _, _ => some (.slice (some (bif Nat.beq m l then a else addrAdd a (l * size))) (u - l) (m - l))
  | .array n elem, .pointer (some a) => (boundE hi n).bind fun u => (boundE mx n).bind fun m => arrSlice E h n elem a l u m
  | _, _ => none

def indexAddrE (E : Env) (t : TypeId) (x ix : Value) : Option Value :=
  (undE E t).bind fun d => match d, x, ix with
  | .array n elem, .pointer (some a), .int _ (.ofNat i) => match a.spot with
    | some _ => none
    | none => bif Nat.blt i n then (sizeE E elem).bind fun s => some (.pointer (some (addrAdd a (i * s)))) else none
  | .slice elem, .slice (some a) len _, .int _ (.ofNat i) => match a.spot with
    | some _ => none
    | none => bif Nat.blt i len then (sizeE E elem).bind fun s => some (.pointer (some (addrAdd a (i * s)))) else none
  | _, _, _ => none

def indexE (E : Env) (t : TypeId) (x ix : Value) : Option Value :=
  (undE E t).bind fun d => match d, x, ix with
  | .array n elem, .agg cs, .int _ (.ofNat i) => bif Nat.blt i n then (sizeE E elem).bind fun s => partE E elem cs.toList (i * s) else none
  | .string, .string s, .int _ (.ofNat i) => (s.data.toList[i]?).bind fun b => some (.int .u8 b.toNat)
  | _, _, _ => none

/-- The same key: a number. -/
def sameKey : Value → Value → Option Bool
  | .int k a, .int k' b => if k = k' then some (a == b) else none
  | _, _ => none
def findE (k : Value) : List (Value × Value) → Option (Option Value)
  | [] => some none
  | p :: r => (sameKey k p.1).bind fun t => bif t then some (some p.2) else findE k r
def putE (k v : Value) : List (Value × Value) → Option (List (Value × Value))
  | [] => some [(k, v)]
  | p :: r => (sameKey k p.1).bind fun t => bif t then some ((k, v) :: r) else (putE k v r).bind fun l => some (p :: l)
def dropE (k : Value) : List (Value × Value) → Option (List (Value × Value))
  | [] => some []
  | p :: r => (sameKey k p.1).bind fun t => bif t then some r else (dropE k r).bind fun l => some (p :: l)
def getMap (h : AHeap) : Option Nat → Option (List (Value × Value))
  | none => some []
  | some b => match h.t.get b with
    | .map l => some l
    | _ => none
/-- A key that is a number of the map's own kind. -/
def keyOk (E : Env) (kt : TypeId) (k : Value) : Bool := match undE E kt, k with
  | some (.int j), .int j' _ => decide (j = j')
  | _, _ => false

def lookupE (E : Env) (h : AHeap) (t : TypeId) (x k : Value) (ok : Bool) : Option Value :=
  (undE E t).bind fun d => match d, x with
  | .map kt elem, .map m => bif keyOk E kt k then (getMap h m).bind fun l => (findE k l).bind fun r => match r with
    | some v => some (bif ok then .tuple #[v, .bool true] else v)
    | none => (zeroE E elem).bind fun z => some (bif ok then .tuple #[z, .bool false] else z)
    else none
  | _, _ => none

def lenE (E : Env) (h : AHeap) (argTypes : List TypeId) (args : List Value) : Option Value :=
  match argTypes, args with
  | t :: _, [x] => (undE E t).bind fun d => match d, x with
    | .string, .string s => some (.int .i64 s.size)
    | .slice _, .slice _ n _ => some (.int .i64 n)
    | .map _ _, .map m => (getMap h m).bind fun l => some (.int .i64 l.length)
    | _, _ => none
  | _, _ => none

def minmaxE (mx : Bool) : List Value → Option Value
  | [.int k a, .int _ b] => some (.int k (match mx with | true => if a < b then b else a | false => if b < a then b else a))
  | _ => none

def lightB (E : Env) (h : AHeap) (b : Builtin) (argTypes : List TypeId) (args : List Value) : Option Value :=
  match b with
  | .len => lenE E h argTypes args
  | .min => minmaxE false args
  | .max => minmaxE true args
  | .cap => match argTypes, args with
    | t :: _, [.slice none _ cap] => (undE E t).bind fun d => match d with | .slice _ => some (.int .i64 cap) | _ => none
    | _, _ => none
  | _ => bif Nat.beq b.ctorIdx 20 then (match args with
    | [.slice (some a) _ (c + 1)] => match a.spot with
      | none => some (.pointer (some a))
      | some _ => none
    | _ => none) else none

def lightBuiltin (b : Builtin) : Bool := match b with
  | .len | .min | .max | .cap => true
  | _ => Nat.beq b.ctorIdx 20

/-- Operations that turn no memory. -/
def light : Op → Bool
  | .move _ | .assign _ | .pick .. | .build .. | .nilCheck _ | .binOp .. | .unOp .. | .makeInterface .. | .makeFunc .. | .slice .. | .fieldAddr .. | .field ..
  | .indexAddr .. | .index .. | .lookup .. | .extract .. | .load .. => true
  | .convert s d _ => !Nat.beq s d
  | .call { callee := .builtin b, .. } => lightBuiltin b
  | _ => false

def evO (ρ : Operand → Option Value) : Option Operand → Option (Option Value)
  | none => some none
  | some x => (ρ x).bind fun v => some (some v)

def isYield : Fn → Bool
  | .func _ => false
  | _ => true

def lop (E : Env) (ρ : Operand → Option Value) (h : AHeap) : Op → Option Value
  | .move x => ρ x
  | .assign x => ρ x
  | .pick c a b => (ρ c).bind fun c => match c with
    | .bool true => ρ a
    | .bool false => ρ b
    | _ => none
  | .build t parts => (zeroE E t).bind fun z => (evParts ρ parts.toList).bind fun vs => (undE E t).bind fun d => match d with
    | .struct fs => (placesE E fs.toList).bind fun ps => (fillE (fun i => ps[i]?) z.cells.toList vs).bind fun cs => some (.agg cs.toArray)
    | .array _ elem => (sizeE E elem).bind fun size => (fillE (fun i => some (i * size, size)) z.cells.toList vs).bind fun cs => some (.agg cs.toArray)
    | _ => none
  | .nilCheck x => (ρ x).bind fun v => match v with
    | .pointer (some a) => some (.pointer (some a))
    | _ => none
  | .binOp op xt x y _ => (ρ x).bind fun a => (ρ y).bind fun b => binE E h op xt x y a b
  | .unOp op _ x => (ρ x).bind fun v => unE op v
  | .convert s d x => (ρ x).bind fun v => convE E h s d v
  | .makeInterface t x => (ρ x).bind fun v => (undE E t).bind fun d => match d with
    | .interface _ => none
    | _ => some (.iface t v)
  | .makeFunc fn first captured => bif isYield fn then none else
    (evs ρ first.toList).bind fun a => (evs ρ captured.toList).bind fun b => some (.func fn a.toArray b.toArray)
  | .slice t x lo hi mx => (ρ x).bind fun v => (evO ρ lo).bind fun lo => (evO ρ hi).bind fun hi => (evO ρ mx).bind fun mx => sliceE E h t v lo hi mx
  | .fieldAddr t x i => (ρ x).bind fun v => (undE E t).bind fun d => match d, v with
    | .struct fs, .pointer (some a) => match a.spot with
      | some _ => none
      | none => (fs.toList[i]?).bind fun f => (sizeE E f.type).bind fun n => bif Nat.beq n 0 then none else some (.pointer (some (addrAdd a f.offset)))
    | _, _ => none
  | .field t x i => (ρ x).bind fun v => (undE E t).bind fun d => match d, v with
    | .struct fs, .agg cs => (fs.toList[i]?).bind fun f => partE E f.type cs.toList f.offset
    | _, _ => none
  | .indexAddr t x ix => (ρ x).bind fun a => (ρ ix).bind fun i => indexAddrE E t a i
  | .index t x ix => (ρ x).bind fun a => (ρ ix).bind fun i => indexE E t a i
  | .lookup t x k ok => (ρ x).bind fun a => (ρ k).bind fun k => lookupE E h t a k ok
  | .extract t i => (ρ t).bind fun v => match v with
    | .tuple vs => vs.toList[i]?
    | _ => none
  | .load t a => (ρ a).bind fun v => match v with
    | .pointer (some a) => match a.spot with
      | none => loadE E h t a.block a.off
      | some _ => none
    | _ => none
  | .call c => match c.callee with
    | .builtin b => (evs ρ c.args.toList).bind fun args => lightB E h b c.argTypes.toList args
    | _ => none
  | _ => none

def appendE (E : Env) (argTypes : List TypeId) (args : List Value) (h : AHeap) : Option (Value × AHeap) :=
  match argTypes, args with
  | [st, xt], [.slice base len cap, x] => (undE E st).bind fun d => match d with
    | .slice elem => (sizeE E elem).bind fun size => (bytesE E elem).bind fun bytes => (undE E xt).bind fun xd =>
      let new : Option (Nat × List Value) := match xd, x, base with
        | .int _, .int .i64 (.ofNat (n + 1)), none => (zeroE E elem).bind fun z => bif Nat.blt n 100000 && !Nat.beq size 0 then some (n + 1, (List.replicate (n + 1) z.cells.toList).flatten) else none
        | .slice _, .slice none 0 0, _ => some (0, [])
        | .slice _, .slice (some b) l _, _ => match l with
          | 0 => some (0, [])
          | l + 1 => match b.spot with
            | some _ => none
            | none => (getCells h b.block).bind fun c => (cut c.1 b.off ((l + 1) * size)).bind fun new => some (l + 1, new)
        | .string, .string s, _ => bif Nat.beq size 1 then some (s.size, strBytes s) else none
        | _, _, _ => none
      new.bind fun p => (zeroE E elem).bind fun z =>
      bif !(Nat.beq z.cells.toList.length size && p.2.all oneCell && Nat.blt (len + p.1) 100000 && Nat.blt bytes 100000 && !Nat.beq bytes 0) then none else
      match base with
      | none => match p.1, len, cap with
        | 0, 0, 0 => some (.slice none 0 0, h)
        | n + 1, 0, 0 => (h.alloc (.cells p.2 (.grow elem size))).bind fun q => some (.slice (some ⟨q.1, 0, none⟩) (n + 1) (n + 1), q.2)
        | _, _, _ => none
      | some a => match a.spot with
        | some _ => none
        | none => (getCells h a.block).bind fun c =>
          bif Nat.ble (len + p.1) cap then
            (storeCellsE h a.block (a.off + len * size) p.2).bind fun h => some (.slice (some a) (len + p.1) cap, h)
          else (cut c.1 a.off (len * size)).bind fun old => match c.2 with
            | .grow ge s => bif Nat.beq s size && Nat.beq ge elem then
                (h.put a.block .none).bind fun h => (h.alloc (.cells (old ++ p.2) (.grow elem size))).bind fun q => some (.slice (some ⟨q.1, 0, none⟩) (len + p.1) (len + p.1), q.2)
              else none
            | .ro => none
            | _ => (h.alloc (.cells (old ++ p.2) (.grow elem size))).bind fun q => some (.slice (some ⟨q.1, 0, none⟩) (len + p.1) (len + p.1), q.2)
    | _ => none
  | _, _ => none

def copyE (E : Env) (argTypes : List TypeId) (args : List Value) (h : AHeap) : Option (Value × AHeap) :=
  match argTypes, args with
  | dt :: _, [.slice (some a) dLen _, .slice (some b) sLen _] => (undE E dt).bind fun d => match d with
    | .slice elem => (sizeE E elem).bind fun size => match Nat.min sLen dLen with
      | 0 => some (.int .i64 0, h)
      | n + 1 => match a.spot, b.spot with
        | none, none => (getCells h b.block).bind fun c => (cut c.1 b.off ((n + 1) * size)).bind fun new =>
          bif new.all oneCell then (storeCellsE h a.block a.off new).bind fun h => some (.int .i64 ((n + 1 : Nat) : Int), h) else none
        | _, _ => none
    | _ => none
  | _, _ => none

/-- No range goes over the map just now. -/
def idle (h : AHeap) (b : Nat) : Bool := h.busy.all fun p => !Nat.beq p.1 b

def heavyB (E : Env) (h : AHeap) (b : Builtin) (argTypes : List TypeId) (args : List Value) : Option (ANext × AHeap) :=
  match b with
  | .append => (appendE E argTypes args h).bind fun p => some (.value p.1, p.2)
  | .copy => (copyE E argTypes args h).bind fun p => some (.value p.1, p.2)
  | .recover => some (.recover, h)
  | .delete => match argTypes, args with
    | t :: _, [.map (some b), k] => (undE E t).bind fun d => match d, h.t.get b with
      | .map kt _, .map l => bif keyOk E kt k && idle h b then (dropE k l).bind fun l => (h.put b (.map l)).bind fun h => some (.value (.tuple #[]), h) else none
      | _, _ => none
    | _, _ => none
  | _ => bif Nat.beq b.ctorIdx 21 then (match argTypes, args with
    | pt :: _, [.pointer (some a), .int _ (.ofNat (n + 1))] => match a.spot with
      | none => (undE E pt).bind fun d => match d, h.t.get a.block with
        | .pointer u, .cells c (.grow e 1) => (sizeE E e).bind fun s =>
          bif Nat.beq e u && Nat.beq s 1 && Nat.blt n 100000 then
            (cut c a.off (n + 1)).bind fun l => (bytesOf l).bind fun l => (h.put a.block .none).bind fun h => some (.value (.string ⟨l.toArray⟩), h)
          else none
        | _, _ => none
      | some _ => none
    | _, _ => none) else none

def getLoopE (h : AHeap) (l : Nat) : Option ALoop := match h.t.get l with
  | .loop r => some r
  | _ => none

def putParams : List Tmp → List Value → Nat → Tr Value → Option (Tr Value)
  | [], [], _, t => some t
  | p :: ps, v :: vs, n, t => bif Nat.blt p n then putParams ps vs n (t.set p v) else none
  | _, _, _, _ => none

/-- The pointer in an embedded field, from a pointer on. -/
def embedE (E : Env) (h : AHeap) (s : FieldStep) (a : Addr) : Option Value :=
  match s.deref, a.spot with
  | true, none => (undE E s.struct).bind fun d => match d with
    | .struct fs => (fs.toList[s.index]?).bind fun f => (undE E f.type).bind fun u => match u with
      | .pointer _ => (sizeE E f.type).bind fun n => bif Nat.beq n 0 then none else loadE E h f.type a.block (a.off + f.offset)
      | _ => none
    | _ => none
  | _, _ => none

/-- The place of a byte in a text. -/
def placeOf (c : Int) : List UInt8 → Nat → Option Nat
  | [], _ => none
  | b :: r, i => if (b.toNat : Int) = c then some i else placeOf c r (i + 1)
def indexByteE : List Value → Option Value
  | [.string s, .int .u8 c] => some (.int .i64 (match placeOf c s.data.toList 0 with | some i => i | none => -1))
  | _ => none
def noEscapeE : List Value → Option Value
  | [x] => some x
  | _ => none

def callFnE (E : Env) (f : FuncId) (args : List Value) : Option ANext :=
  (E.P.funcs[f]?).bind fun fn => match fn.body with
  | none => (E.ext f).bind fun g => (g args).bind fun v => some (.value v)
  | some _ => bif fn.name == "runtime.NumGoroutine" then none else some (.enter f args)

def invokeE (E : Env) (t : Target) (args : List Value) (h : AHeap) : Option ANext :=
  match t with
  | .fn (.func f) captured => callFnE E f (args ++ captured.toList)
  | .fn (.yield l) _ => (getLoopE h l).bind fun r => (putParams r.params args r.n r.tmps).bind fun t => some (.round l r.fn r.n t r.assign r.body)
  | .fn (.method name) _ => match args with
    | .iface t (.pointer (some a)) :: rest => match a.spot with
      | some _ => none
      | none => (E.P.info? t).bind fun i => (i.methods.toList.find? (·.name == name)).bind fun m => match m.path.toList, m.func with
        | [s], some (f, true) => (embedE E h s a).bind fun v => callFnE E f (v :: rest)
        | _, _ => none
    | _ => none
  | _ => none

def resolveE (ρ : Operand → Option Value) (c : Call) : Option (Target × List Value) :=
  (evs ρ c.args.toList).bind fun args => match c.callee with
  | .invoke recv name => (ρ recv).bind fun r => some (.fn (.method name) #[], r :: args)
  | .value f => (ρ f).bind fun v => match v with
    | .func fn first captured => some (.fn fn captured, first.toList ++ args)
    | _ => none
  | .builtin _ => none

def hintOk : Option Value → Bool
  | none => true
  | some (.int ..) => true
  | _ => false

def hop (E : Env) (ρ : Operand → Option Value) (h : AHeap) : Op → Option (ANext × AHeap)
  | .alloc e => (zeroE E e).bind fun z => (h.alloc (.cells z.cells.toList (.var e))).bind fun q => some (.value (.pointer (some ⟨q.1, 0, none⟩)), q.2)
  | .box e x => (ρ x).bind fun v => (h.alloc (.cells v.cells.toList (.var e))).bind fun q => some (.value (.pointer (some ⟨q.1, 0, none⟩)), q.2)
  | .buildSlice t len parts => (evParts ρ parts.toList).bind fun vs => (undE E t).bind fun d => match d with
    | .slice elem => (sizeE E elem).bind fun size => (zeroE E elem).bind fun z =>
      bif Nat.blt (len * size) 100000 && Nat.beq z.cells.toList.length size then
        (fillE (fun i => some (i * size, size)) (List.replicate len z.cells.toList).flatten vs).bind fun cs =>
          (h.alloc (.cells cs (.row elem))).bind fun q => some (.value (.slice (some ⟨q.1, 0, none⟩) len len), q.2)
      else none
    | _ => none
  | .store t a x => (ρ a).bind fun v => (ρ x).bind fun x => match v with
    | .pointer (some a) => match a.spot with
      | none => (storeE E h t a.block a.off x).bind fun h => some (.value undef, h)
      | some _ => none
    | _ => none
  | .convert s d x => (ρ x).bind fun v => (undE E s).bind fun u => bif Nat.beq s d then match u, v with
      | .slice e, .slice (some a) len cap => (undE E e).bind fun ue => match ue, a.spot, h.t.get a.block with
        | .int .u8, none, .cells _ (.row _) => some (.value (.slice (some a) len cap), h)
        | _, _, _ => none
      | _, _ => none
    else none
  | .makeMap t r => (undE E t).bind fun d => match d with
    | .map _ _ => (evO ρ r).bind fun r =>
      bif hintOk r then (h.alloc (.map [])).bind fun q => some (.value (.map (some q.1)), q.2) else none
    | _ => none
  | .makeSlice t l c => (ρ l).bind fun l => (ρ c).bind fun c => (undE E t).bind fun d => match d, l, c with
    | .slice elem, .int .i64 (.ofNat l), .int .i64 (.ofNat c) => (sizeE E elem).bind fun size => (bytesE E elem).bind fun bytes => (zeroE E elem).bind fun z =>
      bif Nat.ble l c && Nat.blt c 100000 && Nat.blt bytes 100000 && Nat.beq z.cells.toList.length size then
        (h.alloc (.cells (List.replicate c z.cells.toList).flatten (.row elem))).bind fun q => some (.value (.slice (some ⟨q.1, 0, none⟩) l c), q.2)
      else none
    | _, _, _ => none
  | .mapUpdate t m k v => mapPut t m k v
  | .insert t m k v => mapPut t m k v
  | .call c => match c.callee with
    | .builtin b => (evs ρ c.args.toList).bind fun args => heavyB E h b c.argTypes.toList args
    | _ => (resolveE ρ c).bind fun d => (invokeE E d.1 d.2 h).bind fun nx => some (nx, h)
  | .range t x => (ρ x).bind fun v => (undE E t).bind fun d => match d, v with
    | .map _ _, .map none => (h.alloc (.iter none [] none)).bind fun q => some (.value (.pointer (some ⟨q.1, 0, none⟩)), q.2)
    | .map _ _, .map (some b) => (getMap h (some b)).bind fun l => (h.alloc (.iter (some b) l none)).bind fun q =>
      some (.value (.pointer (some ⟨q.1, 0, none⟩)), { q.2 with busy := (b, q.1) :: q.2.busy })
    | _, _ => none
  | .entry it => (ρ it).bind fun v => match v with
    | .pointer (some a) => match a.spot, a.off, h.t.get a.block with
      | none, 0, .iter (some _) _ (some p) => some (.value (.tuple #[p.1, p.2]), h)
      | _, _, _ => none
    | _ => none
  | .defer c => match c.callee with
    | .builtin _ => none
    | _ => (resolveE ρ c).bind fun d => some (.defer { target := d.1, args := d.2.toArray }, h)
  | _ => none
  where
  mapPut (t : TypeId) (m k v : Operand) : Option (ANext × AHeap) :=
    (ρ m).bind fun m => (ρ k).bind fun k => (ρ v).bind fun v => (undE E t).bind fun d => match d, m with
    | .map kt _, .map (some b) => bif keyOk E kt k && idle h b then (getMap h (some b)).bind fun l => (putE k v l).bind fun l => (h.put b (.map l)).bind fun h => some (.value undef, h) else none
    | _, _ => none

def aop (E : Env) (ρ : Operand → Option Value) (h : AHeap) (op : Op) : Option (ANext × AHeap) :=
  bif light op then (lop E ρ h op).bind fun v => some (.value v, h) else hop E ρ h op

def putArgs : List Value → Nat → Tr Value → Tr Value
  | [], _, t => t
  | v :: vs, i, t => putArgs vs (i + 1) (t.set i v)

def enterE (E : Env) (f : FuncId) (args : List Value) (deferred : Bool) : Option AFrame :=
  (E.P.funcs[f]?).bind fun fn => fn.body.bind fun body =>
    bif Nat.ble args.length fn.ntmps then
      some { fn := f, n := fn.ntmps, tmps := putArgs args 0 (Tr.mk (tDepth fn.ntmps) undef), todo := [.code body], defers := [], ret := false, deferred, round := none }
    else none

/-! ### Regions that draw their order -/

/-- What comes ahead of each operation in any order, as bits. -/
def maskOf (acc : List Nat) (o : Oper) : Nat :=
  o.after.toList.foldl (fun s e => bif Region.binds .any e then s ||| 2 ^ e.on ||| acc.getD e.on 0 else s) 0
def masksFrom : List Nat → List Oper → List Nat
  | acc, [] => acc
  | acc, o :: r => masksFrom (acc ++ [maskOf acc o]) r
def masks (ops : List Oper) : List Nat := masksFrom [] ops

def tmpsOf (l : List Operand) : List Tmp := l.filterMap fun | .tmp t => some t | _ => none

def isAlloc : Op → Bool
  | .alloc _ => true
  | _ => false

/-- An operation that must keep its place among its like. -/
def firm (op : Op) : Bool := !light op && !isAlloc op

def edgesOk (i : Nat) (o : Oper) : Bool := o.after.toList.all fun e => !Region.binds .any e || Nat.blt e.on i

/-- Each temporary is written once, and read behind its writer; the guards are known ahead; what is firm stands in one order. -/
def opOk (ops : List (Nat × Oper)) (ms : List Nat) (i : Nat) (o : Oper) : Bool :=
  edgesOk i o &&
  ops.all (fun p =>
    (match p.2.dst with
     | some d => (Nat.beq p.1 i || !(o.dst == some d)) && (!(tmpsOf o.op.operands.toList).contains d || (ms.getD i 0).testBit p.1)
     | none => true) &&
    (Nat.ble i p.1 || !firm o.op || !firm p.2.op || (ms.getD i 0).testBit p.1) &&
    (Nat.beq p.1 i || !isAlloc o.op || !isAlloc p.2.op)) &&
  (match o.guard with
   | some (g, _) => (ms.getD i 0).testBit g && (match ops[g]? with | some p => p.2.dst.isSome | none => false)
   | none => true)
def numbered : List Oper → Nat → List (Nat × Oper)
  | [], _ => []
  | o :: r, i => (i, o) :: numbered r (i + 1)
def regionOk (ops : Array Oper) : Bool :=
  (numbered ops.toList 0).all fun p => opOk (numbered ops.toList 0) (masks ops.toList) p.1 p.2

def wantedE (ops : Array Oper) (n : Nat) (t : Tr Value) (o : Oper) : Option Bool :=
  match o.guard with
  | none => some true
  | some (j, want) => (ops.toList[j]?).bind fun g => g.dst.bind fun d =>
    bif Nat.blt d n then match t.get d with
      | .bool b => some (b == want)
      | _ => some false
    else none

def setDst (n : Nat) (t : Tr Value) (dst : Option Tmp) (v : Value) : Option (Tr Value) :=
  match dst with
  | none => some t
  | some d => bif Nat.blt d n then some (t.set d v) else none

structure Eag where
  left : List (Nat × Oper)
  done : List (Nat × Oper)
  t : Tr Value
  h : AHeap

/-- All that needs no memory turned, and that is not behind what does. -/
def eager (E : Env) (ops : Array Oper) (n : Nat) : List (Nat × Oper) → (kept done : List (Nat × Oper)) → Tr Value → AHeap → Option Eag
  | [], kept, done, t, h => some ⟨kept.reverse, done, t, h⟩
  | p :: rest, kept, done, t, h =>
    bif p.2.after.toList.all (fun e => !Region.binds .any e || kept.all fun q => !Nat.beq q.1 e.on) then
      (wantedE ops n t p.2).bind fun w =>
        bif !w then (setDst n t p.2.dst undef).bind fun t => eager E ops n rest kept (p :: done) t h
        else bif light p.2.op then (lop E (evT E n t) h p.2.op).bind fun v => (setDst n t p.2.dst v).bind fun t => eager E ops n rest kept (p :: done) t h
        else match p.2.op, p.2.dst with
          | .alloc e, some d => (zeroE E e).bind fun z => (h.alloc (.cells z.cells.toList (.var e))).bind fun q =>
            (setDst n t (some d) (.pointer (some ⟨q.1, 0, none⟩))).bind fun t => eager E ops n rest kept (p :: done) t q.2
          | .alloc _, none => none
          | _, _ => eager E ops n rest (p :: kept) done t h
    else eager E ops n rest (p :: kept) done t h

def eqAtom : Value → Value → Bool
  | .bool a, .bool b => a == b
  | .int j a, .int k b => decide (j = k) && decide (a = b)
  | .string a, .string b => decide (a.data.toList = b.data.toList)
  | .pointer none, .pointer none => true
  | .pointer (some a), .pointer (some b) => decide (a = b)
  | .slice none l c, .slice none m d => Nat.beq l m && Nat.beq c d
  | .slice (some a) l c, .slice (some b) m d => decide (a = b) && Nat.beq l m && Nat.beq c d
  | .map none, .map none => true
  | .map (some a), .map (some b) => Nat.beq a b
  | .nilFunc, .nilFunc => true
  | .nilIface, .nilIface => true
  | .func (.func f) a b, .func (.func g) c d => Nat.beq f g && a.toList.isEmpty && b.toList.isEmpty && c.toList.isEmpty && d.toList.isEmpty
  | .func (.yield f) a b, .func (.yield g) c d => Nat.beq f g && a.toList.isEmpty && b.toList.isEmpty && c.toList.isEmpty && d.toList.isEmpty
  | _, _ => false
def eqFlat : List Value → List Value → Bool
  | [], [] => true
  | a :: r, b :: s => eqAtom a b && eqFlat r s
  | _, _ => false
def eqCell : Value → Value → Bool
  | .iface t a, .iface u b => Nat.beq t u && eqAtom a b
  | .agg a, .agg b => eqFlat a.toList b.toList
  | a, b => eqAtom a b
def eqAtoms : List Value → List Value → Bool
  | [], [] => true
  | a :: r, b :: s => eqCell a b && eqAtoms r s
  | _, _ => false
def eqOne : Value → Value → Bool
  | .agg a, .agg b => eqAtoms a.toList b.toList
  | .tuple a, .tuple b => eqAtoms a.toList b.toList
  | a, b => eqCell a b

def isUndef : Value → Bool
  | .tuple vs => vs.toList.isEmpty
  | _ => false

def memN (i : Nat) : List Nat → Bool
  | [] => false
  | j :: r => Nat.beq i j || memN i r
/-- The operands of one operation alone. -/
def evR (E : Env) (n : Nat) (t : Tr Value) (o : Oper) (x : Operand) : Option Value := match x with
  | .tmp i => bif memN i (tmpsOf o.op.operands.toList) then evT E n t (.tmp i) else none
  | x => evT E n t x

/-- What an operation that is done has given, it gives still. -/
def checkOne (E : Env) (ops : Array Oper) (n : Nat) (t : Tr Value) (h : AHeap) (o : Oper) : Bool :=
  match wantedE ops n t o with
  | some true => bif light o.op then (match lop E (evR E n t o) h o.op, o.dst with
      | some v, some d => Nat.blt d n && eqOne v (t.get d)
      | _, _ => false)
    else (match o.op, o.dst with
      | .alloc e, some d => Nat.blt d n && (match zeroE E e, t.get d with
        | some z, .pointer (some a) => (match a.spot, a.off, h.t.get a.block with
          | none, 0, .cells c (.var e') => Nat.beq e e' && eqAtoms c z.cells.toList
          | _, _, _ => false)
        | _, _ => false)
      | _, _ => false)
  | some false => (match o.dst with
      | some d => Nat.blt d n && isUndef (t.get d)
      | none => true)
  | none => false
/-- All that may come behind what was done last gives the same still. -/
def recheck (E : Env) (ops : Array Oper) (n : Nat) (t : Tr Value) (h : AHeap) (mask : Nat) : List (Nat × Oper) → Bool
  | [] => true
  | p :: r => (mask.testBit p.1 || checkOne E ops n t h p.2) && recheck E ops n t h mask r

/-- The next operation of a region is done: its slot has v. -/
def finishE (fr : AFrame) (v : Value) : Option AFrame :=
  match fr.todo with
  | .inRegion ops (o :: rest) :: k => (setDst fr.n fr.tmps o.dst v).bind fun t => some { fr with tmps := t, todo := .inRegion ops rest :: k }
  | .draw ops (p :: left) done mask :: k => (setDst fr.n fr.tmps p.2.dst v).bind fun t =>
    some { fr with tmps := t, todo := .draw ops left (p :: done) (mask ||| (masks ops.toList).getD p.1 0 ||| 2 ^ p.1) :: k }
  | .inRangeFunc l :: k => some { fr with todo := .endRangeFunc l :: k }
  | .beginRound :: k => some { fr with todo := k }
  | _ => none

def exitE (id : Nat) : List AItem → Option (List AItem)
  | .inBlock id' :: k => bif Nat.beq id' id then some k else exitE id k
  | _ :: k => exitE id k
  | [] => none

def resultE (E : Env) (fr : AFrame) (h : AHeap) : ResultVar → Option Value
  | .tmp t => evT E fr.n fr.tmps (.tmp t)
  | .cell a t => (evT E fr.n fr.tmps (.tmp a)).bind fun v => match v with
    | .pointer (some a) => match a.spot with
      | none => loadE E h t a.block a.off
      | some _ => none
    | _ => none
def resultsL (E : Env) (fr : AFrame) (h : AHeap) : List ResultVar → Option (List Value)
  | [] => some []
  | r :: rs => (resultE E fr h r).bind fun v => (resultsL E fr h rs).bind fun vs => some (v :: vs)
def resultsE (E : Env) (fn : Func) (fr : AFrame) (h : AHeap) : Option Value :=
  (resultsL E fr h fn.results.toList).bind fun vs => match vs with
  | [v] => some v
  | vs => some (.tuple vs.toArray)

inductive AOut where
  | next (s : AState)
  | fork (l : List AState)
  | done (v : Value) (h : AHeap)

def backE (E : Env) (fr : AFrame) (cs : List AFrame) (v : Value) (h : AHeap) : Option AOut :=
  match cs with
  | [] => bif fr.deferred || fr.round.isSome then none else some (.done v h)
  | c :: cs => bif fr.deferred then some (.next ⟨c, cs, h⟩) else (finishE c v).bind fun c => some (.next ⟨c, cs, h⟩)

def leaveE (E : Env) (fr : AFrame) (cs : List AFrame) (h : AHeap) (jump : Option Code) : Option AOut :=
  match fr.round with
  | none => match jump with
    | none => some (.next ⟨{ fr with ret := true }, cs, h⟩)
    | some .ret => some (.next ⟨{ fr with ret := true }, cs, h⟩)
    | _ => none
  | some l => (getLoopE h l).bind fun r =>
    (h.put l (.loop { r with state := if jump.isNone then .ready else .done, pending := jump })).bind fun h => backE E fr cs (.bool jump.isNone) h

/-- What an operation leaves behind. -/
def nextE (E : Env) (fr : AFrame) (cs : List AFrame) (nx : ANext) (h : AHeap) : Option AOut :=
  match nx with
  | .value v => (finishE fr v).bind fun fr => some (.next ⟨fr, cs, h⟩)
  | .enter f args => match (E.sum f).bind fun s => s args h with
    | some p => (finishE fr p.1).bind fun fr => some (.next ⟨fr, cs, p.2⟩)
    | none => (enterE E f args false).bind fun fr' => some (.next ⟨fr', fr :: cs, h⟩)
  | .round l f n tmps assign body =>
    some (.next ⟨{ fn := f, n, tmps, todo := [.code assign, .beginRound, .code body], defers := [], ret := false, deferred := false, round := some l }, fr :: cs, h⟩)
  | .defer d => match fr.round with
    | none => (finishE { fr with defers := d :: fr.defers } undef).bind fun fr => some (.next ⟨fr, cs, h⟩)
    | some _ => none
  | .recover => bif fr.deferred && fr.round.isNone then match cs with
      | c :: _ => bif c.ret then (finishE fr .nilIface).bind fun fr => some (.next ⟨fr, cs, h⟩) else none
      | [] => none
    else none

/-- Each entry that is left may be the next one: it, and the others. -/
def picks : List (Value × Value) → List (Value × Value) → List ((Value × Value) × List (Value × Value))
  | _, [] => []
  | pre, p :: r => (p, pre ++ r) :: picks (pre ++ [p]) r

def forkE (E : Env) (fr : AFrame) (cs : List AFrame) (h : AHeap) (a : Nat) (b : Nat) : List ((Value × Value) × List (Value × Value)) → Option (List AState)
  | [] => some []
  | x :: r => (h.put a (.iter (some b) x.2 (some x.1))).bind fun h' => (finishE fr (.tuple #[.bool true, x.1.1, x.1.2])).bind fun fr' =>
    (forkE E fr cs h a b r).bind fun l => some (⟨fr', cs, h'⟩ :: l)

/-- The next entry of a map, in any order. -/
def rangeE (E : Env) (fr : AFrame) (cs : List AFrame) (h : AHeap) (v : Value) : Option AOut :=
  match v with
  | .pointer (some a) => match a.spot, a.off, h.t.get a.block with
    | none, 0, .iter none _ _ => (finishE fr (.tuple #[.bool false])).bind fun fr => some (.next ⟨fr, cs, h⟩)
    | none, 0, .iter (some b) left _ => match left with
      | [] => (h.put a.block .none).bind fun h => let h := { h with busy := h.busy.filter fun p => !Nat.beq p.2 a.block }
        (finishE fr (.tuple #[.bool false])).bind fun fr => some (.next ⟨fr, cs, h⟩)
      | [x] => (h.put a.block (.iter (some b) [] (some x))).bind fun h => (finishE fr (.tuple #[.bool true, x.1, x.2])).bind fun fr => some (.next ⟨fr, cs, h⟩)
      | left => (forkE E fr cs h a.block b (picks [] left)).bind fun l => some (.fork l)
    | _, _, _ => none
  | _ => none

def astep (E : Env) (s : AState) : Option AOut :=
  match s.fr.ret with
  | true =>
    match s.fr.defers with
    | d :: ds => match d.target with
      | .collected b => match s.h.t.get b with
        | .deferred (some l) => (s.h.put b (.deferred none)).bind fun h => some (.next ⟨{ s.fr with defers := l ++ ds }, s.cs, h⟩)
        | _ => none
      | t => (invokeE E t d.args.toList s.h).bind fun nx => match nx with
        | .enter f args => (enterE E f args true).bind fun fr' => some (.next ⟨fr', { s.fr with defers := ds } :: s.cs, s.h⟩)
        | _ => none
    | [] => (E.P.funcs[s.fr.fn]?).bind fun fn => (resultsE E fn s.fr s.h).bind fun v => backE E s.fr s.cs v s.h
  | false =>
    match s.fr.todo with
    | [] => leaveE E s.fr s.cs s.h none
    | .code c :: k => match c with
      | .ret => leaveE E s.fr s.cs s.h (some .ret)
      | .skip => to k
      | .seq a b => to (.code a :: .code b :: k)
      | .cond c a b => (evT E s.fr.n s.fr.tmps c).bind fun v => match v with
        | .bool true => to (.code a :: k)
        | .bool false => to (.code b :: k)
        | _ => none
      | .block id c => to (.code c :: .inBlock id :: k)
      | .loop c => to (.code c :: .inLoop c :: k)
      | .scope c => to (.code c :: .inScope c :: k)
      | .exit id => match exitE id k with
        | some k => to k
        | none => leaveE E s.fr s.cs s.h (some (.exit id))
      | .region _ ops draw => match draw with
        | false => to (.inRegion ops ops.toList :: k)
        | true => bif regionOk ops then to (.draw ops (numbered ops.toList 0) [] 0 :: k) else none
      | .rangeFunc f params assign body =>
        let made : Option (Nat × List Deferred × AHeap) := match s.fr.round with
          | some l => (getLoopE s.h l).bind fun r => some (r.defers, [], s.h)
          | none => (s.h.alloc (.deferred (some []))).bind fun q => some (q.1, [{ target := .collected q.1, args := #[] }], q.2)
        made.bind fun m =>
        (m.2.2.alloc (.loop { state := .ready, pending := none, fn := s.fr.fn, n := s.fr.n, tmps := s.fr.tmps, params := params.toList, assign, body, defers := m.1 })).bind fun q =>
        (evT E s.fr.n s.fr.tmps f).bind fun v => match v with
          | .func fn first captured => (invokeE E (.fn fn captured) (first.toList ++ [.func (.yield q.1) #[] #[]]) q.2).bind fun nx => match nx with
            | .enter f args => (enterE E f args false).bind fun fr' =>
              some (.next ⟨fr', { s.fr with todo := .inRangeFunc q.1 :: k, defers := m.2.1 ++ s.fr.defers } :: s.cs, q.2⟩)
            | _ => none
          | _ => none
      | _ => none
    | .inBlock _ :: k => to k
    | .inScope _ :: k => to k
    | .inLoop c :: k => to (.code c :: .inLoop c :: k)
    | .inRegion _ [] :: k => to k
    | .inRegion ops (o :: _) :: _ => (wantedE ops s.fr.n s.fr.tmps o).bind fun w =>
      bif w then match o.op with
        | .next it false => (evT E s.fr.n s.fr.tmps it).bind fun v => rangeE E s.fr s.cs s.h v
        | op => (aop E (evT E s.fr.n s.fr.tmps) s.h op).bind fun p => nextE E s.fr s.cs p.1 p.2
      else (finishE s.fr undef).bind fun fr => some (.next ⟨fr, s.cs, s.h⟩)
    | .draw ops left done mask :: k => (eager E ops s.fr.n left [] done s.fr.tmps s.h).bind fun g =>
      bif recheck E ops s.fr.n g.t g.h mask g.done then match g.left with
      | [] => some (.next ⟨{ s.fr with tmps := g.t, todo := k }, s.cs, g.h⟩)
      | p :: l => (wantedE ops s.fr.n g.t p.2).bind fun wd => bif wd then (hop E (evR E s.fr.n g.t p.2) g.h p.2.op).bind fun q =>
        nextE E { s.fr with tmps := g.t, todo := .draw ops (p :: l) g.done mask :: k } s.cs q.1 q.2
        else none
      else none
    | .beginRound :: _ => match s.fr.round with
      | some l => (getLoopE s.h l).bind fun r => match r.state with
        | .ready => (finishE s.fr undef).bind fun fr => (s.h.put l (.loop { r with state := .busy })).bind fun h => some (.next ⟨fr, s.cs, h⟩)
        | _ => none
      | none => none
    | .endRangeFunc l :: k => (getLoopE s.h l).bind fun r => match r.state with
      | .busy => none
      | _ => (s.h.put l (.loop { r with state := .exhausted })).bind fun h => some (.next ⟨{ s.fr with todo := (r.pending.map AItem.code).toList ++ k }, s.cs, h⟩)
    | .inRangeFunc _ :: _ => none
  where
  to (todo : List AItem) : Option AOut := some (.next ⟨{ s.fr with todo }, s.cs, s.h⟩)

def arun (E : Env) : Nat → AState → Option AOut
  | 0, s => some (.next s)
  | n + 1, s => match astep E s with
    | some (.next s) => arun E n s
    | _ => none

/-- What all branches come to. -/
def allOf {α : Type} (f : AState → Option (List α)) : List AState → Option (List α)
  | [] => some []
  | s :: r => (f s).bind fun a => (allOf f r).bind fun b => some (a ++ b)
def explore (E : Env) : Nat → AState → Option (List (Value × AHeap))
  | 0, _ => none
  | n + 1, s => (astep E s).bind fun o => match o with
    | .next s => explore E n s
    | .fork l => allOf (explore E n) l
    | .done v h => some [(v, h)]

/-- Each of these entries stands there too. -/
def subMapE (l m : List (Value × Value)) : Bool := l.all fun p => match findE p.1 m with
    | some (some v) => eqOne p.2 v
    | _ => false
/-- No key stands twice. -/
def onceE : List (Value × Value) → Bool
  | [] => true
  | p :: r => (match findE p.1 r with
    | some none => true
    | _ => false) && onceE r
/-- The same entries, in whatever order. -/
def sameMapE (l m : List (Value × Value)) : Bool := Nat.beq l.length m.length && subMapE l m && subMapE m l && onceE l

def isNoneE : AObj → Bool
  | .none => true
  | _ => false
/-- Nothing stands in these blocks. -/
def noneFrom (t : Tr AObj) : Nat → Nat → Bool
  | 0, _ => true
  | k + 1, b => isNoneE (t.get b) && noneFrom t k (b + 1)

def mapThere (l : List (Value × Value)) (b : Nat) (q : Value × AHeap) : Bool := match q.2.t.get b with
  | .map m => sameMapE l m
  | _ => false
def rowThere (c : List Value) (k : AKind) (b : Nat) (q : Value × AHeap) : Bool := match q.2.t.get b with
  | .cells d j => decide (k = j) && eqAtoms c d
  | _ => false

/-- What all ends of a call come to, if they are alike: its value, and what new block it left. -/
def joined (h : AHeap) (outs : List (Value × AHeap)) : Option (Value × AHeap) := match outs with
  | [] => none
  | (v, h') :: r =>
    bif !((r.all fun q => eqOne v q.1 && Nat.beq h'.next q.2.next) && noneFrom h.t (h'.next - h.next) h.next) then none else match v with
    | .map (some b) => bif Nat.ble h.next b then match h'.t.get b with
      | .map l => bif r.all (mapThere l b) then some (v, { h with t := h.t.set b (.map l), next := h'.next }) else none
      | _ => none
      else none
    | .slice (some a) _ _ => bif Nat.ble h.next a.block && a.spot.isNone then match h'.t.get a.block with
      | .cells c k => bif r.all (rowThere c k a.block) then some (v, { h with t := h.t.set a.block (.cells c k), next := h'.next }) else none
      | _ => none
      else none
    | .slice none 0 0 => some (v, { h with next := h'.next })
    | _ => none

/-- A call that ranges over a map: what it gives back is the same in all orders. -/
def joinE (E : Env) (f : FuncId) (args : List Value) (h : AHeap) : Option (Value × AHeap) :=
  (enterE E f args false).bind fun fr => (explore E 5000 ⟨fr, [], { h with floor := h.next }⟩).bind (joined h)

end Go.Ab
