/-
  The summaries of some calls, as plain functions. No statement of the seat is proved here. Conditions: none.
-/
import Derived.Test.YtmpiakibllgdeaaGreatDoorBo
set_option linter.unusedVariables false
namespace Go.Ab

/-- The bytes of a row. -/
def natsOf : List Value → Option (List Nat)
  | [] => some []
  | .int .u8 (.ofNat n) :: r => bif Nat.blt n 256 then (natsOf r).bind fun l => some (n :: l) else none
  | _ :: _ => none

def halfN : List Nat := [0x00000000, 0x1DB71064, 0x3B6E20C8, 0x26D930AC, 0x76DC4190, 0x6B6B51F4, 0x4DB26158, 0x5005713C, 0xEDB88320, 0xF00F9344, 0xD6D6A3E8, 0xCB61B38C, 0x9B64C2B0, 0x86D3D2D4, 0xA00AE278, 0xBDBDF21C]
def halfCells : List Value := halfN.map fun n => .int .u32 (.ofNat n)
def nibN (x : Nat) : Nat := Nat.xor (x / 16) (halfN.getD (x % 16) 0)
def crcN : List Nat → Nat → Nat
  | [], x => x
  | b :: r, x => crcN r (nibN (nibN (Nat.xor x b)))

/-- crc.More, from nothing on. -/
def crcE (args : List Value) (h : AHeap) : Option (Value × AHeap) := match args with
  | [.int .u32 (.ofNat 0), .slice (some a) len cap] => match a.spot, h.t.get 1 with
    | none, .cells tb .ro => bif eqAtoms tb halfCells && Nat.ble len 1000000 then
        (getCells h a.block).bind fun c => (cut c.1 a.off len).bind fun l => (natsOf l).bind fun bs => some (.int .u32 (.ofNat (Nat.xor (crcN bs 4294967295) 4294967295)), h)
      else none
    | _, _ => none
  | _ => none

def zeroCell : Value → Bool
  | .int .u8 (.ofNat 0) => true
  | _ => false
/-- slices.ContainsFunc of noughts: is any not nought? -/
def zerosE (args : List Value) (h : AHeap) : Option (Value × AHeap) := match args with
  | [.slice (some a) len cap, .func (.func 334) x y] => match a.spot with
    | none => bif x.toList.isEmpty && y.toList.isEmpty && Nat.ble len 1000 then (getCells h a.block).bind fun c => (cut c.1 a.off len).bind fun l => bif l.all zeroCell then some (.bool false, h) else none
      else none
    | some _ => none
  | _ => none

def lowCell (n : Nat) : Value → Bool
  | .int .i64 (.ofNat m) => Nat.blt m n
  | _ => false
/-- file.work's within: all of these are blocks. -/
def withinE (args : List Value) (h : AHeap) : Option (Value × AHeap) := match args with
  | [.pointer (some p), .slice (some a) len cap] => match a.spot, p.spot with
    | none, none => bif Nat.ble len 1000 then (getCells h p.block).bind fun q => (getCells h a.block).bind fun c => (cut c.1 a.off len).bind fun l => match (q.1.drop (p.off + 1)).head? with
      | some (.int .i64 (.ofNat n)) => bif l.all (lowCell n) then some (.tuple #[], h) else none
      | _ => none
      else none
    | _, _ => none
  | _ => none

/-- tag.Decode of a sector that was never written. -/
def blank : Memo := ⟨254, List.replicate 512 (.int .u8 0), [], .tuple #[.agg #[.int .u32 0, .int .u64 0, .int .u64 0, .int .u64 0, .int .i64 0, .int .i64 0, .int .i64 0], .slice none 0 0, .int .i64 4]⟩

/-- The place of a byte in a text. -/
def placeN (c : Nat) : List UInt8 → Nat → Option Nat
  | [], _ => none
  | b :: r, i => bif Nat.beq b.toNat c then some i else placeN c r (i + 1)
def indexB : List Value → Option Value
  | [.string s, .int .u8 (.ofNat c)] => bif Nat.blt c 256 then some (.int .i64 (match placeN c s.data.toList 0 with | some i => .ofNat i | none => .negSucc 0)) else none
  | _ => none
def exts (f : FuncId) : Option (List Value → Option Value) := bif Nat.beq f 265 then some noEscapeE else bif Nat.beq f 376 then some indexB else none
def sums (f : FuncId) : Option (List Value → AHeap → Option (Value × AHeap)) :=
  bif Nat.beq f 254 then some (memoE blank) else bif Nat.beq f 199 then some crcE else bif Nat.beq f 333 then some zerosE else bif Nat.beq f 285 then some withinE else none
def env1 (P : Program) : Env := { P, globals := 5, sum := sums, ext := exts }
end Go.Ab
