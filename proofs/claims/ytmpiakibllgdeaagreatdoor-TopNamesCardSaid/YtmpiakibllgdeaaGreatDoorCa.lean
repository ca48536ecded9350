/-
  The small machine's step, made for the kernel. No statement of the seat is proved here. Conditions: none.
-/
import Derived.Test.YtmpiakibllgdeaaGreatDoorProg
import Derived.Test.YtmpiakibllgdeaaGreatDoorBp
set_option linter.unusedVariables false
namespace Go.Ab
open Go.Proofs

noncomputable def EE : Env := env1 Tryz.prog

/-! ### Trees -/
section
variable {α : Type}
noncomputable def g8 (x : N8 α) (k : D8) : α := N8.rec (motive := fun _ => D8 → α) (fun a b c d e f g h k => D8.rec (motive := fun _ => α) a b c d e f g h k) x k
noncomputable def s80 (x : N8 α) (v : α) : N8 α := N8.rec (motive := fun _ => N8 α) (fun a b c d e f g h => ⟨v, b, c, d, e, f, g, h⟩) x
noncomputable def s81 (x : N8 α) (v : α) : N8 α := N8.rec (motive := fun _ => N8 α) (fun a b c d e f g h => ⟨a, v, c, d, e, f, g, h⟩) x
noncomputable def s82 (x : N8 α) (v : α) : N8 α := N8.rec (motive := fun _ => N8 α) (fun a b c d e f g h => ⟨a, b, v, d, e, f, g, h⟩) x
noncomputable def s83 (x : N8 α) (v : α) : N8 α := N8.rec (motive := fun _ => N8 α) (fun a b c d e f g h => ⟨a, b, c, v, e, f, g, h⟩) x
noncomputable def s84 (x : N8 α) (v : α) : N8 α := N8.rec (motive := fun _ => N8 α) (fun a b c d e f g h => ⟨a, b, c, d, v, f, g, h⟩) x
noncomputable def s85 (x : N8 α) (v : α) : N8 α := N8.rec (motive := fun _ => N8 α) (fun a b c d e f g h => ⟨a, b, c, d, e, v, g, h⟩) x
noncomputable def s86 (x : N8 α) (v : α) : N8 α := N8.rec (motive := fun _ => N8 α) (fun a b c d e f g h => ⟨a, b, c, d, e, f, v, h⟩) x
noncomputable def s87 (x : N8 α) (v : α) : N8 α := N8.rec (motive := fun _ => N8 α) (fun a b c d e f g h => ⟨a, b, c, d, e, f, g, v⟩) x
noncomputable def s8 (x : N8 α) (k : D8) (v : α) : N8 α := D8.rec (motive := fun _ => N8 α → α → N8 α) s80 s81 s82 s83 s84 s85 s86 s87 k x v
noncomputable def sk2 (x : N8 (N8 α)) (i j : D8) (v : α) : N8 (N8 α) := s8 x i (s8 (g8 x i) j v)
noncomputable def sk3 (x : N8 (N8 (N8 α))) (i j k : D8) (v : α) : N8 (N8 (N8 α)) := s8 x i (sk2 (g8 x i) j k v)
noncomputable def sk4 (x : N8 (N8 (N8 (N8 α)))) (i j k l : D8) (v : α) : N8 (N8 (N8 (N8 α))) := s8 x i (sk3 (g8 x i) j k l v)
noncomputable def sk5 (x : N8 (N8 (N8 (N8 (N8 α))))) (i j k l m : D8) (v : α) : N8 (N8 (N8 (N8 (N8 α)))) := s8 x i (sk4 (g8 x i) j k l m v)
noncomputable def getK (t : Tr α) (n : Nat) : α :=
  Tr.rec (motive := fun _ => Nat → α) (fun x n => g8 (g8 x (dig (Nat.mod n 8))) (dig (Nat.div n 8))) (fun x n => g8 (g8 (g8 x (dig (Nat.mod n 8))) (dig (Nat.mod (Nat.div n 8) 8))) (dig (Nat.div n 64)))
    (fun x n => g8 (g8 (g8 (g8 (g8 x (dig (Nat.mod n 8))) (dig (Nat.mod (Nat.div n 8) 8))) (dig (Nat.mod (Nat.div n 64) 8))) (dig (Nat.mod (Nat.div n 512) 8))) (dig (Nat.div n 4096))) (fun x n => x.get n) t n
noncomputable def setK (t : Tr α) (n : Nat) (v : α) : Tr α :=
  Tr.rec (motive := fun _ => Nat → α → Tr α) (fun x n v => .two (sk2 x (dig (Nat.mod n 8)) (dig (Nat.div n 8)) v)) (fun x n v => .three (sk3 x (dig (Nat.mod n 8)) (dig (Nat.mod (Nat.div n 8) 8)) (dig (Nat.div n 64)) v))
    (fun x n v => .five (sk5 x (dig (Nat.mod n 8)) (dig (Nat.mod (Nat.div n 8) 8)) (dig (Nat.mod (Nat.div n 64) 8)) (dig (Nat.mod (Nat.div n 512) 8)) (dig (Nat.div n 4096)) v)) (fun x n v => .big (x.set n v)) t n v

theorem g8_dig (x : N8 α) (k : Nat) : g8 x (dig k) = x.get k := by
  obtain ⟨a, b, c, d, e, f, g, h⟩ := x
  simp only [N8.get]
  cases dig k <;> rfl
theorem s8_dig (x : N8 α) (k : Nat) (v : α) : s8 x (dig k) v = x.set k v := by
  obtain ⟨a, b, c, d, e, f, g, h⟩ := x
  simp only [N8.set]
  cases dig k <;> rfl
theorem sk2_dig (x : N8 (N8 α)) (i j : Nat) (v : α) : sk2 x (dig i) (dig j) v = Tr.set2 x i j v := by
  unfold sk2 Tr.set2; rw [s8_dig, s8_dig, g8_dig]
theorem sk3_dig (x : N8 (N8 (N8 α))) (i j k : Nat) (v : α) : sk3 x (dig i) (dig j) (dig k) v = Tr.set3 x i j k v := by
  unfold sk3 Tr.set3; rw [s8_dig, sk2_dig, g8_dig]
theorem sk4_dig (x : N8 (N8 (N8 (N8 α)))) (i j k l : Nat) (v : α) : sk4 x (dig i) (dig j) (dig k) (dig l) v = Tr.set4 x i j k l v := by
  unfold sk4 Tr.set4; rw [s8_dig, sk3_dig, g8_dig]
theorem sk5_dig (x : N8 (N8 (N8 (N8 (N8 α))))) (i j k l m : Nat) (v : α) : sk5 x (dig i) (dig j) (dig k) (dig l) (dig m) v = Tr.set5 x i j k l m v := by
  unfold sk5 Tr.set5; rw [s8_dig, sk4_dig, g8_dig]
theorem getK_eq (t : Tr α) (n : Nat) : getK t n = t.get n := by
  cases t with
  | two x => exact (g8_dig _ _).trans (congrArg (fun z => N8.get z _) (g8_dig _ _))
  | three x => show g8 (g8 (g8 x (dig _)) (dig _)) (dig _) = _; simp only [g8_dig]; rfl
  | five x => show g8 (g8 (g8 (g8 (g8 x (dig _)) (dig _)) (dig _)) (dig _)) (dig _) = _; simp only [g8_dig]; rfl
  | big x => rfl
theorem setK_eq (t : Tr α) (n : Nat) (v : α) : setK t n v = t.set n v := by
  cases t with
  | two x => exact congrArg Tr.two (sk2_dig _ _ _ _)
  | three x => exact congrArg Tr.three (sk3_dig _ _ _ _ _)
  | five x => exact congrArg Tr.five (sk5_dig _ _ _ _ _ _ _)
  | big x => rfl
end

/-! ### The machine's registers -/
structure AFix where
  fn : FuncId
  n : Nat
  defers : List Deferred
  deferred : Bool
  round : Option Nat

abbrev R := Option AOut
/-- Does the frame on top run, does it leave, or does it call what is done in all orders? -/
inductive Mode where
  | run
  | leave
  | join (g : FuncId) (args : List Value)
/-- What goes on behind a step: the mode, the temporaries, what is to be done, the rest of it, the frames below, the heap. -/
abbrev Kon := Mode → Tr Value → List AItem → AFix → List AFrame → AHeap → R
abbrev MQ := Kon → Tr Value → AFix → List AFrame → AHeap → R

def mkS (ret : Bool) (t : Tr Value) (todo : List AItem) (F : AFix) (cs : List AFrame) (h : AHeap) : AState := ⟨⟨F.fn, F.n, t, todo, F.defers, ret, F.deferred, F.round⟩, cs, h⟩
/-- A number, evaluated. -/
noncomputable def normN (x : Nat) (f : Nat → R) : R := Nat.rec (motive := fun _ => R) (f 0) (fun m _ => f (Nat.succ m)) x
noncomputable def normB (x : Bool) (f : Bool → R) : R := Bool.rec (motive := fun _ => R) (f false) (f true) x
/-- A heap, its floor evaluated. -/
noncomputable def normH (h : AHeap) (f : AHeap → R) : R := AHeap.rec (motive := fun _ => R) (fun t next floor busy => normN floor fun floor =>
  List.rec (motive := fun _ => R) (f ⟨t, next, floor, []⟩) (fun b r _ => f ⟨t, next, floor, b :: r⟩) busy) h
noncomputable def modeOf (ret : Bool) : Mode := Bool.rec (motive := fun _ => Mode) .run .leave ret
noncomputable def frK (K : Kon) (fr : AFrame) (cs : List AFrame) (h : AHeap) : R :=
  AFrame.rec (motive := fun _ => Kon → List AFrame → AHeap → R) (fun fn n tmps todo defers ret deferred round K cs h => normN fn fun fn => normN n fun n => normB deferred fun deferred => normH h fun h => K (modeOf ret) tmps todo ⟨fn, n, defers, deferred, round⟩ cs h) fr K cs h
noncomputable def goK (K : Kon) (s : AState) : R := AState.rec (motive := fun _ => Kon → R) (fun fr cs h K => frK K fr cs h) s K
noncomputable def outK (K : Kon) (o : R) : R :=
  Option.rec (motive := fun _ => Kon → R) (fun _ => none) (fun o K => AOut.rec (motive := fun _ => Kon → R) (fun s K => goK K s) (fun l _ => some (.fork l)) (fun v h _ => some (.done v h)) o K) o K
noncomputable def slow (K : Kon) (ret : Bool) (t : Tr Value) (todo : List AItem) (F : AFix) (cs : List AFrame) (h : AHeap) : R := outK K (astep EE (mkS ret t todo F cs h))

/-! ### Operands -/
noncomputable def evTmp (i n : Nat) (t : Tr Value) (k : Value → R) : R := Bool.rec (motive := fun _ => R) none (k (getK t i)) (Nat.ble (Nat.succ i) n)
noncomputable def evConst (v : Value) (n : Nat) (t : Tr Value) (k : Value → R) : R := Bool.rec (motive := fun _ => R) none (k v) (constOk v)
noncomputable def evGlob (g n : Nat) (t : Tr Value) (k : Value → R) : R := Bool.rec (motive := fun _ => R) none (k (.pointer (some ⟨g, 0, none⟩))) (Nat.ble (Nat.succ g) 5)
noncomputable def evFunc (f n : Nat) (t : Tr Value) (k : Value → R) : R := k (.func (.func f) #[] #[])
noncomputable def evF (x : Operand) : Nat → Tr Value → (Value → R) → R := Operand.rec (motive := fun _ => Nat → Tr Value → (Value → R) → R) evTmp evConst evGlob evFunc x
noncomputable def dstNone (v : Value) (n : Nat) (t : Tr Value) (k : Tr Value → R) : R := k t
noncomputable def dstSome (d : Tmp) (v : Value) (n : Nat) (t : Tr Value) (k : Tr Value → R) : R := Bool.rec (motive := fun _ => R) none (k (setK t d v)) (Nat.ble (Nat.succ d) n)
noncomputable def dstF (d : Option Tmp) : Value → Nat → Tr Value → (Tr Value → R) → R := Option.rec (motive := fun _ => Value → Nat → Tr Value → (Tr Value → R) → R) dstNone dstSome d

/-! ### Numbers -/
def lim : IntKind → Nat
  | .i8 => 128
  | .i16 => 32768
  | .i32 => 2147483648
  | .i64 => 9223372036854775808
  | .u8 => 256
  | .u16 => 65536
  | .u32 => 4294967296
  | .u64 => 18446744073709551616
noncomputable def wrapK (k : IntKind) (x : Int) : Int := Int.rec (motive := fun _ => Int) (fun m => Bool.rec (motive := fun _ => Int) (k.wrap (.ofNat m)) (.ofNat m) (Nat.ble (Nat.succ m) (lim k))) (fun m => k.wrap (.negSucc m)) x
noncomputable def kNat (k : IntKind) : Nat := IntKind.rec (motive := fun _ => Nat) 0 1 2 3 4 5 6 7 k
noncomputable def b2 (op : Nat → Nat → Nat) (k : IntKind) (a b : Int) (f : Value → R) (sl : R) : R :=
  Int.rec (motive := fun _ => R) (fun m => Int.rec (motive := fun _ => R) (fun n => f (.int k (wrapK k (.ofNat (op m n))))) (fun _ => sl) b) (fun _ => sl) a
noncomputable def c2 (op : Nat → Nat → Bool) (k : IntKind) (a b : Int) (f : Value → R) (sl : R) : R :=
  Int.rec (motive := fun _ => R) (fun m => Int.rec (motive := fun _ => R) (fun n => f (.bool (op m n))) (fun _ => sl) b) (fun _ => sl) a
noncomputable def subF (k : IntKind) (a b : Int) (f : Value → R) (sl : R) : R :=
  Int.rec (motive := fun _ => R) (fun m => Int.rec (motive := fun _ => R) (fun n => Bool.rec (motive := fun _ => R) sl (f (.int k (wrapK k (.ofNat (Nat.sub m n))))) (Nat.ble n m)) (fun _ => sl) b) (fun _ => sl) a
noncomputable def divF (op : Nat → Nat → Nat) (k : IntKind) (a b : Int) (f : Value → R) (sl : R) : R :=
  Int.rec (motive := fun _ => R) (fun m => Int.rec (motive := fun _ => R) (fun n => Bool.rec (motive := fun _ => R) sl (f (.int k (wrapK k (.ofNat (op m n))))) (Nat.ble 1 n)) (fun _ => sl) b) (fun _ => sl) a
noncomputable def ltN (m n : Nat) : Bool := Nat.ble (Nat.succ m) n
noncomputable def gtN (m n : Nat) : Bool := Nat.ble (Nat.succ n) m
noncomputable def geN (m n : Nat) : Bool := Nat.ble n m
noncomputable def notB (b : Bool) : Bool := Bool.rec (motive := fun _ => Bool) true false b
noncomputable def neN (m n : Nat) : Bool := notB (Nat.beq m n)
abbrev MI := IntKind → Int → Int → (Value → R) → R → R
noncomputable def slowI : MI := fun _ _ _ _ sl => sl
abbrev MJ := IntKind → IntKind → Int → Int → (Value → R) → R → R
noncomputable def sameK (k k' : IntKind) : Bool := Nat.beq (kNat k) (kNat k')
noncomputable def iArith (op : Nat → Nat → Nat) : MJ := fun k k' a b f sl => Bool.rec (motive := fun _ => R) sl (b2 op k a b f sl) (sameK k k')
noncomputable def iComp (op : Nat → Nat → Bool) : MJ := fun k k' a b f sl => Bool.rec (motive := fun _ => R) sl (c2 op k a b f sl) (sameK k k')
noncomputable def iSub : MJ := fun k k' a b f sl => Bool.rec (motive := fun _ => R) sl (subF k a b f sl) (sameK k k')
noncomputable def iQuo : MJ := fun k k' a b f sl => Bool.rec (motive := fun _ => R) sl (divF Nat.div k a b f sl) (sameK k k')
noncomputable def iRem : MJ := fun k k' a b f sl => Bool.rec (motive := fun _ => R) sl
  (Int.rec (motive := fun _ => R) (fun m => Int.rec (motive := fun _ => R) (fun n => Bool.rec (motive := fun _ => R) sl (f (.int k (.ofNat (Nat.mod m n)))) (Nat.ble 1 n)) (fun _ => sl) b) (fun _ => sl) a) (sameK k k')
noncomputable def iBits (op : Nat → Nat → Nat) : MJ := fun k k' a b f sl => Bool.rec (motive := fun _ => R) sl
  (Int.rec (motive := fun _ => R) (fun m => Int.rec (motive := fun _ => R) (fun n =>
    Bool.rec (motive := fun _ => R) sl (Bool.rec (motive := fun _ => R) sl (f (.int k (wrapK k (.ofNat (op m n))))) (Nat.ble (Nat.succ n) (lim k))) (Nat.ble (Nat.succ m) (lim k))) (fun _ => sl) b) (fun _ => sl) a) (sameK k k')
noncomputable def minN (a b : Nat) : Nat := Bool.rec (motive := fun _ => Nat) b a (Nat.ble a b)
noncomputable def iShl : MJ := fun k k' a b f sl =>
  Int.rec (motive := fun _ => R) (fun m => Int.rec (motive := fun _ => R) (fun n => f (.int k (wrapK k (.ofNat (Nat.mul m (Nat.pow 2 (minN n k.bits))))))) (fun _ => sl) b) (fun _ => sl) a
noncomputable def iShr : MJ := fun k k' a b f sl =>
  Int.rec (motive := fun _ => R) (fun m => Int.rec (motive := fun _ => R) (fun n => f (.int k (.ofNat (Nat.div m (Nat.pow 2 (minN n k.bits)))))) (fun _ => sl) b) (fun _ => sl) a
noncomputable def iSlow : MJ := fun _ _ _ _ _ sl => sl
noncomputable def binI (op : BinOp) : MJ :=
  BinOp.rec (motive := fun _ => MJ) (iArith Nat.add) iSub (iArith Nat.mul) iQuo iRem (iBits Nat.land) (iBits Nat.lor) (iBits Nat.xor) iShl iShr iSlow (iComp Nat.beq) (iComp neN) (iComp ltN) (iComp Nat.ble) (iComp gtN) (iComp geN) op
noncomputable def binV (op : BinOp) (a b : Value) (f : Value → R) (sl : R) : R := match a, b with
  | .int k x, .int k' y => binI op k k' x y f sl
  | _, _ => sl

/-! ### Operations -/
/-- What becomes of an operation's value and heap; the temporaries; the heap; the long road. -/
abbrev MOp := (Value → AHeap → R) → Nat → Tr Value → AHeap → R → R
noncomputable def oSlow : MOp := fun _ _ _ _ sl => sl
noncomputable def oMove (x : Operand) : MOp := fun f n t h _ => evF x n t fun v => f v h
noncomputable def oPick (c a b : Operand) : MOp := fun f n t h sl => evF c n t fun v => match v with
  | .bool c => Bool.rec (motive := fun _ => R) (evF b n t fun v => f v h) (evF a n t fun v => f v h) c
  | _ => sl
noncomputable def oBin (op : BinOp) (xt : TypeId) (x y : Operand) (yt : TypeId) : MOp := fun f n t h sl => evF x n t fun a => evF y n t fun b => binV op a b (fun v => f v h) sl
noncomputable def oNilCheck (x : Operand) : MOp := fun f n t h sl => evF x n t fun v => match v with
  | .pointer (some a) => f (.pointer (some a)) h
  | _ => sl
/-- A type of one cell. -/
noncomputable def oneT (t : TypeId) : Bool := match undE EE t with
  | some d => bif isAggD d then false else (match sizeE EE t with | some n => Nat.beq n 1 | none => false)
  | none => false
noncomputable def nthF (off : Nat) (c : List Value) (f : Value → R) (sl : R) : R :=
  Nat.rec (motive := fun _ => List Value → (Value → R) → R → R) (fun c f sl => List.rec (motive := fun _ => R) sl (fun v _ _ => f v) c) (fun _ ih c f sl => List.rec (motive := fun _ => R) sl (fun _ r _ => ih r f sl) c) off c f sl
/-- How many cells a struct or an array has, if it has any. -/
noncomputable def aggT (t : TypeId) : Option Nat := match undE EE t with
  | some d => bif isAggD d then (match sizeE EE t with | some (n + 1) => some (n + 1) | _ => none) else none
  | none => none
noncomputable def dropF (off : Nat) (c : List Value) (f : List Value → R) (sl : R) : R :=
  Nat.rec (motive := fun _ => List Value → (List Value → R) → R → R) (fun c f _ => f c) (fun _ ih c f sl => List.rec (motive := fun _ => R) sl (fun _ r _ => ih r f sl) c) off c f sl
noncomputable def takeF (n : Nat) (c : List Value) (f : List Value → R) (sl : R) : R :=
  Nat.rec (motive := fun _ => List Value → (List Value → R) → R → R) (fun _ f _ => f []) (fun _ ih c f sl => List.rec (motive := fun _ => R) sl (fun v r _ => ih r (fun l => f (v :: l)) sl) c) n c f sl
noncomputable def loadAgg (b off n : Nat) (h : AHeap) (f : Value → R) (sl : R) : R := match getK h.t b with
  | .cells c _ => dropF off c (fun c => takeF n c (fun l => f (.agg l.toArray)) sl) sl
  | _ => sl
noncomputable def oLoad (ty : TypeId) (x : Operand) : MOp := fun f n t h sl => Bool.rec (motive := fun _ => R) (Option.rec (motive := fun _ => R) sl (fun m => evF x n t fun v => match v with
    | .pointer (some ⟨b, off, none⟩) => loadAgg b off m h (fun v => f v h) sl
    | _ => sl) (aggT ty)) (evF x n t fun v => match v with
  | .pointer (some ⟨b, off, none⟩) => (match getK h.t b with
    | .cells c _ => nthF off c (fun v => f v h) sl
    | _ => sl)
  | _ => sl) (oneT ty)
noncomputable def put1 (off : Nat) (c : List Value) (v : Value) (f : List Value → R) (sl : R) : R :=
  Nat.rec (motive := fun _ => List Value → (List Value → R) → R) (fun c f => List.rec (motive := fun _ => R) sl (fun _ r _ => f (v :: r)) c) (fun _ ih c f => List.rec (motive := fun _ => R) sl (fun u r _ => ih r (fun r => f (u :: r))) c) off c f
noncomputable def isRoK (g : AKind) : Bool := match g with
  | .ro => true
  | _ => false
noncomputable def oStore (ty : TypeId) (x y : Operand) : MOp := fun f n t h sl => Bool.rec (motive := fun _ => R) sl (evF x n t fun v => evF y n t fun u => match v with
  | .pointer (some ⟨b, off, none⟩) => (match u with
    | .agg _ => sl
    | .tuple _ => sl
    | u => (match getK h.t b with
      | .cells c g => Bool.rec (motive := fun _ => R)
        (AHeap.rec (motive := fun _ => R) (fun tr next floor busy => Bool.rec (motive := fun _ => R) (put1 off c u (fun c => f undef ⟨setK tr b (.cells c g), next, floor, busy⟩) sl) sl (Nat.ble (Nat.succ b) floor)) h) sl (isRoK g)
      | _ => sl))
  | _ => sl) (oneT ty)
/-- Where a field of a struct lies. -/
noncomputable def fieldOff (ty : TypeId) (i : Nat) : Option Nat := match undE EE ty with
  | some (.struct fs) => (fs.toList[i]?).bind fun f => (sizeE EE f.type).bind fun n => bif Nat.beq n 0 then none else some f.offset
  | _ => none
noncomputable def oFieldAddr (ty : TypeId) (x : Operand) (i : Nat) : MOp := fun f n t h sl => evF x n t fun v => match v with
  | .pointer (some ⟨b, off, none⟩) => Option.rec (motive := fun _ => R) sl (fun o => f (.pointer (some ⟨b, Nat.add off o, none⟩)) h) (fieldOff ty i)
  | _ => sl
/-- How large an element of a slice is. -/
noncomputable def elemSize (ty : TypeId) : Option Nat := match undE EE ty with
  | some (.slice e) => sizeE EE e
  | _ => none
noncomputable def oIndexAddr (ty : TypeId) (x ix : Operand) : MOp := fun f n t h sl => evF x n t fun v => evF ix n t fun j => match v, j with
  | .slice (some ⟨b, off, none⟩) len _, .int _ (.ofNat i) => Option.rec (motive := fun _ => R) sl
      (fun s => Bool.rec (motive := fun _ => R) sl (f (.pointer (some ⟨b, Nat.add off (Nat.mul i s), none⟩)) h) (Nat.ble (Nat.succ i) len)) (elemSize ty)
  | _, _ => sl
/-- A number's type from a number's type. -/
noncomputable def convKind (s d : TypeId) : Option IntKind := bif Nat.beq s d then none else match undE EE s, undE EE d with
  | some (.int _), some (.int k) => some k
  | _, _ => none
noncomputable def oConvert (s d : TypeId) (x : Operand) : MOp := fun f n t h sl => Option.rec (motive := fun _ => R) sl (fun k => evF x n t fun v => match v with
  | .int _ m => f (.int k (wrapK k m)) h
  | _ => sl) (convKind s d)
noncomputable def oExtract (x : Operand) (i : Nat) : MOp := fun f n t h sl => evF x n t fun v => match v with
  | .tuple vs => nthF i vs.toList (fun v => f v h) sl
  | _ => sl
noncomputable def allocF (e : TypeId) (cells : List Value) (h : AHeap) (f : Value → AHeap → R) : R :=
  AHeap.rec (motive := fun _ => R) (fun tr next floor busy => Bool.rec (motive := fun _ => R) none (f (.pointer (some ⟨next, 0, none⟩)) ⟨setK tr next (.cells cells (.var e)), Nat.succ next, floor, busy⟩) (Nat.ble (Nat.succ next) heapMost)) h
noncomputable def zeroCells (e : TypeId) : Option (List Value) := (zeroE EE e).map fun v => v.cells.toList
noncomputable def oAlloc (e : TypeId) : MOp := fun f n t h sl => Option.rec (motive := fun _ => R) sl (fun c => allocF e c h f) (zeroCells e)
noncomputable def oBox (e : TypeId) (x : Operand) : MOp := fun f n t h sl => evF x n t fun v => allocF e v.cells.toList h f
/-- Is this the type of a slice? -/
noncomputable def isSliceT (ty : TypeId) : Bool := match undE EE ty with
  | some (.slice _) => true
  | _ => false
noncomputable def oCall (c : Call) : MOp := fun f n t h sl => match c with
  | ⟨.builtin .len, args, tys⟩ => (match args.toList, tys.toList with
    | [x], [ty] => Bool.rec (motive := fun _ => R) sl (evF x n t fun v => match v with
      | .slice _ len _ => f (.int .i64 (.ofNat len)) h
      | _ => sl) (isSliceT ty)
    | _, _ => sl)
  | _ => sl
noncomputable def oUn (op : UnOp) (ty : TypeId) (x : Operand) : MOp := fun f n t h sl => match op with
  | .not => evF x n t fun v => (match v with
    | .bool b => f (.bool (notB b)) h
    | _ => sl)
  | _ => sl
noncomputable def opF (op : Op) : MOp := Op.rec (motive := fun _ => MOp)
  oMove oMove oPick oAlloc oBox (fun _ _ => oSlow) (fun _ _ _ => oSlow) (fun _ _ _ _ => oSlow) oLoad oStore (fun _ => oSlow) (fun _ => oSlow) oNilCheck oBin oUn oConvert
  (fun _ _ => oSlow) (fun _ _ => oSlow) (fun _ _ _ => oSlow) (fun _ _ => oSlow) (fun _ _ => oSlow) (fun _ _ _ => oSlow) (fun _ _ _ _ _ => oSlow) oFieldAddr (fun _ _ _ => oSlow) oIndexAddr (fun _ _ _ => oSlow)
  (fun _ _ _ _ => oSlow) (fun _ _ _ _ => oSlow) (fun _ _ _ => oSlow) (fun _ _ _ _ => oSlow) (fun _ _ => oSlow) (fun _ _ => oSlow) (fun _ => oSlow) (fun _ _ _ _ => oSlow) oExtract oCall (fun _ => oSlow) (fun _ => oSlow)
  (fun _ => oSlow) (fun _ _ => oSlow) (fun _ _ _ => oSlow) (fun _ _ => oSlow) op

/-! ### Calls -/
noncomputable def evsF (l : List Operand) : Nat → Tr Value → (List Value → R) → R :=
  List.rec (motive := fun _ => Nat → Tr Value → (List Value → R) → R) (fun _ _ f => f []) (fun x _ ih n t f => evF x n t fun v => ih n t fun vs => f (v :: vs)) l
noncomputable def putArgsK (l : List Value) : Nat → Tr Value → Tr Value :=
  List.rec (motive := fun _ => Nat → Tr Value → Tr Value) (fun _ t => t) (fun v _ ih i t => ih (Nat.succ i) (setK t i v)) l
noncomputable def appK (a b : List Value) : List Value := List.rec (motive := fun _ => List Value) b (fun v _ ih => v :: ih) a
noncomputable def lenK (a : List Value) : Nat := List.rec (motive := fun _ => Nat) 0 (fun v _ ih => Nat.succ ih) a
/-- A function with a body, of which there is no summary: how many temporaries, and the body. -/
noncomputable def fnInfo (g : FuncId) : Option (Nat × Code) := match EE.P.funcs[g]? with
  | some fn => (match fn.body with
    | some b => bif fn.name == "runtime.NumGoroutine" then none else (match EE.sum g with | none => some (fn.ntmps, b) | some _ => none)
    | none => none)
  | none => none
noncomputable def blankT (n : Nat) : Tr Value := Tr.mk (tDepth n) undef
noncomputable def below (t : Tr Value) (todo : List AItem) (F : AFix) (cs : List AFrame) : List AFrame :=
  AFix.rec (motive := fun _ => List AFrame) (fun fn n defers deferred round => ⟨fn, n, t, todo, defers, false, deferred, round⟩ :: cs) F
/-- Is this done in all orders? -/
noncomputable def isJoin (g : FuncId) : Bool := Nat.beq g 213 || Nat.beq g 214 || Nat.beq g 256
noncomputable def enterF (g : FuncId) (args : List Value) (todo : List AItem) (K : Kon) (t : Tr Value) (F : AFix) (cs : List AFrame) (h : AHeap) (sl : R) : R :=
  Option.rec (motive := fun _ => R) sl (fun p => Prod.rec (motive := fun _ => R) (fun n b =>
    Bool.rec (motive := fun _ => R) none (Bool.rec (motive := fun _ => R) (K .run (putArgsK args 0 (blankT n)) [.code b] ⟨g, n, [], false, none⟩ (below t todo F cs) h) (K (.join g args) t todo F cs h) (isJoin g)) (Nat.ble (lenK args) n)) p) (fnInfo g)
noncomputable def callF (c : Call) (todo : List AItem) (K : Kon) (t : Tr Value) (F : AFix) (cs : List AFrame) (h : AHeap) (sl : R) : R := match c with
  | ⟨.value f, args, _⟩ => evsF args.toList F.n t fun xs => evF f F.n t fun v => (match v with
    | .func (.func g) first captured => enterF g (appK (appK first.toList xs) captured.toList) todo K t F cs h sl
    | _ => sl)
  | _ => sl
noncomputable def evTK (n : Nat) (t : Tr Value) (x : Operand) : Option Value :=
  Operand.rec (motive := fun _ => Option Value) (fun i => Bool.rec (motive := fun _ => Option Value) none (some (getK t i)) (Nat.ble (Nat.succ i) n)) (fun v => Bool.rec (motive := fun _ => Option Value) none (some v) (constOk v))
    (fun g => Bool.rec (motive := fun _ => Option Value) none (some (.pointer (some ⟨g, 0, none⟩))) (Nat.ble (Nat.succ g) 5)) (fun f => some (.func (.func f) #[] #[])) x
/-- The long road, for one operation. -/
noncomputable def aopF (op : Op) (f : Value → AHeap → R) (n : Nat) (t : Tr Value) (h : AHeap) (sl : R) : R := match aop EE (evTK n t) h op with
  | some p => Prod.rec (motive := fun _ => R) (fun nx h => match nx with
    | .value v => normH h fun h => f v h
    | _ => sl) p
  | none => none
noncomputable def longF (op : Op) (f : Value → AHeap → R) (todo : List AItem) (K : Kon) (t : Tr Value) (F : AFix) (cs : List AFrame) (h : AHeap) : R := match op with
  | .call c => (match c with
    | ⟨.builtin _, _, _⟩ => aopF (.call c) f F.n t h (slow K false t todo F cs h)
    | c => callF c todo K t F cs h (slow K false t todo F cs h))
  | .next a b => slow K false t todo F cs h
  | .defer c => slow K false t todo F cs h
  | op => aopF op f F.n t h (slow K false t todo F cs h)

/-! ### Regions -/
/-- The slot of an operation. -/
noncomputable def slotOf (ops : Array Oper) (j : Nat) : Option Tmp := (ops.toList[j]?).bind fun g => g.dst
noncomputable def eqB (a b : Bool) : Bool := Bool.rec (motive := fun _ => Bool) (notB b) b a
abbrev MG := Array Oper → List AItem → MQ
noncomputable def plainO (dst : Option Tmp) (op : Op) (o : Oper) (r : List Oper) (ih : MG) (ops : Array Oper) (k : List AItem) (K : Kon) (t : Tr Value) (F : AFix) (cs : List AFrame) (h : AHeap) : R :=
  (fun f => opF op f F.n t h (longF op f (.inRegion ops (o :: r) :: k) K t F cs h)) (fun v h => dstF dst v F.n t fun t => ih ops k K t F cs h)
noncomputable def guardO (dst : Option Tmp) (op : Op) (g : Nat × Bool) (o : Oper) (r : List Oper) (ih : MG) (ops : Array Oper) (k : List AItem) (K : Kon) (t : Tr Value) (F : AFix) (cs : List AFrame) (h : AHeap) : R :=
  Prod.rec (motive := fun _ => R) (fun j want =>
    Option.rec (motive := fun _ => R) none (fun d => Bool.rec (motive := fun _ => R) none (match getK t d with
      | .bool b => Bool.rec (motive := fun _ => R) (dstF dst undef F.n t fun t => ih ops k K t F cs h) (plainO dst op o r ih ops k K t F cs h) (eqB b want)
      | _ => dstF dst undef F.n t fun t => ih ops k K t F cs h) (Nat.ble (Nat.succ d) F.n)) (slotOf ops j)) g
noncomputable def operF (o : Oper) : List Oper → MG → MG :=
  Oper.rec (motive := fun _ => Oper → List Oper → MG → MG) (fun dst op _ _ _ guard => Option.rec (motive := fun _ => Oper → List Oper → MG → MG) (plainO dst op) (guardO dst op) guard) o o
noncomputable def regNil : MG := fun _ k K t F cs h => K .run t k F cs h
noncomputable def regF (rest : List Oper) : MG := List.rec (motive := fun _ => MG) regNil (fun o r ih => operF o r ih) rest
noncomputable def iRegion (ops : Array Oper) (rest : List Oper) (k : List AItem) : MQ := regF rest ops k

/-! ### Regions that draw their order -/
noncomputable def wantedF (o : Oper) (ops : Array Oper) (n : Nat) (t : Tr Value) (yes no : R) : R :=
  Option.rec (motive := fun _ => R) yes (fun g => Prod.rec (motive := fun _ => R) (fun j want =>
    Option.rec (motive := fun _ => R) none (fun d => Bool.rec (motive := fun _ => R) none (match getK t d with
      | .bool b => Bool.rec (motive := fun _ => R) no yes (eqB b want)
      | _ => no) (Nat.ble (Nat.succ d) n)) (slotOf ops j)) g) o.guard
noncomputable def readyK (o : Oper) (kept : List (Nat × Oper)) : Bool := o.after.toList.all fun e => !Region.binds .any e || kept.all fun q => !Nat.beq q.1 e.on
/-- Is it done at once? -/
noncomputable def eagOp (o : Oper) : Option Bool := match o.op, o.dst with
  | .alloc _, some _ => some true
  | .alloc _, none => none
  | op, _ => some (light op)
abbrev ME := List (Nat × Oper) → List (Nat × Oper) → Tr Value → AHeap → R
noncomputable def eagF (ops : Array Oper) (n : Nat) (f : ME) (l : List (Nat × Oper)) : ME :=
  List.rec (motive := fun _ => ME) (fun kept done t h => f kept.reverse done t h) (fun p _ ih kept done t h =>
    Bool.rec (motive := fun _ => R) (ih (p :: kept) done t h)
      (wantedF p.2 ops n t (Option.rec (motive := fun _ => R) none (fun b => Bool.rec (motive := fun _ => R) (ih (p :: kept) done t h)
          ((fun g => opF p.2.op g n t h (aopF p.2.op g n t h none)) (fun v h' => dstF p.2.dst v n t fun t' => ih kept (p :: done) t' h')) b) (eagOp p.2))
        (dstF p.2.dst undef n t fun t' => ih kept (p :: done) t' h)) (readyK p.2 kept)) l
noncomputable def bitN (m i : Nat) : Bool := Nat.beq (Nat.land (Nat.shiftRight m i) 1) 1
/-- A light operation with few operands. -/
noncomputable def simpleOp (op : Op) : Bool := match op with
  | .move _ | .assign _ | .pick .. | .nilCheck _ | .binOp .. | .unOp .. | .fieldAddr .. | .field .. | .indexAddr .. | .index .. | .extract .. | .load .. => true
  | _ => false
noncomputable def checkF (ops : Array Oper) (n : Nat) (t : Tr Value) (h : AHeap) (o : Oper) (yes : R) : R :=
  wantedF o ops n t
    (Bool.rec (motive := fun _ => R) (Bool.rec (motive := fun _ => R) none yes (checkOne EE ops n t h o))
      (opF o.op (fun v _ => Option.rec (motive := fun _ => R) none (fun d => Bool.rec (motive := fun _ => R) none (Bool.rec (motive := fun _ => R) none yes (eqOne v (getK t d))) (Nat.ble (Nat.succ d) n)) o.dst) n t h
        (Bool.rec (motive := fun _ => R) none yes (checkOne EE ops n t h o))) (simpleOp o.op))
    (Option.rec (motive := fun _ => R) yes (fun d => Bool.rec (motive := fun _ => R) none (Bool.rec (motive := fun _ => R) none yes (isUndef (getK t d))) (Nat.ble (Nat.succ d) n)) o.dst)
noncomputable def recF (ops : Array Oper) (n : Nat) (t : Tr Value) (h : AHeap) (mask : Nat) (yes : R) (l : List (Nat × Oper)) : R :=
  List.rec (motive := fun _ => R) yes (fun p _ ih => Bool.rec (motive := fun _ => R) (checkF ops n t h p.2 ih) ih (bitN mask p.1)) l
noncomputable def evRK (n : Nat) (t : Tr Value) (o : Oper) (x : Operand) : Option Value :=
  Operand.rec (motive := fun x => Option Value → Option Value) (fun i e => Bool.rec (motive := fun _ => Option Value) none e (memN i (tmpsOf o.op.operands.toList))) (fun _ e => e) (fun _ e => e) (fun _ e => e) x (evTK n t x)
/-- A region that draws its order. -/
noncomputable def iDraw (ops : Array Oper) (left done : List (Nat × Oper)) (mask : Nat) (k : List AItem) (K : Kon) (t : Tr Value) (F : AFix) (cs : List AFrame) (h : AHeap) : R :=
  eagF ops F.n (fun left' done' t' h' => recF ops F.n t' h' mask (List.rec (motive := fun _ => R) (normH h' fun h => K .run t' k F cs h) (fun p l _ => Prod.rec (motive := fun _ => R) (fun i o => wantedF o ops F.n t'
    (match hop EE (evRK F.n t' o) h' o.op with
      | some q => Prod.rec (motive := fun _ => R) (fun nx h2 => match nx with
        | .value v => dstF o.dst v F.n t' fun t2 => normH h2 fun h => normN (Nat.lor (Nat.lor mask ((masks ops.toList).getD i 0)) (Nat.pow 2 i)) fun mask => K .run t2 (.draw ops l (p :: done') mask :: k) F cs h
        | _ => slow K false t (.draw ops left done mask :: k) F cs h) q
      | none => none) none) p) left') done') left [] done t h

/-! ### Code -/
abbrev MC := List AItem → MQ
noncomputable def cSlow (c : Code) : MC := fun k K t F cs h => slow K false t (.code c :: k) F cs h
noncomputable def cSkip : MC := fun k K t F cs h => K .run t k F cs h
noncomputable def cRegion (id : Nat) (ops : Array Oper) (draw : Bool) : MC := fun k K t F cs h => Bool.rec (motive := fun _ => R) (regF ops.toList ops k K t F cs h)
  (Bool.rec (motive := fun _ => R) none (iDraw ops (numbered ops.toList 0) [] 0 k K t F cs h) (regionOk ops)) draw
noncomputable def cSeq (a b : Code) (ia _ : MC) : MC := fun k => ia (.code b :: k)
noncomputable def cCond (c : Operand) (a b : Code) (ia ib : MC) : MC := fun k K t F cs h => evF c F.n t fun v => match v with
  | .bool c => Bool.rec (motive := fun _ => R) (ib k K t F cs h) (ia k K t F cs h) c
  | _ => none
noncomputable def cBlock (id : Nat) (c : Code) (ic : MC) : MC := fun k => ic (.inBlock id :: k)
noncomputable def cLoop (c : Code) (ic : MC) : MC := fun k => ic (.inLoop c :: k)
noncomputable def cScope (c : Code) (ic : MC) : MC := fun k => ic (.inScope c :: k)
noncomputable def cRange (f : Operand) (p : Array Tmp) (a b : Code) (_ _ : MC) : MC := cSlow (.rangeFunc f p a b)
noncomputable def cExit (id : Nat) : MC := fun k K t F cs h => Option.rec (motive := fun _ => R) (slow K false t (.code (.exit id) :: k) F cs h) (fun k => K .run t k F cs h) (exitE id k)
noncomputable def cRet : MC := fun k K t F cs h => Option.rec (motive := fun _ => R) (K .leave t (.code .ret :: k) F cs h) (fun _ => slow K false t (.code .ret :: k) F cs h) F.round
noncomputable def codeF (c : Code) : MC := Code.rec (motive := fun _ => MC) cSkip cRegion cSeq cCond cBlock cLoop cRange cExit cScope (fun l => cSlow (.label l)) (fun l => cSlow (.goto l)) cRet (fun w => cSlow (.refuse w)) c

/-! ### What is to be done -/
abbrev MI2 := List AItem → MQ → MQ
noncomputable def iCode (c : Code) : MI2 := fun k _ => codeF c k
noncomputable def iPast (_ : Nat) : MI2 := fun _ ih => ih
noncomputable def iPast' (_ : Code) : MI2 := fun _ ih => ih
noncomputable def iInLoop (c : Code) : MI2 := fun k _ => codeF c (.inLoop c :: k)
noncomputable def iReg (ops : Array Oper) (rest : List Oper) : MI2 := fun k _ => regF rest ops k
noncomputable def itSlow (i : AItem) : MI2 := fun k _ K t F cs h => slow K false t (i :: k) F cs h
noncomputable def itemF (i : AItem) : MI2 := AItem.rec (motive := fun _ => MI2) iCode iPast iInLoop iPast' iReg (fun ops left done mask k _ => iDraw ops left done mask k) (fun l => itSlow (.inRangeFunc l)) (fun l => itSlow (.endRangeFunc l)) (itSlow .beginRound) i
noncomputable def runNil : MQ := fun K t F cs h => Option.rec (motive := fun _ => R) (K .leave t [] F cs h) (fun _ => slow K false t [] F cs h) F.round
noncomputable def runK (todo : List AItem) : MQ := List.rec (motive := fun _ => MQ) runNil (fun i k ih => itemF i k ih) todo

/-! ### Leaving -/
noncomputable def rvF (r : ResultVar) : Nat → Tr Value → AHeap → (Value → R) → R → R :=
  ResultVar.rec (motive := fun _ => Nat → Tr Value → AHeap → (Value → R) → R → R) (fun i n t _ f _ => evTmp i n t f) (fun _ _ _ _ _ _ sl => sl) r
noncomputable def rvsF (l : List ResultVar) : Nat → Tr Value → AHeap → (List Value → R) → R → R :=
  List.rec (motive := fun _ => Nat → Tr Value → AHeap → (List Value → R) → R → R) (fun _ _ _ f _ => f []) (fun r _ ih n t h f sl => rvF r n t h (fun v => ih n t h (fun vs => f (v :: vs)) sl) sl) l
noncomputable def tupled (vs : List Value) : Value := match vs with
  | [v] => v
  | vs => .tuple vs.toArray
noncomputable def resList (f : FuncId) : Option (List ResultVar) := match EE.P.funcs[f]? with
  | some fn => some fn.results.toList
  | none => none
noncomputable def popF (c : AFrame) (v : Value) (K : Kon) (cs : List AFrame) (h : AHeap) (sl : R) : R :=
  AFrame.rec (motive := fun _ => R) (fun fn n tmps todo defers ret deferred round => match todo with
    | .inRegion ops (o :: rest) :: k => normN fn fun fn => normN n fun n => dstF o.dst v n tmps fun t => K (modeOf ret) t (.inRegion ops rest :: k) ⟨fn, n, defers, deferred, round⟩ cs h
    | _ => sl) c
noncomputable def leaveG (rl : Option (List ResultVar)) (n : Nat) (K : Kon) (t : Tr Value) (c : AFrame) (cs : List AFrame) (h : AHeap) (sl : R) : R :=
  Option.rec (motive := fun _ => R) sl (fun l => rvsF l n t h (fun vs => popF c (tupled vs) K cs h sl) sl) rl
noncomputable def leaveF (K : Kon) (t : Tr Value) (todo : List AItem) (F : AFix) (cs : List AFrame) (h : AHeap) (sl : R) : R :=
  AFix.rec (motive := fun _ => R) (fun fn n defers deferred round => match defers, deferred, cs with
    | [], false, c :: cs => leaveG (resList fn) n K t c cs h sl
    | _, _, _ => sl) F
/-- The step, but for calls that are done in all orders. -/
noncomputable def step0 (K : Kon) : Kon := fun m t todo F cs h => Mode.rec (motive := fun _ => R) (runK todo K t F cs h) (leaveF K t todo F cs h (slow K true t todo F cs h)) (fun _ _ => none) m
noncomputable def stop : Kon := fun m t todo F cs h => Mode.rec (motive := fun _ => R) (some (.next (mkS false t todo F cs h))) (some (.next (mkS true t todo F cs h))) (fun _ _ => none) m
noncomputable def run0 (n : Nat) : Kon := Nat.rec (motive := fun _ => Kon) stop (fun _ ih => step0 ih) n
/-- All ends of a call, in all orders. -/
noncomputable def expF (d : Nat) : AState → Option (List (Value × AHeap)) := Nat.rec (motive := fun _ => AState → Option (List (Value × AHeap))) (fun _ => none) (fun _ ih s =>
  Option.rec (motive := fun _ => Option (List (Value × AHeap))) none (fun o => AOut.rec (motive := fun _ => Option (List (Value × AHeap))) (fun _ => none) (fun l => allOf ih l) (fun v h => some [(v, h)]) o) (goK (run0 100000) s)) d
noncomputable def joinF (g : FuncId) (args : List Value) (K : Kon) (t : Tr Value) (todo : List AItem) (F : AFix) (cs : List AFrame) (h : AHeap) : R :=
  match enterE EE g args false with
  | some fr => (match expF 10 ⟨fr, [], { h with floor := h.next }⟩ with
    | some outs => (match joined h outs with
      | some p => Prod.rec (motive := fun _ => R) (fun v h' => match todo with
        | .inRegion ops (o :: rest) :: k => dstF o.dst v F.n t fun t => normH h' fun h => K .run t (.inRegion ops rest :: k) F cs h
        | _ => none) p
      | none => none)
    | none => none)
  | none => none
noncomputable def stepF (K : Kon) : Kon := fun m t todo F cs h => Mode.rec (motive := fun _ => R) (runK todo K t F cs h) (leaveF K t todo F cs h (slow K true t todo F cs h)) (fun g args => joinF g args K t todo F cs h) m
noncomputable def runF (n : Nat) : Kon := Nat.rec (motive := fun _ => Kon) stop (fun _ ih => stepF ih) n
end Go.Ab
