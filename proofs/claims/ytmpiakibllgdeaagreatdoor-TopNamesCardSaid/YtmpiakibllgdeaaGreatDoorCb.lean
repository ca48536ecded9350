/-
  The step made for the kernel says nothing but what the small machine does: operations. No statement of the seat is proved here. Conditions: none.
-/
import Derived.Test.YtmpiakibllgdeaaGreatDoorCa
import Derived.Test.YtmpiakibllgdeaaGreatDoorBq
set_option linter.unusedVariables false
set_option linter.unusedSimpArgs false
namespace Go.Ab
open Go.Proofs

/-- What the soundness of the small machine asks for. -/
def Sound : Prop := EE.P.follows .mixedOrders = true ∧ ExtOK EE ∧ SumOK EE
/-- The model's machine comes to what the small machine says. -/
def Comes1 (w0 : World) (base : List Frame) (h0 : AHeap) (φ0 : Phi) (fr' : Frame) (cs' : List Frame) (w : World) : AOut → Prop
  | .next S => Goes EE w0 base h0 φ0 fr' cs' w S
  | .fork l => ∃ S ∈ l, Goes EE w0 base h0 φ0 fr' cs' w S
  | .done v h => Ends EE w0 base h0 φ0 fr' cs' w v h
def Means (S : AState) (out : AOut) : Prop := Sound → ∀ (w0 : World) (base : List Frame) (h0 : AHeap) (φ0 : Phi) (fr' : Frame) (cs' : List Frame) (w : World), Rel EE w0 base h0 φ0 S fr' cs' w → Comes1 w0 base h0 φ0 fr' cs' w out
def Good (S : AState) (r : R) : Prop := ∀ out, r = some out → Means S out

theorem Comes1.pre {w0 : World} {base : List Frame} {h0 : AHeap} {φ0 : Phi} {fr' fr2 : Frame} {cs' cs2 : List Frame} {w w2 : World} (st : Steps EE.P (lone fr' cs' w) (lone fr2 cs2 w2)) :
    ∀ {out : AOut}, Comes1 w0 base h0 φ0 fr2 cs2 w2 out → Comes1 w0 base h0 φ0 fr' cs' w out
  | .next S, ⟨a, b, c, s, r⟩ => ⟨a, b, c, st.trans s, r⟩
  | .fork l, ⟨S, hS, a, b, c, s, r⟩ => ⟨S, hS, a, b, c, st.trans s, r⟩
  | .done v h, ⟨φ, v', a, b, s, r⟩ => ⟨φ, v', a, b, st.trans s, r⟩
theorem Good.nothing (S : AState) : Good S none := fun _ e => by cases e
theorem Good.here (S : AState) : Good S (some (.next S)) := fun out e => by
  cases e
  exact fun _ w0 base h0 φ0 fr' cs' w R => ⟨fr', cs', w, .refl _ _, R⟩
theorem Good.step {S S1 : AState} {r : R} (e : astep EE S = some (.next S1)) (g : Good S1 r) : Good S r := fun out h snd w0 base h0 φ0 fr' cs' w R => by
  rcases step_sound snd.1 snd.2.1 snd.2.2 R e with ⟨S', hS, fr2, cs2, w2, st, R2⟩ | ⟨_, _, _, _, z, _⟩
  · have : S' = S1 := by simpa [AOut.all] using hS
    subst this
    exact Comes1.pre st (g out h snd w0 base h0 φ0 fr2 cs2 w2 R2)
  · cases z
structure GoodK (K : Kon) : Prop where
  run : ∀ t todo F cs h, Good (mkS false t todo F cs h) (K .run t todo F cs h)
  leave : ∀ t todo F cs h, Good (mkS true t todo F cs h) (K .leave t todo F cs h)
  join : ∀ g args t ops o rest k F cs h, wantedE ops F.n t o = some true → aop EE (evT EE F.n t) h o.op = some (.enter g args, h) →
    Good (mkS false t (.inRegion ops (o :: rest) :: k) F cs h) (K (.join g args) t (.inRegion ops (o :: rest) :: k) F cs h)
theorem GoodK.mode {K : Kon} (hK : GoodK K) (ret : Bool) (t : Tr Value) (todo : List AItem) (F : AFix) (cs : List AFrame) (h : AHeap) : Good (mkS ret t todo F cs h) (K (modeOf ret) t todo F cs h) := by
  cases ret with
  | false => exact hK.run t todo F cs h
  | true => exact hK.leave t todo F cs h
theorem normN_eq (x : Nat) (f : Nat → R) : normN x f = f x := by cases x <;> rfl
theorem normB_eq (x : Bool) (f : Bool → R) : normB x f = f x := by cases x <;> rfl
theorem normH_eq (h : AHeap) (f : AHeap → R) : normH h f = f h := by
  obtain ⟨t, next, floor, busy⟩ := h
  show (normN floor fun floor => (List.rec (f ⟨t, next, floor, []⟩) (fun b r _ => f ⟨t, next, floor, b :: r⟩) busy : R)) = _
  rw [normN_eq]
  cases busy <;> rfl
theorem frK_eq (K : Kon) (fr : AFrame) (cs : List AFrame) (h : AHeap) : frK K fr cs h = K (modeOf fr.ret) fr.tmps fr.todo ⟨fr.fn, fr.n, fr.defers, fr.deferred, fr.round⟩ cs h := by
  obtain ⟨fn, n, tmps, todo, defers, ret, deferred, round⟩ := fr
  show (normN fn fun fn => normN n fun n => normB deferred fun deferred => normH h fun h => K (modeOf ret) tmps todo ⟨fn, n, defers, deferred, round⟩ cs h) = _
  rw [normN_eq, normN_eq, normB_eq, normH_eq]
theorem Good.frK {K : Kon} (hK : GoodK K) (fr : AFrame) (cs : List AFrame) (h : AHeap) : Good ⟨fr, cs, h⟩ (frK K fr cs h) := by
  rw [frK_eq]
  exact hK.mode fr.ret fr.tmps fr.todo ⟨fr.fn, fr.n, fr.defers, fr.deferred, fr.round⟩ cs h
theorem Good.slow {K : Kon} (hK : GoodK K) (ret : Bool) (t : Tr Value) (todo : List AItem) (F : AFix) (cs : List AFrame) (h : AHeap) : Good (mkS ret t todo F cs h) (slow K ret t todo F cs h) := by
  unfold Ab.slow
  cases e : astep EE (mkS ret t todo F cs h) with
  | none => exact Good.nothing _
  | some o =>
    cases o with
    | next s => exact Good.step e (Good.frK hK s.fr s.cs s.h)
    | fork l =>
      intro out z snd w0 base h0 φ0 fr' cs' w Rl
      cases z
      rcases step_sound snd.1 snd.2.1 snd.2.2 Rl e with ⟨S', hS, g⟩ | ⟨_, _, _, _, z, _⟩
      · exact ⟨S', hS, g⟩
      · cases z
    | done v h' =>
      intro out z snd w0 base h0 φ0 fr' cs' w Rl
      cases z
      rcases step_sound snd.1 snd.2.1 snd.2.2 Rl e with ⟨S', hS, _⟩ | ⟨v1, h1, φ, v', z, z2, W, G, hE, hK2, V, z3, hl, _⟩
      · simp [AOut.all] at hS
      · cases z
        subst z3
        exact ⟨φ, v', fr', w, .refl _ _, hl, W, G, hE, hK2, V⟩

/-! ### Operands -/
theorem evF_eq (x : Operand) (n : Nat) (t : Tr Value) (k : Value → R) : evF x n t k = (evT EE n t x).bind k := by
  cases x with
  | tmp i =>
    show (Bool.rec none (k (getK t i)) (Nat.ble (Nat.succ i) n) : R) = (bif Nat.ble (Nat.succ i) n then some (t.get i) else none).bind k
    rw [getK_eq]
    cases Nat.ble (Nat.succ i) n <;> rfl
  | const v =>
    show (Bool.rec none (k v) (constOk v) : R) = (bif constOk v then some v else none).bind k
    cases constOk v <;> rfl
  | global g =>
    show (Bool.rec none (k _) (Nat.ble (Nat.succ g) 5) : R) = (bif Nat.ble (Nat.succ g) 5 then some _ else none).bind k
    cases Nat.ble (Nat.succ g) 5 <;> rfl
  | func f => rfl
theorem dstF_eq (d : Option Tmp) (v : Value) (n : Nat) (t : Tr Value) (k : Tr Value → R) : dstF d v n t k = (setDst n t d v).bind k := by
  cases d with
  | none => rfl
  | some d =>
    show (Bool.rec none (k (setK t d v)) (Nat.ble (Nat.succ d) n) : R) = (bif Nat.ble (Nat.succ d) n then some (t.set d v) else none).bind k
    rw [setK_eq]
    cases Nat.ble (Nat.succ d) n <;> rfl
theorem pBind {P : R → Prop} (hn : P none) {α : Type} {o : Option α} {f : α → R} (g : ∀ a, o = some a → P (f a)) : P (o.bind f) := by
  cases o with
  | none => exact hn
  | some a => exact g a rfl
theorem pEv {P : R → Prop} (hn : P none) {x : Operand} {n : Nat} {t : Tr Value} {k : Value → R} (g : ∀ v, evT EE n t x = some v → P (k v)) : P (evF x n t k) := by
  rw [evF_eq]; exact pBind hn g
theorem pDst {P : R → Prop} (hn : P none) {d : Option Tmp} {v : Value} {n : Nat} {t : Tr Value} {k : Tr Value → R} (g : ∀ t', setDst n t d v = some t' → P (k t')) : P (dstF d v n t k) := by
  rw [dstF_eq]; exact pBind hn g
theorem pBool {P : R → Prop} {b : Bool} {x y : R} (hx : b = false → P x) (hy : b = true → P y) : P (Bool.rec (motive := fun _ => R) x y b) := by
  cases b with
  | false => exact hx rfl
  | true => exact hy rfl
theorem pInt {P : R → Prop} {a : Int} {f : Nat → R} {g : Nat → R} (h : ∀ m, a = .ofNat m → P (f m)) (k : ∀ m, a = .negSucc m → P (g m)) : P (Int.rec (motive := fun _ => R) f g a) := by
  cases a with
  | ofNat m => exact h m rfl
  | negSucc m => exact k m rfl

/-! ### Numbers -/
theorem sameK_eq {k k' : IntKind} (h : sameK k k' = true) : k = k' := by
  cases k <;> cases k' <;> first | rfl | exact absurd h (by decide +kernel)
theorem wrap_small {k : IntKind} {m : Nat} (h : m < lim k) : k.wrap (.ofNat m) = .ofNat m := by
  have e : (Int.ofNat m) = (m : Int) := rfl
  rw [e]
  cases k <;> simp only [lim] at h <;> simp only [IntKind.wrap, IntKind.bits, IntKind.signed] <;> simp <;> (try split) <;> omega
theorem wrapK_eq (k : IntKind) (x : Int) : wrapK k x = k.wrap x := by
  cases x with
  | negSucc m => rfl
  | ofNat m =>
    show (Bool.rec (k.wrap (.ofNat m)) (.ofNat m) (Nat.ble (Nat.succ m) (lim k)) : Int) = _
    cases hb : Nat.ble (Nat.succ m) (lim k) with
    | false => rfl
    | true => exact (wrap_small (Nat.le_of_ble_eq_true hb)).symm
theorem lim_le (k : IntKind) : lim k ≤ 2 ^ k.bits := by cases k <;> decide
theorem small_bits {k : IntKind} {m : Nat} (h : m < lim k) : (BitVec.ofInt k.bits (.ofNat m)).toNat = m := by
  have := lim_le k
  have e : (Int.ofNat m) = (m : Int) := rfl
  rw [e, BitVec.toNat_ofInt]
  have : ((m : Int) % ((2 ^ k.bits : Nat) : Int)) = ((m % 2 ^ k.bits : Nat) : Int) := by simp
  rw [this, Int.toNat_natCast]
  exact Nat.mod_eq_of_lt (by omega)

section
variable {h : AHeap} {op : BinOp} {k k' : IntKind} {a b : Int} {f : Value → R} {sl : R} {xt : TypeId} {ox oy : Operand}
abbrev BinOKI (op : BinOp) (g : MJ) : Prop := ∀ (P : R → Prop) (h : AHeap) (xt : TypeId) (ox oy : Operand) (k k' : IntKind) (a b : Int) (f : Value → R) (sl : R), P sl →
  (∀ v, binE EE h op xt ox oy (.int k a) (.int k' b) = some v → P (f v)) → P (g k k' a b f sl)
theorem iArith_ok {op : BinOp} {g : Nat → Nat → Nat} (hg : ∀ (h : AHeap) xt ox oy k m n, binE EE h op xt ox oy (.int k (.ofNat m)) (.int k (.ofNat n)) = some (.int k (k.wrap (.ofNat (g m n))))) : BinOKI op (iArith g) := by
  intro P h xt ox oy k k' a b f sl hs hf
  refine pBool (fun _ => hs) fun hk => ?_
  obtain rfl := sameK_eq hk
  refine pInt (fun m hm => pInt (fun n hn => ?_) fun _ _ => hs) fun _ _ => hs
  subst hm; subst hn
  refine hf _ ?_
  rw [wrapK_eq]
  exact hg h xt ox oy k m n
theorem iComp_ok {op : BinOp} {g : Nat → Nat → Bool} (hg : ∀ (h : AHeap) xt ox oy k m n, binE EE h op xt ox oy (.int k (.ofNat m)) (.int k (.ofNat n)) = some (.bool (g m n))) : BinOKI op (iComp g) := by
  intro P h xt ox oy k k' a b f sl hs hf
  refine pBool (fun _ => hs) fun hk => ?_
  obtain rfl := sameK_eq hk
  refine pInt (fun m hm => pInt (fun n hn => ?_) fun _ _ => hs) fun _ _ => hs
  subst hm; subst hn
  exact hf _ (hg h xt ox oy k m n)
theorem iSub_ok : BinOKI .sub iSub := by
  intro P h xt ox oy k k' a b f sl hs hf
  refine pBool (fun _ => hs) fun hk => ?_
  obtain rfl := sameK_eq hk
  refine pInt (fun m hm => pInt (fun n hn => ?_) fun _ _ => hs) fun _ _ => hs
  subst hm; subst hn
  refine pBool (fun _ => hs) fun hb => hf _ ?_
  rw [wrapK_eq]
  have hle := Nat.le_of_ble_eq_true hb
  have : Int.ofNat (Nat.sub m n) = Int.ofNat m - Int.ofNat n := Int.ofNat_sub hle
  rw [this]
  simp [binE, intOp]
theorem iQuo_ok : BinOKI .quo iQuo := by
  intro P h xt ox oy k k' a b f sl hs hf
  refine pBool (fun _ => hs) fun hk => ?_
  obtain rfl := sameK_eq hk
  refine pInt (fun m hm => pInt (fun n hn => ?_) fun _ _ => hs) fun _ _ => hs
  subst hm; subst hn
  refine pBool (fun _ => hs) fun hb => hf _ ?_
  rw [wrapK_eq]
  have hle := Nat.le_of_ble_eq_true hb
  have h0 : Int.ofNat n ≠ 0 := fun z => by have z : (n : Int) = 0 := z; omega
  simp only [binE, intOp, if_pos, if_neg h0]
  rfl
theorem iRem_ok : BinOKI .rem iRem := by
  intro P h xt ox oy k k' a b f sl hs hf
  refine pBool (fun _ => hs) fun hk => ?_
  obtain rfl := sameK_eq hk
  refine pInt (fun m hm => pInt (fun n hn => ?_) fun _ _ => hs) fun _ _ => hs
  subst hm; subst hn
  refine pBool (fun _ => hs) fun hb => hf _ ?_
  have hle := Nat.le_of_ble_eq_true hb
  have h0 : Int.ofNat n ≠ 0 := fun z => by have z : (n : Int) = 0 := z; omega
  simp only [binE, intOp, if_pos, if_neg h0]
  rfl
theorem iBits_ok {op : BinOp} {g : Nat → Nat → Nat} (hg : ∀ (h : AHeap) xt ox oy k m n, m < lim k → n < lim k → binE EE h op xt ox oy (.int k (.ofNat m)) (.int k (.ofNat n)) = some (.int k (k.wrap (.ofNat (g m n))))) : BinOKI op (iBits g) := by
  intro P h xt ox oy k k' a b f sl hs hf
  refine pBool (fun _ => hs) fun hk => ?_
  obtain rfl := sameK_eq hk
  refine pInt (fun m hm => pInt (fun n hn => ?_) fun _ _ => hs) fun _ _ => hs
  subst hm; subst hn
  refine pBool (fun _ => hs) fun hb => pBool (fun _ => hs) fun hc => hf _ ?_
  rw [wrapK_eq]
  exact hg h xt ox oy k m n (Nat.le_of_ble_eq_true hb) (Nat.le_of_ble_eq_true hc)
theorem minN_eq (a b : Nat) : minN a b = min a b := by
  unfold minN
  cases hb : Nat.ble a b with
  | false =>
    have : ¬ a ≤ b := fun z => by rw [Nat.ble_eq_true_of_le z] at hb; cases hb
    show b = _; omega
  | true => have := Nat.le_of_ble_eq_true hb; show a = _; omega
theorem iShl_ok : BinOKI .shl iShl := by
  intro P h xt ox oy k k' a b f sl hs hf
  refine pInt (fun m hm => pInt (fun n hn => ?_) fun _ _ => hs) fun _ _ => hs
  subst hm; subst hn
  refine hf _ ?_
  rw [wrapK_eq, minN_eq]
  have h0 : ¬ (Int.ofNat n < 0) := by simp
  have e : Int.ofNat (Nat.mul m (Nat.pow 2 (min n k.bits))) = Int.ofNat m * 2 ^ min (Int.ofNat n).toNat k.bits := by
    show ((m * 2 ^ min n k.bits : Nat) : Int) = _
    simp
  rw [e]
  simp only [binE, shiftE, if_neg h0]
theorem iShr_ok : BinOKI .shr iShr := by
  intro P h xt ox oy k k' a b f sl hs hf
  refine pInt (fun m hm => pInt (fun n hn => ?_) fun _ _ => hs) fun _ _ => hs
  subst hm; subst hn
  refine hf _ ?_
  rw [minN_eq]
  have h0 : ¬ (Int.ofNat n < 0) := by simp
  have e : Int.ofNat (Nat.div m (Nat.pow 2 (min n k.bits))) = (Int.ofNat m).fdiv (2 ^ min (Int.ofNat n).toNat k.bits) := by
    show ((m / 2 ^ min n k.bits : Nat) : Int) = (m : Int).fdiv _
    rw [Int.fdiv_eq_ediv_of_nonneg _ (by exact Int.pow_nonneg (by omega))]
    simp
  rw [e]
  simp only [binE, shiftE, if_neg h0]
theorem beqI (m n : Nat) : (Int.ofNat m == Int.ofNat n) = Nat.beq m n := by
  rw [Bool.eq_iff_iff]
  simp
  omega
theorem ltN_eq (m n : Nat) : ltN m n = decide (Int.ofNat m < Int.ofNat n) := by
  unfold ltN
  rw [Bool.eq_iff_iff]
  simp [Nat.succ_le_iff]
theorem leN_eq (m n : Nat) : Nat.ble m n = decide (Int.ofNat m ≤ Int.ofNat n) := by
  rw [Bool.eq_iff_iff]
  simp
theorem binI_ok (op : BinOp) : BinOKI op (binI op) := by
  cases op with
  | add => exact iArith_ok fun h xt ox oy k m n => by simp [binE, intOp]
  | sub => exact iSub_ok
  | mul => exact iArith_ok fun h xt ox oy k m n => by simp [binE, intOp]
  | quo => exact iQuo_ok
  | rem => exact iRem_ok
  | and => exact iBits_ok fun h xt ox oy k m n hm hn => by simp only [binE, intOp, if_pos, BitVec.toNat_and, small_bits hm, small_bits hn]; rfl
  | or => exact iBits_ok fun h xt ox oy k m n hm hn => by simp only [binE, intOp, if_pos, BitVec.toNat_or, small_bits hm, small_bits hn]; rfl
  | xor => exact iBits_ok fun h xt ox oy k m n hm hn => by simp only [binE, intOp, if_pos, BitVec.toNat_xor, small_bits hm, small_bits hn]; rfl
  | shl => exact iShl_ok
  | shr => exact iShr_ok
  | andNot => intro P h xt ox oy k k' a b f sl hs hf; exact hs
  | eql => exact iComp_ok fun h xt ox oy k m n => by simp only [binE, intOp, if_pos, beqI]
  | neq => exact iComp_ok fun h xt ox oy k m n => by simp only [binE, intOp, if_pos, bne, beqI]; unfold neN notB; cases Nat.beq m n <;> rfl
  | lss => exact iComp_ok fun h xt ox oy k m n => by simp only [binE, intOp, if_pos, ltN_eq]
  | leq => exact iComp_ok fun h xt ox oy k m n => by simp only [binE, intOp, if_pos, leN_eq]
  | gtr => exact iComp_ok fun h xt ox oy k m n => by simp only [binE, intOp, if_pos]; unfold gtN; rw [show Nat.ble (Nat.succ n) m = ltN n m from rfl, ltN_eq]
  | geq => exact iComp_ok fun h xt ox oy k m n => by simp only [binE, intOp, if_pos]; unfold geN; rw [leN_eq]
theorem binV_ok (op : BinOp) (P : R → Prop) (h : AHeap) (xt : TypeId) (ox oy : Operand) (a b : Value) (f : Value → R) (sl : R) (hs : P sl) (hf : ∀ v, binE EE h op xt ox oy a b = some v → P (f v)) : P (binV op a b f sl) := by
  unfold binV
  split
  · exact binI_ok op P h xt ox oy _ _ _ _ f sl hs hf
  · exact hs
end
end Go.Ab
