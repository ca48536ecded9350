/-
  The step made for the kernel says nothing but what the small machine does: drawn regions, all of it. No statement of the seat is proved here. Conditions: none.
-/
import Derived.Test.YtmpiakibllgdeaaGreatDoorCd
set_option linter.unusedVariables false
set_option linter.unusedSimpArgs false
namespace Go.Ab
open Go.Proofs

theorem pAop {P : R → Prop} (hn : P none) {op : Op} {f : Value → AHeap → R} {n : Nat} {t : Tr Value} {h : AHeap} {sl : R} (hs : P sl) (hf : ∀ v h', Ab.aop EE (evT EE n t) h op = some (.value v, h') → P (f v h')) : P (aopF op f n t h sl) := by
  unfold aopF
  rw [evTK_eq]
  split
  · rename_i p hp
    obtain ⟨nx, h'⟩ := p
    cases nx with
    | value v =>
      show P (normH h' fun h => f v h)
      rw [normH_eq]
      exact hf v h' hp
    | _ => exact hs
  · exact hn

/-! ### What is done at once -/
theorem aop_light_inv {n : Nat} {t : Tr Value} {h h' : AHeap} {op : Op} {v : Value} (hl : light op = true) (e : aop EE (evT EE n t) h op = some (.value v, h')) : lop EE (evT EE n t) h op = some v ∧ h' = h := by
  unfold aop at e
  rw [hl] at e
  simp only [cond_true, Option.bind_eq_some_iff, Option.some.injEq, Prod.mk.injEq, ANext.value.injEq] at e
  obtain ⟨u, h1, rfl, rfl⟩ := e
  exact ⟨h1, rfl⟩
theorem eager_cons (ops : Array Oper) (n : Nat) (p : Nat × Oper) (rest kept done : List (Nat × Oper)) (t : Tr Value) (h : AHeap) : eager EE ops n (p :: rest) kept done t h =
    bif readyK p.2 kept then (wantedE ops n t p.2).bind fun w =>
        bif !w then (setDst n t p.2.dst undef).bind fun t => eager EE ops n rest kept (p :: done) t h
        else bif light p.2.op then (lop EE (evT EE n t) h p.2.op).bind fun v => (setDst n t p.2.dst v).bind fun t => eager EE ops n rest kept (p :: done) t h
        else match p.2.op, p.2.dst with
          | .alloc e, some d => (zeroE EE e).bind fun z => (h.alloc (.cells z.cells.toList (.var e))).bind fun q =>
            (setDst n t (some d) (.pointer (some ⟨q.1, 0, none⟩))).bind fun t => eager EE ops n rest kept (p :: done) t q.2
          | .alloc _, none => none
          | _, _ => eager EE ops n rest (p :: kept) done t h
    else eager EE ops n rest (p :: kept) done t h := rfl
theorem pEag {P : R → Prop} (hn : P none) {ops : Array Oper} {n : Nat} {f : ME} : ∀ (l kept done : List (Nat × Oper)) (t : Tr Value) (h : AHeap), (∀ g, eager EE ops n l kept done t h = some g → P (f g.left g.done g.t g.h)) → P (eagF ops n f l kept done t h)
  | [], kept, done, t, h, hf => hf ⟨kept.reverse, done, t, h⟩ rfl
  | p :: rest, kept, done, t, h, hf => by
    rw [eager_cons] at hf
    show P (Bool.rec (eagF ops n f rest (p :: kept) done t h)
      (wantedF p.2 ops n t (Option.rec none (fun b => (Bool.rec (eagF ops n f rest (p :: kept) done t h)
          (opF p.2.op (fun v h' => dstF p.2.dst v n t fun t' => eagF ops n f rest kept (p :: done) t' h') n t h (aopF p.2.op (fun v h' => dstF p.2.dst v n t fun t' => eagF ops n f rest kept (p :: done) t' h') n t h none)) b : R)) (eagOp p.2) : R)
        (dstF p.2.dst undef n t fun t' => eagF ops n f rest kept (p :: done) t' h)) (readyK p.2 kept) : R)
    generalize hr : readyK p.2 kept = rd at hf
    cases rd with
    | false => exact pEag hn rest (p :: kept) done t h hf
    | true =>
      simp only [cond_true] at hf
      refine pWanted hn (fun hw => ?_) (fun hw => ?_)
      · rw [hw] at hf
        simp only [Option.bind_some, Bool.not_true, cond_false] at hf
        -- an operation that is done at once
        have now : (∀ v h' t', Ab.aop EE (evT EE n t) h p.2.op = some (.value v, h') → setDst n t p.2.dst v = some t' → ∀ g, eager EE ops n rest kept (p :: done) t' h' = some g → P (f g.left g.done g.t g.h)) →
            P (opF p.2.op (fun v h' => dstF p.2.dst v n t fun t' => eagF ops n f rest kept (p :: done) t' h') n t h (aopF p.2.op (fun v h' => dstF p.2.dst v n t fun t' => eagF ops n f rest kept (p :: done) t' h') n t h none)) := fun hg => by
          have hv : ∀ v h', Ab.aop EE (evT EE n t) h p.2.op = some (.value v, h') → P (dstF p.2.dst v n t fun t' => eagF ops n f rest kept (p :: done) t' h') := fun v h' ha =>
            pDst hn fun t' ht' => pEag hn rest kept (p :: done) t' h' (hg v h' t' ha ht')
          exact opF_ok p.2.op P hn _ n t h _ (pAop hn hn hv) hv
        have light_now : light p.2.op = true → P (opF p.2.op (fun v h' => dstF p.2.dst v n t fun t' => eagF ops n f rest kept (p :: done) t' h') n t h (aopF p.2.op (fun v h' => dstF p.2.dst v n t fun t' => eagF ops n f rest kept (p :: done) t' h') n t h none)) := fun hl =>
          now fun v h' t' ha ht' g hg => by
            obtain ⟨h1, rfl⟩ := aop_light_inv hl ha
            rw [hl] at hf
            simp only [cond_true, h1, Option.bind_some, ht'] at hf
            exact hf g hg
        cases ho : eagOp p.2 with
        | none => exact hn
        | some b =>
          show P (Bool.rec (eagF ops n f rest (p :: kept) done t h) (opF p.2.op (fun v h' => dstF p.2.dst v n t fun t' => eagF ops n f rest kept (p :: done) t' h') n t h (aopF p.2.op (fun v h' => dstF p.2.dst v n t fun t' => eagF ops n f rest kept (p :: done) t' h') n t h none)) b : R)
          unfold eagOp at ho
          split at ho
          · rename_i e d he hd
            cases ho
            refine now fun v h' t' ha ht' g hg => ?_
            rw [he, hd] at hf
            rw [he] at ha
            rw [hd] at ht'
            simp only [Ab.aop, light, cond_false, hop, Option.bind_eq_some_iff, Option.some.injEq, Prod.mk.injEq, ANext.value.injEq] at ha
            obtain ⟨z, hz, q, hq, rfl, rfl⟩ := ha
            simp only [light, cond_false, hz, hq, Option.bind_some, ht'] at hf
            exact hf g hg
          · cases ho
          · rename_i h1 h2
            cases ho
            cases hl : light p.2.op with
            | true => exact light_now hl
            | false =>
              rw [hl] at hf
              simp only [cond_false] at hf
              exact pEag hn rest (p :: kept) done t h hf
      · rw [hw] at hf
        simp only [Option.bind_some, Bool.not_false, cond_true] at hf
        exact pDst hn fun t' ht' => pEag hn rest kept (p :: done) t' h (by rw [ht'] at hf; exact hf)

/-! ### What must be so still -/
theorem bitN_eq (m i : Nat) : bitN m i = m.testBit i := by
  unfold bitN Nat.testBit
  rw [Bool.eq_iff_iff]
  simp only [Nat.beq_eq, bne_iff_ne, ne_eq]
  have : Nat.land (Nat.shiftRight m i) 1 = (m >>> i) &&& 1 := rfl
  rw [this, Nat.and_comm]
  have : 1 &&& (m >>> i) = (m >>> i) % 2 := Nat.one_and_eq_mod_two _
  omega
theorem evR_mem {n : Nat} {t : Tr Value} {o : Oper} {x : Operand} (h : x ∈ o.op.operands.toList) : evR EE n t o x = evT EE n t x := by
  cases x with
  | tmp i =>
    have : i ∈ tmpsOf o.op.operands.toList := List.mem_filterMap.2 ⟨_, h, rfl⟩
    simp only [evR, memN_mem.2 this, cond_true]
  | _ => rfl
theorem lop_simple {n : Nat} {t : Tr Value} {h : AHeap} {o : Oper} (hs : simpleOp o.op = true) : lop EE (evR EE n t o) h o.op = lop EE (evT EE n t) h o.op := by
  have key : ∀ x ∈ o.op.operands.toList, evR EE n t o x = evT EE n t x := fun x hx => evR_mem hx
  generalize evR EE n t o = ρ at key
  generalize evT EE n t = rhq at key
  generalize o.op = op at *
  cases op <;> simp only [simpleOp, Bool.false_eq_true] at hs <;> simp only [Op.operands, List.mem_cons, List.not_mem_nil, or_false, forall_eq_or_imp, forall_eq] at key <;> simp only [lop, key]
theorem simple_light {op : Op} (h : simpleOp op = true) : light op = true := by
  cases op <;> first | rfl | simp [simpleOp] at h
theorem pCheck {P : R → Prop} (hn : P none) {ops : Array Oper} {n : Nat} {t : Tr Value} {h : AHeap} {o : Oper} {yes : R} (hy : checkOne EE ops n t h o = true → P yes) : P (checkF ops n t h o yes) := by
  have slowc : P (Bool.rec none yes (checkOne EE ops n t h o) : R) := by
    cases hc : checkOne EE ops n t h o with
    | false => exact hn
    | true => exact hy hc
  unfold checkF
  refine pWanted hn (fun hw => ?_) (fun hw => ?_)
  · generalize hsim : simpleOp o.op = sm
    refine pBool (fun _ => slowc) fun hb => ?_
    rw [hb] at hsim
    refine opF_ok o.op P hn _ n t h _ slowc fun v h' ha => ?_
    have hl := simple_light hsim
    obtain ⟨h1, rfl⟩ := aop_light_inv hl ha
    rw [← lop_simple hsim] at h1
    cases hd : o.dst with
    | none => exact hn
    | some d =>
      show P (Bool.rec none (Bool.rec none yes (eqOne v (getK t d))) (Nat.ble (Nat.succ d) n) : R)
      refine pBool (fun _ => hn) fun hle => pBool (fun _ => hn) fun he => hy ?_
      have hle' : Nat.blt d n = true := hle
      rw [getK_eq] at he
      simp only [checkOne, hw, hl, cond_true, h1, hd, hle', he, Bool.and_true]
  · cases hd : o.dst with
    | none => exact hy (by simp only [checkOne, hw, hd])
    | some d =>
      show P (Bool.rec none (Bool.rec none yes (isUndef (getK t d))) (Nat.ble (Nat.succ d) n) : R)
      refine pBool (fun _ => hn) fun hle => pBool (fun _ => hn) fun he => hy ?_
      have hle' : Nat.blt d n = true := hle
      rw [getK_eq] at he
      simp only [checkOne, hw, hd, hle', he, Bool.and_true]
theorem pRec {P : R → Prop} (hn : P none) {ops : Array Oper} {n : Nat} {t : Tr Value} {h : AHeap} {mask : Nat} {yes : R} : ∀ (l : List (Nat × Oper)), (recheck EE ops n t h mask l = true → P yes) → P (recF ops n t h mask yes l)
  | [], hy => hy rfl
  | p :: r, hy => by
    show P (Bool.rec (checkF ops n t h p.2 (recF ops n t h mask yes r)) (recF ops n t h mask yes r) (bitN mask p.1) : R)
    rw [bitN_eq]
    cases hb : mask.testBit p.1 with
    | true => exact pRec hn r fun hr => hy (by simp only [recheck, hb, Bool.true_or, hr, Bool.and_true])
    | false => exact pCheck hn fun hc => pRec hn r fun hr => hy (by simp only [recheck, hb, hc, Bool.or_true, hr, Bool.and_true])

/-! ### Regions and code -/
section
variable {K : Kon}
theorem iDraw_good (hK : GoodK K) (ops : Array Oper) (left done : List (Nat × Oper)) (mask : Nat) (k : List AItem) (t : Tr Value) (F : AFix) (cs : List AFrame) (h : AHeap) :
    Good (mkS false t (.draw ops left done mask :: k) F cs h) (iDraw ops left done mask k K t F cs h) := by
  have st : astep EE (mkS false t (.draw ops left done mask :: k) F cs h) = (eager EE ops F.n left [] done t h).bind fun g =>
      bif recheck EE ops F.n g.t g.h mask g.done then match g.left with
      | [] => some (.next ⟨{ (mkS false t (.draw ops left done mask :: k) F cs h).fr with tmps := g.t, todo := k }, cs, g.h⟩)
      | p :: l => (wantedE ops F.n g.t p.2).bind fun wd => bif wd then (hop EE (evR EE F.n g.t p.2) g.h p.2.op).bind fun q =>
        nextE EE { (mkS false t (.draw ops left done mask :: k) F cs h).fr with tmps := g.t, todo := .draw ops (p :: l) g.done mask :: k } cs q.1 q.2
        else none
      else none := rfl
  unfold iDraw
  refine pEag (Good.nothing _) left [] done t h fun g hg => ?_
  rw [hg] at st
  simp only [Option.bind_some] at st
  obtain ⟨left', done', t', h'⟩ := g
  simp only at st ⊢
  refine pRec (Good.nothing _) done' fun hr => ?_
  rw [hr] at st
  simp only [cond_true] at st
  cases left' with
  | nil =>
    show Good _ (normH h' fun h => K .run t' k F cs h)
    rw [normH_eq]
    exact Good.step st (hK.run t' k F cs h')
  | cons p l =>
    obtain ⟨i, o⟩ := p
    show Good _ (wantedF o ops F.n t' _ none)
    refine pWanted (Good.nothing _) (fun hw => ?_) (fun _ => Good.nothing _)
    simp only [hw, Option.bind_some, cond_true] at st
    rw [evRK_eq]
    cases ho : hop EE (evR EE F.n t' o) h' o.op with
    | none => exact Good.nothing _
    | some q =>
      obtain ⟨nx, h2⟩ := q
      rw [ho] at st
      simp only [Option.bind_some] at st
      cases nx with
      | value v =>
        show Good _ (dstF o.dst v F.n t' fun t2 => normH h2 fun h => normN _ fun mask => K .run t2 (.draw ops l ((i, o) :: done') mask :: k) F cs h)
        refine pDst (Good.nothing _) fun t2 ht2 => ?_
        rw [normH_eq, normN_eq]
        simp only [nextE, finishE, mkS, ht2, Option.bind_some] at st
        exact Good.step st (hK.run t2 (.draw ops l ((i, o) :: done') _ :: k) F cs h2)
      | _ => exact Good.slow hK false t _ F cs h

theorem plainO_good (hK : GoodK K) {o : Oper} {r : List Oper} {ops : Array Oper} {k : List AItem} {t : Tr Value} {F : AFix} {cs : List AFrame} {h : AHeap} (hw : wantedE ops F.n t o = some true)
    (ih : ∀ t' h', Good (atReg t' ops r k F cs h') (regF r ops k K t' F cs h')) : Good (atReg t ops (o :: r) k F cs h) (plainO o.dst o.op o r (regF r) ops k K t F cs h) := by
  have hf : ∀ v h', Ab.aop EE (evT EE F.n t) h o.op = some (.value v, h') → Good (atReg t ops (o :: r) k F cs h) (dstF o.dst v F.n t fun t => regF r ops k K t F cs h') := fun v h' ha =>
    pDst (Good.nothing _) fun t' ht' => Good.step (astep_value hw ha ht') (ih t' h')
  have hs : Good (atReg t ops (o :: r) k F cs h) (slow K false t (.inRegion ops (o :: r) :: k) F cs h) := Good.slow hK false t _ F cs h
  refine opF_ok o.op (Good _) (Good.nothing _) _ F.n t h _ ?_ hf
  unfold longF
  split
  · rename_i c hc
    split
    · exact pAop (Good.nothing _) hs (by rw [hc] at hf; exact hf)
    · rename_i h1
      refine Good.call hK hc (fun b z => ?_) hw hs
      obtain ⟨ce, a, ty⟩ := c
      simp only at z
      subst z
      exact h1 b a ty rfl
  · exact hs
  · exact hs
  · exact pAop (Good.nothing _) hs hf
theorem operF_eq (o : Oper) (r : List Oper) (ih : MG) (ops : Array Oper) (k : List AItem) (t : Tr Value) (F : AFix) (cs : List AFrame) (h : AHeap) :
    operF o r ih ops k K t F cs h = wantedF o ops F.n t (plainO o.dst o.op o r ih ops k K t F cs h) (dstF o.dst undef F.n t fun t => ih ops k K t F cs h) := by
  obtain ⟨dst, op, ty, pos, after, guard⟩ := o
  cases guard <;> rfl
theorem regF_good (hK : GoodK K) : ∀ (rest : List Oper) (ops : Array Oper) (k : List AItem) (t : Tr Value) (F : AFix) (cs : List AFrame) (h : AHeap), Good (atReg t ops rest k F cs h) (regF rest ops k K t F cs h)
  | [], ops, k, t, F, cs, h => Good.step rfl (hK.run t k F cs h)
  | o :: r, ops, k, t, F, cs, h => by
    show Good _ (operF o r (regF r) ops k K t F cs h)
    rw [operF_eq]
    refine pWanted (Good.nothing _) (fun hw => ?_) (fun hw => ?_)
    · exact plainO_good hK hw fun t' h' => regF_good hK r ops k t' F cs h'
    · exact pDst (Good.nothing _) fun t' ht' => Good.step (astep_skip hw ht') (regF_good hK r ops k t' F cs h)

theorem codeF_good (hK : GoodK K) (c : Code) : ∀ (k : List AItem) (t : Tr Value) (F : AFix) (cs : List AFrame) (h : AHeap), Good (mkS false t (.code c :: k) F cs h) (codeF c k K t F cs h) := by
  induction c with
  | skip => exact fun k t F cs h => Good.step rfl (hK.run t k F cs h)
  | region id ops draw =>
    intro k t F cs h
    cases draw with
    | false => exact Good.step rfl (regF_good hK ops.toList ops k t F cs h)
    | true =>
      show Good _ (Bool.rec none (iDraw ops (numbered ops.toList 0) [] 0 k K t F cs h) (regionOk ops) : R)
      generalize hr : regionOk ops = ok
      refine pBool (fun _ => Good.nothing _) fun hb => ?_
      rw [hb] at hr
      refine Good.step ?_ (iDraw_good hK ops (numbered ops.toList 0) [] 0 k t F cs h)
      show (bif regionOk ops then _ else none) = _
      rw [hr]; rfl
  | seq a b ia ib => exact fun k t F cs h => Good.step rfl (ia (.code b :: k) t F cs h)
  | cond c a b ia ib =>
    intro k t F cs h
    show Good _ (evF c F.n t fun v => (match v with | .bool c => (Bool.rec (codeF b k K t F cs h) (codeF a k K t F cs h) c : R) | _ => none : R))
    refine pEv (Good.nothing _) fun v hv => ?_
    split
    · rename_i q
      cases q with
      | false =>
        refine Good.step ?_ (ib k t F cs h)
        show (evT EE F.n t c).bind _ = _
        rw [hv]; rfl
      | true =>
        refine Good.step ?_ (ia k t F cs h)
        show (evT EE F.n t c).bind _ = _
        rw [hv]; rfl
    · exact Good.nothing _
  | block id c ic => exact fun k t F cs h => Good.step rfl (ic (.inBlock id :: k) t F cs h)
  | loop c ic => exact fun k t F cs h => Good.step rfl (ic (.inLoop c :: k) t F cs h)
  | scope c ic => exact fun k t F cs h => Good.step rfl (ic (.inScope c :: k) t F cs h)
  | rangeFunc f p a b _ _ => exact fun k t F cs h => Good.slow hK false t _ F cs h
  | exit id =>
    intro k t F cs h
    show Good _ (Option.rec (slow K false t (.code (.exit id) :: k) F cs h) (fun k => K .run t k F cs h) (exitE id k) : R)
    cases hx : exitE id k with
    | none => exact Good.slow hK false t _ F cs h
    | some k' =>
      refine Good.step ?_ (hK.run t k' F cs h)
      show (match exitE id k with | some k => astep.to _ k | none => _) = _
      rw [hx]; rfl
  | label l => exact fun k t F cs h => Good.slow hK false t _ F cs h
  | goto l => exact fun k t F cs h => Good.slow hK false t _ F cs h
  | ret =>
    intro k t F cs h
    show Good _ (Option.rec (K .leave t (.code .ret :: k) F cs h) (fun _ => slow K false t (.code .ret :: k) F cs h) F.round : R)
    cases hr : F.round with
    | none =>
      refine Good.step ?_ (hK.leave t (.code .ret :: k) F cs h)
      show leaveE EE _ cs h (some .ret) = _
      unfold leaveE
      simp only [mkS, hr]
    | some l => exact Good.slow hK false t _ F cs h
  | refuse w => exact fun k t F cs h => Good.slow hK false t _ F cs h
theorem runK_good (hK : GoodK K) : ∀ (todo : List AItem) (t : Tr Value) (F : AFix) (cs : List AFrame) (h : AHeap), Good (mkS false t todo F cs h) (runK todo K t F cs h)
  | [], t, F, cs, h => by
    show Good _ (Option.rec (K .leave t [] F cs h) (fun _ => slow K false t [] F cs h) F.round : R)
    cases hr : F.round with
    | none =>
      refine Good.step ?_ (hK.leave t [] F cs h)
      show leaveE EE _ cs h none = _
      unfold leaveE
      simp only [mkS, hr]
    | some l => exact Good.slow hK false t _ F cs h
  | i :: k, t, F, cs, h => by
    cases i with
    | code c => exact codeF_good hK c k t F cs h
    | inBlock id => exact Good.step rfl (runK_good hK k t F cs h)
    | inLoop c => exact Good.step rfl (codeF_good hK c (.inLoop c :: k) t F cs h)
    | inScope c => exact Good.step rfl (runK_good hK k t F cs h)
    | inRegion ops rest => exact regF_good hK rest ops k t F cs h
    | draw ops left done mask => exact iDraw_good hK ops left done mask k t F cs h
    | inRangeFunc l => exact Good.slow hK false t _ F cs h
    | endRangeFunc l => exact Good.slow hK false t _ F cs h
    | beginRound => exact Good.slow hK false t _ F cs h
end
end Go.Ab
