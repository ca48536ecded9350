/-
  The step made for the kernel says nothing but what the small machine does: regions, code, calls, leaving. No statement of the seat is proved here. Conditions: none.
-/
import Derived.Test.YtmpiakibllgdeaaGreatDoorCc
set_option linter.unusedVariables false
set_option linter.unusedSimpArgs false
namespace Go.Ab
open Go.Proofs

/-! ### Operands once more -/
theorem evTK_eq (n : Nat) (t : Tr Value) : evTK n t = evT EE n t := by
  funext x
  cases x with
  | tmp i =>
    show (Bool.rec none (some (getK t i)) (Nat.ble (Nat.succ i) n) : Option Value) = (bif Nat.ble (Nat.succ i) n then some (t.get i) else none)
    rw [getK_eq]
    cases Nat.ble (Nat.succ i) n <;> rfl
  | const v =>
    show (Bool.rec none (some v) (constOk v) : Option Value) = (bif constOk v then some v else none)
    cases constOk v <;> rfl
  | global g =>
    show (Bool.rec none (some _) (Nat.ble (Nat.succ g) 5) : Option Value) = (bif Nat.ble (Nat.succ g) 5 then some _ else none)
    cases Nat.ble (Nat.succ g) 5 <;> rfl
  | func f => rfl
theorem evRK_eq (n : Nat) (t : Tr Value) (o : Oper) : evRK n t o = evR EE n t o := by
  funext x
  cases x with
  | tmp i =>
    show (Bool.rec none (evTK n t (.tmp i)) (memN i (tmpsOf o.op.operands.toList)) : Option Value) = (bif memN i (tmpsOf o.op.operands.toList) then evT EE n t (.tmp i) else none)
    rw [evTK_eq]
    cases memN i (tmpsOf o.op.operands.toList) <;> rfl
  | const v => exact congrFun (evTK_eq n t) (.const v)
  | global g => exact congrFun (evTK_eq n t) (.global g)
  | func f => exact congrFun (evTK_eq n t) (.func f)
theorem eqB_eq (a b : Bool) : eqB a b = (a == b) := by cases a <;> cases b <;> rfl
/-- The guard of an operation. -/
theorem pWanted {P : R → Prop} (hn : P none) {o : Oper} {ops : Array Oper} {n : Nat} {t : Tr Value} {yes no : R} (hy : wantedE ops n t o = some true → P yes) (hno : wantedE ops n t o = some false → P no) : P (wantedF o ops n t yes no) := by
  unfold wantedF wantedE at *
  cases hg : o.guard with
  | none => rw [hg] at hy; exact hy rfl
  | some g =>
    obtain ⟨j, want⟩ := g
    rw [hg] at hy hno
    simp only [slotOf]
    simp only at hy hno
    cases hs : ((ops.toList[j]?).bind fun g => g.dst) with
    | none => exact hn
    | some d =>
      have e : ∀ f : Nat → Option Bool, ((ops.toList[j]?).bind fun g => g.dst.bind f) = f d := fun f => by
        obtain ⟨g, h1, h2⟩ := Option.bind_eq_some_iff.1 hs
        simp only [h1, Option.bind_some, h2]
      rw [e] at hy hno
      show P (Bool.rec none (match getK t d with | .bool b => (Bool.rec no yes (eqB b want) : R) | _ => no) (Nat.ble (Nat.succ d) n) : R)
      rw [getK_eq]
      cases hb : Nat.ble (Nat.succ d) n with
      | false => exact hn
      | true =>
        have hb' : Nat.blt d n = true := hb
        simp only [hb', cond_true] at hy hno
        show P (match t.get d with | .bool b => (Bool.rec no yes (eqB b want) : R) | _ => no)
        split
        · rename_i b hv
          rw [hv] at hy hno
          simp only [eqB_eq]
          cases hw : (b == want) with
          | false => exact hno (congrArg some hw)
          | true => exact hy (congrArg some hw)
        · rename_i hne
          refine hno ?_
          split
          · rename_i b hv
            exact absurd hv (hne b)
          · rfl

/-! ### Operations in a region -/
section
variable {K : Kon}
/-- A region, with some operations left. -/
abbrev atReg (t : Tr Value) (ops : Array Oper) (rest : List Oper) (k : List AItem) (F : AFix) (cs : List AFrame) (h : AHeap) : AState := mkS false t (.inRegion ops rest :: k) F cs h

theorem next_none {E : Env} {ρ : Operand → Option Value} {h : AHeap} {op : Op} {p : ANext × AHeap} (e : aop E ρ h op = some p) : ∀ it b, op ≠ .next it b := by
  rintro it b rfl
  cases b <;> simp [aop, light, hop] at e
theorem astep_op {t : Tr Value} {ops : Array Oper} {o : Oper} {r : List Oper} {k : List AItem} {F : AFix} {cs : List AFrame} {h h' : AHeap} {nx : ANext} (hw : wantedE ops F.n t o = some true) (ha : aop EE (evT EE F.n t) h o.op = some (nx, h')) :
    astep EE (atReg t ops (o :: r) k F cs h) = nextE EE (atReg t ops (o :: r) k F cs h).fr cs nx h' := by
  have hne := next_none ha
  show (wantedE ops F.n t o).bind _ = _
  rw [hw]
  simp only [Option.bind_some, cond_true]
  split
  · rename_i it he
    exact absurd he (hne it false)
  · simp only [mkS, ha, Option.bind_some]
theorem astep_value {t t' : Tr Value} {ops : Array Oper} {o : Oper} {r : List Oper} {k : List AItem} {F : AFix} {cs : List AFrame} {h h' : AHeap} {v : Value} (hw : wantedE ops F.n t o = some true)
    (ha : aop EE (evT EE F.n t) h o.op = some (.value v, h')) (hd : setDst F.n t o.dst v = some t') : astep EE (atReg t ops (o :: r) k F cs h) = some (.next (atReg t' ops r k F cs h')) := by
  rw [astep_op hw ha]
  simp only [nextE, finishE, mkS, hd, Option.bind_some]
theorem astep_skip {t t' : Tr Value} {ops : Array Oper} {o : Oper} {r : List Oper} {k : List AItem} {F : AFix} {cs : List AFrame} {h : AHeap} (hw : wantedE ops F.n t o = some false) (hd : setDst F.n t o.dst undef = some t') :
    astep EE (atReg t ops (o :: r) k F cs h) = some (.next (atReg t' ops r k F cs h)) := by
  show (wantedE ops F.n t o).bind _ = _
  rw [hw]
  simp only [Option.bind_some, cond_false, finishE, mkS, hd]

theorem Good.aop {S : AState} {op : Op} {f : Value → AHeap → R} {n : Nat} {t : Tr Value} {h : AHeap} {sl : R} (hs : Good S sl) (hf : ∀ v h', Ab.aop EE (evT EE n t) h op = some (.value v, h') → Good S (f v h')) : Good S (aopF op f n t h sl) := by
  unfold aopF
  rw [evTK_eq]
  split
  · rename_i p hp
    obtain ⟨nx, h'⟩ := p
    cases nx with
    | value v =>
      show Good S (normH h' fun h => f v h)
      rw [normH_eq]
      exact hf v h' hp
    | _ => exact hs
  · exact Good.nothing S

/-! ### Calls -/
theorem evsF_eq : ∀ (l : List Operand) (n : Nat) (t : Tr Value) (f : List Value → R), evsF l n t f = (evs (evT EE n t) l).bind f
  | [], n, t, f => rfl
  | x :: l, n, t, f => by
    show (evF x n t fun v => evsF l n t fun vs => f (v :: vs)) = _
    rw [evF_eq]
    simp only [evs]
    cases evT EE n t x with
    | none => rfl
    | some v =>
      simp only [Option.bind_some]
      rw [evsF_eq l n t]
      cases evs (evT EE n t) l <;> rfl
theorem putArgsK_eq : ∀ (l : List Value) (i : Nat) (t : Tr Value), putArgsK l i t = putArgs l i t
  | [], _, _ => rfl
  | v :: l, i, t => by
    show putArgsK l (Nat.succ i) (setK t i v) = _
    rw [setK_eq, putArgsK_eq l]; rfl
theorem appK_eq : ∀ (a b : List Value), appK a b = a ++ b
  | [], _ => rfl
  | v :: a, b => congrArg (v :: ·) (appK_eq a b)
theorem lenK_eq : ∀ (a : List Value), lenK a = a.length
  | [] => rfl
  | v :: a => congrArg Nat.succ (lenK_eq a)
theorem below_eq (t : Tr Value) (todo : List AItem) (F : AFix) (cs : List AFrame) : below t todo F cs = ⟨F.fn, F.n, t, todo, F.defers, false, F.deferred, F.round⟩ :: cs := by cases F; rfl
theorem fnInfo_eq {g n : Nat} {b : Code} (h : fnInfo g = some (n, b)) : ∃ fn, EE.P.funcs[g]? = some fn ∧ fn.body = some b ∧ (fn.name == "runtime.NumGoroutine") = false ∧ EE.sum g = none ∧ fn.ntmps = n := by
  unfold fnInfo at h
  split at h
  · rename_i fn hfn
    split at h
    · rename_i b' hb
      cases hq : (fn.name == "runtime.NumGoroutine") with
      | true => simp [hq] at h
      | false =>
        simp only [hq, cond_false] at h
        split at h
        · rename_i hs
          cases h
          exact ⟨fn, hfn, hb, hq, hs, rfl⟩
        · cases h
    · cases h
  · cases h
theorem Good.call (hK : GoodK K) {c : Call} {t : Tr Value} {ops : Array Oper} {o : Oper} {r : List Oper} {k : List AItem} {F : AFix} {cs : List AFrame} {h : AHeap} {sl : R} (hc : o.op = .call c) (hb : ∀ b, c.callee ≠ .builtin b) (hw : wantedE ops F.n t o = some true)
    (hs : Good (atReg t ops (o :: r) k F cs h) sl) : Good (atReg t ops (o :: r) k F cs h) (callF c (.inRegion ops (o :: r) :: k) K t F cs h sl) := by
  unfold callF
  split
  · rename_i f args tys
    rw [evsF_eq]
    refine pBind (Good.nothing _) fun xs hxs => pEv (Good.nothing _) fun v hv => ?_
    split
    · rename_i g first captured
      unfold enterF
      cases hi : fnInfo g with
      | none => exact hs
      | some p =>
        obtain ⟨n, b⟩ := p
        obtain ⟨fn, h1, h2, h3, h4, h5⟩ := fnInfo_eq hi
        show Good _ (Bool.rec none (Bool.rec (K .run (putArgsK (appK (appK first.toList xs) captured.toList) 0 (blankT n)) [.code b] ⟨g, n, [], false, none⟩ (below t (.inRegion ops (o :: r) :: k) F cs) h)
          (K (.join g (appK (appK first.toList xs) captured.toList)) t (.inRegion ops (o :: r) :: k) F cs h) (isJoin g)) (Nat.ble (lenK (appK (appK first.toList xs) captured.toList)) n) : R)
        rw [putArgsK_eq, lenK_eq, appK_eq, appK_eq, below_eq]
        have hin : Ab.aop EE (evT EE F.n t) h o.op = some (.enter g (first.toList ++ xs ++ captured.toList), h) := by
          rw [hc]
          simp only [Ab.aop, light, cond_false, hop, resolveE, hxs, hv, Option.bind_some, invokeE, callFnE, h1, h2, h3]
        refine pBool (fun _ => Good.nothing _) fun hle => pBool (fun _ => ?_) fun _ => hK.join g _ t ops o r k F cs h hw hin
        refine Good.step (S1 := mkS false (putArgs (first.toList ++ xs ++ captured.toList) 0 (blankT n)) [.code b] ⟨g, n, [], false, none⟩ (⟨F.fn, F.n, t, .inRegion ops (o :: r) :: k, F.defers, false, F.deferred, F.round⟩ :: cs) h) ?_ (hK.run _ _ _ _ _)
        rw [astep_op hw hin]
        simp only [nextE, h4, Option.bind_none, enterE, h1, h2, Option.bind_some, h5, hle, cond_true]
        rfl
    · exact hs
  · exact hs
end
end Go.Ab
