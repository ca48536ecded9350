/-
  The step made for the kernel says nothing but what the small machine does: operations with memory. No statement of the seat is proved here. Conditions: none.
-/
import Derived.Test.YtmpiakibllgdeaaGreatDoorCb
set_option linter.unusedVariables false
set_option linter.unusedSimpArgs false
namespace Go.Ab
open Go.Proofs

/-- What a short road gives is what the operation gives. -/
def OpOK (op : Op) (g : MOp) : Prop := ∀ (P : R → Prop), P none → ∀ (f : Value → AHeap → R) (n : Nat) (t : Tr Value) (h : AHeap) (sl : R), P sl →
  (∀ v h', aop EE (evT EE n t) h op = some (.value v, h') → P (f v h')) → P (g f n t h sl)

theorem aop_light {n : Nat} {t : Tr Value} {h : AHeap} {op : Op} {v : Value} (hl : light op = true) (e : lop EE (evT EE n t) h op = some v) : aop EE (evT EE n t) h op = some (.value v, h) := by
  unfold aop
  rw [hl, e]; rfl
theorem aop_heavy {n : Nat} {t : Tr Value} {h h' : AHeap} {op : Op} {v : Value} (hl : light op = false) (e : hop EE (evT EE n t) h op = some (.value v, h')) : aop EE (evT EE n t) h op = some (.value v, h') := by
  unfold aop
  rw [hl]; exact e

theorem oSlow_ok (op : Op) : OpOK op oSlow := fun P hn f n t h sl hs _ => hs
theorem oMove_ok (x : Operand) : OpOK (.move x) (oMove x) := fun P hn f n t h sl hs hf => pEv hn fun v hv => hf v h (aop_light rfl hv)
theorem oAssign_ok (x : Operand) : OpOK (.assign x) (oMove x) := fun P hn f n t h sl hs hf => pEv hn fun v hv => hf v h (aop_light rfl hv)
theorem oPick_ok (c a b : Operand) : OpOK (.pick c a b) (oPick c a b) := fun P hn f n t h sl hs hf => pEv hn fun v hv => by
  split
  · rename_i c'
    cases c' with
    | false => exact pEv hn fun u hu => hf u h (aop_light rfl (by simp only [lop, hv, Option.bind_some]; exact hu))
    | true => exact pEv hn fun u hu => hf u h (aop_light rfl (by simp only [lop, hv, Option.bind_some]; exact hu))
  · exact hs
theorem oBin_ok (op : BinOp) (xt : TypeId) (x y : Operand) (yt : TypeId) : OpOK (.binOp op xt x y yt) (oBin op xt x y yt) := fun P hn f n t h sl hs hf => pEv hn fun a ha => pEv hn fun b hb =>
  binV_ok op P h xt x y a b _ sl hs fun v hv => hf v h (aop_light rfl (by simp only [lop, ha, hb, Option.bind_some]; exact hv))
theorem oNilCheck_ok (x : Operand) : OpOK (.nilCheck x) (oNilCheck x) := fun P hn f n t h sl hs hf => pEv hn fun v hv => by
  split
  · exact hf _ h (aop_light rfl (by simp only [lop, hv, Option.bind_some]))
  · exact hs

theorem oneT_eq {ty : TypeId} (h : oneT ty = true) : ∃ d, undE EE ty = some d ∧ isAggD d = false ∧ sizeE EE ty = some 1 := by
  unfold oneT at h
  split at h
  · rename_i d hd
    cases ha : isAggD d with
    | true => simp [ha] at h
    | false =>
      simp only [ha, cond_false] at h
      split at h
      · rename_i m hm
        have := Nat.eq_of_beq_eq_true h
        subst this
        exact ⟨d, hd, ha, hm⟩
      · cases h
  · cases h
theorem pNth {P : R → Prop} {f : Value → R} {sl : R} (hs : P sl) : ∀ (off : Nat) (c : List Value), (∀ v, (c.drop off).head? = some v → P (f v)) → P (nthF off c f sl)
  | 0, [], hf => hs
  | 0, v :: c, hf => hf v rfl
  | off + 1, [], hf => hs
  | off + 1, v :: c, hf => pNth hs off c fun u hu => hf u (by simpa using hu)
theorem pDrop {P : R → Prop} {f : List Value → R} {sl : R} (hs : P sl) : ∀ (off : Nat) (c : List Value), P (f (c.drop off)) → P (dropF off c f sl)
  | 0, c, hf => hf
  | off + 1, [], hf => hs
  | off + 1, v :: c, hf => pDrop hs off c (by simpa using hf)
theorem pTake {P : R → Prop} {sl : R} (hs : P sl) : ∀ (n : Nat) (c : List Value) (f : List Value → R), (∀ l, takeN n c = some l → P (f l)) → P (takeF n c f sl)
  | 0, c, f, hf => hf [] (by cases c <;> rfl)
  | n + 1, [], f, hf => hs
  | n + 1, v :: c, f, hf => pTake hs n c (fun l => f (v :: l)) fun l hl => hf (v :: l) (by simp only [takeN, hl, Option.bind_some])
theorem aggT_eq {ty : TypeId} {m : Nat} (h : aggT ty = some m) : ∃ d n, undE EE ty = some d ∧ isAggD d = true ∧ sizeE EE ty = some (n + 1) ∧ m = n + 1 := by
  unfold aggT at h
  split at h
  · rename_i d hd
    cases ha : isAggD d with
    | false => simp [ha] at h
    | true =>
      simp only [ha, cond_true] at h
      split at h
      · rename_i n hn
        cases h
        exact ⟨d, n, hd, ha, hn, rfl⟩
      · cases h
  · cases h
theorem oLoad_ok (ty : TypeId) (x : Operand) : OpOK (.load ty x) (oLoad ty x) := by
  intro P hn f n t h sl hs hf
  unfold oLoad
  generalize hg : oneT ty = one
  refine pBool (fun _ => ?_) fun ho => pEv hn fun v hv => ?_
  · cases ho : aggT ty with
    | none => exact hs
    | some m =>
      refine pEv hn fun v hv => ?_
      obtain ⟨d, k, hd, ha, hsz, rfl⟩ := aggT_eq ho
      split
      · rename_i b off
        unfold loadAgg
        rw [getK_eq]
        split
        · rename_i c g hg
          refine pDrop hs off c (pTake hs (k + 1) _ _ fun l hl => hf _ h (aop_light rfl ?_))
          simp only [lop, hv, Option.bind_some, loadE, hd, ha, cond_true, hsz, getCells, hg, cut, hl]
        · exact hs
      · exact hs
  · obtain ⟨d, hd, ha, hsz⟩ := oneT_eq (hg.trans ho)
    split
    · rename_i b off
      rw [getK_eq]
      split
      · rename_i c g hg
        refine pNth hs off c fun u hu => hf u h (aop_light rfl ?_)
        simp only [lop, hv, Option.bind_some, loadE, hd, ha, cond_false, getCells, hg]
        exact hu
      · exact hs
    · exact hs
theorem pPut1 {P : R → Prop} {v : Value} {sl : R} (hs : P sl) : ∀ (off : Nat) (c : List Value) (f : List Value → R), (∀ l, splice c off [v] = some l → P (f l)) → P (put1 off c v f sl)
  | 0, [], f, hf => hs
  | 0, u :: c, f, hf => hf (v :: c) (by cases c <;> rfl)
  | off + 1, [], f, hf => hs
  | off + 1, u :: c, f, hf => pPut1 hs off c (fun r => f (u :: r)) fun l hl => hf (u :: l) (by simp only [splice, hl, Option.bind_some])
theorem oStore_ok (ty : TypeId) (x y : Operand) : OpOK (.store ty x y) (oStore ty x y) := by
  intro P hn f n t h sl hs hf
  unfold oStore
  generalize hg : oneT ty = one
  refine pBool (fun _ => hs) fun ho => pEv hn fun v hv => pEv hn fun u hu => ?_
  obtain ⟨d, hd, ha, hsz⟩ := oneT_eq (hg.trans ho)
  split
  · rename_i b off
    split
    · exact hs
    · exact hs
    · rename_i h1 h2
      rw [getK_eq]
      have hc : u.cells.toList = [u] ∧ oneCell u = true := by
        cases u with
        | agg a => exact absurd rfl (h1 a)
        | tuple a => exact absurd rfl (h2 a)
        | _ => exact ⟨rfl, rfl⟩
      split
      · rename_i c g hg
        refine pBool (fun hr => ?_) fun _ => hs
        obtain ⟨tr, next, floor, busy⟩ := h
        refine pBool (fun hfl => ?_) fun _ => hs
        refine pPut1 hs off c _ fun l hl => ?_
        rw [setK_eq]
        refine hf _ _ (aop_heavy rfl ?_)
        have hg' : tr.get b = .cells c g := hg
        have hfl' : Nat.blt b floor = false := hfl
        cases g with
        | ro => simp [isRoK] at hr
        | _ =>
          simp only [hop, hv, hu, Option.bind_some, storeE, hsz, hc.1, List.length_singleton, List.all_cons, List.all_nil, Bool.and_true, hc.2, storeCellsE, hg', hl, AHeap.put, hfl', cond_false]
          rfl
      · exact hs
  · exact hs
theorem oFieldAddr_ok (ty : TypeId) (x : Operand) (i : Nat) : OpOK (.fieldAddr ty x i) (oFieldAddr ty x i) := fun P hn f n t h sl hs hf => pEv hn fun v hv => by
  split
  · rename_i b off
    cases ho : fieldOff ty i with
    | none => exact hs
    | some o =>
      refine hf _ h (aop_light rfl ?_)
      unfold fieldOff at ho
      split at ho
      · rename_i fs hd
        simp only [Option.bind_eq_some_iff] at ho
        obtain ⟨fl, h1, m, h2, h3⟩ := ho
        simp only [lop, hv, hd, Option.bind_some, h1, h2]
        cases hb : Nat.beq m 0 with
        | true => simp [hb] at h3
        | false =>
          simp only [hb, cond_false, Option.some.injEq] at h3
          subst h3
          rfl
      · cases ho
  · exact hs
theorem oIndexAddr_ok (ty : TypeId) (x ix : Operand) : OpOK (.indexAddr ty x ix) (oIndexAddr ty x ix) := fun P hn f n t h sl hs hf => pEv hn fun v hv => pEv hn fun j hj => by
  split
  · rename_i b off len cap k i
    cases ho : elemSize ty with
    | none => exact hs
    | some s =>
      refine pBool (fun _ => hs) fun hb => hf _ h (aop_light rfl ?_)
      unfold elemSize at ho
      split at ho
      · rename_i e hd
        have hb' : Nat.blt i len = true := hb
        simp only [lop, hv, hj, hd, Option.bind_some, indexAddrE, hb', cond_true, ho]
        rfl
      · cases ho
  · exact hs
theorem oConvert_ok (s d : TypeId) (x : Operand) : OpOK (.convert s d x) (oConvert s d x) := fun P hn f n t h sl hs hf => by
  unfold oConvert
  cases ho : convKind s d with
  | none => exact hs
  | some k =>
    refine pEv hn fun v hv => ?_
    unfold convKind at ho
    cases hb : Nat.beq s d with
    | true => simp [hb] at ho
    | false =>
      simp only [hb, cond_false] at ho
      split at ho
      · rename_i j k' h1 h2
        cases ho
        split
        · rename_i k0 m
          refine hf _ h (aop_light (by simp [light, hb]) ?_)
          simp only [lop, hv, Option.bind_some, convE, h1, h2, wrapK_eq]
        · exact hs
      · cases ho
theorem oExtract_ok (x : Operand) (i : Nat) : OpOK (.extract x i) (oExtract x i) := fun P hn f n t h sl hs hf => pEv hn fun v hv => by
  split
  · rename_i vs
    refine pNth hs i _ fun u hu => hf u h (aop_light rfl ?_)
    simp only [lop, hv, Option.bind_some]
    rw [← hu, List.head?_drop]
  · exact hs
theorem pAlloc {P : R → Prop} (hn : P none) {e : TypeId} {cells : List Value} {h : AHeap} {f : Value → AHeap → R} (g : ∀ q, h.alloc (.cells cells (.var e)) = some q → P (f (.pointer (some ⟨q.1, 0, none⟩)) q.2)) : P (allocF e cells h f) := by
  obtain ⟨tr, next, floor, busy⟩ := h
  refine pBool (fun _ => hn) fun hb => ?_
  rw [setK_eq]
  refine g (next, ⟨tr.set next (.cells cells (.var e)), next + 1, floor, busy⟩) ?_
  have hb' : Nat.blt next heapMost = true := hb
  simp only [AHeap.alloc, hb', cond_true]
theorem oAlloc_ok (e : TypeId) : OpOK (.alloc e) (oAlloc e) := fun P hn f n t h sl hs hf => by
  unfold oAlloc
  cases ho : zeroCells e with
  | none => exact hs
  | some c =>
    refine pAlloc hn fun q hq => hf _ _ (aop_heavy rfl ?_)
    unfold zeroCells at ho
    cases hz : zeroE EE e with
    | none => simp [hz] at ho
    | some z =>
      simp only [hz, Option.map_some, Option.some.injEq] at ho
      subst ho
      simp only [hop, hz, Option.bind_some, hq]
theorem oBox_ok (e : TypeId) (x : Operand) : OpOK (.box e x) (oBox e x) := fun P hn f n t h sl hs hf => pEv hn fun v hv => pAlloc hn fun q hq => hf _ _ (aop_heavy rfl (by simp only [hop, hv, Option.bind_some, hq]))
theorem oCall_ok (c : Call) : OpOK (.call c) (oCall c) := fun P hn f n t h sl hs hf => by
  unfold oCall
  split
  · rename_i args tys
    split
    · rename_i x ty hx hty
      generalize hg : isSliceT ty = one
      refine pBool (fun _ => hs) fun ho => pEv hn fun v hv => ?_
      replace ho := hg.trans ho
      split
      · rename_i a len cap
        unfold isSliceT at ho
        split at ho
        · rename_i e hd
          refine hf _ h (aop_light rfl ?_)
          simp only [lop, hx, hty, evs, hv, Option.bind_some, lightB, lenE, hd]
          rfl
        · cases ho
      · exact hs
    · exact hs
  · exact hs
theorem notB_eq (b : Bool) : notB b = !b := by cases b <;> rfl
theorem oUn_ok (op : UnOp) (ty : TypeId) (x : Operand) : OpOK (.unOp op ty x) (oUn op ty x) := fun P hn f n t h sl hs hf => by
  unfold oUn
  split
  · refine pEv hn fun v hv => ?_
    split
    · rename_i b
      refine hf _ h (aop_light rfl ?_)
      simp only [lop, hv, Option.bind_some, unE, notB_eq]
    · exact hs
  · exact hs
theorem opF_ok (op : Op) : OpOK op (opF op) := by
  cases op with
  | move x => exact oMove_ok x
  | assign x => exact oAssign_ok x
  | pick c a b => exact oPick_ok c a b
  | alloc e => exact oAlloc_ok e
  | box e x => exact oBox_ok e x
  | load t x => exact oLoad_ok t x
  | store t x y => exact oStore_ok t x y
  | nilCheck x => exact oNilCheck_ok x
  | binOp op xt x y yt => exact oBin_ok op xt x y yt
  | unOp op t x => exact oUn_ok op t x
  | convert s d x => exact oConvert_ok s d x
  | fieldAddr t x i => exact oFieldAddr_ok t x i
  | indexAddr t x i => exact oIndexAddr_ok t x i
  | extract x i => exact oExtract_ok x i
  | call c => exact oCall_ok c
  | _ => exact oSlow_ok _
end Go.Ab
