/-
  The small machine's operations that turn no memory are the model's. No statement of the seat is proved here. Conditions: none.
-/
import Derived.Test.YtmpiakibllgdeaaGreatDoorAw
import Derived.Laws.StructEq
set_option linter.unusedVariables false
set_option linter.unusedSimpArgs false
namespace Go.Ab

def GR (n : Nat) (φ : Phi) : Prop := ∀ g, g < n → ∃ p, φ g = some p ∧ p.b = g ∧ p.o = 0
theorem GR.mono {n : Nat} {φ phq : Phi} (h : Sub φ phq) (k : GR n φ) : GR n phq := fun g hg => let ⟨p, a, b⟩ := k g hg; ⟨p, h _ _ a, b⟩

def RhoR (φ : Phi) (ρ : Operand → Option Value) (rhq : Operand → Value) : Prop := ∀ x v, ρ x = some v → VR φ v (rhq x)

theorem evT_rho {E : Env} {φ : Phi} {n : Nat} {t : Tr Value} {ts : Array Value} (hg : GR E.globals φ) (ht : TmpsR φ n t ts) :
    RhoR φ (evT E n t) (Act.eval { tmps := ts, defers := [] }) := by
  intro x v h
  cases x with
  | tmp i =>
    simp only [evT] at h
    cases hb : Nat.blt i n with
    | false => simp [hb] at h
    | true =>
      simp only [hb, cond_true, Option.some.injEq] at h
      subst h
      exact ht.2.2 i (by simpa [Nat.blt_eq] using hb)
  | const v' =>
    simp only [evT] at h
    cases hb : constOk v' with
    | false => simp [hb] at h
    | true =>
      simp only [hb, cond_true, Option.some.injEq] at h
      subst h
      exact VR.const hb
  | global g =>
    simp only [evT] at h
    cases hb : Nat.blt g E.globals with
    | false => simp [hb] at h
    | true =>
      simp only [hb, cond_true, Option.some.injEq] at h
      subst h
      obtain ⟨p, h1, h2, h3⟩ := hg g (by simpa [Nat.blt_eq] using hb)
      have := VR.ptr (φ := φ) ⟨g, 0, none⟩ p rfl h1
      simpa [Act.eval, h2, h3] using this
  | func f =>
    simp only [evT, Option.some.injEq] at h
    subst h
    exact .func _ _ _ _ _ _ (.same _ rfl) .nil .nil

theorem evs_rel {φ : Phi} {ρ : Operand → Option Value} {rhq : Operand → Value} (hr : RhoR φ ρ rhq) : ∀ (l : List Operand) {vs : List Value}, evs ρ l = some vs → VRs φ vs (l.map rhq)
  | [], vs, h => by simp [evs] at h; subst h; exact .nil
  | x :: l, vs, h => by
    simp only [evs, Option.bind_eq_some_iff, Option.some.injEq] at h
    obtain ⟨v, hv, vs', hvs, rfl⟩ := h
    exact .cons (hr x v hv) (evs_rel hr l hvs)
inductive PartsR (φ : Phi) : List (Nat × Value) → List (Nat × Value) → Prop
  | nil : PartsR φ [] []
  | cons {i : Nat} {v v' : Value} {l l' : List (Nat × Value)} : VR φ v v' → PartsR φ l l' → PartsR φ ((i, v) :: l) ((i, v') :: l')
theorem evParts_rel {φ : Phi} {ρ : Operand → Option Value} {rhq : Operand → Value} (hr : RhoR φ ρ rhq) : ∀ (l : List (Nat × Operand)) {vs : List (Nat × Value)}, evParts ρ l = some vs →
    PartsR φ vs (l.map fun p => (p.1, rhq p.2))
  | [], vs, h => by simp [evParts] at h; subst h; exact .nil
  | (i, x) :: l, vs, h => by
    simp only [evParts, Option.bind_eq_some_iff, Option.some.injEq] at h
    obtain ⟨v, hv, vs', hvs, rfl⟩ := h
    exact .cons (hr x v hv) (evParts_rel hr l hvs)

section
variable {E : Env} {w : World}
theorem run_und {t : TypeId} {d : TypeDesc} (h : undE E t = some d) : (underlying t).run E.P w = .ok d w := by
  unfold undE at h
  simp [underlying, h]
theorem run_size {t : TypeId} {n : Nat} (h : sizeE E t = some n) : (sizeOf t).run E.P w = .ok n w := by
  unfold sizeE at h
  cases hi : E.P.info? t with
  | none => simp [hi] at h
  | some i =>
    simp [hi] at h
    simp [sizeOf, typeInfo, hi, h]
theorem run_zero {t : TypeId} {z : Value} (h : zeroE E t = some z) : (zeroValue t).run E.P w = .ok z w ∧ constOk z = true := by
  unfold zeroE at h
  cases hi : E.P.info? t with
  | none => simp [hi] at h
  | some i =>
    simp only [hi, Option.bind_some, Option.bind_eq_some_iff] at h
    obtain ⟨v, hv, h⟩ := h
    cases hc : constOk v with
    | false => simp [hc] at h
    | true =>
      simp only [hc, cond_true, Option.some.injEq] at h
      subst h
      exact ⟨by simp [zeroValue, typeInfo, hi, hv], hc⟩
theorem run_isAgg {t : TypeId} {d : TypeDesc} (h : undE E t = some d) : (isAgg t).run E.P w = .ok (isAggD d) w := by
  simp only [isAgg, Sem.run_bind, run_und h, Result.andThen_ok]
  cases d <;> rfl

theorem add_eq (b o n : Nat) : (⟨b, o, none⟩ : Addr).add n = ⟨b, o + n, none⟩ := by
  unfold Addr.add
  split
  · simp_all
  · rfl

theorem run_part {φ : Phi} {t : TypeId} {l : List Value} {cs : Array Value} {off : Nat} {v : Value} (h : partE E t l off = some v) (hr : VRs φ l cs.toList) :
    ∃ v', (part t cs off).run E.P w = .ok v' w ∧ VR φ v v' := by
  unfold partE at h
  simp only [Option.bind_eq_some_iff] at h
  obtain ⟨d, hd, h⟩ := h
  cases ha : isAggD d with
  | true =>
    simp only [ha, cond_true, Option.bind_eq_some_iff, Option.some.injEq] at h
    obtain ⟨n, hn, m, hm, rfl⟩ := h
    refine ⟨.agg (cs.extract off (off + n)), ?_, ?_⟩
    · simp only [part, Sem.run_bind, run_isAgg hd, Result.andThen_ok, ha, if_true, run_size hn, Sem.run_pure]
    · refine .agg _ _ ?_
      have := (VRs.takeN n (VRs.drop off hr) hm).2
      simpa [List.extract] using this
  | false =>
    simp only [ha, cond_false] at h
    rw [List.head?_drop] at h
    obtain ⟨v', h1, h2⟩ := hr.get h
    refine ⟨v', ?_, h2⟩
    simp only [part, Sem.run_bind, run_isAgg hd, Result.andThen_ok, ha, Bool.false_eq_true, if_false]
    have : cs[off]? = some v' := by simpa using h1
    rw [this]; rfl
end

section
variable {E : Env} {w0 w : World} {φ : Phi} {h : AHeap}
theorem getCells_eq {b : Nat} {c : List Value × AKind} (e : getCells h b = some c) : h.t.get b = .cells c.1 c.2 := by
  unfold getCells at e
  split at e
  · rename_i hg; simp only [Option.some.injEq] at e; subst e; exact hg
  · simp at e
theorem WR.row {b : Nat} {p : Pl} {c : List Value} {k : AKind} (W : WR w0 φ h w) (hp : φ b = some p) (hc : h.t.get b = .cells c k) :
    ∃ c' e fz, w.heap[p.b]? = some (.cells c' e fz) ∧ CR φ k p c c' e fz := by
  have := W.live b p hp
  rw [hc] at this
  exact this
theorem cell_of_heap {b : Nat} {c' : Array Value} {e : TypeId} {fz : Nat × Nat} (hh : w.heap[b]? = some (.cells c' e fz)) (i : Nat) : w.cell? ⟨b, i, none⟩ = c'[i]? := by
  simp [World.cell?, hh]
theorem WR.cell {b : Nat} {p : Pl} {c : List Value} {k : AKind} (W : WR w0 φ h w) (hp : φ b = some p) (hc : h.t.get b = .cells c k) {i : Nat} {v : Value} (hi : c[i]? = some v) :
    ∃ v', w.cell? ⟨p.b, p.o + i, none⟩ = some v' ∧ VR φ v v' := by
  obtain ⟨c', e, fz, hh, C⟩ := W.row hp hc
  obtain ⟨v', h1, h2⟩ := C.cells i v hi
  exact ⟨v', by rw [cell_of_heap hh]; exact h1, h2⟩
/-- Cells that the small machine knows are loaded. -/
theorem WR.loads {b : Nat} {p : Pl} {c l : List Value} {k : AKind} {off n : Nat} (W : WR w0 φ h w) (hp : φ b = some p) (hc : h.t.get b = .cells c k) (hl : cut c off n = some l) :
    ∃ l', (loadCells ⟨p.b, p.o + off, none⟩ n).run E.P w = .ok l'.toArray w ∧ VRs φ l l' ∧ (∀ j v, l'[j]? = some v → w.cell? ⟨p.b, p.o + off + j, none⟩ = some v) := by
  obtain ⟨c', e, fz, hh, C⟩ := W.row hp hc
  obtain ⟨hle, hn⟩ := cut_eq hl
  have hlen : l.length = n := by rw [hle, List.length_take]; omega
  let l' : List Value := (c'.toList.drop (p.o + off)).take n
  have hfit := C.fits
  have hcl := C.len
  have e1 : ∀ j, j < n → l'[j]? = c'[p.o + off + j]? := fun j hj => by
    show ((c'.toList.drop (p.o + off)).take n)[j]? = _
    rw [List.getElem?_take_of_lt hj, List.getElem?_drop]
    simp
  have hlen' : l'.length = n := by
    show ((c'.toList.drop (p.o + off)).take n).length = n
    simp only [List.length_take, List.length_drop, Array.length_toList]
    simp only [List.length_drop] at hn
    omega
  have hcell : ∀ j v, l'[j]? = some v → w.cell? ⟨p.b, p.o + off + j, none⟩ = some v := fun j v hj => by
    have hjn : j < n := by
      rcases Nat.lt_or_ge j n with z | z
      · exact z
      · rw [List.getElem?_eq_none (by omega)] at hj; cases hj
    rw [cell_of_heap hh, ← e1 j hjn]; exact hj
  refine ⟨l', ?_, ?_, hcell⟩
  · have := run_loadCells_list (P := E.P) w ⟨p.b, p.o + off, none⟩ l' (fun j v hj => by rw [add_eq]; exact hcell j v hj)
    rw [hlen'] at this
    exact this
  · refine VRs.of_get _ _ (by rw [hlen, hlen']) (fun i v v' hi hi' => ?_)
    obtain ⟨hc1, hin⟩ := cut_get hl hi
    obtain ⟨u, hu1, hu2⟩ := C.cells _ _ hc1
    rw [e1 i hin] at hi'
    rw [← Nat.add_assoc] at hu1
    rw [hu1] at hi'
    cases hi'
    exact hu2
theorem run_loadVar {t : TypeId} {b off : Nat} {p : Pl} {v : Value} (W : WR w0 φ h w) (hp : φ b = some p) (hl : loadE E h t b off = some v) :
    ∃ v', (loadVar t ⟨p.b, p.o + off, none⟩).run E.P w = .ok v' w ∧ VR φ v v' := by
  unfold loadE at hl
  simp only [Option.bind_eq_some_iff] at hl
  obtain ⟨d, hd, hl⟩ := hl
  cases ha : isAggD d with
  | true =>
    simp only [ha, cond_true, Option.bind_eq_some_iff] at hl
    obtain ⟨n, hn, hl⟩ := hl
    cases n with
    | zero =>
      simp only [Option.some.injEq] at hl
      subst hl
      refine ⟨.agg #[], ?_, .agg _ _ .nil⟩
      simp only [loadVar, Sem.run_bind, run_isAgg hd, Result.andThen_ok, ha, if_true, run_size hn]
      rfl
    | succ n =>
      simp only [Option.bind_eq_some_iff, Option.some.injEq] at hl
      obtain ⟨c, hc, l, hcut, rfl⟩ := hl
      obtain ⟨l', h1, h2, _⟩ := W.loads (E := E) hp (getCells_eq hc) hcut
      refine ⟨.agg l'.toArray, ?_, .agg _ _ (by simpa using h2)⟩
      simp only [loadVar, Sem.run_bind, run_isAgg hd, Result.andThen_ok, ha, if_true, run_size hn, h1, Sem.run_pure]
  | false =>
    simp only [ha, cond_false, Option.bind_eq_some_iff] at hl
    obtain ⟨c, hc, hl⟩ := hl
    rw [List.head?_drop] at hl
    obtain ⟨v', h1, h2⟩ := W.cell hp (getCells_eq hc) hl
    refine ⟨v', ?_, h2⟩
    simp only [loadVar, Sem.run_bind, run_isAgg hd, Result.andThen_ok, ha, Bool.false_eq_true, if_false, run_load, h1]
end
end Go.Ab

/-
  The small machine's operations that turn no memory are the model's: operators. No statement of the seat is proved here. Conditions: none.
-/
set_option linter.unusedVariables false
set_option linter.unusedSimpArgs false
namespace Go.Ab
section
variable {E : Env} {w0 w : World} {φ : Phi} {h : AHeap}

theorem run_intOp {op : BinOp} {k : IntKind} {a b : Int} {v : Value} {xt : TypeId} (h1 : op ≠ .shl) (h2 : op ≠ .shr) (e : intOp op k a b = some v) :
    (binOp op xt (.int k a) (.int k b)).run E.P w = .ok v w ∧ VR φ v v := by
  cases op <;> simp only [intOp, Option.some.injEq, reduceCtorEq] at e <;>
    first
    | exact absurd rfl h1
    | exact absurd rfl h2
    | (subst e; exact ⟨by simp [binOp, Op.intArith, Op.intBits, Op.intCmp], .atom _ rfl⟩)
    | (split at e
       · cases e
       · rename_i hb
         simp only [Option.some.injEq] at e
         subst e
         exact ⟨by simp [binOp, Op.intDiv, hb], .atom _ rfl⟩)

theorem run_shiftE {op : BinOp} {k k' : IntKind} {a b : Int} {v : Value} {xt : TypeId} (hop : op = .shl ∨ op = .shr) (e : shiftE op k a b = some v) :
    (binOp op xt (.int k a) (.int k' b)).run E.P w = .ok v w ∧ VR φ v v := by
  unfold shiftE at e
  split at e
  · cases e
  · rename_i hb
    rcases hop with rfl | rfl <;> simp only [Option.some.injEq] at e <;> subst e <;> exact ⟨by simp [binOp, Op.shift, hb], .atom _ rfl⟩

theorem eqU_eq : ∀ (l m : List UInt8), eqU l m = (l == m)
  | [], [] => rfl
  | [], _ :: _ => rfl
  | _ :: _, [] => rfl
  | a :: r, b :: s => by
    have e : Nat.beq a.toNat b.toNat = (a == b) := by
      rw [Bool.eq_iff_iff]
      simp only [Nat.beq_eq, beq_iff_eq]
      exact ⟨fun h => UInt8.toNat_inj.1 h, fun h => by rw [h]⟩
    simp only [eqU, e, eqU_eq r s]
    rfl
theorem eqU_str (a b : ByteArray) : eqU a.data.toList b.data.toList = (a.toList == b.toList) := by
  rw [eqU_eq, ByteArray.toList_eq, ByteArray.toList_eq]
theorem run_strOp {op : BinOp} {a b : ByteArray} {v : Value} {xt : TypeId} (e : strOp op a b = some v) :
    (binOp op xt (.string a) (.string b)).run E.P w = .ok v w ∧ VR φ v v := by
  cases op <;> simp only [strOp, eqU_str, Option.some.injEq, reduceCtorEq] at e <;>
    first
    | (subst e; exact ⟨by simp [binOp, Op.stringOp], .atom _ rfl⟩)
    | (split at e
       · cases e
       · rename_i hb
         simp only [Option.some.injEq] at e
         subst e
         exact ⟨by simp only [binOp, Op.stringOp, hb, if_false, Sem.run_pure], .atom _ rfl⟩)

theorem stringish_var {x : Addr} {c' : Array Value} {e : TypeId} {fz : Nat × Nat} (hh : w.heap[x.block]? = some (.cells c' e fz)) (hf : fz.2 ≤ fz.1) :
    w.frozen? x = false ∧ (stringish x).run E.P w = .ok false w ∧ w.shape? x.block = some (e, c'.size) := by
  have e1 : ∀ o, w.frozen? ⟨x.block, o, none⟩ = false := fun o => by simp [World.frozen?, hh]; omega
  have e0 : w.frozen? x = false := by simp [World.frozen?, hh]; omega
  have e2 : w.shape? x.block = some (e, c'.size) := by simp [World.shape?, hh]
  refine ⟨e0, ?_, e2⟩
  simp only [stringish, Sem.run_bind, run_frozen, Result.andThen_ok, e0, Bool.false_eq_true, if_false, Sem.run_ite, run_shape, e2, e1, Sem.run_pure]

theorem noView_row {x : Addr} {c' : Array Value} {e : TypeId} {fz : Nat × Nat} (hh : w.heap[x.block]? = some (.cells c' e fz)) : (noView x).run E.P w = .ok () w := by
  have e2 : w.shape? x.block = some (e, c'.size) := by simp [World.shape?, hh]
  simp [noView, viewAt, e2]

theorem run_sameAddr {a b : Addr} {p q : Pl} {t : Bool} (W : WR w0 φ h w) (ha : a.spot = none) (hb : b.spot = none) (hp : φ a.block = some p) (hq : φ b.block = some q)
    (e : samePtrE h a b = some t) : (sameAddr ⟨p.b, p.o + a.off, none⟩ ⟨q.b, q.o + b.off, none⟩).run E.P w = .ok t w := by
  unfold samePtrE at e
  cases hbl : Nat.beq a.block b.block with
  | true =>
    simp only [hbl, cond_true, Option.some.injEq] at e
    have : a.block = b.block := by simpa using hbl
    rw [this, hq] at hp
    cases hp
    subst e
    simp only [sameAddr, beq_self_eq_true, if_true, Sem.run_ite, Sem.run_pure]
    congr 1
    cases hx : Nat.beq a.off b.off with
    | true => simp at hx; simp [hx]
    | false =>
      have : a.off ≠ b.off := fun e => by rw [e] at hx; simp at hx
      simpa using this
  | false =>
    simp only [hbl, cond_false] at e
    have hne : a.block ≠ b.block := fun e => by rw [e] at hbl; simp at hbl
    split at e
    · rename_i c1 l1 t1 c2 l2 t2 g1 g2
      simp only [Option.some.injEq] at e
      subst e
      obtain ⟨c1', e1, f1, hh1, C1⟩ := W.row hp g1
      obtain ⟨c2', e2, f2, hh2, C2⟩ := W.row hq g2
      obtain ⟨_, _, o1, s1, r1, z1⟩ := C1.kind
      obtain ⟨_, _, o2, s2, r2, z2⟩ := C2.kind
      have hb' : p.b ≠ q.b := by
        exact W.disj _ _ p q hne hp hq (by rw [g1]; rfl) (by rw [g2]; rfl)
      obtain ⟨x1, x2, x3⟩ := stringish_var (E := E) (w := w) (x := ⟨p.b, p.o + a.off, none⟩) hh1 z1
      obtain ⟨y1, y2, y3⟩ := stringish_var (E := E) (w := w) (x := ⟨q.b, q.o + b.off, none⟩) hh2 z2
      have v1 := noView_row (E := E) (w := w) (x := ⟨p.b, p.o + a.off, none⟩) hh1
      have v2 := noView_row (E := E) (w := w) (x := ⟨q.b, q.o + b.off, none⟩) hh2
      have hbe : ((p.b == q.b) = true) = False := by simp [hb']
      have m : (mayBeOne ⟨p.b, p.o + a.off, none⟩ ⟨q.b, q.o + b.off, none⟩).run E.P w = .ok false w := by
        simp only [mayBeOne, Sem.run_bind, x2, y2, Result.andThen_ok, run_shape, Sem.run_pure, Bool.false_and, Bool.or_self]
      simp only [sameAddr, hbe, if_false, Sem.run_ite, Sem.run_bind, run_frozen, Result.andThen_ok, x1, Bool.false_and, Bool.false_eq_true, v1, v2, m, Sem.run_pure, y1]
    · cases e

theorem allFields_run {D : Nat} {xs ys : List Value} {xs' ys' : Array Value} (hx : VRs φ xs xs'.toList) (hy : VRs φ ys ys'.toList) (eq : TypeId → Value → Value → Option Bool)
    (ih : ∀ t x y x' y' b, VR φ x x' → VR φ y y' → eq t x y = some b → (Op.equalIn D t x' y').run E.P w = .ok b w) : ∀ (fs : List Field) (b : Bool),
    allFields eq (fun t off => (partE E t xs off).bind fun a => (partE E t ys off).bind fun b => some (a, b)) fs = some b →
    (Op.eqFields D xs' ys' fs).run E.P w = .ok b w
  | [], b, e => by simp [allFields] at e; subst e; rfl
  | f :: fs, b, e => by
    unfold allFields at e
    unfold Op.eqFields
    split at e
    · rename_i hn
      simp only [hn, ne_eq, not_true, if_false]
      exact allFields_run hx hy eq ih fs b e
    · rename_i hn
      simp only [ne_eq, hn, not_false_eq_true, if_true]
      simp only [Option.bind_eq_some_iff, Option.some.injEq] at e
      obtain ⟨pr, ⟨a, ha, b', hb', rfl⟩, t, ht, e⟩ := e
      obtain ⟨a', r1, v1⟩ := run_part (E := E) (w := w) ha hx
      obtain ⟨b'', r2, v2⟩ := run_part (E := E) (w := w) hb' hy
      have := ih _ _ _ _ _ _ v1 v2 ht
      simp only [Sem.run_bind, r1, r2, this, Result.andThen_ok]
      cases t with
      | true =>
        simp only [Bool.not_true, Bool.false_eq_true, if_false]
        exact allFields_run hx hy eq ih fs b e
      | false =>
        simp only [Option.some.injEq] at e
        subst e
        simp

theorem eqE_run (W : WR w0 φ h w) : ∀ (d D : Nat), d ≤ D → ∀ (t : TypeId) (x y x' y' : Value) (b : Bool), VR φ x x' → VR φ y y' → eqE E h d t x y = some b →
    (Op.equalIn D t x' y').run E.P w = .ok b w
  | 0, _, _, _, _, _, _, _, _, _, _, e => by simp [eqE] at e
  | d + 1, 0, hd, _, _, _, _, _, _, _, _, _ => by omega
  | d + 1, D + 1, hd, t, x, y, x', y', b, hx, hy, e => by
    simp only [eqE, Option.bind_eq_some_iff] at e
    obtain ⟨u, hu, e⟩ := e
    have ru := run_und (E := E) (w := w) hu
    have hu' : E.P.underlying t = some u := hu
    split at e
    · cases hx with | atom _ _ => cases hy with | atom _ _ =>
      simp only [Option.some.injEq] at e; subst e
      simp [Op.equalIn, ru]
    · cases hx with | atom _ _ => cases hy with | atom _ _ =>
      split at e
      · rename_i hk; simp only [Option.some.injEq] at e; subst e
        simp [Op.equalIn, ru, hk]
      · cases e
    · cases hx with | atom _ _ => cases hy with | atom _ _ =>
      simp only [Option.some.injEq] at e; subst e
      simp [Op.equalIn, ru]
    · cases hx with | atom _ _ => cases hy with | atom _ _ =>
      simp only [Option.some.injEq] at e; subst e
      simp [Op.equalIn, ru]
    · cases hx with | atom _ _ => cases hy with
      | atom _ k => simp [atom] at k
      | ptr _ _ _ _ =>
      simp only [Option.some.injEq] at e; subst e
      simp [Op.equalIn, ru]
    · cases hy with | atom _ _ => cases hx with
      | atom _ k => simp [atom] at k
      | ptr _ _ _ _ =>
      simp only [Option.some.injEq] at e; subst e
      simp [Op.equalIn, ru]
    · simp only [Option.bind_eq_some_iff] at e
      obtain ⟨n, hn, e⟩ := e
      cases hz : (Nat.beq n 0 || _ || _) with
      | true => rw [hz] at e; simp at e
      | false =>
        rw [hz] at e
        simp only [cond_false] at e
        cases hx with
        | atom _ k => simp [atom] at k
        | ptr a p s1 h1 =>
          cases hy with
          | atom _ k => simp [atom] at k
          | ptr b q s2 h2 =>
            have hn0 : n ≠ 0 := fun k => by subst k; simp at hz
            have := run_sameAddr (E := E) W s1 s2 h1 h2 e
            simp only [Op.equalIn, Sem.run_bind, ru, Result.andThen_ok, run_size hn, ne_eq, hn0, not_false_eq_true, if_true, Sem.run_ite, this]
    · cases hx with | atom _ _ => cases hy with | atom _ _ =>
      simp only [Option.some.injEq] at e; subst e
      simp [Op.equalIn, ru]
    · cases hx with | atom _ _ => cases hy with
      | atom _ k => simp [atom] at k
      | iface _ _ _ _ =>
      simp only [Option.some.injEq] at e; subst e
      simp [Op.equalIn, ru]
    · cases hy with | atom _ _ => cases hx with
      | atom _ k => simp [atom] at k
      | iface _ _ _ _ =>
      simp only [Option.some.injEq] at e; subst e
      simp [Op.equalIn, ru]
    · rename_i fields xs ys
      split at e
      · cases e
      · rename_i hs
        cases hx with
        | atom _ k => simp [atom] at k
        | agg _ xs' h1 =>
          cases hy with
          | atom _ k => simp [atom] at k
          | agg _ ys' h2 =>
            have hf : E.P.fieldsOf t = fields := by simp [Program.fieldsOf, hu']
            rw [run_equalIn_struct w D t xs' ys' (by rw [hf]; exact hu') (by simpa using hs), hf]
            exact allFields_run h1 h2 (eqE E h d) (fun t x y x' y' b hx hy e => eqE_run W d D (by omega) t x y x' y' b hx hy e) _ _ e
    · cases hx with | atom _ k => cases hy with | atom _ k' =>
      simp only [Option.some.injEq] at e; subst e
      simp [Op.equalIn, ru]
    · cases hx with | atom _ _ => cases hy with
      | atom _ k => simp [atom] at k
      | slice _ _ _ _ _ _ _ _ =>
        simp only [Option.some.injEq] at e; subst e
        simp [Op.equalIn, ru]
      | junk _ _ =>
        simp only [Option.some.injEq] at e; subst e
        simp [Op.equalIn, ru]
    · cases hy with | atom _ _ => cases hx with
      | atom _ k => simp [atom] at k
      | slice _ _ _ _ _ _ _ _ =>
        simp only [Option.some.injEq] at e; subst e
        simp [Op.equalIn, ru]
      | junk _ _ =>
        simp only [Option.some.injEq] at e; subst e
        simp [Op.equalIn, ru]
    · cases hx with | atom _ _ => cases hy with | atom _ _ =>
      simp only [Option.some.injEq] at e; subst e
      simp [Op.equalIn, ru]
    · cases hx with | atom _ _ => cases hy with
      | atom _ k => simp [atom] at k
      | map _ _ _ =>
      simp only [Option.some.injEq] at e; subst e
      simp [Op.equalIn, ru]
    · cases hy with | atom _ _ => cases hx with
      | atom _ k => simp [atom] at k
      | map _ _ _ =>
      simp only [Option.some.injEq] at e; subst e
      simp [Op.equalIn, ru]
    · cases e
end
end Go.Ab
