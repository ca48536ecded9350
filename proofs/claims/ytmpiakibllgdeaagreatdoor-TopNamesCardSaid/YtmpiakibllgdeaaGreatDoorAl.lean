/-
  The small machine's operations that turn no memory are the model's. No statement of the seat is proved here. Conditions: none.
-/
import Derived.Test.YtmpiakibllgdeaaGreatDoorAw
import Derived.Laws.StructEq
set_option linter.unusedVariables false
set_option linter.unusedSimpArgs false
namespace Go.Ab

def GR (n : Nat) (φ : Phi) : Prop := ∀ g, g < n → ∃ p, φ g = some p ∧ p.b = g ∧ p.o = 0
theorem GR.mono {n : Nat} {φ φ' : Phi} (h : Sub φ φ') (k : GR n φ) : GR n φ' := fun g hg => let ⟨p, a, b⟩ := k g hg; ⟨p, h _ _ a, b⟩

def RhoR (φ : Phi) (ρ : Operand → Option Value) (ρ' : Operand → Value) : Prop := ∀ x v, ρ x = some v → VR φ v (ρ' x)

theorem evT_rho {E : Env} {φ : Phi} {n : Nat} {t : Tr Value} {ts : Array Value} (hg : GR E.globals φ) (ht : TmpsR φ n t ts) :
    RhoR φ (evT E n t) (Act.eval { tmps := ts, defers := [] }) := by
  intro x v h
  cases x with
  | tmp i =>
    simp only [evT] at h
    cases hb : Nat.blt i n with
    | false => simp [hb] at h
    | true =>
      simp only [hb, cond_true, Option.some.injEq] at h
      subst h
      exact ht.2.2 i (by simpa [Nat.blt_eq] using hb)
  | const v' =>
    simp only [evT] at h
    cases hb : constOk v' with
    | false => simp [hb] at h
    | true =>
      simp only [hb, cond_true, Option.some.injEq] at h
      subst h
      exact VR.const hb
  | global g =>
    simp only [evT] at h
    cases hb : Nat.blt g E.globals with
    | false => simp [hb] at h
    | true =>
      simp only [hb, cond_true, Option.some.injEq] at h
      subst h
      obtain ⟨p, h1, h2, h3⟩ := hg g (by simpa [Nat.blt_eq] using hb)
      have := VR.ptr (φ := φ) ⟨g, 0, none⟩ p rfl h1
      simpa [Act.eval, h2, h3] using this
  | func f =>
    simp only [evT, Option.some.injEq] at h
    subst h
    exact .func _ _ _ _ _ _ (.same _ rfl) .nil .nil

theorem evs_rel {φ : Phi} {ρ : Operand → Option Value} {ρ' : Operand → Value} (hr : RhoR φ ρ ρ') : ∀ (l : List Operand) {vs : List Value}, evs ρ l = some vs → VRs φ vs (l.map ρ')
  | [], vs, h => by simp [evs] at h; subst h; exact .nil
  | x :: l, vs, h => by
    simp only [evs, Option.bind_eq_some_iff, Option.some.injEq] at h
    obtain ⟨v, hv, vs', hvs, rfl⟩ := h
    exact .cons (hr x v hv) (evs_rel hr l hvs)
inductive PartsR (φ : Phi) : List (Nat × Value) → List (Nat × Value) → Prop
  | nil : PartsR φ [] []
  | cons {i : Nat} {v v' : Value} {l l' : List (Nat × Value)} : VR φ v v' → PartsR φ l l' → PartsR φ ((i, v) :: l) ((i, v') :: l')
theorem evParts_rel {φ : Phi} {ρ : Operand → Option Value} {ρ' : Operand → Value} (hr : RhoR φ ρ ρ') : ∀ (l : List (Nat × Operand)) {vs : List (Nat × Value)}, evParts ρ l = some vs →
    PartsR φ vs (l.map fun p => (p.1, ρ' p.2))
  | [], vs, h => by simp [evParts] at h; subst h; exact .nil
  | (i, x) :: l, vs, h => by
    simp only [evParts, Option.bind_eq_some_iff, Option.some.injEq] at h
    obtain ⟨v, hv, vs', hvs, rfl⟩ := h
    exact .cons (hr x v hv) (evParts_rel hr l hvs)

section
variable {E : Env} {w : World}
theorem run_und {t : TypeId} {d : TypeDesc} (h : undE E t = some d) : (underlying t).run E.P w = .ok d w := by
  unfold undE at h
  simp [underlying, h]
theorem run_size {t : TypeId} {n : Nat} (h : sizeE E t = some n) : (sizeOf t).run E.P w = .ok n w := by
  unfold sizeE at h
  cases hi : E.P.info? t with
  | none => simp [hi] at h
  | some i =>
    simp [hi] at h
    simp [sizeOf, typeInfo, hi, h]
theorem run_zero {t : TypeId} {z : Value} (h : zeroE E t = some z) : (zeroValue t).run E.P w = .ok z w ∧ constOk z = true := by
  unfold zeroE at h
  cases hi : E.P.info? t with
  | none => simp [hi] at h
  | some i =>
    simp only [hi, Option.bind_some, Option.bind_eq_some_iff] at h
    obtain ⟨v, hv, h⟩ := h
    cases hc : constOk v with
    | false => simp [hc] at h
    | true =>
      simp only [hc, cond_true, Option.some.injEq] at h
      subst h
      exact ⟨by simp [zeroValue, typeInfo, hi, hv], hc⟩
theorem run_isAgg {t : TypeId} {d : TypeDesc} (h : undE E t = some d) : (isAgg t).run E.P w = .ok (isAggD d) w := by
  simp only [isAgg, Sem.run_bind, run_und h, Result.andThen_ok]
  cases d <;> rfl

theorem add_eq (b o n : Nat) : (⟨b, o, none⟩ : Addr).add n = ⟨b, o + n, none⟩ := by
  unfold Addr.add
  split
  · simp_all
  · rfl

theorem run_part {φ : Phi} {t : TypeId} {l : List Value} {cs : Array Value} {off : Nat} {v : Value} (h : partE E t l off = some v) (hr : VRs φ l cs.toList) :
    ∃ v', (part t cs off).run E.P w = .ok v' w ∧ VR φ v v' := by
  unfold partE at h
  simp only [Option.bind_eq_some_iff] at h
  obtain ⟨d, hd, h⟩ := h
  cases ha : isAggD d with
  | true =>
    simp only [ha, cond_true, Option.bind_eq_some_iff, Option.some.injEq] at h
    obtain ⟨n, hn, m, hm, rfl⟩ := h
    refine ⟨.agg (cs.extract off (off + n)), ?_, ?_⟩
    · simp only [part, Sem.run_bind, run_isAgg hd, Result.andThen_ok, ha, if_true, run_size hn, Sem.run_pure]
    · refine .agg _ _ ?_
      have := (VRs.takeN n (VRs.drop off hr) hm).2
      simpa [List.extract] using this
  | false =>
    simp only [ha, cond_false] at h
    rw [List.head?_drop] at h
    obtain ⟨v', h1, h2⟩ := hr.get h
    refine ⟨v', ?_, h2⟩
    simp only [part, Sem.run_bind, run_isAgg hd, Result.andThen_ok, ha, Bool.false_eq_true, if_false]
    have : cs[off]? = some v' := by simpa using h1
    rw [this]; rfl
end

section
variable {E : Env} {w0 w : World} {φ : Phi} {h : AHeap}
theorem getCells_eq {b : Nat} {c : List Value × AKind} (e : getCells h b = some c) : h.t.get b = .cells c.1 c.2 := by
  unfold getCells at e
  split at e
  · rename_i hg; simp only [Option.some.injEq] at e; subst e; exact hg
  · simp at e
theorem WR.row {b : Nat} {p : Pl} {c : List Value} {k : AKind} (W : WR w0 φ h w) (hp : φ b = some p) (hc : h.t.get b = .cells c k) :
    ∃ c' e fz, w.heap[p.b]? = some (.cells c' e fz) ∧ CR φ k p c c' e fz := by
  have := W.live b p hp
  rw [hc] at this
  exact this
theorem cell_of_heap {b : Nat} {c' : Array Value} {e : TypeId} {fz : Nat × Nat} (hh : w.heap[b]? = some (.cells c' e fz)) (i : Nat) : w.cell? ⟨b, i, none⟩ = c'[i]? := by
  simp [World.cell?, hh]
theorem WR.cell {b : Nat} {p : Pl} {c : List Value} {k : AKind} (W : WR w0 φ h w) (hp : φ b = some p) (hc : h.t.get b = .cells c k) {i : Nat} {v : Value} (hi : c[i]? = some v) :
    ∃ v', w.cell? ⟨p.b, p.o + i, none⟩ = some v' ∧ VR φ v v' := by
  obtain ⟨c', e, fz, hh, C⟩ := W.row hp hc
  obtain ⟨v', h1, h2⟩ := C.cells i v hi
  exact ⟨v', by rw [cell_of_heap hh]; exact h1, h2⟩
/-- Cells that the small machine knows are loaded. -/
theorem WR.loads {b : Nat} {p : Pl} {c l : List Value} {k : AKind} {off n : Nat} (W : WR w0 φ h w) (hp : φ b = some p) (hc : h.t.get b = .cells c k) (hl : cut c off n = some l) :
    ∃ l', (loadCells ⟨p.b, p.o + off, none⟩ n).run E.P w = .ok l'.toArray w ∧ VRs φ l l' ∧ (∀ j v, l'[j]? = some v → w.cell? ⟨p.b, p.o + off + j, none⟩ = some v) := by
  obtain ⟨c', e, fz, hh, C⟩ := W.row hp hc
  obtain ⟨hle, hn⟩ := cut_eq hl
  have hlen : l.length = n := by rw [hle, List.length_take]; omega
  let l' : List Value := (c'.toList.drop (p.o + off)).take n
  have hfit := C.fits
  have hcl := C.len
  have e1 : ∀ j, j < n → l'[j]? = c'[p.o + off + j]? := fun j hj => by
    show ((c'.toList.drop (p.o + off)).take n)[j]? = _
    rw [List.getElem?_take_of_lt hj, List.getElem?_drop]
    simp
  have hlen' : l'.length = n := by
    show ((c'.toList.drop (p.o + off)).take n).length = n
    simp only [List.length_take, List.length_drop, Array.length_toList]
    simp only [List.length_drop] at hn
    omega
  have hcell : ∀ j v, l'[j]? = some v → w.cell? ⟨p.b, p.o + off + j, none⟩ = some v := fun j v hj => by
    have hjn : j < n := by
      rcases Nat.lt_or_ge j n with z | z
      · exact z
      · rw [List.getElem?_eq_none (by omega)] at hj; cases hj
    rw [cell_of_heap hh, ← e1 j hjn]; exact hj
  refine ⟨l', ?_, ?_, hcell⟩
  · have := run_loadCells_list (P := E.P) w ⟨p.b, p.o + off, none⟩ l' (fun j v hj => by rw [add_eq]; exact hcell j v hj)
    rw [hlen'] at this
    exact this
  · refine VRs.of_get _ _ (by rw [hlen, hlen']) (fun i v v' hi hi' => ?_)
    obtain ⟨hc1, hin⟩ := cut_get hl hi
    obtain ⟨u, hu1, hu2⟩ := C.cells _ _ hc1
    rw [e1 i hin] at hi'
    rw [← Nat.add_assoc] at hu1
    rw [hu1] at hi'
    cases hi'
    exact hu2
theorem run_loadVar {t : TypeId} {b off : Nat} {p : Pl} {v : Value} (W : WR w0 φ h w) (hp : φ b = some p) (hl : loadE E h t b off = some v) :
    ∃ v', (loadVar t ⟨p.b, p.o + off, none⟩).run E.P w = .ok v' w ∧ VR φ v v' := by
  unfold loadE at hl
  simp only [Option.bind_eq_some_iff] at hl
  obtain ⟨d, hd, hl⟩ := hl
  cases ha : isAggD d with
  | true =>
    simp only [ha, cond_true, Option.bind_eq_some_iff] at hl
    obtain ⟨n, hn, hl⟩ := hl
    cases n with
    | zero =>
      simp only [Option.some.injEq] at hl
      subst hl
      refine ⟨.agg #[], ?_, .agg _ _ .nil⟩
      simp only [loadVar, Sem.run_bind, run_isAgg hd, Result.andThen_ok, ha, if_true, run_size hn]
      rfl
    | succ n =>
      simp only [Option.bind_eq_some_iff, Option.some.injEq] at hl
      obtain ⟨c, hc, l, hcut, rfl⟩ := hl
      obtain ⟨l', h1, h2, _⟩ := W.loads (E := E) hp (getCells_eq hc) hcut
      refine ⟨.agg l'.toArray, ?_, .agg _ _ (by simpa using h2)⟩
      simp only [loadVar, Sem.run_bind, run_isAgg hd, Result.andThen_ok, ha, if_true, run_size hn, h1, Sem.run_pure]
  | false =>
    simp only [ha, cond_false, Option.bind_eq_some_iff] at hl
    obtain ⟨c, hc, hl⟩ := hl
    rw [List.head?_drop] at hl
    obtain ⟨v', h1, h2⟩ := W.cell hp (getCells_eq hc) hl
    refine ⟨v', ?_, h2⟩
    simp only [loadVar, Sem.run_bind, run_isAgg hd, Result.andThen_ok, ha, Bool.false_eq_true, if_false, run_load, h1]
end
end Go.Ab
