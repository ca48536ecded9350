/-
  Regions that draw their order: what the model does of what was done ahead, and the first operation that turns memory. No statement of the seat is proved here. Conditions: none.
-/
import Derived.Test.YtmpiakibllgdeaaGreatDoorBk
set_option linter.unusedVariables false
set_option linter.unusedSimpArgs false
namespace Go.Ab

theorem beq_iff {i j : Nat} : Nat.beq i j = true ↔ i = j := ⟨Nat.eq_of_beq_eq_true, fun h => by subst h; simp⟩
theorem memN_mem {i : Nat} : ∀ {l : List Nat}, memN i l = true ↔ i ∈ l
  | [] => by simp [memN]
  | j :: l => by simp only [memN, Bool.or_eq_true, List.mem_cons, memN_mem (l := l), beq_iff]

section
variable {ops : Array Oper}
theorem regionOk_reads (h : regionOk ops = true) {i j : Nat} {o p : Oper} {d : Tmp} (ho : ops[i]? = some o) (hp : ops[j]? = some p) (hd : p.dst = some d) (hm : memN d (tmpsOf o.op.operands.toList) = true) : Before ops i j := by
  have k := regionOk_at h ho
  unfold opOk at k
  simp only [Bool.and_eq_true, List.all_eq_true] at k
  have := k.1.2 (j, p) ((numbered_mem _ _ _ _).2 ⟨Nat.zero_le _, by simpa using hp⟩)
  simp only [hd, Bool.and_eq_true] at this
  have h2 := this.1.1.2
  have hc : (tmpsOf o.op.operands.toList).contains d = true := by simpa using memN_mem.1 hm
  rw [hc] at h2
  exact masks_sound (by simpa using h2)
theorem regionOk_firm (h : regionOk ops = true) {i j : Nat} {o p : Oper} (ho : ops[i]? = some o) (hp : ops[j]? = some p) (hl : j < i) (h1 : firm o.op = true) (h2 : firm p.op = true) : Before ops i j := by
  have k := regionOk_at h ho
  unfold opOk at k
  simp only [Bool.and_eq_true, List.all_eq_true] at k
  have := k.1.2 (j, p) ((numbered_mem _ _ _ _).2 ⟨Nat.zero_le _, by simpa using hp⟩)
  simp only [Bool.and_eq_true] at this
  have h3 := this.1.2
  have hb : Nat.ble i j = false := by rw [Bool.eq_false_iff]; intro z; have := Nat.le_of_ble_eq_true z; omega
  simp only [hb, h1, h2, Bool.not_true, Bool.or_self, Bool.false_or] at h3
  exact masks_sound h3
theorem regionOk_alloc (h : regionOk ops = true) {i j : Nat} {o p : Oper} (ho : ops[i]? = some o) (hp : ops[j]? = some p) (h1 : isAlloc o.op = true) (h2 : isAlloc p.op = true) : j = i := by
  have k := regionOk_at h ho
  unfold opOk at k
  simp only [Bool.and_eq_true, List.all_eq_true] at k
  have := k.1.2 (j, p) ((numbered_mem _ _ _ _).2 ⟨Nat.zero_le _, by simpa using hp⟩)
  simp only [Bool.and_eq_true] at this
  have h3 := this.2
  simp only [h1, h2, Bool.not_true, Bool.or_false] at h3
  exact Nat.eq_of_beq_eq_true h3
theorem regionOk_guard (h : regionOk ops = true) {i j : Nat} {o : Oper} {want : Bool} (ho : ops[i]? = some o) (hg : o.guard = some (j, want)) : Before ops i j := by
  have k := regionOk_at h ho
  unfold opOk at k
  simp only [Bool.and_eq_true] at k
  have h2 := k.2
  simp only [hg, Bool.and_eq_true] at h2
  exact masks_sound h2.1
theorem regionOk_edge (h : regionOk ops = true) {i : Nat} {o : Oper} {e : Edge} (ho : ops[i]? = some o) (hd : Deps o e) : e.on < i := by
  have k := regionOk_at h ho
  unfold opOk at k
  simp only [Bool.and_eq_true] at k
  have h2 := k.1.1
  unfold edgesOk at h2
  rw [List.all_eq_true] at h2
  have := h2 e hd.1
  rw [hd.2] at this
  simpa [Nat.blt_eq] using this
end

section
variable {E : Env} {w0 w : World} {φ phq : Phi} {h h' : AHeap} {lo hi : Nat} {ops : Array Oper} {left done : List (Nat × Oper)} {mask n : Nat} {t : Tr Value} {ts : Array Value} {l l' : List Nat} {i : Nat} {o : Oper}

theorem evR_rho {ds : List Deferred} (G : GR E.globals φ) (ht : ∀ d : Nat, d < n → memN d (tmpsOf o.op.operands.toList) = true → VR φ (t.get d) (ts.getD d undef)) :
    RhoR φ (evR E n t o) (Act.eval { tmps := ts, defers := ds }) := by
  have base := evT_rho (E := E) (φ := φ) (n := 0) (t := Tr.mk (tDepth 0) undef) (ts := #[]) G ⟨Full.mk _ _, rfl, fun i hi => absurd hi (Nat.not_lt_zero i)⟩
  intro x v hx
  cases x with
  | tmp i =>
    simp only [evR] at hx
    cases hm : memN i (tmpsOf o.op.operands.toList) with
    | false => simp [hm] at hx
    | true =>
      simp only [hm, cond_true, evT] at hx
      cases hb : Nat.blt i n with
      | false => simp [hb] at hx
      | true =>
        simp only [hb, cond_true, Option.some.injEq] at hx
        subst hx
        exact ht i (by simpa [Nat.blt_eq] using hb) hm
  | const v' => exact base (.const v') v hx
  | global g => exact base (.global g) v hx
  | func f => exact base (.func f) v hx

theorem DrawR.head_reads (D : DrawR φ lo hi ops left done mask n t ts (i :: l')) (ho : ops[i]? = some o) : ∀ d : Nat, d < n → memN d (tmpsOf o.op.operands.toList) = true → VR φ (t.get d) (ts.getD d undef) :=
  fun d hdn hm => D.tmps d hdn fun j hj p hp hd => D.before_head (regionOk_reads D.ok ho hp hd hm) hj
theorem DrawR.head_wanted (D : DrawR φ lo hi ops left done mask n t ts (i :: l')) (ho : ops[i]? = some o) {b : Bool} (e : wantedE ops n t o = some b) : Region.wanted o (yielded ops ts) = b :=
  wanted_rel D.size (fun j want g d hg hj hd hdn => D.tmps d hdn fun j' hj' p hp hpd => by
    have := regionOk_dst D.ok hj hp hd hpd
    subst this
    exact D.before_head (regionOk_guard D.ok ho hg) hj') e

/-- The model has done what was done ahead. -/
theorem DrawR.tail (D : DrawR φ lo hi ops left done mask n t ts (i :: l')) (hio : (i, o) ∈ done) (hs : Sub φ phq) {v' : Value} (hv : ∀ d : Nat, o.dst = some d → d < n → VR phq (t.get d) v')
    (hg : ∀ p ∈ done, p.1 ∈ l' → isAlloc p.2.op = true → ∀ d a, p.2.dst = some d → d < n → t.get d = .pointer (some a) → phq a.block = none ∧ lo ≤ a.block ∧ a.block < hi) :
    DrawR phq lo hi ops left done mask n t (putDst ts o.dst v') l' := by
  have ho : ops[i]? = some o := D.mem (i, o) (.inr hio)
  refine { ok := D.ok, full := D.full, size := ?_, mem := D.mem, all := D.all, sep := D.sep, sorted := D.sorted, nodup := (List.nodup_cons.1 D.nodup).2, lt := fun j hj => D.lt j (by simp [hj]), leftIn := fun p hp => ?_,
           valid := fun l1 x l2 hl oo hoo e he => D.valid (i :: l1) x l2 (by simp [hl]) oo hoo e he, down := fun x hx hxl oo hoo e he => ?_, tmps := fun d hdn hj => ?_, mask := fun j hj z => D.mask j hj (by simp [z]), ghost := hg }
  · have := D.size
    cases o.dst <;> simp [putDst, this]
  · have := D.leftIn p hp
    rcases List.mem_cons.1 this with z | z
    · exfalso
      have hpo := D.mem p (.inl hp)
      rw [z, ho] at hpo
      have : p = (i, o) := Prod.ext z (Option.some.inj hpo).symm
      rw [this] at hp
      exact D.sep i o o hp hio
    · exact z
  · by_cases hxi : x = i
    · subst hxi
      have := D.valid [] x l' rfl oo hoo e he
      exact fun z => this (by simp [z])
    · have := D.down x hx (by simp [hxi, hxl]) oo hoo e he
      exact fun z => this (by simp [z])
  · by_cases hod : o.dst = some d
    · have hz : d < ts.size := by have := D.size; omega
      simp only [hod, putDst, Array.getD_eq_getD_getElem?, Array.getElem?_setIfInBounds_self_of_lt hz, Option.getD_some]
      exact hv d hod hdn
    · have : (putDst ts o.dst v').getD d undef = ts.getD d undef := by
        cases hdst : o.dst with
        | none => simp [putDst]
        | some d' =>
          have hdd : d' ≠ d := fun z => hod (by rw [hdst, z])
          simp [putDst, Array.getD_eq_getD_getElem?, Array.getElem?_setIfInBounds_ne hdd]
      rw [this]
      refine (D.tmps d hdn fun j hjl oo hoo => ?_).mono hs
      rcases List.mem_cons.1 hjl with rfl | hjl
      · rw [ho] at hoo; cases hoo; exact hod
      · exact hj j hjl oo hoo

theorem finish_put {fn : FuncId} {k : List Item} {ds : List Deferred} {kind : CallKind} {r : Option Nat} {v : Value} (ho : ops[i]? = some o) :
    (fRun fn ts (.inRegion ops (i :: l') :: k) ds kind r).finish v = fRun fn (putDst ts o.dst v) (.inRegion ops l' :: k) ds kind r := by
  cases hdst : o.dst <;> simp [Frame.finish, ho, hdst, putDst]

/-- Below the bound nothing new is known. -/
def Same (lo : Nat) (φ phq : Phi) : Prop := Sub φ phq ∧ ∀ a, a < lo → phq a = φ a

theorem head_done {fn : FuncId} {k : List Item} {ds : List Deferred} {kind : CallKind} {r : Option Nat} {cs : List Frame} (W : WR w0 φ h w) (G : GR E.globals φ) (D : DrawR φ lo h.next ops left done mask n t ts (i :: l')) (hio : (i, o) ∈ done)
    (hc : checkOne E ops n t h o = true) :
    ∃ phq w' ts', step E.P (lone (fRun fn ts (.inRegion ops (i :: l') :: k) ds kind r) cs w) = .next (lone (fRun fn ts' (.inRegion ops l' :: k) ds kind r) cs w') ∧ WR w0 phq h w' ∧ Same lo φ phq ∧ DrawR phq lo h.next ops left done mask n t ts' l' := by
  have ho : ops[i]? = some o := D.mem (i, o) (.inr hio)
  have ghosts : ∀ p ∈ done, p.1 ∈ l' → isAlloc p.2.op = true → ∀ d a, p.2.dst = some d → d < n → t.get d = .pointer (some a) → φ a.block = none ∧ lo ≤ a.block ∧ a.block < h.next :=
    fun p hp hl ha d a hd hdn hv => D.ghost p hp (by simp [hl]) ha d a hd hdn hv
  unfold checkOne at hc
  split at hc
  · rename_i hwd
    have hw := D.head_wanted ho hwd
    cases hl : light o.op with
    | true =>
      simp only [hl, cond_true] at hc
      split at hc
      · rename_i v d hv hd
        simp only [Bool.and_eq_true] at hc
        have he := eqOne_eq hc.2
        obtain ⟨v', run, V⟩ := lop_sound (E := E) (o := o) W (evR_rho (ds := ds) G (D.head_reads ho)) hv
        refine ⟨φ, w, putDst ts o.dst v', ?_, W, ⟨Sub.refl φ, fun _ _ => rfl⟩, D.tail hio (Sub.refl φ) (fun d' hd' hdn => ?_) ghosts⟩
        · rw [← finish_put ho]
          exact st_value ho hw (.inr fun c z => by rw [z] at hl; simp [light] at hl) run
        · rw [hd] at hd'; cases hd'
          rw [← he]; exact V
      · cases hc
    | false =>
      simp only [hl, cond_false] at hc
      split at hc
      · rename_i e d hop hd
        simp only [Bool.and_eq_true] at hc
        obtain ⟨hdn, hc⟩ := hc
        split at hc
        · rename_i z a hz ht
          split at hc
          · rename_i c e' hs ho0 hg
            simp only [Bool.and_eq_true] at hc
            obtain ⟨h1, h2⟩ := hc
            have h1 := Nat.eq_of_beq_eq_true h1
            have h2 := eqAtoms_eq h2
            subst h1
            have rz := run_zero (E := E) (w := w) hz
            obtain ⟨g1, g2, g3⟩ := D.ghost (i, o) hio (by simp) (by rw [hop]; rfl) d a hd (by simpa [Nat.blt_eq] using hdn) ht
            obtain ⟨W1, S1⟩ := W.realise g1 g3 hg (c' := z.cells) (by rw [h2]; exact (VR.const rz.2 : VR φ z z).cells)
            have rn : (newVar e z).run E.P w = .ok ⟨w.heap.size, 0, none⟩ (World.pushed w (.cells z.cells e)) := rfl
            have run : (execOp (Act.eval { tmps := ts, defers := ds }) o).run E.P w = .ok (.value (.pointer (some ⟨w.heap.size, 0, none⟩))) (World.pushed w (.cells z.cells e)) := by
              simp only [execOp, hop, Instr.alloc, Sem.run_bind, rz.1, Result.andThen_ok, rn, Sem.run_pure]
            refine ⟨_, _, putDst ts o.dst (.pointer (some ⟨w.heap.size, 0, none⟩)), ?_, W1, ⟨S1, fun x hx => upd_other _ _ (by omega)⟩, D.tail hio S1 (fun d' hd' _ => ?_) (fun p hp hpl ha => ?_)⟩
            · rw [← finish_put ho]
              exact st_value ho hw (.inr fun c z => by rw [z] at hop; cases hop) run
            · rw [hd] at hd'; cases hd'
              rw [ht]
              have := VR.ptr (φ := upd φ a.block ⟨w.heap.size, 0, z.cells.size, none⟩) a _ hs (upd_same _ _ _)
              simpa [ho0] using this
            · exfalso
              have := regionOk_alloc D.ok ho (D.mem p (.inr hp)) (by rw [hop]; rfl) ha
              exact (List.nodup_cons.1 D.nodup).1 (this ▸ hpl)
          · cases hc
        · cases hc
      · cases hc
  · rename_i hwd
    have hw := D.head_wanted ho hwd
    refine ⟨φ, w, putDst ts o.dst undef, ?_, W, ⟨Sub.refl φ, fun _ _ => rfl⟩, D.tail hio (Sub.refl φ) (fun d' hd' hdn => ?_) ghosts⟩
    · rw [← finish_put ho]
      exact st_unwanted (by simp [ho, hw])
    · simp only [hd', Bool.and_eq_true] at hc
      have h2 := hc.2
      cases hx : t.get d' <;> rw [hx] at h2 <;> simp [isUndef] at h2
      subst h2
      exact .tuple _ _ .nil
  · cases hc

/-- The model does what was done ahead, up to what was not. -/
theorem draw_run {fn : FuncId} {k : List Item} {ds : List Deferred} {kind : CallKind} {r : Option Nat} {cs : List Frame} : ∀ (l : List Nat) {φ : Phi} {w : World} {ts : Array Value}, WR w0 φ h w → GR E.globals φ → DrawR φ lo h.next ops left done mask n t ts l →
    (∀ p ∈ done, p.1 ∈ l → checkOne E ops n t h p.2 = true) →
    ∃ phq w' ts' l2, Steps E.P (lone (fRun fn ts (.inRegion ops l :: k) ds kind r) cs w) (lone (fRun fn ts' (.inRegion ops l2 :: k) ds kind r) cs w') ∧ WR w0 phq h w' ∧ Same lo φ phq ∧ DrawR phq lo h.next ops left done mask n t ts' l2 ∧
      (l2 = [] ∨ ∃ i o l3, l2 = i :: l3 ∧ (i, o) ∈ left)
  | [], φ, w, ts, W, G, D, C => ⟨φ, w, ts, [], .refl _ _, W, ⟨Sub.refl φ, fun _ _ => rfl⟩, D, .inl rfl⟩
  | i :: l, φ, w, ts, W, G, D, C => by
    obtain ⟨o, ho | ho⟩ := D.all i (D.lt i (by simp))
    · exact ⟨φ, w, ts, i :: l, .refl _ _, W, ⟨Sub.refl φ, fun _ _ => rfl⟩, D, .inr ⟨i, o, l, rfl, ho⟩⟩
    · obtain ⟨φ1, w1, ts1, st, W1, S1, D1⟩ := head_done (fn := fn) (k := k) (ds := ds) (kind := kind) (r := r) (cs := cs) W G D ho (C (i, o) ho (by simp))
      obtain ⟨φ2, w2, ts2, l2, st2, W2, S2, D2, fin⟩ := draw_run l W1 (G.mono S1.1) D1 (fun p hp hl => C p hp (by simp [hl]))
      exact ⟨φ2, w2, ts2, l2, .head st st2, W2, ⟨S1.1.trans S2.1, fun a ha => (S2.2 a ha).trans (S1.2 a ha)⟩, D2, fin⟩

theorem DrawR.first (D : DrawR φ lo hi ops left done mask n t ts (i :: l')) (K : Waits left) (hm : (i, o) ∈ left) : ∃ left', left = (i, o) :: left' := by
  cases left with
  | nil => simp at hm
  | cons p lst =>
    by_cases hp : p = (i, o)
    · exact ⟨lst, by rw [hp]⟩
    · exfalso
      have hm' : (i, o) ∈ lst := by
        rcases List.mem_cons.1 hm with z | z
        · exact absurd z.symm hp
        · exact z
      have hso := List.pairwise_cons.1 D.sorted
      have hlt : p.1 < i := hso.1 _ hm'
      have hpo := D.mem p (.inl (by simp))
      have ho : ops[i]? = some o := D.mem (i, o) (.inl hm)
      have hpl : p.1 ∈ i :: l' := D.leftIn p (by simp)
      have f1 : firm o.op = true := by
        rcases K (i, o) hm with z | ⟨e, h1, q, hq, h2⟩
        · exact z
        · exact absurd (h2 ▸ D.leftIn q hq) (D.valid [] i l' rfl o ho e h1)
      have f2 : firm p.2.op = true := by
        rcases K p (by simp) with z | ⟨e, h1, q, hq, h2⟩
        · exact z
        · exfalso
          have := regionOk_edge D.ok hpo h1
          rcases List.mem_cons.1 hq with rfl | hq
          · omega
          · have := hso.1 _ hq; omega
      exact D.before_head (regionOk_firm D.ok ho hpo hlt f1 f2) hpl
end
end Go.Ab
