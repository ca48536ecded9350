/-
  An operation that is done, and what it leaves behind, on both sides. No statement of the seat is proved here. Conditions: none.
-/
import Derived.Test.YtmpiakibllgdeaaGreatDoorBd
set_option linter.unusedVariables false
set_option linter.unusedSimpArgs false
namespace Go.Ab

/-- The summaries are sound. -/
def SumOK (E : Env) : Prop := ∀ f s, E.sum f = some s → ∀ w0 φ h w args (args' : Array Value) v h', WR w0 φ h w → GR E.globals φ → VRs φ args args'.toList → s args h = some (v, h') →
  ∀ c cs, ∃ v' w' phq, Steps E.P (lone (Frame.enter E.P f args' .normal) (c :: cs) w) (lone (c.finish v') cs w') ∧ WR w0 phq h' w' ∧ Ext h.next φ phq ∧ VR phq v v' ∧ Keeps h h'

/-- Some steps on, the states are alike again. -/
def Goes (E : Env) (w0 : World) (base : List Frame) (h0 : AHeap) (φ0 : Phi) (fr' : Frame) (cs' : List Frame) (w : World) (S : AState) : Prop :=
  ∃ fr2 cs2 w2, Steps E.P (lone fr' cs' w) (lone fr2 cs2 w2) ∧ Rel E w0 base h0 φ0 S fr2 cs2 w2

section
variable {E : Env} {w0 w : World} {base : List Frame} {h0 : AHeap} {φ0 : Phi}

theorem Goes.one {S : AState} {fr' fr2 : Frame} {cs' cs2 : List Frame} {w2 : World} (h : step E.P (lone fr' cs' w) = .next (lone fr2 cs2 w2)) (R : Rel E w0 base h0 φ0 S fr2 cs2 w2) : Goes E w0 base h0 φ0 fr' cs' w S :=
  ⟨fr2, cs2, w2, .one h, R⟩

theorem aop_sound {φ : Phi} {h h' : AHeap} {ρ : Operand → Option Value} {rhq : Operand → Value} {o : Oper} {nx : ANext} (X : ExtOK E) (W : WR w0 φ h w) (hr : RhoR φ ρ rhq) (e : aop E ρ h o.op = some (nx, h')) :
    Done E w0 φ h w (execOp rhq o) nx h' := by
  unfold aop at e
  cases hl : light o.op with
  | true =>
    simp only [hl, cond_true, Option.bind_eq_some_iff, Option.some.injEq, Prod.mk.injEq] at e
    obtain ⟨v, hv, rfl, rfl⟩ := e
    obtain ⟨v', r, V⟩ := lop_sound (E := E) W hr hv
    exact ⟨_, w, φ, r, W, Ext.refl _ _, .value V, Keeps.refl h⟩
  | false =>
    simp only [hl, cond_false] at e
    exact hop_sound X W hr e

theorem hop_defer {ρ : Operand → Option Value} {h h' : AHeap} {c : Call} {nx : ANext} (e : hop E ρ h (.defer c) = some (nx, h')) : ∃ d, nx = .defer d := by
  unfold hop at e
  split at e
  all_goals first
    | (rename_i heq; cases heq; done)
    | skip
  all_goals try (rename_i heq; cases heq)
  all_goals
    split at e
    · cases e
    · simp only [Option.bind_eq_some_iff, Option.some.injEq, Prod.mk.injEq] at e
      obtain ⟨d, _, rfl, _⟩ := e
      exact ⟨_, rfl⟩

theorem aop_defer {ρ : Operand → Option Value} {h h' : AHeap} {op : Op} {nx : ANext} (e : aop E ρ h op = some (nx, h')) : ∀ c, op = .defer c → ∃ d, nx = .defer d := by
  rintro c rfl
  unfold aop at e
  simp only [light, cond_false] at e
  exact hop_defer e

/-- What lies below the frame on top, in the new heap. -/
theorem FrameR.later {φ phq : Phi} {lo : Nat} {h h' : AHeap} {fr : AFrame} {fr' : Frame} (F : FrameR φ lo h.next fr fr') (e : Ext h.next φ phq) (k : Keeps h h') : FrameR phq lo h'.next fr fr' :=
  (F.mono e.1 fun a _ q => e.2 a q).wide k.next
theorem StackR.later {φ phq : Phi} {lo n0 : Nat} {h : AHeap} {cs : List AFrame} {cs' : List Frame} (S : StackR φ base n0 cs cs' lo) (hl : lo ≤ h.next) (e : Ext h.next φ phq) : StackR phq base n0 cs cs' lo :=
  S.mono e.1 fun a q => e.2 a (by omega)

theorem next_sound {S : AState} {φ : Phi} {lo : Nat} {h h' : AHeap} {fr : AFrame} {cs : List AFrame} {cs' : List Frame} {fn : FuncId} {ts : Array Value} {k : List Item} {ds : List Deferred} {kind : CallKind} {r : Option Nat}
    {ops : Array Oper} {i : Nat} {rest : List Nat} {o : Oper} {nx : ANext}
    (Y : SumOK E) (W : WR w0 φ h w) (G : GR E.globals φ) (hE : Ext h0.next φ0 φ) (hK : Keeps h0 h)
    (F : FrameR φ lo h.next fr (fRun fn ts (.inRegion ops (i :: rest) :: k) ds kind r)) (H : HeadOK fr.todo (.inRegion ops (i :: rest) :: k)) (St : StackR φ base h0.next cs cs' lo) (hlo : lo ≤ h.next)
    (ho : ops[i]? = some o) (hw : Region.wanted o (yielded ops ts) = true) (hdf : ∀ c, o.op = .defer c → ∃ d, nx = .defer d)
    (D : Done E w0 φ h w (execOp (Act.mk ts ds).eval o) nx h') (e : nextE E fr cs nx h' = some (.next S)) :
    Goes E w0 base h0 φ0 (fRun fn ts (.inRegion ops (i :: rest) :: k) ds kind r) cs' w S := by
  obtain ⟨nx', w', phq, run, W', e', N, K⟩ := D
  have F' := F.later e' K
  have St' := St.later hlo e'
  have G' := G.mono e'.1
  have hE' := hE.trans e' hK.next
  have hK' := hK.trans K
  have hlo' : lo ≤ h'.next := Nat.le_trans hlo K.next
  have nodef : (∀ d, nx ≠ .defer d) → r = none ∨ ∀ c, o.op ≠ .defer c := fun hn => .inr fun c hc => by
    obtain ⟨d, hd⟩ := hdf c hc
    exact hn d hd
  cases N with
  | @value v v' V =>
    simp only [nextE, Option.bind_eq_some_iff, Option.some.injEq, AOut.next.injEq] at e
    obtain ⟨fr2, hf, rfl⟩ := e
    exact .one (st_value ho hw (nodef (by intro d z; cases z)) run) ⟨phq, lo, W', G', hE', hK', finish_rel' F' H V hf, St', hlo'⟩
  | skip =>
    simp only [nextE, Option.bind_eq_some_iff, Option.some.injEq, AOut.next.injEq] at e
    obtain ⟨fr2, hf, rfl⟩ := e
    exact .one (st_skipped ho hw (nodef (by intro d z; cases z)) run) ⟨phq, lo, W', G', hE', hK', finish_rel' F' H (.tuple _ _ .nil) hf, St', hlo'⟩
  | @enter f args args' A =>
    simp only [nextE] at e
    have st := st_enter (P := E.P) (fn := fn) (k := k) (ds := ds) (kind := kind) (r := r) (rest := rest) (cs := cs') ho hw (nodef (by intro d z; cases z)) run
    split at e
    · rename_i p hp
      obtain ⟨s, hs, hv⟩ := Option.bind_eq_some_iff.1 hp
      simp only [Option.bind_eq_some_iff, Option.some.injEq, AOut.next.injEq] at e
      obtain ⟨fr2, hf, rfl⟩ := e
      obtain ⟨v, h2⟩ := p
      obtain ⟨v', w2, φ2, hst, W2, e2, V, K2⟩ := Y f s hs w0 phq h' w' args args' v h2 W' G' A hv (fRun fn ts (.inRegion ops (i :: rest) :: k) ds kind r) cs'
      exact ⟨_, _, _, .head st hst, ⟨φ2, lo, W2, G'.mono e2.1, hE'.trans e2 hK'.next, hK'.trans K2, finish_rel' (F'.later e2 K2) H V hf, St'.later hlo' e2, Nat.le_trans hlo' K2.next⟩⟩
    · simp only [Option.bind_eq_some_iff, Option.some.injEq, AOut.next.injEq] at e
      obtain ⟨fr2, hf, rfl⟩ := e
      have := enter_rel h'.next h'.next A hf
      exact .one st ⟨phq, h'.next, W', G', hE', hK', this.1, .cons lo h'.next h'.next F' H St' hlo' (Nat.le_refl _), Nat.le_refl _⟩
  | round l p f n t t' a b hp ht =>
    simp only [nextE, Option.some.injEq, AOut.next.injEq] at e
    subst e
    refine .one (st_round ho hw (nodef (by intro d z; cases z)) run) ⟨phq, h'.next, W', G', hE', hK', ?_, .cons lo h'.next h'.next F' H St' hlo' (Nat.le_refl _), Nat.le_refl _⟩
    exact ⟨rfl, rfl, rfl, .nil, .some l p hp, .plain (.cons (.code a) (.cons .beginRound (.cons (.code b) .nil))) ht, fun z => by simp at z⟩
  | @defer d d' hd =>
    simp only [nextE] at e
    split at e
    · rename_i hrn
      simp only [Option.bind_eq_some_iff, Option.some.injEq, AOut.next.injEq] at e
      obtain ⟨fr2, hf, rfl⟩ := e
      have hr := F.round
      rw [hrn] at hr
      have hr' : r = none := by cases hr; rfl
      subst hr'
      refine .one (st_defer ho hw run) ⟨phq, lo, W', G', hE', hK', ?_, St', hlo'⟩
      refine finish_rel' (fr := { fr with defers := d :: fr.defers }) ?_ H (.tuple _ _ .nil) hf
      exact ⟨F'.fn, F'.mode, F'.kind, .cons hd F'.defers, hrn ▸ F'.round, F'.body, F'.head⟩
    · cases e
  | recover =>
    simp only [nextE] at e
    cases hb : (fr.deferred && fr.round.isNone) with
    | false => simp [hb] at e
    | true =>
      simp only [hb, cond_true] at e
      simp only [Bool.and_eq_true, Option.isNone_iff_eq_none] at hb
      split at e
      · rename_i c cs1
        cases hc : c.ret with
        | false => simp [hc] at e
        | true =>
          simp only [hc, cond_true, Option.bind_eq_some_iff, Option.some.injEq, AOut.next.injEq] at e
          obtain ⟨fr2, hf, rfl⟩ := e
          have hr := F.round
          rw [hb.2] at hr
          have hr' : r = none := by cases hr; rfl
          subst hr'
          have hk := F.kind
          simp only [hb.1, if_true] at hk
          subst hk
          have St2 := St'
          cases St' with
          | @cons _ c' _ cs1' lo1 hi1 _ Fc Hc S1 a1 a2 =>
            have hm := Fc.mode
            simp only [hc, if_true] at hm
            exact .one (st_recover ho hw hm run) ⟨phq, lo, W', G', hE', hK', finish_rel' F' H (.atom _ rfl) hf, St2, hlo'⟩
      · cases e
end
end Go.Ab

/-
  Loops over functions, and leaving a frame, on both sides. No statement of the seat is proved here. Conditions: none.
-/
set_option linter.unusedVariables false
set_option linter.unusedSimpArgs false
namespace Go.Ab

section
variable {P : Program} {fn : FuncId} {ts : Array Value} {k : List Item} {ds : List Deferred} {kind : CallKind} {r : Option Nat} {cs : List Frame} {w w' : World} {l : Nat} {c : Frame}

theorem st_end_round (hr : (Instr.endRound l none).run P w = .ok (.bool true) w') :
    step P (lone (fRun fn ts [] ds .normal (some l)) (c :: cs) w) = .next (lone (c.finish (.bool true)) cs w') := step_lone_go (by simp [stepG, stepG.exec, hr, doReturn])
theorem st_ret_round (hr : (Instr.endRound l (some .ret)).run P w = .ok (.bool false) w') :
    step P (lone (fRun fn ts (.code .ret :: k) ds .normal (some l)) (c :: cs) w) = .next (lone (c.finish (.bool false)) cs w') := step_lone_go (by simp [stepG, stepG.exec, hr, doReturn])
theorem st_exit_round {id : Nat} (h : exitTo id k = none) (hr : (Instr.endRound l (some (.exit id))).run P w = .ok (.bool false) w') :
    step P (lone (fRun fn ts (.code (.exit id) :: k) ds .normal (some l)) (c :: cs) w) = .next (lone (c.finish (.bool false)) cs w') := step_lone_go (by simp [stepG, stepG.exec, h, hr, doReturn])
theorem st_end_round_d (hc : ∀ ch, c.mode ≠ .panicking ch) (hr : (Instr.endRound l none).run P w = .ok (.bool true) w') :
    step P (lone (fRun fn ts [] ds .deferred (some l)) (c :: cs) w) = .next (lone c cs w') := step_lone_go (by
  cases hm : c.mode with
  | panicking ch => exact absurd hm (hc ch)
  | run => simp [stepG, stepG.exec, hr, doReturn, hm]
  | returning => simp [stepG, stepG.exec, hr, doReturn, hm])
theorem st_ret_round_d (hc : ∀ ch, c.mode ≠ .panicking ch) (hr : (Instr.endRound l (some .ret)).run P w = .ok (.bool false) w') :
    step P (lone (fRun fn ts (.code .ret :: k) ds .deferred (some l)) (c :: cs) w) = .next (lone c cs w') := step_lone_go (by
  cases hm : c.mode with
  | panicking ch => exact absurd hm (hc ch)
  | run => simp [stepG, stepG.exec, hr, doReturn, hm]
  | returning => simp [stepG, stepG.exec, hr, doReturn, hm])
theorem st_exit_round_d {id : Nat} (h : exitTo id k = none) (hc : ∀ ch, c.mode ≠ .panicking ch) (hr : (Instr.endRound l (some (.exit id))).run P w = .ok (.bool false) w') :
    step P (lone (fRun fn ts (.code (.exit id) :: k) ds .deferred (some l)) (c :: cs) w) = .next (lone c cs w') := step_lone_go (by
  cases hm : c.mode with
  | panicking ch => exact absurd hm (hc ch)
  | run => simp [stepG, stepG.exec, h, hr, doReturn, hm]
  | returning => simp [stepG, stepG.exec, h, hr, doReturn, hm])

theorem st_beginRound (hr : (Instr.beginRound l).run P w = .ok () w') :
    step P (lone (fRun fn ts (.beginRound :: k) ds kind (some l)) cs w) = .next (lone (fRun fn ts k ds kind (some l)) cs w') := step_lone_go (by simp [stepG, stepG.exec, stepG.apply, Sem.run_bind, hr, Frame.finish])
theorem st_endRangeFunc {jump : Option Code} (hr : (Instr.endLoop l).run P w = .ok jump w') :
    step P (lone (fRun fn ts (.endRangeFunc l :: k) ds kind r) cs w) = .next (lone (fRun fn ts ((jump.map Item.code).toList ++ k) ds kind r) cs w') := step_lone_go (by simp [stepG, stepG.exec, hr])
theorem st_rangeFunc {f : Operand} {params : Array Tmp} {assign body : Code} {mark : List Deferred} {w1 : World} {g : FuncId} {args : Array Value}
    (h1 : (Instr.enterLoop fn ts params assign body r).run P w = .ok (l, mark) w1)
    (h2 : (do let d ← resolve (Act.mk ts ds).eval { callee := .value f, args := #[.const (.func (.yield l) #[] #[])], argTypes := #[] } 0; invoke d.target d.args).run P w1 = .ok (.enter g args) w') :
    step P (lone (fRun fn ts (.code (.rangeFunc f params assign body) :: k) ds kind r) cs w) =
      .next (lone (Frame.enter P g args .normal) (fRun fn ts (.inRangeFunc l :: k) (mark ++ ds) kind r :: cs) w') := by
  have he : Frame.eval (fRun fn ts (.inRangeFunc l :: k) (mark ++ ds) kind r) = (Act.mk ts ds).eval := by funext c; cases c <;> rfl
  exact step_lone_go (by
    simp only [fRun] at he
    simp only [stepG, stepG.exec, Sem.runT_eq, h1]
    simp [stepG.apply, he, h2])
end

section
variable {E : Env} {w0 w : World} {base : List Frame} {h0 : AHeap} {φ0 : Phi} {φ : Phi} {h h' : AHeap}

theorem getLoop_eq {l : Nat} {r : ALoop} (e : getLoopE h l = some r) : h.t.get l = .loop r := by
  unfold getLoopE at e
  split at e
  · rename_i x hx; simp only [Option.some.injEq] at e; subst e; exact hx
  · cases e
theorem WR.loop {l : Nat} {r : ALoop} {p : Pl} (W : WR w0 φ h w) (hp : φ l = some p) (e : getLoopE h l = some r) : ∃ r', w.heap[p.b]? = some (.loop r') ∧ LoopR φ r r' ∧ p.o = 0 ∧ p.r = 1 := by
  have := W.live l p hp
  rw [getLoop_eq e] at this
  obtain ⟨a, b, r', c, d⟩ := this
  exact ⟨r', c, d, a, b⟩
theorem heap_set {b : Nat} {o o' : Obj} (hh : w.heap[b]? = some o) : (w.heap.setIfInBounds b o')[b]? = some o' := by
  have : b < w.heap.size := by
    rcases Nat.lt_or_ge b w.heap.size with z | z
    · exact z
    · rw [Array.getElem?_eq_none z] at hh; cases hh
  simp [Array.getElem?_setIfInBounds_self_of_lt this]
theorem WR.turnLoop {l : Nat} {r r2 : ALoop} {p : Pl} {r' r2' : Loop} (W : WR w0 φ h w) (hp : φ l = some p) (e : getLoopE h l = some r) (hh : w.heap[p.b]? = some (.loop r')) (ho : p.o = 0 ∧ p.r = 1) (hL : LoopR φ r2 r2')
    (ep : h.put l (.loop r2) = some h') : WR w0 φ h' { w with heap := w.heap.setIfInBounds p.b (.loop r2') } ∧ Keeps h h' := by
  have hg := getLoop_eq e
  refine ⟨W.turnObj hp (by rw [hg]; rfl) (by rw [hg]; intro _ _ z; cases z) (by intro _ _ z; cases z) ep ⟨ho.1, ho.2, r2', heap_set hh, hL⟩ ?_ (by intro _ _ _ z; cases z) (by rw [hg]; intro _ z; cases z), W.keeps_put hp ep⟩
  intro a' m left cur _ hi hs heq
  obtain ⟨q, hq⟩ := Option.isSome_iff_exists.1 hs
  obtain ⟨_, ⟨l2, h2⟩, _⟩ := W.busy a' q m left cur hq hi
  rw [heq, hg] at h2
  cases h2
theorem WR.turnDeferred {l : Nat} {d d2 : Option (List Deferred)} {p : Pl} {d' d2' : Option (List Deferred)} (W : WR w0 φ h w) (hp : φ l = some p) (hg : h.t.get l = .deferred d) (hh : w.heap[p.b]? = some (.deferred d')) (ho : p.o = 0 ∧ p.r = 1)
    (hL : match d2, d2' with | none, none => True | some l, some l' => DefRs φ l l' | _, _ => False)
    (ep : h.put l (.deferred d2) = some h') : WR w0 φ h' { w with heap := w.heap.setIfInBounds p.b (.deferred d2') } ∧ Keeps h h' := by
  refine ⟨W.turnObj hp (by rw [hg]; rfl) (by rw [hg]; intro _ _ z; cases z) (by intro _ _ z; cases z) ep ⟨ho.1, ho.2, d2', heap_set hh, hL⟩ ?_ (by intro _ _ _ z; cases z) (by rw [hg]; intro _ z; cases z), W.keeps_put hp ep⟩
  intro a' m left cur _ hi hs heq
  obtain ⟨q, hq⟩ := Option.isSome_iff_exists.1 hs
  obtain ⟨_, ⟨l2, h2⟩, _⟩ := W.busy a' q m left cur hq hi
  rw [heq, hg] at h2
  cases h2

theorem run_getLoop {b : Nat} {r : Loop} (hh : w.heap[b]? = some (.loop r)) {P : Program} : (Instr.getLoop b).run P w = .ok r w := by
  simp only [Instr.getLoop, Sem.run_bind, gget hh (by intro _ _ _ z; cases z), Result.andThen_ok, Sem.run_pure]
theorem run_endRound {b : Nat} {r : Loop} (hh : w.heap[b]? = some (.loop r)) (jump : Option Code) {P : Program} :
    (Instr.endRound b jump).run P w = .ok (.bool jump.isNone) { w with heap := w.heap.setIfInBounds b (.loop { r with state := if jump.isNone then .ready else .done, pending := jump }) } := by
  simp only [Instr.endRound, Sem.run_bind, run_getLoop hh, Result.andThen_ok, gset hh (by intro _ _ _ z; cases z), Sem.run_pure]
theorem run_beginRound {b : Nat} {r : Loop} (hh : w.heap[b]? = some (.loop r)) (hs : r.state = .ready) {P : Program} :
    (Instr.beginRound b).run P w = .ok () { w with heap := w.heap.setIfInBounds b (.loop { r with state := .busy }) } := by
  simp only [Instr.beginRound, Sem.run_bind, run_getLoop hh, Result.andThen_ok, gset hh (by intro _ _ _ z; cases z), hs, Sem.run_pure]
theorem run_endLoop {b : Nat} {r : Loop} (hh : w.heap[b]? = some (.loop r)) (hs : r.state ≠ .busy) {P : Program} :
    (Instr.endLoop b).run P w = .ok r.pending { w with heap := w.heap.setIfInBounds b (.loop { r with state := .exhausted }) } := by
  have hb : (r.state == LoopState.busy) = false := by
    cases hx : r.state <;> simp_all <;> rfl
  simp only [Instr.endLoop, Sem.run_bind, run_getLoop hh, Result.andThen_ok, hb, if_false, Bool.false_eq_true, gset hh (by intro _ _ _ z; cases z), Sem.run_pure]

theorem FrameR.notPanicking {lo hi : Nat} {fr : AFrame} {fr' : Frame} (F : FrameR φ lo hi fr fr') : ∀ ch, fr'.mode ≠ .panicking ch := by
  intro ch z
  have := F.mode
  rw [z] at this
  split at this <;> cases this

/-- A value is given back to the frame below. -/
theorem back_sound {S : AState} {fr : AFrame} {cs : List AFrame} {cs' : List Frame} {fr' : Frame} {lo : Nat} {v v' : Value} {w2 : World}
    (W : WR w0 φ h w) (G : GR E.globals φ) (hE : Ext h0.next φ0 φ) (hK : Keeps h0 h) (St : StackR φ base h0.next cs cs' lo) (hlo : lo ≤ h.next) (hv : VR φ v v') (e : backE E fr cs v h = some (.next S))
    (hn : fr.deferred = false → ∀ c c', cs' = c :: c' → step E.P (lone fr' cs' w2) = .next (lone (c.finish v') c' w))
    (hd : fr.deferred = true → ∀ c c', cs' = c :: c' → (∀ ch, c.mode ≠ .panicking ch) → step E.P (lone fr' cs' w2) = .next (lone c c' w)) :
    Goes E w0 base h0 φ0 fr' cs' w2 S := by
  unfold backE at e
  cases St with
  | nil n _ =>
    simp only at e
    cases hx : (fr.deferred || fr.round.isSome) <;> simp [hx] at e
  | @cons c c' cs1 cs1' lo1 hi1 _ Fc Hc St1 a1 a2 =>
    simp only at e
    cases hx : fr.deferred with
    | true =>
      simp only [hx, cond_true, Option.some.injEq, AOut.next.injEq] at e
      subst e
      exact .one (hd hx _ _ rfl Fc.notPanicking) ⟨φ, lo1, W, G, hE, hK, Fc.wide (by show hi1 ≤ h.next; omega), St1, by show lo1 ≤ h.next; omega⟩
    | false =>
      simp only [hx, cond_false, Option.bind_eq_some_iff, Option.some.injEq, AOut.next.injEq] at e
      obtain ⟨c2, hf, rfl⟩ := e
      exact .one (hn hx _ _ rfl) ⟨φ, lo1, W, G, hE, hK, (finish_rel' Fc Hc hv hf).wide (by show hi1 ≤ h.next; omega), St1, by show lo1 ≤ h.next; omega⟩

/-- A round or a call is left. -/
theorem leave_sound {S : AState} {fr : AFrame} {cs : List AFrame} {cs' : List Frame} {lo : Nat} {fn : FuncId} {ts : Array Value} {todo : List Item} {ds : List Deferred} {kind : CallKind} {r : Option Nat} {jump : Option Code}
    (W : WR w0 φ h w) (G : GR E.globals φ) (hE : Ext h0.next φ0 φ) (hK : Keeps h0 h) (F : FrameR φ lo h.next fr (fRun fn ts todo ds kind r)) (hdr : isDraw fr.todo = false) (St : StackR φ base h0.next cs cs' lo) (hlo : lo ≤ h.next)
    (hj : (todo = [] ∧ jump = none) ∨ (∃ k, todo = .code .ret :: k ∧ jump = some .ret) ∨ (∃ id k, todo = .code (.exit id) :: k ∧ exitTo id k = none ∧ jump = some (.exit id)))
    (e : leaveE E fr cs h jump = some (.next S)) : Goes E w0 base h0 φ0 (fRun fn ts todo ds kind r) cs' w S := by
  unfold leaveE at e
  have hk := F.kind
  split at e
  · rename_i hrn
    have hr := F.round
    rw [hrn] at hr
    have hr' : r = none := by cases hr; rfl
    subst hr'
    have F2 : FrameR φ lo h.next { fr with ret := true } { fRun fn ts todo ds kind none with mode := .returning } := ⟨F.fn, rfl, F.kind, F.defers, hrn ▸ F.round, F.body, fun _ => hdr⟩
    rcases hj with ⟨rfl, rfl⟩ | ⟨k, rfl, rfl⟩ | ⟨id, k, rfl, hx, rfl⟩
    · simp only [Option.some.injEq, AOut.next.injEq] at e
      subst e
      exact .one st_end_none ⟨φ, lo, W, G, hE, hK, F2, St, hlo⟩
    · simp only [Option.some.injEq, AOut.next.injEq] at e
      subst e
      exact .one st_ret_none ⟨φ, lo, W, G, hE, hK, F2, St, hlo⟩
    · cases e
  · rename_i l hrs
    have hr := F.round
    rw [hrs] at hr
    cases hr with
    | some _ p hp =>
      simp only [Option.bind_eq_some_iff] at e
      obtain ⟨r1, hg, h2, hput, e⟩ := e
      obtain ⟨r1', hh, L, o1, o2⟩ := W.loop hp hg
      obtain ⟨W2, K2⟩ := W.turnLoop hp hg hh ⟨o1, o2⟩ (r2 := { r1 with state := if jump.isNone then .ready else .done, pending := jump }) (r2' := { r1' with state := if jump.isNone then .ready else .done, pending := jump })
        ⟨rfl, rfl, L.fn, L.tmps, L.params, L.assign, L.body, L.defers⟩ hput
      have run := run_endRound (P := E.P) hh jump
      refine back_sound (fr := fr) W2 G hE (hK.trans K2) St (Nat.le_trans hlo K2.next) (.atom _ rfl) e (fun hx c c' hc => ?_) (fun hx c c' hc hp => ?_)
      · rw [hx] at hk
        simp only [Bool.false_eq_true, if_false] at hk
        change kind = _ at hk
        subst hk; subst hc
        rcases hj with ⟨rfl, rfl⟩ | ⟨k, rfl, rfl⟩ | ⟨id, k, rfl, hx, rfl⟩
        · exact st_end_round run
        · exact st_ret_round run
        · exact st_exit_round hx run
      · rw [hx] at hk
        simp only [if_true] at hk
        change kind = _ at hk
        subst hk; subst hc
        rcases hj with ⟨rfl, rfl⟩ | ⟨k, rfl, rfl⟩ | ⟨id, k, rfl, hx, rfl⟩
        · exact st_end_round_d hp run
        · exact st_ret_round_d hp run
        · exact st_exit_round_d hx hp run
end
end Go.Ab
