/-
  Loops over functions, and leaving a frame, on both sides. No statement of the seat is proved here. Conditions: none.
-/
import Derived.Test.YtmpiakibllgdeaaGreatDoorBf
set_option linter.unusedVariables false
set_option linter.unusedSimpArgs false
namespace Go.Ab

section
variable {P : Program} {fn : FuncId} {ts : Array Value} {k : List Item} {ds : List Deferred} {kind : CallKind} {r : Option Nat} {cs : List Frame} {w w' : World} {l : Nat} {c : Frame}

theorem st_end_round (hr : (Instr.endRound l none).run P w = .ok (.bool true) w') :
    step P (lone (fRun fn ts [] ds .normal (some l)) (c :: cs) w) = .next (lone (c.finish (.bool true)) cs w') := step_lone_go (by simp [stepG, stepG.exec, hr, doReturn])
theorem st_ret_round (hr : (Instr.endRound l (some .ret)).run P w = .ok (.bool false) w') :
    step P (lone (fRun fn ts (.code .ret :: k) ds .normal (some l)) (c :: cs) w) = .next (lone (c.finish (.bool false)) cs w') := step_lone_go (by simp [stepG, stepG.exec, hr, doReturn])
theorem st_exit_round {id : Nat} (h : exitTo id k = none) (hr : (Instr.endRound l (some (.exit id))).run P w = .ok (.bool false) w') :
    step P (lone (fRun fn ts (.code (.exit id) :: k) ds .normal (some l)) (c :: cs) w) = .next (lone (c.finish (.bool false)) cs w') := step_lone_go (by simp [stepG, stepG.exec, h, hr, doReturn])
theorem st_end_round_d (hc : ∀ ch, c.mode ≠ .panicking ch) (hr : (Instr.endRound l none).run P w = .ok (.bool true) w') :
    step P (lone (fRun fn ts [] ds .deferred (some l)) (c :: cs) w) = .next (lone c cs w') := step_lone_go (by
  cases hm : c.mode with
  | panicking ch => exact absurd hm (hc ch)
  | run => simp [stepG, stepG.exec, hr, doReturn, hm]
  | returning => simp [stepG, stepG.exec, hr, doReturn, hm])
theorem st_ret_round_d (hc : ∀ ch, c.mode ≠ .panicking ch) (hr : (Instr.endRound l (some .ret)).run P w = .ok (.bool false) w') :
    step P (lone (fRun fn ts (.code .ret :: k) ds .deferred (some l)) (c :: cs) w) = .next (lone c cs w') := step_lone_go (by
  cases hm : c.mode with
  | panicking ch => exact absurd hm (hc ch)
  | run => simp [stepG, stepG.exec, hr, doReturn, hm]
  | returning => simp [stepG, stepG.exec, hr, doReturn, hm])
theorem st_exit_round_d {id : Nat} (h : exitTo id k = none) (hc : ∀ ch, c.mode ≠ .panicking ch) (hr : (Instr.endRound l (some (.exit id))).run P w = .ok (.bool false) w') :
    step P (lone (fRun fn ts (.code (.exit id) :: k) ds .deferred (some l)) (c :: cs) w) = .next (lone c cs w') := step_lone_go (by
  cases hm : c.mode with
  | panicking ch => exact absurd hm (hc ch)
  | run => simp [stepG, stepG.exec, h, hr, doReturn, hm]
  | returning => simp [stepG, stepG.exec, h, hr, doReturn, hm])

theorem st_beginRound (hr : (Instr.beginRound l).run P w = .ok () w') :
    step P (lone (fRun fn ts (.beginRound :: k) ds kind (some l)) cs w) = .next (lone (fRun fn ts k ds kind (some l)) cs w') := step_lone_go (by simp [stepG, stepG.exec, stepG.apply, Sem.run_bind, hr, Frame.finish])
theorem st_endRangeFunc {jump : Option Code} (hr : (Instr.endLoop l).run P w = .ok jump w') :
    step P (lone (fRun fn ts (.endRangeFunc l :: k) ds kind r) cs w) = .next (lone (fRun fn ts ((jump.map Item.code).toList ++ k) ds kind r) cs w') := step_lone_go (by simp [stepG, stepG.exec, hr])
theorem st_rangeFunc {f : Operand} {params : Array Tmp} {assign body : Code} {mark : List Deferred} {w1 : World} {g : FuncId} {args : Array Value}
    (h1 : (Instr.enterLoop fn ts params assign body r).run P w = .ok (l, mark) w1)
    (h2 : (do let d ← resolve (Act.mk ts ds).eval { callee := .value f, args := #[.const (.func (.yield l) #[] #[])], argTypes := #[] } 0; invoke d.target d.args).run P w1 = .ok (.enter g args) w') :
    step P (lone (fRun fn ts (.code (.rangeFunc f params assign body) :: k) ds kind r) cs w) =
      .next (lone (Frame.enter P g args .normal) (fRun fn ts (.inRangeFunc l :: k) (mark ++ ds) kind r :: cs) w') := by
  have he : Frame.eval (fRun fn ts (.inRangeFunc l :: k) (mark ++ ds) kind r) = (Act.mk ts ds).eval := by funext c; cases c <;> rfl
  exact step_lone_go (by
    simp only [fRun] at he
    simp only [stepG, stepG.exec, Sem.runT_eq, h1]
    simp [stepG.apply, he, h2])
end

section
variable {E : Env} {w0 w : World} {base : List Frame} {h0 : AHeap} {φ0 : Phi} {φ : Phi} {h h' : AHeap}

theorem getLoop_eq {l : Nat} {r : ALoop} (e : getLoopE h l = some r) : h.t.get l = .loop r := by
  unfold getLoopE at e
  split at e
  · rename_i x hx; simp only [Option.some.injEq] at e; subst e; exact hx
  · cases e
theorem WR.loop {l : Nat} {r : ALoop} {p : Pl} (W : WR w0 φ h w) (hp : φ l = some p) (e : getLoopE h l = some r) : ∃ r', w.heap[p.b]? = some (.loop r') ∧ LoopR φ r r' ∧ p.o = 0 ∧ p.r = 1 := by
  have := W.live l p hp
  rw [getLoop_eq e] at this
  obtain ⟨a, b, r', c, d⟩ := this
  exact ⟨r', c, d, a, b⟩
theorem heap_set {b : Nat} {o o' : Obj} (hh : w.heap[b]? = some o) : (w.heap.setIfInBounds b o')[b]? = some o' := by
  have : b < w.heap.size := by
    rcases Nat.lt_or_ge b w.heap.size with z | z
    · exact z
    · rw [Array.getElem?_eq_none z] at hh; cases hh
  simp [Array.getElem?_setIfInBounds_self_of_lt this]
theorem WR.turnLoop {l : Nat} {r r2 : ALoop} {p : Pl} {r' r2' : Loop} (W : WR w0 φ h w) (hp : φ l = some p) (e : getLoopE h l = some r) (hh : w.heap[p.b]? = some (.loop r')) (ho : p.o = 0 ∧ p.r = 1) (hL : LoopR φ r2 r2')
    (ep : h.put l (.loop r2) = some h') : WR w0 φ h' { w with heap := w.heap.setIfInBounds p.b (.loop r2') } ∧ Keeps h h' := by
  have hg := getLoop_eq e
  refine ⟨W.turnObj hp (by rw [hg]; rfl) (by rw [hg]; intro _ _ z; cases z) (by intro _ _ z; cases z) ep ⟨ho.1, ho.2, r2', heap_set hh, hL⟩ ?_ (by intro _ _ _ z; cases z) (by rw [hg]; intro _ z; cases z), W.keeps_put hp ep⟩
  intro a' m left cur _ hi hs heq
  obtain ⟨q, hq⟩ := Option.isSome_iff_exists.1 hs
  obtain ⟨_, ⟨l2, h2⟩, _⟩ := W.busy a' q m left cur hq hi
  rw [heq, hg] at h2
  cases h2
theorem WR.turnDeferred {l : Nat} {d d2 : Option (List Deferred)} {p : Pl} {d' d2' : Option (List Deferred)} (W : WR w0 φ h w) (hp : φ l = some p) (hg : h.t.get l = .deferred d) (hh : w.heap[p.b]? = some (.deferred d')) (ho : p.o = 0 ∧ p.r = 1)
    (hL : match d2, d2' with | none, none => True | some l, some l' => DefRs φ l l' | _, _ => False)
    (ep : h.put l (.deferred d2) = some h') : WR w0 φ h' { w with heap := w.heap.setIfInBounds p.b (.deferred d2') } ∧ Keeps h h' := by
  refine ⟨W.turnObj hp (by rw [hg]; rfl) (by rw [hg]; intro _ _ z; cases z) (by intro _ _ z; cases z) ep ⟨ho.1, ho.2, d2', heap_set hh, hL⟩ ?_ (by intro _ _ _ z; cases z) (by rw [hg]; intro _ z; cases z), W.keeps_put hp ep⟩
  intro a' m left cur _ hi hs heq
  obtain ⟨q, hq⟩ := Option.isSome_iff_exists.1 hs
  obtain ⟨_, ⟨l2, h2⟩, _⟩ := W.busy a' q m left cur hq hi
  rw [heq, hg] at h2
  cases h2

theorem run_getLoop {b : Nat} {r : Loop} (hh : w.heap[b]? = some (.loop r)) {P : Program} : (Instr.getLoop b).run P w = .ok r w := by
  simp only [Instr.getLoop, Sem.run_bind, gget hh (by intro _ _ _ z; cases z), Result.andThen_ok, Sem.run_pure]
theorem run_endRound {b : Nat} {r : Loop} (hh : w.heap[b]? = some (.loop r)) (jump : Option Code) {P : Program} :
    (Instr.endRound b jump).run P w = .ok (.bool jump.isNone) { w with heap := w.heap.setIfInBounds b (.loop { r with state := if jump.isNone then .ready else .done, pending := jump }) } := by
  simp only [Instr.endRound, Sem.run_bind, run_getLoop hh, Result.andThen_ok, gset hh (by intro _ _ _ z; cases z), Sem.run_pure]
theorem run_beginRound {b : Nat} {r : Loop} (hh : w.heap[b]? = some (.loop r)) (hs : r.state = .ready) {P : Program} :
    (Instr.beginRound b).run P w = .ok () { w with heap := w.heap.setIfInBounds b (.loop { r with state := .busy }) } := by
  simp only [Instr.beginRound, Sem.run_bind, run_getLoop hh, Result.andThen_ok, gset hh (by intro _ _ _ z; cases z), hs, Sem.run_pure]
theorem run_endLoop {b : Nat} {r : Loop} (hh : w.heap[b]? = some (.loop r)) (hs : r.state ≠ .busy) {P : Program} :
    (Instr.endLoop b).run P w = .ok r.pending { w with heap := w.heap.setIfInBounds b (.loop { r with state := .exhausted }) } := by
  have hb : (r.state == LoopState.busy) = false := by
    cases hx : r.state <;> simp_all <;> rfl
  simp only [Instr.endLoop, Sem.run_bind, run_getLoop hh, Result.andThen_ok, hb, if_false, Bool.false_eq_true, gset hh (by intro _ _ _ z; cases z), Sem.run_pure]

theorem FrameR.notPanicking {lo hi : Nat} {fr : AFrame} {fr' : Frame} (F : FrameR φ lo hi fr fr') : ∀ ch, fr'.mode ≠ .panicking ch := by
  intro ch z
  have := F.mode
  rw [z] at this
  split at this <;> cases this

/-- A value is given back to the frame below. -/
theorem back_sound {S : AState} {fr : AFrame} {cs : List AFrame} {cs' : List Frame} {fr' : Frame} {lo : Nat} {v v' : Value} {w2 : World}
    (W : WR w0 φ h w) (G : GR E.globals φ) (hE : Ext h0.next φ0 φ) (hK : Keeps h0 h) (St : StackR φ base h0.next cs cs' lo) (hlo : lo ≤ h.next) (hv : VR φ v v') (e : backE E fr cs v h = some (.next S))
    (hn : fr.deferred = false → ∀ c c', cs' = c :: c' → step E.P (lone fr' cs' w2) = .next (lone (c.finish v') c' w))
    (hd : fr.deferred = true → ∀ c c', cs' = c :: c' → (∀ ch, c.mode ≠ .panicking ch) → step E.P (lone fr' cs' w2) = .next (lone c c' w)) :
    Goes E w0 base h0 φ0 fr' cs' w2 S := by
  unfold backE at e
  cases St with
  | nil n _ =>
    simp only at e
    cases hx : (fr.deferred || fr.round.isSome) <;> simp [hx] at e
  | @cons c c' cs1 cs1' lo1 hi1 _ Fc Hc St1 a1 a2 =>
    simp only at e
    cases hx : fr.deferred with
    | true =>
      simp only [hx, cond_true, Option.some.injEq, AOut.next.injEq] at e
      subst e
      exact .one (hd hx _ _ rfl Fc.notPanicking) ⟨φ, lo1, W, G, hE, hK, Fc.wide (by show hi1 ≤ h.next; omega), St1, by show lo1 ≤ h.next; omega⟩
    | false =>
      simp only [hx, cond_false, Option.bind_eq_some_iff, Option.some.injEq, AOut.next.injEq] at e
      obtain ⟨c2, hf, rfl⟩ := e
      exact .one (hn hx _ _ rfl) ⟨φ, lo1, W, G, hE, hK, (finish_rel' Fc Hc hv hf).wide (by show hi1 ≤ h.next; omega), St1, by show lo1 ≤ h.next; omega⟩

/-- A round or a call is left. -/
theorem leave_sound {S : AState} {fr : AFrame} {cs : List AFrame} {cs' : List Frame} {lo : Nat} {fn : FuncId} {ts : Array Value} {todo : List Item} {ds : List Deferred} {kind : CallKind} {r : Option Nat} {jump : Option Code}
    (W : WR w0 φ h w) (G : GR E.globals φ) (hE : Ext h0.next φ0 φ) (hK : Keeps h0 h) (F : FrameR φ lo h.next fr (fRun fn ts todo ds kind r)) (hdr : isDraw fr.todo = false) (St : StackR φ base h0.next cs cs' lo) (hlo : lo ≤ h.next)
    (hj : (todo = [] ∧ jump = none) ∨ (∃ k, todo = .code .ret :: k ∧ jump = some .ret) ∨ (∃ id k, todo = .code (.exit id) :: k ∧ exitTo id k = none ∧ jump = some (.exit id)))
    (e : leaveE E fr cs h jump = some (.next S)) : Goes E w0 base h0 φ0 (fRun fn ts todo ds kind r) cs' w S := by
  unfold leaveE at e
  have hk := F.kind
  split at e
  · rename_i hrn
    have hr := F.round
    rw [hrn] at hr
    have hr' : r = none := by cases hr; rfl
    subst hr'
    have F2 : FrameR φ lo h.next { fr with ret := true } { fRun fn ts todo ds kind none with mode := .returning } := ⟨F.fn, rfl, F.kind, F.defers, hrn ▸ F.round, F.body, fun _ => hdr⟩
    rcases hj with ⟨rfl, rfl⟩ | ⟨k, rfl, rfl⟩ | ⟨id, k, rfl, hx, rfl⟩
    · simp only [Option.some.injEq, AOut.next.injEq] at e
      subst e
      exact .one st_end_none ⟨φ, lo, W, G, hE, hK, F2, St, hlo⟩
    · simp only [Option.some.injEq, AOut.next.injEq] at e
      subst e
      exact .one st_ret_none ⟨φ, lo, W, G, hE, hK, F2, St, hlo⟩
    · cases e
  · rename_i l hrs
    have hr := F.round
    rw [hrs] at hr
    cases hr with
    | some _ p hp =>
      simp only [Option.bind_eq_some_iff] at e
      obtain ⟨r1, hg, h2, hput, e⟩ := e
      obtain ⟨r1', hh, L, o1, o2⟩ := W.loop hp hg
      obtain ⟨W2, K2⟩ := W.turnLoop hp hg hh ⟨o1, o2⟩ (r2 := { r1 with state := if jump.isNone then .ready else .done, pending := jump }) (r2' := { r1' with state := if jump.isNone then .ready else .done, pending := jump })
        ⟨rfl, rfl, L.fn, L.tmps, L.params, L.assign, L.body, L.defers⟩ hput
      have run := run_endRound (P := E.P) hh jump
      refine back_sound (fr := fr) W2 G hE (hK.trans K2) St (Nat.le_trans hlo K2.next) (.atom _ rfl) e (fun hx c c' hc => ?_) (fun hx c c' hc hp => ?_)
      · rw [hx] at hk
        simp only [Bool.false_eq_true, if_false] at hk
        change kind = _ at hk
        subst hk; subst hc
        rcases hj with ⟨rfl, rfl⟩ | ⟨k, rfl, rfl⟩ | ⟨id, k, rfl, hx, rfl⟩
        · exact st_end_round run
        · exact st_ret_round run
        · exact st_exit_round hx run
      · rw [hx] at hk
        simp only [if_true] at hk
        change kind = _ at hk
        subst hk; subst hc
        rcases hj with ⟨rfl, rfl⟩ | ⟨k, rfl, rfl⟩ | ⟨id, k, rfl, hx, rfl⟩
        · exact st_end_round_d hp run
        · exact st_ret_round_d hp run
        · exact st_exit_round_d hx hp run
end
end Go.Ab
