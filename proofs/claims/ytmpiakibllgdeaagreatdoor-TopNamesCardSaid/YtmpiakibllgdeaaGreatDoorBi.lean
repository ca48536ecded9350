/-
  A step of the small machine away from regions that draw is some steps of the model's. No statement of the seat is proved here. Conditions: none.
-/
import Derived.Test.YtmpiakibllgdeaaGreatDoorBh
set_option linter.unusedVariables false
set_option linter.unusedSimpArgs false
namespace Go.Ab

section
variable {E : Env} {w0 w : World} {φ : Phi} {h h' : AHeap} {base : List Frame} {h0 : AHeap} {φ0 : Phi}

def resOne (ts : Array Value) : ResultVar → Sem Value
  | .tmp t => pure (ts.getD t undef)
  | .cell a t => do loadVar t (← asAddr (ts.getD a undef))
theorem results_eq (func : Func) (ts : Array Value) : results func ts = (do
    let vs ← func.results.mapM (resOne ts)
    pure (if h : vs.size = 1 then vs[0] else .tuple vs)) := rfl
theorem results_list {fr : AFrame} {ts : Array Value} (W : WR w0 φ h w) (T : TmpsR φ fr.n fr.tmps ts) : ∀ (l : List ResultVar) (vs : List Value), resultsL E fr h l = some vs →
    ∃ vs', (l.mapM (resOne ts)).run E.P w = .ok vs' w ∧ VRs φ vs vs'
  | [], vs, e => by
    simp only [resultsL, Option.some.injEq] at e
    subst e
    exact ⟨[], by simp, .nil⟩
  | x :: l, vs, e => by
    simp only [resultsL, Option.bind_eq_some_iff, Option.some.injEq] at e
    obtain ⟨v, hv, us, hus, rfl⟩ := e
    obtain ⟨us', r2, hu⟩ := results_list W T l us hus
    have key : ∀ {i : Tmp} {u : Value}, evT E fr.n fr.tmps (.tmp i) = some u → VR φ u (ts.getD i undef) := fun {i u} hu => by
      simp only [evT] at hu
      cases hb : Nat.blt i fr.n with
      | false => simp [hb] at hu
      | true =>
        simp only [hb, cond_true, Option.some.injEq] at hu
        subst hu
        exact T.2.2 i (by simpa [Nat.blt_eq] using hb)
    cases x with
    | tmp t =>
      simp only [resultE] at hv
      exact ⟨_, by simp only [List.mapM_cons, resOne, Sem.run_bind, Sem.run_pure, Result.andThen_ok, r2], .cons (key hv) hu⟩
    | cell a t =>
      simp only [resultE, Option.bind_eq_some_iff] at hv
      obtain ⟨u, hau, hv⟩ := hv
      have V := key hau
      split at hv
      · rename_i ad
        split at hv
        · rename_i hs
          generalize hx : ts.getD a undef = x' at V
          cases V with
          | atom _ z => simp [atom] at z
          | ptr _ p s1 hp =>
            obtain ⟨v', r1, V'⟩ := run_loadVar W hp hv
            refine ⟨_, ?_, .cons V' hu⟩
            have ra : (asAddr (ts.getD a undef)).run E.P w = .ok ⟨p.b, p.o + ad.off, none⟩ w := by rw [hx]; rfl
            simp only [List.mapM_cons, resOne, Sem.run_bind, ra, Sem.run_pure, Result.andThen_ok, r1, r2]
        · cases hv
      · cases hv

theorem results_sound {func : Func} {fr : AFrame} {ts : Array Value} {v : Value} (W : WR w0 φ h w) (T : TmpsR φ fr.n fr.tmps ts) (e : resultsE E func fr h = some v) : ∃ v', (results func ts).run E.P w = .ok v' w ∧ VR φ v v' := by
  unfold resultsE at e
  simp only [Option.bind_eq_some_iff] at e
  obtain ⟨vs, hvs, e⟩ := e
  obtain ⟨vs', r, V⟩ := results_list W T _ _ hvs
  have run : (results func ts).run E.P w = .ok (if h : vs'.toArray.size = 1 then vs'.toArray[0] else .tuple vs'.toArray) w := by
    rw [results_eq, Array.mapM_eq_mapM_toList]
    simp only [Sem.run_bind, map_eq_pure_bind, r, Result.andThen_ok, Sem.run_pure]
  refine ⟨_, run, ?_⟩
  split at e
  · simp only [Option.some.injEq] at e
    subst e
    cases V with
    | cons a b => cases b; simpa using a
  · rename_i hne
    simp only [Option.some.injEq] at e
    subst e
    have hl := V.length
    have : vs'.toArray.size ≠ 1 := by
      intro z
      simp only [List.size_toArray] at z
      rw [← hl] at z
      obtain ⟨x, hx⟩ := List.length_eq_one_iff.1 z
      exact hne x hx
    rw [dif_neg this]
    exact .tuple _ _ (by simpa using V)

theorem backE_out {fr : AFrame} {cs : List AFrame} {v : Value} {out : AOut} (e : backE E fr cs v h = some out) : (∃ S, out = .next S) ∨ (cs = [] ∧ fr.deferred = false ∧ fr.round = none ∧ out = .done v h) := by
  unfold backE at e
  split at e
  · cases hb : (fr.deferred || fr.round.isSome) with
    | true => simp [hb] at e
    | false =>
      simp only [hb, cond_false, Option.some.injEq] at e
      simp at hb
      exact .inr ⟨rfl, hb.1, hb.2, e.symm⟩
  · cases hb : fr.deferred with
    | true => simp only [hb, cond_true, Option.some.injEq] at e; exact .inl ⟨_, e.symm⟩
    | false =>
      simp only [hb, cond_false, Option.bind_eq_some_iff, Option.some.injEq] at e
      obtain ⟨c, _, e⟩ := e
      exact .inl ⟨_, e.symm⟩
theorem leaveE_out {fr : AFrame} {cs : List AFrame} {jump : Option Code} {out : AOut} (e : leaveE E fr cs h jump = some out) : ∃ S, out = .next S := by
  unfold leaveE at e
  split at e
  · split at e
    · simp only [Option.some.injEq] at e; exact ⟨_, e.symm⟩
    · simp only [Option.some.injEq] at e; exact ⟨_, e.symm⟩
    · cases e
  · rename_i l hl
    simp only [Option.bind_eq_some_iff] at e
    obtain ⟨r, _, h2, _, e⟩ := e
    rcases backE_out e with z | ⟨_, _, z, _⟩
    · exact z
    · rw [hl] at z; cases z
theorem nextE_out {fr : AFrame} {cs : List AFrame} {nx : ANext} {out : AOut} (e : nextE E fr cs nx h = some out) : ∃ S, out = .next S := by
  unfold nextE at e
  split at e
  · simp only [Option.bind_eq_some_iff, Option.some.injEq] at e; obtain ⟨_, _, e⟩ := e; exact ⟨_, e.symm⟩
  · split at e
    · simp only [Option.bind_eq_some_iff, Option.some.injEq] at e; obtain ⟨_, _, e⟩ := e; exact ⟨_, e.symm⟩
    · simp only [Option.bind_eq_some_iff, Option.some.injEq] at e; obtain ⟨_, _, e⟩ := e; exact ⟨_, e.symm⟩
  · simp only [Option.some.injEq] at e; exact ⟨_, e.symm⟩
  · split at e
    · simp only [Option.bind_eq_some_iff, Option.some.injEq] at e; obtain ⟨_, _, e⟩ := e; exact ⟨_, e.symm⟩
    · cases e
  · cases hb : (fr.deferred && fr.round.isNone) with
    | false => simp [hb] at e
    | true =>
      simp only [hb, cond_true] at e
      split at e
      · rename_i c _
        cases hc : c.ret with
        | false => simp [hc] at e
        | true =>
          simp only [hc, cond_true, Option.bind_eq_some_iff, Option.some.injEq] at e; obtain ⟨_, _, e⟩ := e; exact ⟨_, e.symm⟩
      · cases e

/-- A frame that returns. -/
theorem ret_sound (X : ExtOK E) {S : AState} {out : AOut} {fr' : Frame} {cs' : List Frame} (R : Rel E w0 base h0 φ0 S fr' cs' w) (hr : S.fr.ret = true) (e : astep E S = some out) :
    (∃ S', out = .next S' ∧ Goes E w0 base h0 φ0 fr' cs' w S') ∨
    (∃ v h φ v', out = .done v h ∧ h = S.h ∧ WR w0 φ h w ∧ GR E.globals φ ∧ Ext h0.next φ0 φ ∧ Keeps h0 h ∧ VR φ v v' ∧ cs' = base ∧ fr'.leaving E.P w (.returned v') ∧ fr'.fn = S.fr.fn) := by
  obtain ⟨φ, lo, W, G, hE, hK, F, St, hlo⟩ := R.ex
  obtain ⟨⟨fn, n, t, todo, defers, ret, deferred, round⟩, cs, h⟩ := S
  simp only at hr W F St hlo hK
  subst hr
  obtain ⟨fn', ts, todo', ds, mode, kind, r⟩ := fr'
  obtain ⟨f1, f2, f3, f4, f5, f6, f7⟩ := F
  simp only [if_true] at f1 f2 f3 f4 f5 f6 f7
  subst f1 f2
  have hnd := f7 trivial
  simp only [astep] at e
  cases f4 with
  | @cons d d' l l' hd hds =>
    simp only at e
    cases hd with
    | fn f0 f1 c c' a a' hf hc ha =>
      simp only [Option.bind_eq_some_iff] at e
      obtain ⟨nx, hnx, e⟩ := e
      split at e
      · rename_i f args
        simp only [Option.bind_eq_some_iff, Option.some.injEq] at e
        obtain ⟨fr2, hf2, rfl⟩ := e
        refine .inl ⟨_, rfl, ?_⟩
        obtain ⟨nx', run, N⟩ := invoke_sound (E := E) X W (t := .fn f0 c) (t' := .fn f1 c') (args := a.toList) (args' := a') (by simpa using DefR.fn f0 f1 c c' a a' hf hc ha) hnx
        cases N with
        | @enter _ _ args' A =>
          have := enter_rel h.next h.next A hf2
          refine .one (st_deferred_call run) ⟨φ, h.next, W, G, hE, hK, ?_, .cons lo h.next h.next ?_ (.plain hnd) St hlo (Nat.le_refl _), Nat.le_refl _⟩
          · simpa using this.1
          · exact ⟨rfl, rfl, f3, hds, f5, f6, fun _ => hnd⟩
      · cases e
    | collected b p hp =>
      simp only at e
      split at e
      · rename_i l1 hg
        simp only [Option.bind_eq_some_iff, Option.some.injEq] at e
        obtain ⟨h2, hput, rfl⟩ := e
        refine .inl ⟨_, rfl, ?_⟩
        have hO := W.live b p hp
        rw [hg] at hO
        obtain ⟨o1, o2, d', hh, hd'⟩ := hO
        cases d' with
        | none => exact absurd hd' (by simp)
        | some l1' =>
          obtain ⟨W2, K2⟩ := W.turnDeferred (d2 := none) (d2' := none) hp hg hh ⟨o1, o2⟩ trivial hput
          refine .one (st_collected hh) ⟨φ, lo, W2, G, hE, hK.trans K2, ?_, St, Nat.le_trans hlo K2.next⟩
          exact FrameR.wide K2.next ⟨rfl, rfl, f3, DefRs.append hd' hds, f5, f6, fun _ => hnd⟩
      · cases e
  | nil =>
    simp only [Option.bind_eq_some_iff] at e
    obtain ⟨func, hfn, v, hv, e⟩ := e
    have T : TmpsR φ n t ts := by
      cases f6 with
      | plain _ ht => exact ht
      | draw _ _ => simp [isDraw] at hnd
    obtain ⟨v', run, V⟩ := results_sound (fr := ⟨fn', n, t, todo, [], true, deferred, round⟩) W T hv
    rcases backE_out e with ⟨S', rfl⟩ | ⟨hcs, hdf, hro, rfl⟩
    · refine .inl ⟨S', rfl, ?_⟩
      refine back_sound (fr := ⟨fn', n, t, todo, [], true, deferred, round⟩) W G hE hK St hlo V e (fun hx c c' hc => ?_) (fun hx c c' hc hp => ?_)
      · simp only at hx; subst hx; subst hc
        simp only [Bool.false_eq_true, if_false] at f3
        subst f3
        exact st_return_normal hfn run
      · simp only at hx; subst hx; subst hc
        simp only [if_true] at f3
        subst f3
        exact st_return_deferred hfn run hp
    · refine .inr ⟨v, h, φ, v', rfl, rfl, W, G, hE, hK, V, ?_, ⟨rfl, rfl, ?_, func, hfn, run⟩, rfl⟩
      · subst hcs; cases St; rfl
      · simp only at hdf; subst hdf; simpa using f3
end
end Go.Ab
