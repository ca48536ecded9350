/-
  A step of the small machine away from regions that draw is some steps of the model's. No statement of the seat is proved here. Conditions: none.
-/
import Derived.Test.YtmpiakibllgdeaaGreatDoorBh
set_option linter.unusedVariables false
set_option linter.unusedSimpArgs false
namespace Go.Ab

section
variable {E : Env} {w0 w : World} {φ : Phi} {h h' : AHeap} {base : List Frame} {h0 : AHeap} {φ0 : Phi}

def resOne (ts : Array Value) : ResultVar → Sem Value
  | .tmp t => pure (ts.getD t undef)
  | .cell a t => do loadVar t (← asAddr (ts.getD a undef))
theorem results_eq (func : Func) (ts : Array Value) : results func ts = (do
    let vs ← func.results.mapM (resOne ts)
    pure (if h : vs.size = 1 then vs[0] else .tuple vs)) := rfl
theorem results_list {fr : AFrame} {ts : Array Value} (W : WR w0 φ h w) (T : TmpsR φ fr.n fr.tmps ts) : ∀ (l : List ResultVar) (vs : List Value), resultsL E fr h l = some vs →
    ∃ vs', (l.mapM (resOne ts)).run E.P w = .ok vs' w ∧ VRs φ vs vs'
  | [], vs, e => by
    simp only [resultsL, Option.some.injEq] at e
    subst e
    exact ⟨[], by simp, .nil⟩
  | x :: l, vs, e => by
    simp only [resultsL, Option.bind_eq_some_iff, Option.some.injEq] at e
    obtain ⟨v, hv, us, hus, rfl⟩ := e
    obtain ⟨us', r2, hu⟩ := results_list W T l us hus
    have key : ∀ {i : Tmp} {u : Value}, evT E fr.n fr.tmps (.tmp i) = some u → VR φ u (ts.getD i undef) := fun {i u} hu => by
      simp only [evT] at hu
      cases hb : Nat.blt i fr.n with
      | false => simp [hb] at hu
      | true =>
        simp only [hb, cond_true, Option.some.injEq] at hu
        subst hu
        exact T.2.2 i (by simpa [Nat.blt_eq] using hb)
    cases x with
    | tmp t =>
      simp only [resultE] at hv
      exact ⟨_, by simp only [List.mapM_cons, resOne, Sem.run_bind, Sem.run_pure, Result.andThen_ok, r2], .cons (key hv) hu⟩
    | cell a t =>
      simp only [resultE, Option.bind_eq_some_iff] at hv
      obtain ⟨u, hau, hv⟩ := hv
      have V := key hau
      split at hv
      · rename_i ad
        split at hv
        · rename_i hs
          generalize hx : ts.getD a undef = x' at V
          cases V with
          | atom _ z => simp [atom] at z
          | ptr _ p s1 hp =>
            obtain ⟨v', r1, V'⟩ := run_loadVar W hp hv
            refine ⟨_, ?_, .cons V' hu⟩
            have ra : (asAddr (ts.getD a undef)).run E.P w = .ok ⟨p.b, p.o + ad.off, none⟩ w := by rw [hx]; rfl
            simp only [List.mapM_cons, resOne, Sem.run_bind, ra, Sem.run_pure, Result.andThen_ok, r1, r2]
        · cases hv
      · cases hv

theorem results_sound {func : Func} {fr : AFrame} {ts : Array Value} {v : Value} (W : WR w0 φ h w) (T : TmpsR φ fr.n fr.tmps ts) (e : resultsE E func fr h = some v) : ∃ v', (results func ts).run E.P w = .ok v' w ∧ VR φ v v' := by
  unfold resultsE at e
  simp only [Option.bind_eq_some_iff] at e
  obtain ⟨vs, hvs, e⟩ := e
  obtain ⟨vs', r, V⟩ := results_list W T _ _ hvs
  have run : (results func ts).run E.P w = .ok (if h : vs'.toArray.size = 1 then vs'.toArray[0] else .tuple vs'.toArray) w := by
    rw [results_eq, Array.mapM_eq_mapM_toList]
    simp only [Sem.run_bind, map_eq_pure_bind, r, Result.andThen_ok, Sem.run_pure]
  refine ⟨_, run, ?_⟩
  split at e
  · simp only [Option.some.injEq] at e
    subst e
    cases V with
    | cons a b => cases b; simpa using a
  · rename_i hne
    simp only [Option.some.injEq] at e
    subst e
    have hl := V.length
    have : vs'.toArray.size ≠ 1 := by
      intro z
      simp only [List.size_toArray] at z
      rw [← hl] at z
      obtain ⟨x, hx⟩ := List.length_eq_one_iff.1 z
      exact hne x hx
    rw [dif_neg this]
    exact .tuple _ _ (by simpa using V)

theorem backE_out {fr : AFrame} {cs : List AFrame} {v : Value} {out : AOut} (e : backE E fr cs v h = some out) : (∃ S, out = .next S) ∨ (cs = [] ∧ fr.deferred = false ∧ fr.round = none ∧ out = .done v h) := by
  unfold backE at e
  split at e
  · cases hb : (fr.deferred || fr.round.isSome) with
    | true => simp [hb] at e
    | false =>
      simp only [hb, cond_false, Option.some.injEq] at e
      simp at hb
      exact .inr ⟨rfl, hb.1, hb.2, e.symm⟩
  · cases hb : fr.deferred with
    | true => simp only [hb, cond_true, Option.some.injEq] at e; exact .inl ⟨_, e.symm⟩
    | false =>
      simp only [hb, cond_false, Option.bind_eq_some_iff, Option.some.injEq] at e
      obtain ⟨c, _, e⟩ := e
      exact .inl ⟨_, e.symm⟩
theorem leaveE_out {fr : AFrame} {cs : List AFrame} {jump : Option Code} {out : AOut} (e : leaveE E fr cs h jump = some out) : ∃ S, out = .next S := by
  unfold leaveE at e
  split at e
  · split at e
    · simp only [Option.some.injEq] at e; exact ⟨_, e.symm⟩
    · simp only [Option.some.injEq] at e; exact ⟨_, e.symm⟩
    · cases e
  · rename_i l hl
    simp only [Option.bind_eq_some_iff] at e
    obtain ⟨r, _, h2, _, e⟩ := e
    rcases backE_out e with z | ⟨_, _, z, _⟩
    · exact z
    · rw [hl] at z; cases z
theorem nextE_out {fr : AFrame} {cs : List AFrame} {nx : ANext} {out : AOut} (e : nextE E fr cs nx h = some out) : ∃ S, out = .next S := by
  unfold nextE at e
  split at e
  · simp only [Option.bind_eq_some_iff, Option.some.injEq] at e; obtain ⟨_, _, e⟩ := e; exact ⟨_, e.symm⟩
  · split at e
    · simp only [Option.bind_eq_some_iff, Option.some.injEq] at e; obtain ⟨_, _, e⟩ := e; exact ⟨_, e.symm⟩
    · simp only [Option.bind_eq_some_iff, Option.some.injEq] at e; obtain ⟨_, _, e⟩ := e; exact ⟨_, e.symm⟩
  · simp only [Option.some.injEq] at e; exact ⟨_, e.symm⟩
  · split at e
    · simp only [Option.bind_eq_some_iff, Option.some.injEq] at e; obtain ⟨_, _, e⟩ := e; exact ⟨_, e.symm⟩
    · cases e
  · cases hb : (fr.deferred && fr.round.isNone) with
    | false => simp [hb] at e
    | true =>
      simp only [hb, cond_true] at e
      split at e
      · rename_i c _
        cases hc : c.ret with
        | false => simp [hc] at e
        | true =>
          simp only [hc, cond_true, Option.bind_eq_some_iff, Option.some.injEq] at e; obtain ⟨_, _, e⟩ := e; exact ⟨_, e.symm⟩
      · cases e

/-- A frame that returns. -/
theorem ret_sound (X : ExtOK E) {S : AState} {out : AOut} {fr' : Frame} {cs' : List Frame} (R : Rel E w0 base h0 φ0 S fr' cs' w) (hr : S.fr.ret = true) (e : astep E S = some out) :
    (∃ S', out = .next S' ∧ Goes E w0 base h0 φ0 fr' cs' w S') ∨
    (∃ v h φ v', out = .done v h ∧ h = S.h ∧ WR w0 φ h w ∧ GR E.globals φ ∧ Ext h0.next φ0 φ ∧ Keeps h0 h ∧ VR φ v v' ∧ cs' = base ∧ fr'.leaving E.P w (.returned v') ∧ fr'.fn = S.fr.fn) := by
  obtain ⟨φ, lo, W, G, hE, hK, F, St, hlo⟩ := R.ex
  obtain ⟨⟨fn, n, t, todo, defers, ret, deferred, round⟩, cs, h⟩ := S
  simp only at hr W F St hlo hK
  subst hr
  obtain ⟨fn', ts, todo', ds, mode, kind, r⟩ := fr'
  obtain ⟨f1, f2, f3, f4, f5, f6, f7⟩ := F
  simp only [if_true] at f1 f2 f3 f4 f5 f6 f7
  subst f1 f2
  have hnd := f7 trivial
  simp only [astep] at e
  cases f4 with
  | @cons d d' l l' hd hds =>
    simp only at e
    cases hd with
    | fn f0 f1 c c' a a' hf hc ha =>
      simp only [Option.bind_eq_some_iff] at e
      obtain ⟨nx, hnx, e⟩ := e
      split at e
      · rename_i f args
        simp only [Option.bind_eq_some_iff, Option.some.injEq] at e
        obtain ⟨fr2, hf2, rfl⟩ := e
        refine .inl ⟨_, rfl, ?_⟩
        obtain ⟨nx', run, N⟩ := invoke_sound (E := E) X W (t := .fn f0 c) (t' := .fn f1 c') (args := a.toList) (args' := a') (by simpa using DefR.fn f0 f1 c c' a a' hf hc ha) hnx
        cases N with
        | @enter _ _ args' A =>
          have := enter_rel h.next h.next A hf2
          refine .one (st_deferred_call run) ⟨φ, h.next, W, G, hE, hK, ?_, .cons lo h.next h.next ?_ (.plain hnd) St hlo (Nat.le_refl _), Nat.le_refl _⟩
          · simpa using this.1
          · exact ⟨rfl, rfl, f3, hds, f5, f6, fun _ => hnd⟩
      · cases e
    | collected b p hp =>
      simp only at e
      split at e
      · rename_i l1 hg
        simp only [Option.bind_eq_some_iff, Option.some.injEq] at e
        obtain ⟨h2, hput, rfl⟩ := e
        refine .inl ⟨_, rfl, ?_⟩
        have hO := W.live b p hp
        rw [hg] at hO
        obtain ⟨o1, o2, d', hh, hd'⟩ := hO
        cases d' with
        | none => exact absurd hd' (by simp)
        | some l1' =>
          obtain ⟨W2, K2⟩ := W.turnDeferred (d2 := none) (d2' := none) hp hg hh ⟨o1, o2⟩ trivial hput
          refine .one (st_collected hh) ⟨φ, lo, W2, G, hE, hK.trans K2, ?_, St, Nat.le_trans hlo K2.next⟩
          exact FrameR.wide K2.next ⟨rfl, rfl, f3, DefRs.append hd' hds, f5, f6, fun _ => hnd⟩
      · cases e
  | nil =>
    simp only [Option.bind_eq_some_iff] at e
    obtain ⟨func, hfn, v, hv, e⟩ := e
    have T : TmpsR φ n t ts := by
      cases f6 with
      | plain _ ht => exact ht
      | draw _ _ => simp [isDraw] at hnd
    obtain ⟨v', run, V⟩ := results_sound (fr := ⟨fn', n, t, todo, [], true, deferred, round⟩) W T hv
    rcases backE_out e with ⟨S', rfl⟩ | ⟨hcs, hdf, hro, rfl⟩
    · refine .inl ⟨S', rfl, ?_⟩
      refine back_sound (fr := ⟨fn', n, t, todo, [], true, deferred, round⟩) W G hE hK St hlo V e (fun hx c c' hc => ?_) (fun hx c c' hc hp => ?_)
      · simp only at hx; subst hx; subst hc
        simp only [Bool.false_eq_true, if_false] at f3
        subst f3
        exact st_return_normal hfn run
      · simp only at hx; subst hx; subst hc
        simp only [if_true] at f3
        subst f3
        exact st_return_deferred hfn run hp
    · refine .inr ⟨v, h, φ, v', rfl, rfl, W, G, hE, hK, V, ?_, ⟨rfl, rfl, ?_, func, hfn, run⟩, rfl⟩
      · subst hcs; cases St; rfl
      · simp only at hdf; subst hdf; simpa using f3
end
end Go.Ab

/-
  A step of the small machine away from regions that draw: a running frame. No statement of the seat is proved here. Conditions: none.
-/
set_option linter.unusedVariables false
set_option linter.unusedSimpArgs false
namespace Go.Ab

section
variable {E : Env} {w0 w : World} {φ : Phi} {h h' : AHeap} {base : List Frame} {h0 : AHeap} {φ0 : Phi}

/-- What a range over a function makes: the loop, and where deferred calls go. -/
theorem enterLoop_sound {fn : FuncId} {n : Nat} {t : Tr Value} {ts : Array Value} {params : Array Tmp} {assign body : Code} {round r : Option Nat} {m : Nat × List Deferred × AHeap} {q : Nat × AHeap}
    (W : WR w0 φ h w) (T : TmpsR φ n t ts)
    (em : (match round with
      | some l => (getLoopE h l).bind fun r => some (r.defers, [], h)
      | none => (h.alloc (.deferred (some []))).bind fun q => some (q.1, [{ target := .collected q.1, args := #[] }], q.2)) = some m)
    (eq : m.2.2.alloc (.loop { state := .ready, pending := none, fn := fn, n := n, tmps := t, params := params.toList, assign := assign, body := body, defers := m.1 }) = some q) (hr : RoundR φ round r) :
    ∃ phq w' mark p, (Instr.enterLoop fn ts params assign body r).run E.P w = .ok (p.b, mark) w' ∧ WR w0 phq q.2 w' ∧ Ext h.next φ phq ∧ Keeps h q.2 ∧ phq q.1 = some p ∧ DefRs phq m.2.1 mark := by
  obtain ⟨m1, m2, m3⟩ := m
  obtain ⟨q1, q2⟩ := q
  simp only at eq ⊢
  cases hr with
  | none =>
    simp only [Option.bind_eq_some_iff, Option.some.injEq, Prod.mk.injEq] at em
    obtain ⟨⟨b, h1⟩, hal, rfl, rfl, rfl⟩ := em
    simp only at eq ⊢
    obtain ⟨W1, e1⟩ := W.new hal (.deferred (some [])) ⟨w.heap.size, 0, 1, none⟩ rfl rfl (by intro _ _ _ z; cases z) ⟨rfl, rfl, some [], pushed_new w _, .nil⟩
    have k1 := W.keeps_alloc hal
    have hb : upd φ b ⟨w.heap.size, 0, 1, none⟩ b = some ⟨w.heap.size, 0, 1, none⟩ := upd_same _ _ _
    have hbl := (W1.lt_most hb).1
    generalize hφ1 : upd φ b ⟨w.heap.size, 0, 1, none⟩ = φ1 at W1 e1 hb
    have hfr : φ1 q1 = none := W1.fresh _ (by obtain ⟨rfl, _⟩ := alloc_eq eq; exact Nat.le_refl _)
    have sub2 : Sub φ1 (upd φ1 q1 ⟨(World.pushed w (.deferred (some []))).heap.size, 0, 1, none⟩) := Sub.upd hfr
    obtain ⟨W2, e2⟩ := W1.new eq (.loop { state := .ready, pending := none, fn, tmps := ts, params, assign, body, defers := w.heap.size }) ⟨(World.pushed w (.deferred (some []))).heap.size, 0, 1, none⟩ rfl rfl (by intro _ _ _ z; cases z)
      ⟨rfl, rfl, _, pushed_new _ _, ⟨rfl, rfl, rfl, (T.mono e1.1).mono sub2, rfl, rfl, rfl, _, sub2 _ _ hb, rfl⟩⟩
    have k2 := W1.keeps_alloc eq
    refine ⟨_, _, [{ target := .collected w.heap.size, args := #[] }], _, ?_, W2, e1.trans e2 k1.next, k1.trans k2, upd_same _ _ _, .cons (.collected b _ (sub2 _ _ hb)) .nil⟩
    simp only [Instr.enterLoop, Sem.run_bind, run_newObj, Result.andThen_ok, Sem.run_pure]
    rfl
  | some l p hp =>
    simp only [Option.bind_eq_some_iff, Option.some.injEq, Prod.mk.injEq] at em
    obtain ⟨r1, hg, rfl, rfl, rfl⟩ := em
    obtain ⟨r1', hh, L, o1, o2⟩ := W.loop hp hg
    obtain ⟨pd, hpd, hpd'⟩ := L.defers
    have hfr : φ q1 = none := W.fresh _ (by obtain ⟨rfl, _⟩ := alloc_eq eq; exact Nat.le_refl _)
    have sub2 : Sub φ (upd φ q1 ⟨w.heap.size, 0, 1, none⟩) := Sub.upd hfr
    obtain ⟨W2, e2⟩ := W.new eq (.loop { state := .ready, pending := none, fn, tmps := ts, params, assign, body, defers := r1'.defers }) ⟨w.heap.size, 0, 1, none⟩ rfl rfl (by intro _ _ _ z; cases z)
      ⟨rfl, rfl, _, pushed_new _ _, ⟨rfl, rfl, rfl, T.mono sub2, rfl, rfl, rfl, _, sub2 _ _ hpd, hpd'⟩⟩
    refine ⟨_, _, [], _, ?_, W2, e2, W.keeps_alloc eq, upd_same _ _ _, .nil⟩
    simp only [Instr.enterLoop, Sem.run_bind, run_getLoop hh, run_newObj, Result.andThen_ok, Sem.run_pure]
    rfl

/-- A frame that runs, away from a region that draws. -/
theorem run_sound (X : ExtOK E) (Y : SumOK E) {S : AState} {out : AOut} {fr' : Frame} {cs' : List Frame} (R : Rel E w0 base h0 φ0 S fr' cs' w) (hr : S.fr.ret = false) (hdr : isDraw S.fr.todo = false)
    (hdd : ∀ id ops k, S.fr.todo ≠ .code (.region id ops true) :: k) (e : astep E S = some out) :
    ∃ S' ∈ out.all, Goes E w0 base h0 φ0 fr' cs' w S' := by
  obtain ⟨φ, lo, W, G, hE, hK, F, St, hlo⟩ := R.ex
  obtain ⟨⟨fn, n, t, todo, defers, ret, deferred, round⟩, cs, h⟩ := S
  simp only at hr W F St hlo hK hdr hdd
  subst hr
  obtain ⟨fn', ts, todo', ds, mode, kind, r⟩ := fr'
  have F0 := F
  obtain ⟨f1, f2, f3, f4, f5, f6, f7⟩ := F
  simp only [Bool.false_eq_true, if_false] at f1 f2 f3 f4 f5 f6 f7
  subst f1 f2
  have hBody : ∃ (hk : ItemsR φ todo todo'), TmpsR φ n t ts := by
    cases f6 with
    | plain hk ht => exact ⟨hk, ht⟩
    | draw _ _ => simp [isDraw] at hdr
  obtain ⟨hk, T⟩ := hBody
  have ρR : RhoR φ (evT E n t) (Act.eval { tmps := ts, defers := ds }) := by
    have := evT_rho (E := E) G T
    intro x v hx
    have := this x v hx
    cases x <;> exact this
  -- the same frame with other things to do
  have same : ∀ (todo2 : List AItem) (todo2' : List Item), ItemsR φ todo2 todo2' → step E.P (lone (fRun fn' ts todo' ds kind r) cs' w) = .next (lone (fRun fn' ts todo2' ds kind r) cs' w) →
      ∃ S' ∈ (AOut.next ⟨⟨fn', n, t, todo2, defers, false, deferred, round⟩, cs, h⟩).all, Goes E w0 base h0 φ0 (fRun fn' ts todo' ds kind r) cs' w S' := fun todo2 todo2' hk2 st =>
    ⟨_, List.mem_singleton.2 rfl, .one st ⟨φ, lo, W, G, hE, hK, ⟨rfl, rfl, f3, f4, f5, .plain hk2 T, fun z => by simp at z⟩, St, hlo⟩⟩
  have leave : ∀ {jump : Option Code}, ((todo' = [] ∧ jump = none) ∨ (∃ k, todo' = .code .ret :: k ∧ jump = some .ret) ∨ (∃ id k, todo' = .code (.exit id) :: k ∧ exitTo id k = none ∧ jump = some (.exit id))) →
      leaveE E ⟨fn', n, t, todo, defers, false, deferred, round⟩ cs h jump = some out → ∃ S' ∈ out.all, Goes E w0 base h0 φ0 (fRun fn' ts todo' ds kind r) cs' w S' := fun {jump} hj hl => by
    obtain ⟨S', rfl⟩ := leaveE_out hl
    exact ⟨S', List.mem_singleton.2 rfl, leave_sound W G hE hK F0 hdr St hlo hj hl⟩
  cases hk with
  | nil =>
    simp only [astep] at e
    exact leave (.inl ⟨rfl, rfl⟩) e
  | @cons a b k k' ha hk =>
    cases ha with
    | code c =>
      cases c with
      | ret => simp only [astep] at e; exact leave (.inr (.inl ⟨k', rfl, rfl⟩)) e
      | skip =>
        simp only [astep, astep.to, Option.some.injEq] at e; subst e
        exact same _ _ hk st_skip
      | seq a b =>
        simp only [astep, astep.to, Option.some.injEq] at e; subst e
        exact same _ _ (.cons (.code a) (.cons (.code b) hk)) st_seq
      | cond c a b =>
        simp only [astep, astep.to, Option.bind_eq_some_iff] at e
        obtain ⟨v, hv, e⟩ := e
        have V := ρR c v hv
        split at e
        · simp only [Option.some.injEq] at e; subst e
          have := st_cond (P := E.P) (fn := fn') (ts := ts) (k := k') (ds := ds) (kind := kind) (r := r) (cs := cs') (w := w) (a := a) (b := b) V.bool
          exact same _ _ (.cons (.code a) hk) this
        · simp only [Option.some.injEq] at e; subst e
          have := st_cond (P := E.P) (fn := fn') (ts := ts) (k := k') (ds := ds) (kind := kind) (r := r) (cs := cs') (w := w) (a := a) (b := b) V.bool
          exact same _ _ (.cons (.code b) hk) this
        · cases e
      | block id c =>
        simp only [astep, astep.to, Option.some.injEq] at e; subst e
        exact same _ _ (.cons (.code c) (.cons (.inBlock id) hk)) st_block
      | loop c =>
        simp only [astep, astep.to, Option.some.injEq] at e; subst e
        exact same _ _ (.cons (.code c) (.cons (.inLoop c) hk)) st_loop
      | scope c =>
        simp only [astep, astep.to, Option.some.injEq] at e; subst e
        exact same _ _ (.cons (.code c) (.cons (.inScope c) hk)) st_scope
      | exit id =>
        simp only [astep, astep.to] at e
        split at e
        · rename_i k2 hx
          simp only [Option.some.injEq] at e; subst e
          obtain ⟨k2', h1, h2⟩ := exit_rel hk _ hx
          exact same _ _ h2 (st_exit h1)
        · rename_i hx
          exact leave (.inr (.inr ⟨id, k', rfl, exit_none hk hx, rfl⟩)) e
      | region id ops draw =>
        cases draw with
        | true => exact absurd rfl (hdd id ops k)
        | false =>
          simp only [astep, astep.to, Option.some.injEq] at e; subst e
          exact same _ _ (.cons (.inRegion ops _ _ (SelR.range ops)) hk) st_region
      | rangeFunc f params assign body =>
        simp only [astep, Option.bind_eq_some_iff] at e
        obtain ⟨m, hm, q, hq, v, hv, e⟩ := e
        obtain ⟨phq, w', mark, p, run, W', e', K, hp, dm⟩ := enterLoop_sound W T hm hq f5
        have V := (ρR f v hv).mono e'.1
        generalize hfe : (Act.eval { tmps := ts, defers := ds }) f = x' at V
        split at e
        · rename_i g first captured
          simp only [Option.bind_eq_some_iff] at e
          obtain ⟨nx, hnx, e⟩ := e
          cases V with
          | atom _ z => simp [atom] at z
          | func _ g' _ _ a' b' hfn h1 h2 =>
            split at e
            · rename_i f2 args
              simp only [Option.bind_eq_some_iff, Option.some.injEq] at e
              obtain ⟨fr2, hf2, rfl⟩ := e
              obtain ⟨nx', run2, N⟩ := invoke_sound (E := E) X W' (t := .fn g captured) (t' := .fn g' b') (args := first.toList ++ [.func (.yield q.1) #[] #[]]) (args' := a' ++ #[.func (.yield p.b) #[] #[]])
                (DefR.fn _ _ _ _ _ _ hfn h2 (by simpa using h1.append (.cons (VR.func _ _ _ _ _ _ (.yield q.1 p hp) .nil .nil) .nil))) hnx
              cases N with
              | @enter _ _ args' A =>
                have := enter_rel q.2.next q.2.next A hf2
                have run3 : (do let d ← resolve (Act.mk ts ds).eval { callee := .value f, args := #[.const (.func (.yield p.b) #[] #[])], argTypes := #[] } 0; invoke d.target d.args : Sem Next).run E.P w' = .ok (.enter f2 args') w' := by
                  have hmap : Array.map (Act.eval { tmps := ts, defers := ds }) #[.const (.func (.yield p.b) #[] #[])] = #[.func (.yield p.b) #[] #[]] := by simp [Act.eval]
                  simp only [resolve, hfe, Deferred.ofValue, Sem.run_bind, Sem.run_pure, Result.andThen_ok, hmap]
                  exact run2
                have hlo2 : lo ≤ q.2.next := Nat.le_trans hlo K.next
                refine ⟨_, List.mem_singleton.2 rfl, .one (st_rangeFunc run run3) ⟨phq, q.2.next, W', G.mono e'.1, hE.trans e' hK.next, hK.trans K, this.1, .cons lo q.2.next q.2.next ?_ (.plain rfl) (St.later hlo e') hlo2 (Nat.le_refl _), Nat.le_refl _⟩⟩
                exact ⟨rfl, rfl, f3, dm.append (f4.mono e'.1), f5.mono e'.1, .plain (.cons (.inRangeFunc q.1 p hp) (hk.mono e'.1)) (T.mono e'.1), fun z => by simp at z⟩
            · cases e
        · cases e
      | _ => simp [astep] at e
    | inBlock id =>
      simp only [astep, astep.to, Option.some.injEq] at e; subst e
      exact same _ _ hk st_inBlock
    | inScope c =>
      simp only [astep, astep.to, Option.some.injEq] at e; subst e
      exact same _ _ hk st_inScope
    | inLoop c =>
      simp only [astep, astep.to, Option.some.injEq] at e; subst e
      exact same _ _ (.cons (.code c) (.cons (.inLoop c) hk)) st_inLoop
    | inRangeFunc l p hp => simp [astep] at e
    | endRangeFunc l p hp =>
      simp only [astep, Option.bind_eq_some_iff] at e
      obtain ⟨r1, hg, e⟩ := e
      obtain ⟨r1', hh, L, o1, o2⟩ := W.loop hp hg
      split at e
      · cases e
      · rename_i hns
        simp only [Option.bind_eq_some_iff, Option.some.injEq] at e
        obtain ⟨h2, hput, rfl⟩ := e
        obtain ⟨W2, K2⟩ := W.turnLoop hp hg hh ⟨o1, o2⟩ (r2 := { r1 with state := .exhausted }) (r2' := { r1' with state := .exhausted }) ⟨rfl, L.pending, L.fn, L.tmps, L.params, L.assign, L.body, L.defers⟩ hput
        have run := run_endLoop (P := E.P) hh (by rw [L.state]; exact hns)
        refine ⟨_, List.mem_singleton.2 rfl, .one (st_endRangeFunc run) ⟨φ, lo, W2, G, hE, hK.trans K2, FrameR.wide K2.next ⟨rfl, rfl, f3, f4, f5, .plain ?_ T, fun z => by simp at z⟩, St, Nat.le_trans hlo K2.next⟩⟩
        rw [L.pending]
        cases r1.pending with
        | none => exact hk
        | some c => exact .cons (.code c) hk
    | beginRound =>
      simp only [astep] at e
      cases f5 with
      | none => cases e
      | some l p hp =>
        simp only [Option.bind_eq_some_iff] at e
        obtain ⟨r1, hg, e⟩ := e
        obtain ⟨r1', hh, L, o1, o2⟩ := W.loop hp hg
        split at e
        · rename_i hst
          simp only [Option.bind_eq_some_iff, Option.some.injEq] at e
          obtain ⟨fr2, hf2, h2, hput, rfl⟩ := e
          obtain ⟨W2, K2⟩ := W.turnLoop hp hg hh ⟨o1, o2⟩ (r2 := { r1 with state := .busy }) (r2' := { r1' with state := .busy }) ⟨rfl, L.pending, L.fn, L.tmps, L.params, L.assign, L.body, L.defers⟩ hput
          have run := run_beginRound (P := E.P) hh (by rw [L.state]; exact hst)
          have hf3 := finish_rel F0 rfl (.tuple #[] #[] .nil) hf2
          exact ⟨_, List.mem_singleton.2 rfl, .one (st_beginRound run) ⟨φ, lo, W2, G, hE, hK.trans K2, FrameR.wide K2.next hf3, St, Nat.le_trans hlo K2.next⟩⟩
        · cases e
    | inRegion ops rest l hs =>
      cases hs with
      | nil =>
        simp only [astep, astep.to, Option.some.injEq] at e; subst e
        exact same _ _ hk st_region_end
      | @cons i o l r2 ho hs =>
        simp only [astep, Option.bind_eq_some_iff] at e
        obtain ⟨wd, hwd, e⟩ := e
        have hw := wanted_rel (φ := φ) (o := o) T.2.1 (fun j want g d _ _ _ hd => T.2.2 d hd) hwd
        cases wd with
        | false =>
          simp only [cond_false, Option.bind_eq_some_iff, Option.some.injEq] at e
          obtain ⟨fr2, hf2, rfl⟩ := e
          exact ⟨_, List.mem_singleton.2 rfl, .one (st_unwanted (by simp [ho, hw])) ⟨φ, lo, W, G, hE, hK, finish_rel F0 rfl (.tuple _ _ .nil) hf2, St, hlo⟩⟩
        | true =>
          simp only [cond_true] at e
          split at e
          · rename_i it hop
            simp only [Option.bind_eq_some_iff] at e
            obtain ⟨v, hv, e⟩ := e
            exact nexts_sound W G hE hK F0 (.plain rfl) St hlo ho hw hop (ρR it v hv) e
          · simp only [Option.bind_eq_some_iff] at e
            obtain ⟨⟨nx, h2⟩, hop, e⟩ := e
            obtain ⟨S', rfl⟩ := nextE_out e
            exact ⟨S', List.mem_singleton.2 rfl, next_sound Y W G hE hK F0 (.plain rfl) St hlo ho hw (aop_defer hop) (aop_sound X W ρR hop) e⟩
end
end Go.Ab
