/-
  A step of the small machine away from regions that draw: a running frame. No statement of the seat is proved here. Conditions: none.
-/
import Derived.Test.YtmpiakibllgdeaaGreatDoorBi
set_option linter.unusedVariables false
set_option linter.unusedSimpArgs false
namespace Go.Ab

section
variable {E : Env} {w0 w : World} {φ : Phi} {h h' : AHeap} {base : List Frame} {h0 : AHeap} {φ0 : Phi}

/-- What a range over a function makes: the loop, and where deferred calls go. -/
theorem enterLoop_sound {fn : FuncId} {n : Nat} {t : Tr Value} {ts : Array Value} {params : Array Tmp} {assign body : Code} {round r : Option Nat} {m : Nat × List Deferred × AHeap} {q : Nat × AHeap}
    (W : WR w0 φ h w) (T : TmpsR φ n t ts)
    (em : (match round with
      | some l => (getLoopE h l).bind fun r => some (r.defers, [], h)
      | none => (h.alloc (.deferred (some []))).bind fun q => some (q.1, [{ target := .collected q.1, args := #[] }], q.2)) = some m)
    (eq : m.2.2.alloc (.loop { state := .ready, pending := none, fn := fn, n := n, tmps := t, params := params.toList, assign := assign, body := body, defers := m.1 }) = some q) (hr : RoundR φ round r) :
    ∃ φ' w' mark p, (Instr.enterLoop fn ts params assign body r).run E.P w = .ok (p.b, mark) w' ∧ WR w0 φ' q.2 w' ∧ Ext h.next φ φ' ∧ Keeps h q.2 ∧ φ' q.1 = some p ∧ DefRs φ' m.2.1 mark := by
  obtain ⟨m1, m2, m3⟩ := m
  obtain ⟨q1, q2⟩ := q
  simp only at eq ⊢
  cases hr with
  | none =>
    simp only [Option.bind_eq_some_iff, Option.some.injEq, Prod.mk.injEq] at em
    obtain ⟨⟨b, h1⟩, hal, rfl, rfl, rfl⟩ := em
    simp only at eq ⊢
    obtain ⟨W1, e1⟩ := W.new hal (.deferred (some [])) ⟨w.heap.size, 0, 1, none⟩ rfl rfl (by intro _ _ _ z; cases z) ⟨rfl, rfl, some [], pushed_new w _, .nil⟩
    have k1 := W.keeps_alloc hal
    have hb : upd φ b ⟨w.heap.size, 0, 1, none⟩ b = some ⟨w.heap.size, 0, 1, none⟩ := upd_same _ _ _
    have hbl := (W1.lt_most hb).1
    generalize hφ1 : upd φ b ⟨w.heap.size, 0, 1, none⟩ = φ1 at W1 e1 hb
    have hfr : φ1 q1 = none := W1.fresh _ (by obtain ⟨rfl, _⟩ := alloc_eq eq; exact Nat.le_refl _)
    have sub2 : Sub φ1 (upd φ1 q1 ⟨(World.pushed w (.deferred (some []))).heap.size, 0, 1, none⟩) := Sub.upd hfr
    obtain ⟨W2, e2⟩ := W1.new eq (.loop { state := .ready, pending := none, fn, tmps := ts, params, assign, body, defers := w.heap.size }) ⟨(World.pushed w (.deferred (some []))).heap.size, 0, 1, none⟩ rfl rfl (by intro _ _ _ z; cases z)
      ⟨rfl, rfl, _, pushed_new _ _, ⟨rfl, rfl, rfl, (T.mono e1.1).mono sub2, rfl, rfl, rfl, _, sub2 _ _ hb, rfl⟩⟩
    have k2 := W1.keeps_alloc eq
    refine ⟨_, _, [{ target := .collected w.heap.size, args := #[] }], _, ?_, W2, e1.trans e2 k1.next, k1.trans k2, upd_same _ _ _, .cons (.collected b _ (sub2 _ _ hb)) .nil⟩
    simp only [Instr.enterLoop, Sem.run_bind, run_newObj, Result.andThen_ok, Sem.run_pure]
    rfl
  | some l p hp =>
    simp only [Option.bind_eq_some_iff, Option.some.injEq, Prod.mk.injEq] at em
    obtain ⟨r1, hg, rfl, rfl, rfl⟩ := em
    obtain ⟨r1', hh, L, o1, o2⟩ := W.loop hp hg
    obtain ⟨pd, hpd, hpd'⟩ := L.defers
    have hfr : φ q1 = none := W.fresh _ (by obtain ⟨rfl, _⟩ := alloc_eq eq; exact Nat.le_refl _)
    have sub2 : Sub φ (upd φ q1 ⟨w.heap.size, 0, 1, none⟩) := Sub.upd hfr
    obtain ⟨W2, e2⟩ := W.new eq (.loop { state := .ready, pending := none, fn, tmps := ts, params, assign, body, defers := r1'.defers }) ⟨w.heap.size, 0, 1, none⟩ rfl rfl (by intro _ _ _ z; cases z)
      ⟨rfl, rfl, _, pushed_new _ _, ⟨rfl, rfl, rfl, T.mono sub2, rfl, rfl, rfl, _, sub2 _ _ hpd, hpd'⟩⟩
    refine ⟨_, _, [], _, ?_, W2, e2, W.keeps_alloc eq, upd_same _ _ _, .nil⟩
    simp only [Instr.enterLoop, Sem.run_bind, run_getLoop hh, run_newObj, Result.andThen_ok, Sem.run_pure]
    rfl

/-- A frame that runs, away from a region that draws. -/
theorem run_sound (X : ExtOK E) (Y : SumOK E) {S : AState} {out : AOut} {fr' : Frame} {cs' : List Frame} (R : Rel E w0 base h0 φ0 S fr' cs' w) (hr : S.fr.ret = false) (hdr : isDraw S.fr.todo = false)
    (hdd : ∀ id ops k, S.fr.todo ≠ .code (.region id ops true) :: k) (e : astep E S = some out) :
    ∃ S' ∈ out.all, Goes E w0 base h0 φ0 fr' cs' w S' := by
  obtain ⟨φ, lo, W, G, hE, hK, F, St, hlo⟩ := R.ex
  obtain ⟨⟨fn, n, t, todo, defers, ret, deferred, round⟩, cs, h⟩ := S
  simp only at hr W F St hlo hK hdr hdd
  subst hr
  obtain ⟨fn', ts, todo', ds, mode, kind, r⟩ := fr'
  have F0 := F
  obtain ⟨f1, f2, f3, f4, f5, f6, f7⟩ := F
  simp only [Bool.false_eq_true, if_false] at f1 f2 f3 f4 f5 f6 f7
  subst f1 f2
  have hBody : ∃ (hk : ItemsR φ todo todo'), TmpsR φ n t ts := by
    cases f6 with
    | plain hk ht => exact ⟨hk, ht⟩
    | draw _ _ => simp [isDraw] at hdr
  obtain ⟨hk, T⟩ := hBody
  have ρR : RhoR φ (evT E n t) (Act.eval { tmps := ts, defers := ds }) := by
    have := evT_rho (E := E) G T
    intro x v hx
    have := this x v hx
    cases x <;> exact this
  -- the same frame with other things to do
  have same : ∀ (todo2 : List AItem) (todo2' : List Item), ItemsR φ todo2 todo2' → step E.P (lone (fRun fn' ts todo' ds kind r) cs' w) = .next (lone (fRun fn' ts todo2' ds kind r) cs' w) →
      ∃ S' ∈ (AOut.next ⟨⟨fn', n, t, todo2, defers, false, deferred, round⟩, cs, h⟩).all, Goes E w0 base h0 φ0 (fRun fn' ts todo' ds kind r) cs' w S' := fun todo2 todo2' hk2 st =>
    ⟨_, List.mem_singleton.2 rfl, .one st ⟨φ, lo, W, G, hE, hK, ⟨rfl, rfl, f3, f4, f5, .plain hk2 T, fun z => by simp at z⟩, St, hlo⟩⟩
  have leave : ∀ {jump : Option Code}, ((todo' = [] ∧ jump = none) ∨ (∃ k, todo' = .code .ret :: k ∧ jump = some .ret) ∨ (∃ id k, todo' = .code (.exit id) :: k ∧ exitTo id k = none ∧ jump = some (.exit id))) →
      leaveE E ⟨fn', n, t, todo, defers, false, deferred, round⟩ cs h jump = some out → ∃ S' ∈ out.all, Goes E w0 base h0 φ0 (fRun fn' ts todo' ds kind r) cs' w S' := fun {jump} hj hl => by
    obtain ⟨S', rfl⟩ := leaveE_out hl
    exact ⟨S', List.mem_singleton.2 rfl, leave_sound W G hE hK F0 hdr St hlo hj hl⟩
  cases hk with
  | nil =>
    simp only [astep] at e
    exact leave (.inl ⟨rfl, rfl⟩) e
  | @cons a b k k' ha hk =>
    cases ha with
    | code c =>
      cases c with
      | ret => simp only [astep] at e; exact leave (.inr (.inl ⟨k', rfl, rfl⟩)) e
      | skip =>
        simp only [astep, astep.to, Option.some.injEq] at e; subst e
        exact same _ _ hk st_skip
      | seq a b =>
        simp only [astep, astep.to, Option.some.injEq] at e; subst e
        exact same _ _ (.cons (.code a) (.cons (.code b) hk)) st_seq
      | cond c a b =>
        simp only [astep, astep.to, Option.bind_eq_some_iff] at e
        obtain ⟨v, hv, e⟩ := e
        have V := ρR c v hv
        split at e
        · simp only [Option.some.injEq] at e; subst e
          have := st_cond (P := E.P) (fn := fn') (ts := ts) (k := k') (ds := ds) (kind := kind) (r := r) (cs := cs') (w := w) (a := a) (b := b) V.bool
          exact same _ _ (.cons (.code a) hk) this
        · simp only [Option.some.injEq] at e; subst e
          have := st_cond (P := E.P) (fn := fn') (ts := ts) (k := k') (ds := ds) (kind := kind) (r := r) (cs := cs') (w := w) (a := a) (b := b) V.bool
          exact same _ _ (.cons (.code b) hk) this
        · cases e
      | block id c =>
        simp only [astep, astep.to, Option.some.injEq] at e; subst e
        exact same _ _ (.cons (.code c) (.cons (.inBlock id) hk)) st_block
      | loop c =>
        simp only [astep, astep.to, Option.some.injEq] at e; subst e
        exact same _ _ (.cons (.code c) (.cons (.inLoop c) hk)) st_loop
      | scope c =>
        simp only [astep, astep.to, Option.some.injEq] at e; subst e
        exact same _ _ (.cons (.code c) (.cons (.inScope c) hk)) st_scope
      | exit id =>
        simp only [astep, astep.to] at e
        split at e
        · rename_i k2 hx
          simp only [Option.some.injEq] at e; subst e
          obtain ⟨k2', h1, h2⟩ := exit_rel hk _ hx
          exact same _ _ h2 (st_exit h1)
        · rename_i hx
          exact leave (.inr (.inr ⟨id, k', rfl, exit_none hk hx, rfl⟩)) e
      | region id ops draw =>
        cases draw with
        | true => exact absurd rfl (hdd id ops k)
        | false =>
          simp only [astep, astep.to, Option.some.injEq] at e; subst e
          exact same _ _ (.cons (.inRegion ops _ _ (SelR.range ops)) hk) st_region
      | rangeFunc f params assign body =>
        simp only [astep, Option.bind_eq_some_iff] at e
        obtain ⟨m, hm, q, hq, v, hv, e⟩ := e
        obtain ⟨φ', w', mark, p, run, W', e', K, hp, dm⟩ := enterLoop_sound W T hm hq f5
        have V := (ρR f v hv).mono e'.1
        generalize hfe : (Act.eval { tmps := ts, defers := ds }) f = x' at V
        split at e
        · rename_i g first captured
          simp only [Option.bind_eq_some_iff] at e
          obtain ⟨nx, hnx, e⟩ := e
          cases V with
          | atom _ z => simp [atom] at z
          | func _ g' _ _ a' b' hfn h1 h2 =>
            split at e
            · rename_i f2 args
              simp only [Option.bind_eq_some_iff, Option.some.injEq] at e
              obtain ⟨fr2, hf2, rfl⟩ := e
              obtain ⟨nx', run2, N⟩ := invoke_sound (E := E) X W' (t := .fn g captured) (t' := .fn g' b') (args := first.toList ++ [.func (.yield q.1) #[] #[]]) (args' := a' ++ #[.func (.yield p.b) #[] #[]])
                (DefR.fn _ _ _ _ _ _ hfn h2 (by simpa using h1.append (.cons (VR.func _ _ _ _ _ _ (.yield q.1 p hp) .nil .nil) .nil))) hnx
              cases N with
              | @enter _ _ args' A =>
                have := enter_rel q.2.next q.2.next A hf2
                have run3 : (do let d ← resolve (Act.mk ts ds).eval { callee := .value f, args := #[.const (.func (.yield p.b) #[] #[])], argTypes := #[] } 0; invoke d.target d.args : Sem Next).run E.P w' = .ok (.enter f2 args') w' := by
                  have hmap : Array.map (Act.eval { tmps := ts, defers := ds }) #[.const (.func (.yield p.b) #[] #[])] = #[.func (.yield p.b) #[] #[]] := by simp [Act.eval]
                  simp only [resolve, hfe, Deferred.ofValue, Sem.run_bind, Sem.run_pure, Result.andThen_ok, hmap]
                  exact run2
                have hlo2 : lo ≤ q.2.next := Nat.le_trans hlo K.next
                refine ⟨_, List.mem_singleton.2 rfl, .one (st_rangeFunc run run3) ⟨φ', q.2.next, W', G.mono e'.1, hE.trans e' hK.next, hK.trans K, this.1, .cons lo q.2.next q.2.next ?_ (.plain rfl) (St.later hlo e') hlo2 (Nat.le_refl _), Nat.le_refl _⟩⟩
                exact ⟨rfl, rfl, f3, dm.append (f4.mono e'.1), f5.mono e'.1, .plain (.cons (.inRangeFunc q.1 p hp) (hk.mono e'.1)) (T.mono e'.1), fun z => by simp at z⟩
            · cases e
        · cases e
      | _ => simp [astep] at e
    | inBlock id =>
      simp only [astep, astep.to, Option.some.injEq] at e; subst e
      exact same _ _ hk st_inBlock
    | inScope c =>
      simp only [astep, astep.to, Option.some.injEq] at e; subst e
      exact same _ _ hk st_inScope
    | inLoop c =>
      simp only [astep, astep.to, Option.some.injEq] at e; subst e
      exact same _ _ (.cons (.code c) (.cons (.inLoop c) hk)) st_inLoop
    | inRangeFunc l p hp => simp [astep] at e
    | endRangeFunc l p hp =>
      simp only [astep, Option.bind_eq_some_iff] at e
      obtain ⟨r1, hg, e⟩ := e
      obtain ⟨r1', hh, L, o1, o2⟩ := W.loop hp hg
      split at e
      · cases e
      · rename_i hns
        simp only [Option.bind_eq_some_iff, Option.some.injEq] at e
        obtain ⟨h2, hput, rfl⟩ := e
        obtain ⟨W2, K2⟩ := W.turnLoop hp hg hh ⟨o1, o2⟩ (r2 := { r1 with state := .exhausted }) (r2' := { r1' with state := .exhausted }) ⟨rfl, L.pending, L.fn, L.tmps, L.params, L.assign, L.body, L.defers⟩ hput
        have run := run_endLoop (P := E.P) hh (by rw [L.state]; exact hns)
        refine ⟨_, List.mem_singleton.2 rfl, .one (st_endRangeFunc run) ⟨φ, lo, W2, G, hE, hK.trans K2, FrameR.wide K2.next ⟨rfl, rfl, f3, f4, f5, .plain ?_ T, fun z => by simp at z⟩, St, Nat.le_trans hlo K2.next⟩⟩
        rw [L.pending]
        cases r1.pending with
        | none => exact hk
        | some c => exact .cons (.code c) hk
    | beginRound =>
      simp only [astep] at e
      cases f5 with
      | none => cases e
      | some l p hp =>
        simp only [Option.bind_eq_some_iff] at e
        obtain ⟨r1, hg, e⟩ := e
        obtain ⟨r1', hh, L, o1, o2⟩ := W.loop hp hg
        split at e
        · rename_i hst
          simp only [Option.bind_eq_some_iff, Option.some.injEq] at e
          obtain ⟨fr2, hf2, h2, hput, rfl⟩ := e
          obtain ⟨W2, K2⟩ := W.turnLoop hp hg hh ⟨o1, o2⟩ (r2 := { r1 with state := .busy }) (r2' := { r1' with state := .busy }) ⟨rfl, L.pending, L.fn, L.tmps, L.params, L.assign, L.body, L.defers⟩ hput
          have run := run_beginRound (P := E.P) hh (by rw [L.state]; exact hst)
          have hf3 := finish_rel F0 rfl (.tuple #[] #[] .nil) hf2
          exact ⟨_, List.mem_singleton.2 rfl, .one (st_beginRound run) ⟨φ, lo, W2, G, hE, hK.trans K2, FrameR.wide K2.next hf3, St, Nat.le_trans hlo K2.next⟩⟩
        · cases e
    | inRegion ops rest l hs =>
      cases hs with
      | nil =>
        simp only [astep, astep.to, Option.some.injEq] at e; subst e
        exact same _ _ hk st_region_end
      | @cons i o l r2 ho hs =>
        simp only [astep, Option.bind_eq_some_iff] at e
        obtain ⟨wd, hwd, e⟩ := e
        have hw := wanted_rel (φ := φ) (o := o) T.2.1 (fun j want g d _ _ _ hd => T.2.2 d hd) hwd
        cases wd with
        | false =>
          simp only [cond_false, Option.bind_eq_some_iff, Option.some.injEq] at e
          obtain ⟨fr2, hf2, rfl⟩ := e
          exact ⟨_, List.mem_singleton.2 rfl, .one (st_unwanted (by simp [ho, hw])) ⟨φ, lo, W, G, hE, hK, finish_rel F0 rfl (.tuple _ _ .nil) hf2, St, hlo⟩⟩
        | true =>
          simp only [cond_true] at e
          split at e
          · rename_i it hop
            simp only [Option.bind_eq_some_iff] at e
            obtain ⟨v, hv, e⟩ := e
            exact nexts_sound W G hE hK F0 (.plain rfl) St hlo ho hw hop (ρR it v hv) e
          · simp only [Option.bind_eq_some_iff] at e
            obtain ⟨⟨nx, h2⟩, hop, e⟩ := e
            obtain ⟨S', rfl⟩ := nextE_out e
            exact ⟨S', List.mem_singleton.2 rfl, next_sound Y W G hE hK F0 (.plain rfl) St hlo ho hw (aop_defer hop) (aop_sound X W ρR hop) e⟩
end
end Go.Ab
