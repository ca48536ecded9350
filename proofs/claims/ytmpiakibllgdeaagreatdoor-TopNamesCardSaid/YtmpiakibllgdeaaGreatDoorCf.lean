/-
  The step made for the kernel says nothing but what the small machine does: leaving, calls in all orders, the whole run. No statement of the seat is proved here. Conditions: none.
-/
import Derived.Test.YtmpiakibllgdeaaGreatDoorCe
set_option linter.unusedVariables false
set_option linter.unusedSimpArgs false
namespace Go.Ab
open Go.Proofs

section
variable {K : Kon}
theorem pRvs {P : R → Prop} (hn : P none) {sl : R} (hs : P sl) {fr : AFrame} {h : AHeap} : ∀ (l : List ResultVar) (f : List Value → R), (∀ vs, resultsL EE fr h l = some vs → P (f vs)) → P (rvsF l fr.n fr.tmps h f sl)
  | [], f, hf => hf [] rfl
  | r :: l, f, hf => by
    show P (rvF r fr.n fr.tmps h (fun v => rvsF l fr.n fr.tmps h (fun vs => f (v :: vs)) sl) sl)
    cases r with
    | tmp i =>
      show P (evF (.tmp i) fr.n fr.tmps fun v => rvsF l fr.n fr.tmps h (fun vs => f (v :: vs)) sl)
      refine pEv hn fun v hv => pRvs hn hs l _ fun vs hvs => hf (v :: vs) ?_
      simp only [resultsL, resultE, hv, Option.bind_some, hvs]
    | cell a t => exact hs
theorem leaveF_good (hK : GoodK K) (t : Tr Value) (todo : List AItem) (F : AFix) (cs : List AFrame) (h : AHeap) : Good (mkS true t todo F cs h) (leaveF K t todo F cs h (slow K true t todo F cs h)) := by
  have hs := Good.slow hK true t todo F cs h
  generalize slow K true t todo F cs h = sl at hs ⊢
  obtain ⟨fn, n, defers, deferred, round⟩ := F
  show Good _ (match (generalizing := false) defers, deferred, cs with
    | [], false, c :: cs => leaveG (resList fn) n K t c cs h sl
    | _, _, _ => sl)
  split
  · rename_i c cs
    generalize hl : resList fn = rl
    cases rl with
    | none => exact hs
    | some l =>
      obtain ⟨fx, h1, rfl⟩ : ∃ fx, EE.P.funcs[fn]? = some fx ∧ l = fx.results.toList := by
        unfold resList at hl
        split at hl
        · rename_i fx hfx
          cases hl
          exact ⟨fx, hfx, rfl⟩
        · cases hl
      refine pRvs (fr := ⟨fn, n, t, todo, [], true, false, round⟩) (Good.nothing _) hs _ _ fun vs hvs => ?_
      have hres : resultsE EE fx ⟨fn, n, t, todo, [], true, false, round⟩ h = some (tupled vs) := by
        simp only [resultsE, hvs, Option.bind_some]
        rcases vs with _ | ⟨v, _ | ⟨u, r⟩⟩ <;> rfl
      obtain ⟨cfn, cn, ctmps, ctodo, cdefers, cret, cdeferred, cround⟩ := c
      have st : astep EE (mkS true t todo ⟨fn, n, [], false, round⟩ (⟨cfn, cn, ctmps, ctodo, cdefers, cret, cdeferred, cround⟩ :: cs) h) = (finishE ⟨cfn, cn, ctmps, ctodo, cdefers, cret, cdeferred, cround⟩ (tupled vs)).bind fun c => some (.next ⟨c, cs, h⟩) := by
        simp only [astep, mkS, h1, Option.bind_some, hres, backE, cond_false]
      show Good _ (match (generalizing := false) ctodo with
        | .inRegion ops (o :: rest) :: k => normN cfn fun cfn => normN cn fun cn => dstF o.dst (tupled vs) cn ctmps fun t => K (modeOf cret) t (.inRegion ops rest :: k) ⟨cfn, cn, cdefers, cdeferred, cround⟩ cs h
        | _ => sl)
      split
      · rename_i ops o rest k
        rw [normN_eq, normN_eq]
        refine pDst (Good.nothing _) fun t' ht' => ?_
        simp only [finishE, ht', Option.bind_some] at st
        exact Good.step st (hK.mode cret t' (.inRegion ops rest :: k) ⟨cfn, cn, cdefers, cdeferred, cround⟩ cs h)
      · exact hs
  · exact hs

theorem step0_good (hK : GoodK K) : GoodK (step0 K) where
  run := fun t todo F cs h => runK_good hK todo t F cs h
  leave := fun t todo F cs h => leaveF_good hK t todo F cs h
  join := fun _ _ _ _ _ _ _ _ _ _ _ _ => Good.nothing _
theorem stop_good : GoodK stop where
  run := fun t todo F cs h => Good.here _
  leave := fun t todo F cs h => Good.here _
  join := fun _ _ _ _ _ _ _ _ _ _ _ _ => Good.nothing _
theorem run0_good : ∀ n, GoodK (run0 n)
  | 0 => stop_good
  | n + 1 => step0_good (run0_good n)
theorem expF_sound (snd : Sound) : ∀ (d : Nat) (S : AState) (outs : List (Value × AHeap)), expF d S = some outs → ∀ (w0 : World) (base : List Frame) (h0 : AHeap) (φ0 : Phi) (fr' : Frame) (cs' : List Frame) (w : World), Rel EE w0 base h0 φ0 S fr' cs' w →
    ∃ x ∈ outs, Ends EE w0 base h0 φ0 fr' cs' w x.1 x.2
  | 0, S, outs, e, _, _, _, _, _, _, _, _ => by cases e
  | d + 1, S, outs, e, w0, base, h0, φ0, fr', cs', w, Rl => by
    have good : Good S (goK (run0 100000) S) := Good.frK (run0_good 100000) S.fr S.cs S.h
    change (Option.rec none (fun o => AOut.rec (fun _ => none) (fun l => allOf (expF d) l) (fun v h => some [(v, h)]) o) (goK (run0 100000) S) : Option (List (Value × AHeap))) = some outs at e
    generalize goK (run0 100000) S = r at good e
    cases r with
    | none => cases e
    | some o =>
      have m := good o rfl snd w0 base h0 φ0 fr' cs' w Rl
      cases o with
      | next s => cases e
      | fork l =>
        obtain ⟨S', hS, fr2, cs2, w2, st, R2⟩ := m
        obtain ⟨a, h1, h2⟩ := allOf_mem e S' hS
        obtain ⟨x, hx, φ, v', fr3, w3, st3, q⟩ := expF_sound snd d S' a h1 w0 base h0 φ0 fr2 cs2 w2 R2
        exact ⟨x, h2 x hx, φ, v', fr3, w3, st.trans st3, q⟩
      | done v h =>
        cases e
        exact ⟨(v, h), by simp, m⟩
theorem Good.goes {S S1 : AState} {r : R} (e : Sound → ∀ (w0 : World) (base : List Frame) (h0 : AHeap) (φ0 : Phi) (fr' : Frame) (cs' : List Frame) (w : World), Rel EE w0 base h0 φ0 S fr' cs' w → Goes EE w0 base h0 φ0 fr' cs' w S1) (g : Good S1 r) : Good S r :=
  fun out h snd w0 base h0 φ0 fr' cs' w Rl => by
    obtain ⟨fr2, cs2, w2, st, R2⟩ := e snd w0 base h0 φ0 fr' cs' w Rl
    exact Comes1.pre st (g out h snd w0 base h0 φ0 fr2 cs2 w2 R2)
theorem joinF_good (hK : GoodK K) {g : FuncId} {args : List Value} {t : Tr Value} {ops : Array Oper} {o : Oper} {rest : List Oper} {k : List AItem} {F : AFix} {cs : List AFrame} {h : AHeap} (hw : wantedE ops F.n t o = some true)
    (ha : aop EE (evT EE F.n t) h o.op = some (.enter g args, h)) : Good (mkS false t (.inRegion ops (o :: rest) :: k) F cs h) (joinF g args K t (.inRegion ops (o :: rest) :: k) F cs h) := by
  unfold joinF
  split
  · rename_i fr hfr
    split
    · rename_i outs houts
      split
      · rename_i p hp
        obtain ⟨v, h'⟩ := p
        show Good _ (dstF o.dst v F.n t fun t => normH h' fun h => K .run t (.inRegion ops rest :: k) F cs h)
        refine pDst (Good.nothing _) fun t' ht' => ?_
        rw [normH_eq]
        refine Good.goes (S1 := mkS false t' (.inRegion ops rest :: k) F cs h') (fun snd w0 base h0 φ0 fr' cs' w Rl => ?_) (hK.run t' _ F cs h')
        refine join_goes snd.2.1 Rl hw ha hfr (fun w1 c cs1 φ args' R1 => expF_sound snd 10 _ outs houts _ _ _ _ _ _ _ R1) hp ?_
        simp only [finishE, ht', Option.bind_some]
      · exact Good.nothing _
    · exact Good.nothing _
  · exact Good.nothing _
theorem stepF_good (hK : GoodK K) : GoodK (stepF K) where
  run := fun t todo F cs h => runK_good hK todo t F cs h
  leave := fun t todo F cs h => leaveF_good hK t todo F cs h
  join := fun g args t ops o rest k F cs h hw ha => (joinF_good hK hw ha : Good (mkS false t (.inRegion ops (o :: rest) :: k) F cs h) (joinF g args K t (.inRegion ops (o :: rest) :: k) F cs h))
theorem runF_good : ∀ n, GoodK (runF n)
  | 0 => stop_good
  | n + 1 => stepF_good (runF_good n)
end

/-- What the run made for the kernel comes to, the model's machine comes to. -/
theorem runF_means {n : Nat} {t : Tr Value} {todo : List AItem} {F : AFix} {cs : List AFrame} {h : AHeap} {out : AOut} (e : runF n .run t todo F cs h = some out) : Means (mkS false t todo F cs h) out :=
  (runF_good n).run t todo F cs h out e
end Go.Ab
