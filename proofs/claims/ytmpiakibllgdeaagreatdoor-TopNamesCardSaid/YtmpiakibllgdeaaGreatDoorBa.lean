/-
  The small machine's operations that turn memory are the model's: put together. No statement of the seat is proved here. Conditions: none.
-/
import Derived.Test.YtmpiakibllgdeaaGreatDoorAz
set_option linter.unusedVariables false
set_option linter.unusedSimpArgs false
namespace Go.Ab
/-- The externs of the program are as the small machine takes them. -/
def ExtOK (E : Env) : Prop := ∀ f g, E.ext f = some g → ∀ φ args (args' : Array Value) v w, VRs φ args args'.toList → g args = some v → ∃ v', (callFunc f args').run E.P w = .ok (.value v') w ∧ VR φ v v'

section
variable {E : Env} {w0 w : World} {φ : Phi} {h h' : AHeap}

theorem callFn_sound {f : FuncId} {args : List Value} {args' : Array Value} {nx : ANext} (X : ExtOK E) (ha : VRs φ args args'.toList) (e : callFnE E f args = some nx) :
    ∃ nx', (callFunc f args').run E.P w = .ok nx' w ∧ NxR φ nx nx' := by
  unfold callFnE at e
  simp only [Option.bind_eq_some_iff] at e
  obtain ⟨fn, hf, e⟩ := e
  split at e
  · rename_i hb
    simp only [Option.bind_eq_some_iff, Option.some.injEq] at e
    obtain ⟨g, hg, v, hv, rfl⟩ := e
    obtain ⟨v', r, hv'⟩ := X f g hg φ args args' v w ha hv
    exact ⟨_, r, .value hv'⟩
  · rename_i c hb
    cases hn : (fn.name == "runtime.NumGoroutine") with
    | true => simp [hn] at e
    | false =>
      simp only [hn, cond_false, Option.some.injEq] at e
      subst e
      refine ⟨.enter f args', ?_, .enter f ha⟩
      have hn' : fn.name ≠ "runtime.NumGoroutine" := by simpa using hn
      simp [callFunc, hf, hn', hb]

theorem embed_sound {s : FieldStep} {a : Addr} {p : Pl} {t : TypeId} {v : Value} (W : WR w0 φ h w) (hp : φ a.block = some p) (e : embedE E h s a = some v) (wr : Option String) :
    ∃ v', (do let (xt, x) ← follow [s] t (.val (.pointer (some ⟨p.b, p.o + a.off, none⟩))); receiverAt xt x true wr : Sem Value).run E.P w = .ok v' w ∧ VR φ v v' := by
  unfold embedE at e
  split at e
  · rename_i hd hs
    simp only [Option.bind_eq_some_iff] at e
    obtain ⟨d, hud, e⟩ := e
    split at e
    · rename_i fs
      simp only [Option.bind_eq_some_iff] at e
      obtain ⟨f, hf, u, hu, e⟩ := e
      split at e
      · simp only [Option.bind_eq_some_iff] at e
        obtain ⟨n, hn, e⟩ := e
        cases hb : Nat.beq n 0 with
        | true => simp [hb] at e
        | false =>
          simp only [hb, cond_false] at e
          have hn0 : n ≠ 0 := fun z => by subst z; simp at hb
          obtain ⟨v', r, hv⟩ := run_loadVar W hp e
          refine ⟨v', ?_, hv⟩
          have hf' : fs[s.index]? = some f := by simpa using hf
          have rd := run_und (E := E) (w := w) hud
          have ru := run_und (E := E) (w := w) hu
          simp only [follow, Sem.run_bind, rd, Result.andThen_ok, hf', hd, if_true, Place.get, Sem.run_pure, asAddr, fieldPlace, run_size hn, hn0, if_false, Sem.run_ite, add_eq, receiverAt, ru]
          rw [Nat.add_assoc]
          exact r
      · cases e
    · cases e
  · cases e

theorem TmpsR.set {n i : Nat} {t : Tr Value} {ts : Array Value} {v v' : Value} (k : TmpsR φ n t ts) (hi : i < n) (hv : VR φ v v') : TmpsR φ n (t.set i v) (ts.setIfInBounds i v') := by
  obtain ⟨h1, h2, h3⟩ := k
  have hlog : n < 8 ^ tDepth n := lt_tDepth n
  refine ⟨h1.set _ _, by simpa using h2, fun m hm => ?_⟩
  rw [get_set h1 _ _ _ (by omega) (by omega)]
  by_cases e : m = i
  · subst e
    rw [if_pos rfl]
    simp only [Array.getD_eq_getD_getElem?, Array.getElem?_setIfInBounds_self_of_lt (show m < ts.size by omega), Option.getD_some]
    exact hv
  · rw [if_neg e]
    simp only [Array.getD_eq_getD_getElem?, Array.getElem?_setIfInBounds_ne (show i ≠ m from fun z => e z.symm)]
    simpa [Array.getD_eq_getD_getElem?] using h3 m hm

theorem putParams_rel {n : Nat} : ∀ (ps : List Tmp) (vs vs' : List Value) (t t2 : Tr Value) (ts : Array Value), VRs φ vs vs' → TmpsR φ n t ts → putParams ps vs n t = some t2 →
    ps.length = vs'.length ∧ TmpsR φ n t2 ((ps.zip vs').foldl (fun tmps (x : Tmp × Value) => tmps.setIfInBounds x.1 x.2) ts)
  | [], [], _, t, t2, ts, .nil, k, e => by
    simp only [putParams, Option.some.injEq] at e
    subst e
    exact ⟨rfl, k⟩
  | p :: ps, v :: vs, _, t, t2, ts, .cons (v' := v') (l' := l') hv hvs, k, e => by
    simp only [putParams] at e
    cases hb : Nat.blt p n with
    | false => simp [hb] at e
    | true =>
      simp only [hb, cond_true] at e
      obtain ⟨h1, h2⟩ := putParams_rel ps vs l' _ t2 _ hvs (k.set (by simpa [Nat.blt_eq] using hb) hv) e
      exact ⟨by simp [h1], by simpa using h2⟩
  | [], _ :: _, _, _, _, _, _, _, e => by simp [putParams] at e
  | _ :: _, [], _, _, _, _, _, _, e => by simp [putParams] at e

theorem invoke_sound {t t' : Target} {args : List Value} {args' : Array Value} {nx : ANext} (X : ExtOK E) (W : WR w0 φ h w) (ht : DefR φ { target := t, args := args.toArray } { target := t', args := args' }) (e : invokeE E t args h = some nx) :
    ∃ nx', (invoke t' args').run E.P w = .ok nx' w ∧ NxR φ nx nx' := by
  generalize hT : ({ target := t, args := args.toArray } : Deferred) = D at ht
  generalize hT' : ({ target := t', args := args' } : Deferred) = D' at ht
  cases ht with
  | collected b p hp =>
    simp only [Deferred.mk.injEq] at hT
    obtain ⟨rfl, _⟩ := hT
    simp [invokeE] at e
  | fn fn fn' c c' a a' hfn hc ha =>
    simp only [Deferred.mk.injEq] at hT hT'
    obtain ⟨rfl, rfl⟩ := hT
    obtain ⟨rfl, rfl⟩ := hT'
    have ha' : VRs φ args args'.toList := by simpa using ha
    cases hfn with
    | same _ hny =>
      cases fn with
      | func f =>
        simp only [invokeE] at e
        obtain ⟨nx', r, hx⟩ := callFn_sound (w := w) (args' := args' ++ c') X (by simpa using ha'.append hc) e
        exact ⟨nx', r, hx⟩
      | method name =>
        simp only [invokeE] at e
        split at e
        · rename_i ty ad rest
          split at e
          · cases e
          · rename_i hs
            simp only [Option.bind_eq_some_iff] at e
            obtain ⟨i, hi, m, hm, e⟩ := e
            split at e
            · rename_i s f hpath hfunc
              simp only [Option.bind_eq_some_iff] at e
              obtain ⟨v, hv, e⟩ := e
              cases hA : args'.toList with
              | nil => rw [hA] at ha'; cases ha'
              | cons r' rest' =>
                rw [hA] at ha'
                cases ha' with
                | cons hr hrest =>
                  cases hr with
                  | atom _ k => simp [atom] at k
                  | iface _ _ v' hv' =>
                    cases hv' with
                    | atom _ k => simp [atom] at k
                    | ptr _ p s1 h1 =>
                      obtain ⟨fuel, hfuel⟩ : ∃ k, E.P.types.size + Made.depth = k + 1 := ⟨E.P.types.size + 99, rfl⟩
                      obtain ⟨rv, rr, hrv⟩ := embed_sound (t := ty) W h1 hv (if m.path.isEmpty then some ((name.splitOn ".").getLastD name) else none)
                      obtain ⟨nx', r, hx⟩ := callFn_sound (w := w) (args' := #[rv] ++ args'.extract 1 args'.size) X (by
                        have : (args'.extract 1 args'.size).toList = rest' := by
                          have h2 : args'.size = rest'.length + 1 := by rw [← Array.length_toList, hA]; simp
                          rw [Array.toList_extract, hA, h2]
                          simp [List.extract]
                        simp only [Array.toList_append, this]
                        exact .cons hrv hrest) e
                      refine ⟨nx', ?_, hx⟩
                      have h0 : args'[0]? = some (.iface ty (.pointer (some ⟨p.b, p.o + ad.off, none⟩))) := by
                        have : args'.toList[0]? = some (.iface ty (.pointer (some ⟨p.b, p.o + ad.off, none⟩))) := by rw [hA]; rfl
                        simpa using this
                      have hm' : i.methods.find? (·.name == name) = some m := by
                        rw [← Array.find?_toList]; exact hm
                      have hmet : (method (E.P.types.size + Made.depth) ty (.pointer (some ⟨p.b, p.o + ad.off, none⟩)) name).run E.P w = .ok (f, rv) w := by
                        rw [hfuel]
                        have hinfo : (typeInfo ty).run E.P w = .ok i w := by simp [typeInfo, hi]
                        simp only [method, Sem.run_bind, hinfo, Result.andThen_ok, hm', hpath, hfunc]
                        simp only [Sem.run_bind] at rr
                        cases hfo : (follow [s] ty (.val (.pointer (some ⟨p.b, p.o + ad.off, none⟩)))).run E.P w with
                        | halt x y => rw [hfo] at rr; cases rr
                        | ok q w2 =>
                          rw [hfo] at rr
                          simp only [Result.andThen_ok] at rr ⊢
                          rw [rr]
                          rfl
                      simp only [invoke, h0, callMethod, Sem.run_bind, run_program, Result.andThen_ok, hmet, r]
            · cases e
        · cases e
      | methodOf t n => simp [invokeE] at e
      | via a b c d => simp [invokeE] at e
      | yield l => simp [notYield] at hny
    | yield l p hp =>
      simp only [invokeE, Option.bind_eq_some_iff, Option.some.injEq] at e
      obtain ⟨r, hr, tm, htm, rfl⟩ := e
      have hg : h.t.get l = .loop r := by
        unfold getLoopE at hr
        split at hr
        · rename_i hg; simp only [Option.some.injEq] at hr; subst hr; exact hg
        · cases hr
      have hO := W.live l p hp
      rw [hg] at hO
      obtain ⟨o1, o2, r', hh, L⟩ := hO
      have rg := run_getObj (E := E) hh (by intro c e fz z; cases z)
      obtain ⟨q1, q2⟩ := putParams_rel _ _ _ _ _ _ ha' L.tmps htm
      have hsz : args'.size = r'.params.size := by
        have : r'.params.toList.length = args'.toList.length := by rw [L.params]; exact q1
        simpa using this.symm
      refine ⟨_, ?_, .round l p r.fn r.n tm _ r.assign r.body hp q2⟩
      simp only [invoke, Instr.yield, Instr.getLoop, Sem.run_bind, rg, Result.andThen_ok, Sem.run_pure, hsz, ne_eq, not_true, if_false, Sem.run_ite]
      rw [← Array.foldl_toList, Array.toList_zip, L.params, L.fn, L.assign, L.body]
end
end Go.Ab
