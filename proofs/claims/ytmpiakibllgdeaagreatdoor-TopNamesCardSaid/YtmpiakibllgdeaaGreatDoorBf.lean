/-
  An operation that is done, and what it leaves behind, on both sides. No statement of the seat is proved here. Conditions: none.
-/
import Derived.Test.YtmpiakibllgdeaaGreatDoorBe
set_option linter.unusedVariables false
set_option linter.unusedSimpArgs false
namespace Go.Ab

/-- The summaries are sound. -/
def SumOK (E : Env) : Prop := ∀ f s, E.sum f = some s → ∀ w0 φ h w args (args' : Array Value) v h', WR w0 φ h w → GR E.globals φ → VRs φ args args'.toList → s args h = some (v, h') →
  ∀ c cs, ∃ v' w' φ', Steps E.P (lone (Frame.enter E.P f args' .normal) (c :: cs) w) (lone (c.finish v') cs w') ∧ WR w0 φ' h' w' ∧ Ext h.next φ φ' ∧ VR φ' v v' ∧ Keeps h h'

/-- Some steps on, the states are alike again. -/
def Goes (E : Env) (w0 : World) (base : List Frame) (h0 : AHeap) (φ0 : Phi) (fr' : Frame) (cs' : List Frame) (w : World) (S : AState) : Prop :=
  ∃ fr2 cs2 w2, Steps E.P (lone fr' cs' w) (lone fr2 cs2 w2) ∧ Rel E w0 base h0 φ0 S fr2 cs2 w2

section
variable {E : Env} {w0 w : World} {base : List Frame} {h0 : AHeap} {φ0 : Phi}

theorem Goes.one {S : AState} {fr' fr2 : Frame} {cs' cs2 : List Frame} {w2 : World} (h : step E.P (lone fr' cs' w) = .next (lone fr2 cs2 w2)) (R : Rel E w0 base h0 φ0 S fr2 cs2 w2) : Goes E w0 base h0 φ0 fr' cs' w S :=
  ⟨fr2, cs2, w2, .one h, R⟩

theorem aop_sound {φ : Phi} {h h' : AHeap} {ρ : Operand → Option Value} {ρ' : Operand → Value} {o : Oper} {nx : ANext} (X : ExtOK E) (W : WR w0 φ h w) (hr : RhoR φ ρ ρ') (e : aop E ρ h o.op = some (nx, h')) :
    Done E w0 φ h w (execOp ρ' o) nx h' := by
  unfold aop at e
  cases hl : light o.op with
  | true =>
    simp only [hl, cond_true, Option.bind_eq_some_iff, Option.some.injEq, Prod.mk.injEq] at e
    obtain ⟨v, hv, rfl, rfl⟩ := e
    obtain ⟨v', r, V⟩ := lop_sound (E := E) W hr hv
    exact ⟨_, w, φ, r, W, Ext.refl _ _, .value V, Keeps.refl h⟩
  | false =>
    simp only [hl, cond_false] at e
    exact hop_sound X W hr e

theorem hop_defer {ρ : Operand → Option Value} {h h' : AHeap} {c : Call} {nx : ANext} (e : hop E ρ h (.defer c) = some (nx, h')) : ∃ d, nx = .defer d := by
  unfold hop at e
  split at e
  all_goals first
    | (rename_i heq; cases heq; done)
    | skip
  all_goals try (rename_i heq; cases heq)
  all_goals
    split at e
    · cases e
    · simp only [Option.bind_eq_some_iff, Option.some.injEq, Prod.mk.injEq] at e
      obtain ⟨d, _, rfl, _⟩ := e
      exact ⟨_, rfl⟩

theorem aop_defer {ρ : Operand → Option Value} {h h' : AHeap} {op : Op} {nx : ANext} (e : aop E ρ h op = some (nx, h')) : ∀ c, op = .defer c → ∃ d, nx = .defer d := by
  rintro c rfl
  unfold aop at e
  simp only [light, cond_false] at e
  exact hop_defer e

/-- What lies below the frame on top, in the new heap. -/
theorem FrameR.later {φ φ' : Phi} {lo : Nat} {h h' : AHeap} {fr : AFrame} {fr' : Frame} (F : FrameR φ lo h.next fr fr') (e : Ext h.next φ φ') (k : Keeps h h') : FrameR φ' lo h'.next fr fr' :=
  (F.mono e.1 fun a _ q => e.2 a q).wide k.next
theorem StackR.later {φ φ' : Phi} {lo n0 : Nat} {h : AHeap} {cs : List AFrame} {cs' : List Frame} (S : StackR φ base n0 cs cs' lo) (hl : lo ≤ h.next) (e : Ext h.next φ φ') : StackR φ' base n0 cs cs' lo :=
  S.mono e.1 fun a q => e.2 a (by omega)

theorem next_sound {S : AState} {φ : Phi} {lo : Nat} {h h' : AHeap} {fr : AFrame} {cs : List AFrame} {cs' : List Frame} {fn : FuncId} {ts : Array Value} {k : List Item} {ds : List Deferred} {kind : CallKind} {r : Option Nat}
    {ops : Array Oper} {i : Nat} {rest : List Nat} {o : Oper} {nx : ANext}
    (Y : SumOK E) (W : WR w0 φ h w) (G : GR E.globals φ) (hE : Ext h0.next φ0 φ) (hK : Keeps h0 h)
    (F : FrameR φ lo h.next fr (fRun fn ts (.inRegion ops (i :: rest) :: k) ds kind r)) (H : HeadOK fr.todo (.inRegion ops (i :: rest) :: k)) (St : StackR φ base h0.next cs cs' lo) (hlo : lo ≤ h.next)
    (ho : ops[i]? = some o) (hw : Region.wanted o (yielded ops ts) = true) (hdf : ∀ c, o.op = .defer c → ∃ d, nx = .defer d)
    (D : Done E w0 φ h w (execOp (Act.mk ts ds).eval o) nx h') (e : nextE E fr cs nx h' = some (.next S)) :
    Goes E w0 base h0 φ0 (fRun fn ts (.inRegion ops (i :: rest) :: k) ds kind r) cs' w S := by
  obtain ⟨nx', w', φ', run, W', e', N, K⟩ := D
  have F' := F.later e' K
  have St' := St.later hlo e'
  have G' := G.mono e'.1
  have hE' := hE.trans e' hK.next
  have hK' := hK.trans K
  have hlo' : lo ≤ h'.next := Nat.le_trans hlo K.next
  have nodef : (∀ d, nx ≠ .defer d) → r = none ∨ ∀ c, o.op ≠ .defer c := fun hn => .inr fun c hc => by
    obtain ⟨d, hd⟩ := hdf c hc
    exact hn d hd
  cases N with
  | @value v v' V =>
    simp only [nextE, Option.bind_eq_some_iff, Option.some.injEq, AOut.next.injEq] at e
    obtain ⟨fr2, hf, rfl⟩ := e
    exact .one (st_value ho hw (nodef (by intro d z; cases z)) run) ⟨φ', lo, W', G', hE', hK', finish_rel' F' H V hf, St', hlo'⟩
  | skip =>
    simp only [nextE, Option.bind_eq_some_iff, Option.some.injEq, AOut.next.injEq] at e
    obtain ⟨fr2, hf, rfl⟩ := e
    exact .one (st_skipped ho hw (nodef (by intro d z; cases z)) run) ⟨φ', lo, W', G', hE', hK', finish_rel' F' H (.tuple _ _ .nil) hf, St', hlo'⟩
  | @enter f args args' A =>
    simp only [nextE] at e
    have st := st_enter (P := E.P) (fn := fn) (k := k) (ds := ds) (kind := kind) (r := r) (rest := rest) (cs := cs') ho hw (nodef (by intro d z; cases z)) run
    split at e
    · rename_i p hp
      obtain ⟨s, hs, hv⟩ := Option.bind_eq_some_iff.1 hp
      simp only [Option.bind_eq_some_iff, Option.some.injEq, AOut.next.injEq] at e
      obtain ⟨fr2, hf, rfl⟩ := e
      obtain ⟨v, h2⟩ := p
      obtain ⟨v', w2, φ2, hst, W2, e2, V, K2⟩ := Y f s hs w0 φ' h' w' args args' v h2 W' G' A hv (fRun fn ts (.inRegion ops (i :: rest) :: k) ds kind r) cs'
      exact ⟨_, _, _, .head st hst, ⟨φ2, lo, W2, G'.mono e2.1, hE'.trans e2 hK'.next, hK'.trans K2, finish_rel' (F'.later e2 K2) H V hf, St'.later hlo' e2, Nat.le_trans hlo' K2.next⟩⟩
    · simp only [Option.bind_eq_some_iff, Option.some.injEq, AOut.next.injEq] at e
      obtain ⟨fr2, hf, rfl⟩ := e
      have := enter_rel h'.next h'.next A hf
      exact .one st ⟨φ', h'.next, W', G', hE', hK', this.1, .cons lo h'.next h'.next F' H St' hlo' (Nat.le_refl _), Nat.le_refl _⟩
  | round l p f n t t' a b hp ht =>
    simp only [nextE, Option.some.injEq, AOut.next.injEq] at e
    subst e
    refine .one (st_round ho hw (nodef (by intro d z; cases z)) run) ⟨φ', h'.next, W', G', hE', hK', ?_, .cons lo h'.next h'.next F' H St' hlo' (Nat.le_refl _), Nat.le_refl _⟩
    exact ⟨rfl, rfl, rfl, .nil, .some l p hp, .plain (.cons (.code a) (.cons .beginRound (.cons (.code b) .nil))) ht, fun z => by simp at z⟩
  | @defer d d' hd =>
    simp only [nextE] at e
    split at e
    · rename_i hrn
      simp only [Option.bind_eq_some_iff, Option.some.injEq, AOut.next.injEq] at e
      obtain ⟨fr2, hf, rfl⟩ := e
      have hr := F.round
      rw [hrn] at hr
      have hr' : r = none := by cases hr; rfl
      subst hr'
      refine .one (st_defer ho hw run) ⟨φ', lo, W', G', hE', hK', ?_, St', hlo'⟩
      refine finish_rel' (fr := { fr with defers := d :: fr.defers }) ?_ H (.tuple _ _ .nil) hf
      exact ⟨F'.fn, F'.mode, F'.kind, .cons hd F'.defers, hrn ▸ F'.round, F'.body, F'.head⟩
    · cases e
  | recover =>
    simp only [nextE] at e
    cases hb : (fr.deferred && fr.round.isNone) with
    | false => simp [hb] at e
    | true =>
      simp only [hb, cond_true] at e
      simp only [Bool.and_eq_true, Option.isNone_iff_eq_none] at hb
      split at e
      · rename_i c cs1
        cases hc : c.ret with
        | false => simp [hc] at e
        | true =>
          simp only [hc, cond_true, Option.bind_eq_some_iff, Option.some.injEq, AOut.next.injEq] at e
          obtain ⟨fr2, hf, rfl⟩ := e
          have hr := F.round
          rw [hb.2] at hr
          have hr' : r = none := by cases hr; rfl
          subst hr'
          have hk := F.kind
          simp only [hb.1, if_true] at hk
          subst hk
          have St2 := St'
          cases St' with
          | @cons _ c' _ cs1' lo1 hi1 _ Fc Hc S1 a1 a2 =>
            have hm := Fc.mode
            simp only [hc, if_true] at hm
            exact .one (st_recover ho hw hm run) ⟨φ', lo, W', G', hE', hK', finish_rel' F' H (.atom _ rfl) hf, St2, hlo'⟩
      · cases e
end
end Go.Ab
