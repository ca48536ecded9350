/-
  A call that is done in all orders, as one step. No statement of the seat is proved here. Conditions: none.
-/
import Derived.Test.YtmpiakibllgdeaaGreatDoorBn
set_option linter.unusedVariables false
set_option linter.unusedSimpArgs false
namespace Go.Ab
section
variable {E : Env} {w0 w : World} {base : List Frame} {h0 : AHeap} {φ0 : Phi}

theorem join_goes (X : ExtOK E) {fn n : Nat} {t : Tr Value} {ops : Array Oper} {o : Oper} {rest : List Oper} {k : List AItem} {defers : List Deferred} {deferred : Bool} {round : Option Nat} {cs : List AFrame} {h h' : AHeap}
    {g : FuncId} {args : List Value} {fr fr2 : AFrame} {outs : List (Value × AHeap)} {v : Value} {fr' : Frame} {cs' : List Frame}
    (R : Rel E w0 base h0 φ0 ⟨⟨fn, n, t, .inRegion ops (o :: rest) :: k, defers, false, deferred, round⟩, cs, h⟩ fr' cs' w)
    (hwd : wantedE ops n t o = some true) (ha : aop E (evT E n t) h o.op = some (.enter g args, h)) (hfr : enterE E g args false = some fr)
    (he : ∀ (w1 : World) (c : Frame) (cs1 : List Frame) (φ : Phi) (args' : Array Value), Rel E w0 (c :: cs1) { h with floor := h.next } φ ⟨fr, [], { h with floor := h.next }⟩ (Frame.enter E.P g args' .normal) (c :: cs1) w1 →
      ∃ x ∈ outs, Ends E w0 (c :: cs1) { h with floor := h.next } φ (Frame.enter E.P g args' .normal) (c :: cs1) w1 x.1 x.2)
    (hj : joined h outs = some (v, h')) (hf : finishE ⟨fn, n, t, .inRegion ops (o :: rest) :: k, defers, false, deferred, round⟩ v = some fr2) : Goes E w0 base h0 φ0 fr' cs' w ⟨fr2, cs, h'⟩ := by
  obtain ⟨φ, lo, W, G, hE, hK, F, St, hlo⟩ := R.ex
  obtain ⟨fn', ts, todo', ds, mode, kind, r⟩ := fr'
  have F0 := F
  obtain ⟨f1, f2, f3, f4, f5, f6, f7⟩ := F
  simp only [Bool.false_eq_true, if_false] at f1 f2 f3 f4 f5 f6 f7 W F0 St hlo hK
  subst f1 f2
  have hBody : ∃ (hk : ItemsR φ (.inRegion ops (o :: rest) :: k) todo'), TmpsR φ n t ts := by
    cases f6 with
    | plain hk ht => exact ⟨hk, ht⟩
  obtain ⟨hk, T⟩ := hBody
  have ρR : RhoR φ (evT E n t) (Act.eval { tmps := ts, defers := ds }) := by
    have := evT_rho (E := E) G T
    intro x v hx
    have := this x v hx
    cases x <;> exact this
  cases hk with
  | @cons a b k k' hi hk =>
    cases hi with
    | inRegion ops rest l hs =>
      cases hs with
      | @cons i o l r2 ho hs =>
        have hw := wanted_rel (φ := φ) (o := o) T.2.1 (fun j want g d _ _ _ hd => T.2.2 d hd) hwd
        obtain ⟨nx', w1, φ1, run, W1, e1, N, K1⟩ := aop_sound X W ρR ha
        cases N with
        | @enter f args args' A =>
          have hdf := aop_defer ha
          have st := st_enter (P := E.P) (fn := fn') (k := k') (ds := ds) (kind := kind) (r := r) (rest := l) (cs := cs') ho hw (.inr fun c hc => by obtain ⟨d, hd⟩ := hdf c hc; cases hd) run
          have G1 := G.mono e1.1
          have F1 := F0.later e1 K1
          have St1 := St.later hlo e1
          obtain ⟨v', w2, φ2, hst, W2, e2, V, K2⟩ := join_core W1 G1 (fRun fn' ts (.inRegion ops (i :: l) :: k') ds kind r) cs' (he _ _ _ _ _ (join_rel W1 G1 A hfr _ _)) hj
          have hlo1 := Nat.le_trans hlo K1.next
          exact ⟨_, _, _, .head st hst, ⟨φ2, lo, W2, G1.mono e2.1, (hE.trans e1 hK.next).trans e2 (hK.trans K1).next, (hK.trans K1).trans K2, finish_rel' (F1.later e2 K2) (.plain rfl) V hf, St1.later hlo1 e2, Nat.le_trans hlo1 K2.next⟩⟩
end
end Go.Ab
