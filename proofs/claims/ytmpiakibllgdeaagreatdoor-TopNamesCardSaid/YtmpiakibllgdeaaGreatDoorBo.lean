/-
  Calls that tell the same wherever they find the same: done once, on a small heap of their own. No statement of the seat is proved here. Conditions: none.
-/
import Derived.Test.YtmpiakibllgdeaaGreatDoorBn
set_option linter.unusedVariables false
set_option linter.unusedSimpArgs false
namespace Go.Ab

/-- A value that points nowhere. -/
def plain0 : Value → Bool
  | .func (.func _) a b => a.toList.isEmpty && b.toList.isEmpty
  | v => atom v
def plainE : Nat → Value → Bool
  | 0, v => plain0 v
  | d + 1, .agg a => a.toList.all (plainE d)
  | d + 1, .tuple a => a.toList.all (plainE d)
  | _ + 1, v => plain0 v

section
variable {φ1 φ2 : Phi}
theorem VRs.nil_right {l : List Value} (h : VRs φ1 [] l) : l = [] := by cases h; rfl
theorem plain0_VR {v v' : Value} (h : plain0 v = true) (k : VR φ1 v v') : VR φ2 v v' := by
  cases k with
  | atom v z => exact .atom v z
  | func fn fn' a b a' b' f x y =>
    cases f with
    | yield l p hp => simp [plain0, Ab.atom] at h
    | same fn hn =>
      cases fn with
      | func f =>
        simp only [plain0, Bool.and_eq_true, List.isEmpty_iff] at h
        rw [h.1] at x; rw [h.2] at y
        have hx := x.nil_right; have hy := y.nil_right
        refine .func _ _ _ _ _ _ (.same _ hn) ?_ ?_
        · rw [h.1, hx]; exact .nil
        · rw [h.2, hy]; exact .nil
      | _ => simp [plain0, Ab.atom] at h
  | _ => simp [plain0, Ab.atom] at h
theorem VRs.again {l l' : List Value} (h : ∀ v ∈ l, ∀ v', VR φ1 v v' → VR φ2 v v') (k : VRs φ1 l l') : VRs φ2 l l' := by
  induction l generalizing l' with
  | nil => cases k; exact .nil
  | cons v l ih =>
    cases k with
    | cons a b => exact .cons (h v (by simp) _ a) (ih (fun u hu => h u (by simp [hu])) b)
theorem plain_VR : ∀ (d : Nat) {v v' : Value}, plainE d v = true → VR φ1 v v' → VR φ2 v v'
  | 0, v, v', h, k => plain0_VR h k
  | d + 1, v, v', h, k => by
    cases v with
    | agg a =>
      simp only [plainE, List.all_eq_true] at h
      cases k with
      | atom _ z => simp [Ab.atom] at z
      | agg _ a' e => exact .agg _ _ (e.again fun u hu u' hu' => plain_VR d (h u hu) hu')
    | tuple a =>
      simp only [plainE, List.all_eq_true] at h
      cases k with
      | atom _ z => simp [Ab.atom] at z
      | tuple _ a' e => exact .tuple _ _ (e.again fun u hu u' hu' => plain_VR d (h u hu) hu')
    | _ => exact plain0_VR h k
end

section
variable {E : Env} {w0 w w2 : World} {φ φ1 : Phi} {h h1 : AHeap}

/-- What was there stands, and more has been made. -/
theorem WR.after (W : WR w0 φ h w) (W2 : WR w φ1 h1 w2) : WR w0 φ h w2 := by
  have hb : ∀ b, b < w.heap.size → w2.heap[b]? = w.heap[b]? := W2.base
  refine { W with
    live := fun a p ha => ?_, size := Nat.le_trans W.size W2.size, base := fun b hlt => (hb b (Nat.lt_of_lt_of_le hlt W.size)).trans (W.base b hlt),
    os := W2.os.trans W.os, tape := W2.tape.trans W.tape, output := W2.output.trans W.output }
  have k := W.live a p ha
  refine k.mono (Sub.refl φ) (fun hn => hb _ (k.lt hn)) (fun b left cur pm ho hpm => ?_)
  have hko := k
  rw [ho] at hko
  obtain ⟨_, _, m', since, seen, st, _, pm', q1, q2, q3⟩ := hko
  obtain ⟨es, cl, r1, _⟩ := q3.es
  rw [hpm] at q1; cases q1
  refine hb _ ?_
  rcases Nat.lt_or_ge pm.b w.heap.size with z | z
  · exact z
  · rw [Array.getElem?_eq_none z] at r1; cases r1

/-- A call with a row of cells that stands alone, and what it tells. -/
structure Memo where
  f : FuncId
  c : List Value
  post : List Value
  v : Value

/-- The call's own little heap. -/
def loneH (b : Nat) (c : List Value) : AHeap := { t := (Tr.mk heapDepth .none).set b (.cells c .ro), next := b + 1, floor := b + 1, busy := [] }

def memoOK (E : Env) (n : Nat) (m : Memo) : Bool :=
  m.c.all atom && m.post.all plain0 && plainE 3 m.v && Nat.blt E.globals heapMost &&
  match (enterE E m.f (.slice (some ⟨E.globals, 0, none⟩) m.c.length m.c.length :: m.post) false).bind fun fr => explore E n ⟨fr, [], loneH E.globals m.c⟩ with
  | some outs => outs.all fun q => eqOne m.v q.1
  | none => false

def memoE (m : Memo) (args : List Value) (h : AHeap) : Option (Value × AHeap) := match args with
  | .slice (some a) len cap :: post => match a.spot, a.off, h.t.get a.block with
    | none, 0, .cells c (.row _) => bif Nat.beq len m.c.length && Nat.beq cap m.c.length && eqAtoms post m.post && eqAtoms c m.c then some (m.v, h) else none
    | _, _, _ => none
  | _ => none

theorem memo_sound (hm : E.P.follows .mixedOrders = true) (X : ExtOK E) (Y : SumOK E) {n : Nat} {m : Memo} (ok : memoOK E n m = true) {args : List Value} {args' : Array Value} {v : Value} {h' : AHeap}
    (W : WR w0 φ h w) (G : GR E.globals φ) (A : VRs φ args args'.toList) (e : memoE m args h = some (v, h')) (c : Frame) (cs : List Frame) :
    ∃ v' w' phq, Steps E.P (lone (Frame.enter E.P m.f args' .normal) (c :: cs) w) (lone (c.finish v') cs w') ∧ WR w0 phq h' w' ∧ Ext h.next φ phq ∧ VR phq v v' ∧ Keeps h h' := by
  unfold memoOK at ok
  simp only [Bool.and_eq_true] at ok
  obtain ⟨⟨⟨⟨hca, hpo⟩, hpv⟩, hgl⟩, ok⟩ := ok
  unfold memoE at e
  split at e
  · rename_i a len cap post
    split at e
    · rename_i cells t hs ho hg
      cases hc : (Nat.beq len m.c.length && Nat.beq cap m.c.length && eqAtoms post m.post && eqAtoms cells m.c) with
      | false => simp [hc] at e
      | true =>
        simp only [hc, cond_true, Option.some.injEq, Prod.mk.injEq] at e
        obtain ⟨rfl, rfl⟩ := e
        simp only [Bool.and_eq_true] at hc
        obtain ⟨⟨⟨h1, h2⟩, h3⟩, h4⟩ := hc
        have h1 := Nat.eq_of_beq_eq_true h1
        have h2 := Nat.eq_of_beq_eq_true h2
        have h3 := eqAtoms_eq h3
        have h4 := eqAtoms_eq h4
        subst h1; subst h2; subst h3; subst h4
        obtain ⟨ab, ao, asp⟩ := a
        simp only at hs ho hg
        subst hs; subst ho
        have hgl : E.globals < heapMost := by simpa [Nat.blt_eq] using hgl
        have hmo : heapMost = 8 ^ heapDepth := rfl
        -- the place
        obtain ⟨sv, l', hargs, hsv, hpost⟩ : ∃ sv l', args'.toList = sv :: l' ∧ VR φ (.slice (some ⟨ab, 0, none⟩) m.c.length m.c.length) sv ∧ VRs φ m.post l' := by
          generalize args'.toList = q at A
          cases A with | cons x y => exact ⟨_, _, rfl, x, y⟩
        have V := W.live
        cases hsv with
        | atom _ z => simp [Ab.atom] at z
        | slice _ p _ _ cap' s1 hp hcap =>
          have hO := W.live ab p hp
          rw [hg] at hO
          obtain ⟨c', e, fz, hh, R⟩ := hO
          obtain ⟨k1, k2, k3⟩ := R.kind
          -- the little heap
          let φc : Phi := fun x => if x < E.globals then φ x else if x = E.globals then some p else none
          have hφ : φc E.globals = some p := by simp [φc]
          have hold : ∀ x, x < E.globals → φc x = φ x := fun x hx => by simp [φc, hx]
          have hnew : ∀ x, E.globals < x → φc x = none := fun x hx => by
            have : ¬ x < E.globals := by omega
            have : x ≠ E.globals := by omega
            simp [φc, *]
          have gold : ∀ x, x < 8 ^ heapDepth → x ≠ E.globals → (loneH E.globals m.c).t.get x = .none := fun x hx hne => by
            show ((Tr.mk heapDepth AObj.none).set E.globals _).get x = _
            rw [get_set (Full.mk _ _) _ _ _ (by omega) hx, if_neg hne, get_mk]
          have gnew : (loneH E.globals m.c).t.get E.globals = .cells m.c .ro := by
            show ((Tr.mk heapDepth AObj.none).set E.globals _).get _ = _
            rw [get_set (Full.mk _ _) _ _ _ (by omega) (by omega), if_pos rfl]
          have only : ∀ x q, φc x = some q → isNone ((loneH E.globals m.c).t.get x) = false → x = E.globals := fun x q hx hn => by
            rcases Nat.lt_trichotomy x E.globals with z | z | z
            · rw [gold x (by omega) (by omega)] at hn; simp [isNone] at hn
            · exact z
            · rw [hnew x z] at hx; cases hx
          have Wc : WR w φc (loneH E.globals m.c) w := by
            refine { full := (Full.mk _ _).set _ _, next := hgl, fresh := fun x hx => hnew x hx, live := fun x q hx => ?_, own := fun x q hx hn hr => ?_, disj := fun x x' q q' hne hx hx' hn hn' => ?_,
                     busy := fun x q b left cur hx hi => ?_, size := Nat.le_refl _, base := fun _ _ => rfl, os := rfl, tape := rfl, output := rfl }
            · rcases Nat.lt_trichotomy x E.globals with z | z | z
              · rw [gold x (by omega) (by omega)]; trivial
              · subst z
                rw [hφ] at hx; cases hx
                rw [gnew]
                refine ⟨c', e, fz, hh, ⟨k2, R.fits, R.len, fun i v hi => ?_, fun z => absurd rfl z⟩⟩
                obtain ⟨v', h1, h2⟩ := R.cells i v hi
                have ha : Ab.atom v = true := List.all_eq_true.1 hca v (List.mem_of_getElem? hi)
                exact ⟨v', h1, plain0_VR (by unfold plain0; split <;> simp_all [Ab.atom]) h2⟩
              · rw [hnew x z] at hx; cases hx
            · obtain rfl := only x q hx hn
              rw [gnew] at hr; simp [isRo] at hr
            · exact absurd ((only x q hx hn).trans (only x' q' hx' hn').symm) hne
            · have := only x q hx (by rw [hi]; rfl)
              subst this
              rw [gnew] at hi; cases hi
          have Gc : GR E.globals φc := fun g hgg => by rw [hold g hgg]; exact G g hgg
          have Ac : VRs φc (.slice (some ⟨E.globals, 0, none⟩) m.c.length m.c.length :: m.post) args'.toList := by
            rw [hargs]
            exact .cons (.slice ⟨E.globals, 0, none⟩ p _ _ _ rfl hφ hcap) (hpost.again fun u hu u' hu' => plain0_VR (List.all_eq_true.1 hpo u hu) hu')
          split at ok
          · rename_i outs houts
            simp only [Option.bind_eq_some_iff] at houts
            obtain ⟨fr, hfr, houts⟩ := houts
            have hent := enter_rel (loneH E.globals m.c).next (loneH E.globals m.c).next Ac hfr
            have Rl : Rel E w (c :: cs) (loneH E.globals m.c) φc ⟨fr, [], loneH E.globals m.c⟩ (Frame.enter E.P m.f args' .normal) (c :: cs) w :=
              ⟨φc, (loneH E.globals m.c).next, Wc, Gc, Ext.refl _ _, Keeps.refl _, hent.1, .nil _ (Nat.le_refl _), Nat.le_refl _⟩
            obtain ⟨x, hx, φ1, v', fr2, w2, st, hl, W1, G1, hE, hK, V⟩ := explore_sound hm X Y _ houts Rl
            have hv := eqOne_eq (List.all_eq_true.1 ok x hx)
            rw [← hv] at V
            exact ⟨v', w2, φ, st.trans (.one (step_leave_returned hl)), W.after W1, Ext.refl _ _, plain_VR 3 hpv V, Keeps.refl _⟩
          · cases ok
    · cases e
  · cases e
end
end Go.Ab
