/-
  The small machine's operations that turn no memory are the model's: operators. No statement of the seat is proved here. Conditions: none.
-/
import Derived.Test.YtmpiakibllgdeaaGreatDoorAl
set_option linter.unusedVariables false
set_option linter.unusedSimpArgs false
namespace Go.Ab
section
variable {E : Env} {w0 w : World} {φ : Phi} {h : AHeap}

theorem run_intOp {op : BinOp} {k : IntKind} {a b : Int} {v : Value} {xt : TypeId} (h1 : op ≠ .shl) (h2 : op ≠ .shr) (e : intOp op k a b = some v) :
    (binOp op xt (.int k a) (.int k b)).run E.P w = .ok v w ∧ VR φ v v := by
  cases op <;> simp only [intOp, Option.some.injEq, reduceCtorEq] at e <;>
    first
    | exact absurd rfl h1
    | exact absurd rfl h2
    | (subst e; exact ⟨by simp [binOp, Op.intArith, Op.intBits, Op.intCmp], .atom _ rfl⟩)
    | (split at e
       · cases e
       · rename_i hb
         simp only [Option.some.injEq] at e
         subst e
         exact ⟨by simp [binOp, Op.intDiv, hb], .atom _ rfl⟩)

theorem run_shiftE {op : BinOp} {k k' : IntKind} {a b : Int} {v : Value} {xt : TypeId} (hop : op = .shl ∨ op = .shr) (e : shiftE op k a b = some v) :
    (binOp op xt (.int k a) (.int k' b)).run E.P w = .ok v w ∧ VR φ v v := by
  unfold shiftE at e
  split at e
  · cases e
  · rename_i hb
    rcases hop with rfl | rfl <;> simp only [Option.some.injEq] at e <;> subst e <;> exact ⟨by simp [binOp, Op.shift, hb], .atom _ rfl⟩

theorem eqU_eq : ∀ (l m : List UInt8), eqU l m = (l == m)
  | [], [] => rfl
  | [], _ :: _ => rfl
  | _ :: _, [] => rfl
  | a :: r, b :: s => by
    have e : Nat.beq a.toNat b.toNat = (a == b) := by
      rw [Bool.eq_iff_iff]
      simp only [Nat.beq_eq, beq_iff_eq]
      exact ⟨fun h => UInt8.toNat_inj.1 h, fun h => by rw [h]⟩
    simp only [eqU, e, eqU_eq r s]
    rfl
theorem eqU_str (a b : ByteArray) : eqU a.data.toList b.data.toList = (a.toList == b.toList) := by
  rw [eqU_eq, ByteArray.toList_eq, ByteArray.toList_eq]
theorem run_strOp {op : BinOp} {a b : ByteArray} {v : Value} {xt : TypeId} (e : strOp op a b = some v) :
    (binOp op xt (.string a) (.string b)).run E.P w = .ok v w ∧ VR φ v v := by
  cases op <;> simp only [strOp, eqU_str, Option.some.injEq, reduceCtorEq] at e <;>
    first
    | (subst e; exact ⟨by simp [binOp, Op.stringOp], .atom _ rfl⟩)
    | (split at e
       · cases e
       · rename_i hb
         simp only [Option.some.injEq] at e
         subst e
         exact ⟨by simp only [binOp, Op.stringOp, hb, if_false, Sem.run_pure], .atom _ rfl⟩)

theorem stringish_var {x : Addr} {c' : Array Value} {e : TypeId} {fz : Nat × Nat} (hh : w.heap[x.block]? = some (.cells c' e fz)) (hf : fz.2 ≤ fz.1) :
    w.frozen? x = false ∧ (stringish x).run E.P w = .ok false w ∧ w.shape? x.block = some (e, c'.size) := by
  have e1 : ∀ o, w.frozen? ⟨x.block, o, none⟩ = false := fun o => by simp [World.frozen?, hh]; omega
  have e0 : w.frozen? x = false := by simp [World.frozen?, hh]; omega
  have e2 : w.shape? x.block = some (e, c'.size) := by simp [World.shape?, hh]
  refine ⟨e0, ?_, e2⟩
  simp only [stringish, Sem.run_bind, run_frozen, Result.andThen_ok, e0, Bool.false_eq_true, if_false, Sem.run_ite, run_shape, e2, e1, Sem.run_pure]

theorem noView_row {x : Addr} {c' : Array Value} {e : TypeId} {fz : Nat × Nat} (hh : w.heap[x.block]? = some (.cells c' e fz)) : (noView x).run E.P w = .ok () w := by
  have e2 : w.shape? x.block = some (e, c'.size) := by simp [World.shape?, hh]
  simp [noView, viewAt, e2]

theorem run_sameAddr {a b : Addr} {p q : Pl} {t : Bool} (W : WR w0 φ h w) (ha : a.spot = none) (hb : b.spot = none) (hp : φ a.block = some p) (hq : φ b.block = some q)
    (e : samePtrE h a b = some t) : (sameAddr ⟨p.b, p.o + a.off, none⟩ ⟨q.b, q.o + b.off, none⟩).run E.P w = .ok t w := by
  unfold samePtrE at e
  cases hbl : Nat.beq a.block b.block with
  | true =>
    simp only [hbl, cond_true, Option.some.injEq] at e
    have : a.block = b.block := by simpa using hbl
    rw [this, hq] at hp
    cases hp
    subst e
    simp only [sameAddr, beq_self_eq_true, if_true, Sem.run_ite, Sem.run_pure]
    congr 1
    cases hx : Nat.beq a.off b.off with
    | true => simp at hx; simp [hx]
    | false =>
      have : a.off ≠ b.off := fun e => by rw [e] at hx; simp at hx
      simpa using this
  | false =>
    simp only [hbl, cond_false] at e
    have hne : a.block ≠ b.block := fun e => by rw [e] at hbl; simp at hbl
    split at e
    · rename_i c1 l1 t1 c2 l2 t2 g1 g2
      simp only [Option.some.injEq] at e
      subst e
      obtain ⟨c1', e1, f1, hh1, C1⟩ := W.row hp g1
      obtain ⟨c2', e2, f2, hh2, C2⟩ := W.row hq g2
      obtain ⟨_, _, o1, s1, r1, z1⟩ := C1.kind
      obtain ⟨_, _, o2, s2, r2, z2⟩ := C2.kind
      have hb' : p.b ≠ q.b := by
        exact W.disj _ _ p q hne hp hq (by rw [g1]; rfl) (by rw [g2]; rfl)
      obtain ⟨x1, x2, x3⟩ := stringish_var (E := E) (w := w) (x := ⟨p.b, p.o + a.off, none⟩) hh1 z1
      obtain ⟨y1, y2, y3⟩ := stringish_var (E := E) (w := w) (x := ⟨q.b, q.o + b.off, none⟩) hh2 z2
      have v1 := noView_row (E := E) (w := w) (x := ⟨p.b, p.o + a.off, none⟩) hh1
      have v2 := noView_row (E := E) (w := w) (x := ⟨q.b, q.o + b.off, none⟩) hh2
      have hbe : ((p.b == q.b) = true) = False := by simp [hb']
      have m : (mayBeOne ⟨p.b, p.o + a.off, none⟩ ⟨q.b, q.o + b.off, none⟩).run E.P w = .ok false w := by
        simp only [mayBeOne, Sem.run_bind, x2, y2, Result.andThen_ok, run_shape, Sem.run_pure, Bool.false_and, Bool.or_self]
      simp only [sameAddr, hbe, if_false, Sem.run_ite, Sem.run_bind, run_frozen, Result.andThen_ok, x1, Bool.false_and, Bool.false_eq_true, v1, v2, m, Sem.run_pure, y1]
    · cases e

theorem allFields_run {D : Nat} {xs ys : List Value} {xs' ys' : Array Value} (hx : VRs φ xs xs'.toList) (hy : VRs φ ys ys'.toList) (eq : TypeId → Value → Value → Option Bool)
    (ih : ∀ t x y x' y' b, VR φ x x' → VR φ y y' → eq t x y = some b → (Op.equalIn D t x' y').run E.P w = .ok b w) : ∀ (fs : List Field) (b : Bool),
    allFields eq (fun t off => (partE E t xs off).bind fun a => (partE E t ys off).bind fun b => some (a, b)) fs = some b →
    (Op.eqFields D xs' ys' fs).run E.P w = .ok b w
  | [], b, e => by simp [allFields] at e; subst e; rfl
  | f :: fs, b, e => by
    unfold allFields at e
    unfold Op.eqFields
    split at e
    · rename_i hn
      simp only [hn, ne_eq, not_true, if_false]
      exact allFields_run hx hy eq ih fs b e
    · rename_i hn
      simp only [ne_eq, hn, not_false_eq_true, if_true]
      simp only [Option.bind_eq_some_iff, Option.some.injEq] at e
      obtain ⟨pr, ⟨a, ha, b', hb', rfl⟩, t, ht, e⟩ := e
      obtain ⟨a', r1, v1⟩ := run_part (E := E) (w := w) ha hx
      obtain ⟨b'', r2, v2⟩ := run_part (E := E) (w := w) hb' hy
      have := ih _ _ _ _ _ _ v1 v2 ht
      simp only [Sem.run_bind, r1, r2, this, Result.andThen_ok]
      cases t with
      | true =>
        simp only [Bool.not_true, Bool.false_eq_true, if_false]
        exact allFields_run hx hy eq ih fs b e
      | false =>
        simp only [Option.some.injEq] at e
        subst e
        simp

theorem eqE_run (W : WR w0 φ h w) : ∀ (d D : Nat), d ≤ D → ∀ (t : TypeId) (x y x' y' : Value) (b : Bool), VR φ x x' → VR φ y y' → eqE E h d t x y = some b →
    (Op.equalIn D t x' y').run E.P w = .ok b w
  | 0, _, _, _, _, _, _, _, _, _, _, e => by simp [eqE] at e
  | d + 1, 0, hd, _, _, _, _, _, _, _, _, _ => by omega
  | d + 1, D + 1, hd, t, x, y, x', y', b, hx, hy, e => by
    simp only [eqE, Option.bind_eq_some_iff] at e
    obtain ⟨u, hu, e⟩ := e
    have ru := run_und (E := E) (w := w) hu
    have hu' : E.P.underlying t = some u := hu
    split at e
    · cases hx with | atom _ _ => cases hy with | atom _ _ =>
      simp only [Option.some.injEq] at e; subst e
      simp [Op.equalIn, ru]
    · cases hx with | atom _ _ => cases hy with | atom _ _ =>
      split at e
      · rename_i hk; simp only [Option.some.injEq] at e; subst e
        simp [Op.equalIn, ru, hk]
      · cases e
    · cases hx with | atom _ _ => cases hy with | atom _ _ =>
      simp only [Option.some.injEq] at e; subst e
      simp [Op.equalIn, ru]
    · cases hx with | atom _ _ => cases hy with | atom _ _ =>
      simp only [Option.some.injEq] at e; subst e
      simp [Op.equalIn, ru]
    · cases hx with | atom _ _ => cases hy with
      | atom _ k => simp [atom] at k
      | ptr _ _ _ _ =>
      simp only [Option.some.injEq] at e; subst e
      simp [Op.equalIn, ru]
    · cases hy with | atom _ _ => cases hx with
      | atom _ k => simp [atom] at k
      | ptr _ _ _ _ =>
      simp only [Option.some.injEq] at e; subst e
      simp [Op.equalIn, ru]
    · simp only [Option.bind_eq_some_iff] at e
      obtain ⟨n, hn, e⟩ := e
      cases hz : (Nat.beq n 0 || _ || _) with
      | true => rw [hz] at e; simp at e
      | false =>
        rw [hz] at e
        simp only [cond_false] at e
        cases hx with
        | atom _ k => simp [atom] at k
        | ptr a p s1 h1 =>
          cases hy with
          | atom _ k => simp [atom] at k
          | ptr b q s2 h2 =>
            have hn0 : n ≠ 0 := fun k => by subst k; simp at hz
            have := run_sameAddr (E := E) W s1 s2 h1 h2 e
            simp only [Op.equalIn, Sem.run_bind, ru, Result.andThen_ok, run_size hn, ne_eq, hn0, not_false_eq_true, if_true, Sem.run_ite, this]
    · cases hx with | atom _ _ => cases hy with | atom _ _ =>
      simp only [Option.some.injEq] at e; subst e
      simp [Op.equalIn, ru]
    · cases hx with | atom _ _ => cases hy with
      | atom _ k => simp [atom] at k
      | iface _ _ _ _ =>
      simp only [Option.some.injEq] at e; subst e
      simp [Op.equalIn, ru]
    · cases hy with | atom _ _ => cases hx with
      | atom _ k => simp [atom] at k
      | iface _ _ _ _ =>
      simp only [Option.some.injEq] at e; subst e
      simp [Op.equalIn, ru]
    · rename_i fields xs ys
      split at e
      · cases e
      · rename_i hs
        cases hx with
        | atom _ k => simp [atom] at k
        | agg _ xs' h1 =>
          cases hy with
          | atom _ k => simp [atom] at k
          | agg _ ys' h2 =>
            have hf : E.P.fieldsOf t = fields := by simp [Program.fieldsOf, hu']
            rw [run_equalIn_struct w D t xs' ys' (by rw [hf]; exact hu') (by simpa using hs), hf]
            exact allFields_run h1 h2 (eqE E h d) (fun t x y x' y' b hx hy e => eqE_run W d D (by omega) t x y x' y' b hx hy e) _ _ e
    · cases hx with | atom _ k => cases hy with | atom _ k' =>
      simp only [Option.some.injEq] at e; subst e
      simp [Op.equalIn, ru]
    · cases hx with | atom _ _ => cases hy with
      | atom _ k => simp [atom] at k
      | slice _ _ _ _ _ _ _ _ =>
        simp only [Option.some.injEq] at e; subst e
        simp [Op.equalIn, ru]
      | junk _ _ =>
        simp only [Option.some.injEq] at e; subst e
        simp [Op.equalIn, ru]
    · cases hy with | atom _ _ => cases hx with
      | atom _ k => simp [atom] at k
      | slice _ _ _ _ _ _ _ _ =>
        simp only [Option.some.injEq] at e; subst e
        simp [Op.equalIn, ru]
      | junk _ _ =>
        simp only [Option.some.injEq] at e; subst e
        simp [Op.equalIn, ru]
    · cases hx with | atom _ _ => cases hy with | atom _ _ =>
      simp only [Option.some.injEq] at e; subst e
      simp [Op.equalIn, ru]
    · cases hx with | atom _ _ => cases hy with
      | atom _ k => simp [atom] at k
      | map _ _ _ =>
      simp only [Option.some.injEq] at e; subst e
      simp [Op.equalIn, ru]
    · cases hy with | atom _ _ => cases hx with
      | atom _ k => simp [atom] at k
      | map _ _ _ =>
      simp only [Option.some.injEq] at e; subst e
      simp [Op.equalIn, ru]
    · cases e
end
end Go.Ab
