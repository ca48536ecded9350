/-
  The small machine's operations that turn no memory are the model's: the rest of them. No statement of the seat is proved here. Conditions: none.
-/
import Derived.Test.YtmpiakibllgdeaaGreatDoorAm
set_option linter.unusedVariables false
set_option linter.unusedSimpArgs false
namespace Go.Ab
section
variable {E : Env} {w0 w : World} {φ : Phi} {h : AHeap}

theorem eqGuard_other {op : BinOp} {t : TypeId} {x y : Operand} {a b : Value} (h1 : ¬ (a = .nilIface ∧ b = .nilIface)) (h2 : ∀ u v, ¬ (a = .agg u ∧ b = .agg v)) :
    (eqGuard op t x y a b).run E.P w = .ok () w := by
  cases op <;> first
    | rfl
    | (cases a <;> first
        | (cases b <;> rfl)
        | (cases b <;> first | rfl | exact absurd ⟨rfl, rfl⟩ h1 | exact absurd ⟨rfl, rfl⟩ (h2 _ _)))
theorem eqGuard_nil {op : BinOp} {t : TypeId} {x y : Operand} (hf : ((x matches .const _) || (y matches .const _)) = true) :
    (eqGuard op t x y .nilIface .nilIface).run E.P w = .ok () w := by
  cases x <;> cases y <;> first
    | (simp at hf; done)
    | (cases op <;> rfl)
theorem binOp_eql {t : TypeId} {x y : Value} {b : Bool} (hx : notNum x = true) (r : (Op.equal t x y).run E.P w = .ok b w) : (binOp .eql t x y).run E.P w = .ok (.bool b) w := by
  cases x <;> first
    | (simp [notNum] at hx; done)
    | (simp only [binOp, Sem.run_bind, r, Result.andThen_ok, Sem.run_pure])
theorem binOp_neq {t : TypeId} {x y : Value} {b : Bool} (hx : notNum x = true) (r : (Op.equal t x y).run E.P w = .ok b w) : (binOp .neq t x y).run E.P w = .ok (.bool !b) w := by
  cases x <;> first
    | (simp [notNum] at hx; done)
    | (simp only [binOp, Sem.run_bind, r, Result.andThen_ok, Sem.run_pure])
theorem VR.notNum {x x' : Value} (hx : VR φ x x') (hn : notNum x = true) : Ab.notNum x' = true := by
  cases hx <;> first | exact hn | rfl
theorem guard_free {op : BinOp} {t : TypeId} {ox oy : Operand} {x y x' y' : Value} (hx : VR φ x x') (hy : VR φ y y') (hf : eqFree E t ox oy x y = true) :
    (eqGuard op t ox oy x' y').run E.P w = .ok () w := by
  unfold eqFree at hf
  split at hf
  · cases hx with | atom _ _ => cases hy with | atom _ _ => exact eqGuard_nil hf
  · cases hx with
    | atom _ k => simp [atom] at k
    | agg _ _ _ =>
      cases hy with
      | atom _ k => simp [atom] at k
      | agg _ _ _ => exact run_eqGuard_agg w op t ox oy _ _ (by simpa using hf)
  · rename_i m1 m2
    refine eqGuard_other ?_ ?_
    · rintro ⟨rfl, rfl⟩
      cases hx with | atom _ _ => cases hy with | atom _ _ => exact m1 rfl rfl
    · rintro u v ⟨rfl, rfl⟩
      cases hx with
      | atom _ k => simp [atom] at k
      | agg _ _ _ =>
        cases hy with
        | atom _ k => simp [atom] at k
        | agg _ _ _ => exact m2 _ _ rfl rfl

theorem run_binE {op : BinOp} {xt : TypeId} {ox oy : Operand} {x y x' y' v : Value} (W : WR w0 φ h w) (hx : VR φ x x') (hy : VR φ y y') (e : binE E h op xt ox oy x y = some v) :
    (eqGuard op xt ox oy x' y').run E.P w = .ok () w ∧ ∃ v', (binOp op xt x' y').run E.P w = .ok v' w ∧ VR φ v v' := by
  have eqs : ∀ (t : Bool), eqE E h 8 xt x y = some t → (Op.equal xt x' y').run E.P w = .ok t w := fun t e => eqE_run W 8 Op.maxDepth (by decide) xt x y x' y' t hx hy e
  unfold binE at e
  split at e
  · cases hx with | atom _ _ => cases hy with | atom _ _ =>
    refine ⟨eqGuard_other (by simp) (by simp), ?_⟩
    split at e
    · obtain ⟨r, q⟩ := run_shiftE (E := E) (w := w) (φ := φ) (xt := xt) (.inl rfl) e
      exact ⟨v, r, q⟩
    · obtain ⟨r, q⟩ := run_shiftE (E := E) (w := w) (φ := φ) (xt := xt) (.inr rfl) e
      exact ⟨v, r, q⟩
    · rename_i n1 n2
      split at e
      · rename_i hk
        subst hk
        obtain ⟨r, q⟩ := run_intOp (E := E) (w := w) (φ := φ) (xt := xt) (fun z => n1 z) (fun z => n2 z) e
        exact ⟨v, r, q⟩
      · cases e
  · cases hx with | atom _ _ => cases hy with | atom _ _ =>
    refine ⟨eqGuard_other (by simp) (by simp), ?_⟩
    obtain ⟨r, q⟩ := run_strOp (E := E) (w := w) (φ := φ) (xt := xt) e
    exact ⟨v, r, q⟩
  · split at e
    · cases hf : (notNum x && eqFree E xt ox oy x y) with
      | false => simp [hf] at e
      | true =>
        simp only [hf, cond_true, Option.bind_eq_some_iff, Option.some.injEq] at e
        obtain ⟨t, ht, rfl⟩ := e
        simp only [Bool.and_eq_true] at hf
        exact ⟨guard_free hx hy hf.2, _, binOp_eql (hx.notNum hf.1) (eqs t ht), .atom _ rfl⟩
    · cases hf : (notNum x && eqFree E xt ox oy x y) with
      | false => simp [hf] at e
      | true =>
        simp only [hf, cond_true, Option.bind_eq_some_iff, Option.some.injEq] at e
        obtain ⟨t, ht, rfl⟩ := e
        simp only [Bool.and_eq_true] at hf
        exact ⟨guard_free hx hy hf.2, _, binOp_neq (hx.notNum hf.1) (eqs t ht), .atom _ rfl⟩
    · cases e

theorem run_unE {op : UnOp} {x x' v : Value} (hx : VR φ x x') (e : unE op x = some v) : (Op.unary op x').run E.P w = .ok v w ∧ VR φ v v := by
  unfold unE at e
  split at e <;> first
    | (cases hx with | atom _ _ =>
       simp only [Option.some.injEq] at e; subst e
       exact ⟨by simp [Op.unary, Op.intArith], .atom _ rfl⟩)
    | (cases hx with | atom _ _ =>
       simp only [intOp, Option.some.injEq] at e; subst e
       exact ⟨by simp [Op.unary, Op.intBits], .atom _ rfl⟩)
    | cases e
end
end Go.Ab
