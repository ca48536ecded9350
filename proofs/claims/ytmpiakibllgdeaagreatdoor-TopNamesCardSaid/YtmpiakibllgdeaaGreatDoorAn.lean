/-
  The small machine's operations that turn no memory are the model's: the rest of them. No statement of the seat is proved here. Conditions: none.
-/
import Derived.Test.YtmpiakibllgdeaaGreatDoorAl
import Derived.Laws.BytesArg
import Derived.Laws.Append
set_option linter.unusedVariables false
set_option linter.unusedSimpArgs false
namespace Go.Ab
section
variable {E : Env} {w0 w : World} {φ : Phi} {h : AHeap}

theorem eqGuard_other {op : BinOp} {t : TypeId} {x y : Operand} {a b : Value} (h1 : ¬ (a = .nilIface ∧ b = .nilIface)) (h2 : ∀ u v, ¬ (a = .agg u ∧ b = .agg v)) :
    (eqGuard op t x y a b).run E.P w = .ok () w := by
  cases op <;> first
    | rfl
    | (cases a <;> first
        | (cases b <;> rfl)
        | (cases b <;> first | rfl | exact absurd ⟨rfl, rfl⟩ h1 | exact absurd ⟨rfl, rfl⟩ (h2 _ _)))
theorem eqGuard_nil {op : BinOp} {t : TypeId} {x y : Operand} (hf : ((x matches .const _) || (y matches .const _)) = true) :
    (eqGuard op t x y .nilIface .nilIface).run E.P w = .ok () w := by
  cases x <;> cases y <;> first
    | (simp at hf; done)
    | (cases op <;> rfl)
theorem binOp_eql {t : TypeId} {x y : Value} {b : Bool} (hx : notNum x = true) (r : (Op.equal t x y).run E.P w = .ok b w) : (binOp .eql t x y).run E.P w = .ok (.bool b) w := by
  cases x <;> first
    | (simp [notNum] at hx; done)
    | (simp only [binOp, Sem.run_bind, r, Result.andThen_ok, Sem.run_pure])
theorem binOp_neq {t : TypeId} {x y : Value} {b : Bool} (hx : notNum x = true) (r : (Op.equal t x y).run E.P w = .ok b w) : (binOp .neq t x y).run E.P w = .ok (.bool !b) w := by
  cases x <;> first
    | (simp [notNum] at hx; done)
    | (simp only [binOp, Sem.run_bind, r, Result.andThen_ok, Sem.run_pure])
theorem VR.notNum {x x' : Value} (hx : VR φ x x') (hn : notNum x = true) : Ab.notNum x' = true := by
  cases hx <;> first | exact hn | rfl
theorem guard_free {op : BinOp} {t : TypeId} {ox oy : Operand} {x y x' y' : Value} (hx : VR φ x x') (hy : VR φ y y') (hf : eqFree E t ox oy x y = true) :
    (eqGuard op t ox oy x' y').run E.P w = .ok () w := by
  unfold eqFree at hf
  split at hf
  · cases hx with | atom _ _ => cases hy with | atom _ _ => exact eqGuard_nil hf
  · cases hx with
    | atom _ k => simp [atom] at k
    | agg _ _ _ =>
      cases hy with
      | atom _ k => simp [atom] at k
      | agg _ _ _ => exact run_eqGuard_agg w op t ox oy _ _ (by simpa using hf)
  · rename_i m1 m2
    refine eqGuard_other ?_ ?_
    · rintro ⟨rfl, rfl⟩
      cases hx with | atom _ _ => cases hy with | atom _ _ => exact m1 rfl rfl
    · rintro u v ⟨rfl, rfl⟩
      cases hx with
      | atom _ k => simp [atom] at k
      | agg _ _ _ =>
        cases hy with
        | atom _ k => simp [atom] at k
        | agg _ _ _ => exact m2 _ _ rfl rfl

theorem run_binE {op : BinOp} {xt : TypeId} {ox oy : Operand} {x y x' y' v : Value} (W : WR w0 φ h w) (hx : VR φ x x') (hy : VR φ y y') (e : binE E h op xt ox oy x y = some v) :
    (eqGuard op xt ox oy x' y').run E.P w = .ok () w ∧ ∃ v', (binOp op xt x' y').run E.P w = .ok v' w ∧ VR φ v v' := by
  have eqs : ∀ (t : Bool), eqE E h 8 xt x y = some t → (Op.equal xt x' y').run E.P w = .ok t w := fun t e => eqE_run W 8 Op.maxDepth (by decide) xt x y x' y' t hx hy e
  unfold binE at e
  split at e
  · cases hx with | atom _ _ => cases hy with | atom _ _ =>
    refine ⟨eqGuard_other (by simp) (by simp), ?_⟩
    split at e
    · obtain ⟨r, q⟩ := run_shiftE (E := E) (w := w) (φ := φ) (xt := xt) (.inl rfl) e
      exact ⟨v, r, q⟩
    · obtain ⟨r, q⟩ := run_shiftE (E := E) (w := w) (φ := φ) (xt := xt) (.inr rfl) e
      exact ⟨v, r, q⟩
    · rename_i n1 n2
      split at e
      · rename_i hk
        subst hk
        obtain ⟨r, q⟩ := run_intOp (E := E) (w := w) (φ := φ) (xt := xt) (fun z => n1 z) (fun z => n2 z) e
        exact ⟨v, r, q⟩
      · cases e
  · cases hx with | atom _ _ => cases hy with | atom _ _ =>
    refine ⟨eqGuard_other (by simp) (by simp), ?_⟩
    obtain ⟨r, q⟩ := run_strOp (E := E) (w := w) (φ := φ) (xt := xt) e
    exact ⟨v, r, q⟩
  · split at e
    · cases hf : (notNum x && eqFree E xt ox oy x y) with
      | false => simp [hf] at e
      | true =>
        simp only [hf, cond_true, Option.bind_eq_some_iff, Option.some.injEq] at e
        obtain ⟨t, ht, rfl⟩ := e
        simp only [Bool.and_eq_true] at hf
        exact ⟨guard_free hx hy hf.2, _, binOp_eql (hx.notNum hf.1) (eqs t ht), .atom _ rfl⟩
    · cases hf : (notNum x && eqFree E xt ox oy x y) with
      | false => simp [hf] at e
      | true =>
        simp only [hf, cond_true, Option.bind_eq_some_iff, Option.some.injEq] at e
        obtain ⟨t, ht, rfl⟩ := e
        simp only [Bool.and_eq_true] at hf
        exact ⟨guard_free hx hy hf.2, _, binOp_neq (hx.notNum hf.1) (eqs t ht), .atom _ rfl⟩
    · cases e

theorem run_unE {op : UnOp} {x x' v : Value} (hx : VR φ x x') (e : unE op x = some v) : (Op.unary op x').run E.P w = .ok v w ∧ VR φ v v := by
  unfold unE at e
  split at e <;> first
    | (cases hx with | atom _ _ =>
       simp only [Option.some.injEq] at e; subst e
       exact ⟨by simp [Op.unary, Op.intArith], .atom _ rfl⟩)
    | (cases hx with | atom _ _ =>
       simp only [intOp, Option.some.injEq] at e; subst e
       exact ⟨by simp [Op.unary, Op.intBits], .atom _ rfl⟩)
    | cases e
end
end Go.Ab

/-
  The small machine's operations that turn no memory are the model's: conversions, slices, indices, maps. No statement of the seat is proved here. Conditions: none.
-/
set_option linter.unusedVariables false
set_option linter.unusedSimpArgs false
namespace Go.Ab
section
variable {E : Env} {w0 w : World} {φ : Phi} {h : AHeap}

theorem bytesOf_eq : ∀ (l : List Value) (bs : List UInt8), bytesOf l = some bs → ∃ ns : List Int, l = ns.map (Value.int .u8) ∧ bs = ns.map fun n => UInt8.ofNat n.toNat
  | [], bs, e => by simp [bytesOf] at e; subst e; exact ⟨[], rfl, rfl⟩
  | v :: r, bs, e => by
    unfold bytesOf at e
    split at e
    · simp at *
    · rename_i n r' heq
      simp only [List.cons.injEq] at heq
      obtain ⟨rfl, rfl⟩ := heq
      simp only [Option.bind_eq_some_iff, Option.some.injEq] at e
      obtain ⟨l, hl, rfl⟩ := e
      obtain ⟨ns, h1, h2⟩ := bytesOf_eq _ _ hl
      exact ⟨n :: ns, by simp [h1], by simp [h2]⟩
    · cases e

theorem VRs.ints {l l' : List Value} (hr : VRs φ l l') {ns : List Int} (e : l = ns.map (Value.int .u8)) : l' = ns.map (Value.int .u8) := by
  induction ns generalizing l l' with
  | nil => simp at e; subst e; cases hr; rfl
  | cons n ns ih =>
    subst e
    cases hr with
    | cons a b =>
      cases a with
      | atom _ _ => rw [ih b rfl]; rfl

theorem lies_var (P : Program) {e : TypeId} {s : Nat} (hs : P.cellsOf e = s) (h0 : s ≠ 0) (d n : Nat) (h1 : 1 ≤ n) : liesAt P (d + 1) e n 0 e 1 = true := by
  have hd : ∃ k, P.depth = k + 2 := ⟨2 * (P.types.size + Made.depth), rfl⟩
  obtain ⟨k, hk⟩ := hd
  unfold liesAt
  rw [hk]
  unfold rowAt
  simp only [hs, h0, if_false, Nat.zero_div, Nat.zero_mod, Nat.zero_add]
  have : sameLayout P (k + 2) e e = true := by unfold sameLayout; simp
  simp [this, h1]

theorem conv_to_bare (src dst t : TypeId) {d : TypeDesc} (hq : bareD d = true) (a : Addr) : ∃ f g : TypeDesc → TypeDesc → Sem Value,
    convert src dst (.pointer (some a)) = (do let s ← underlying src; let d ← underlying dst; g s d) ∧
    g (.pointer t) d = (do let s ← underlying src; let d ← underlying dst; f s d) ∧
    f (.pointer t) d = (do
      let s ← Conv.seenAt a
      let nothing := match ← cellsIn s.block with
        | some cells => s.off ≥ cells && s.spot.isNone
        | none => false
      if (← sizeOf t) = 0 || nothing then pure (.pointer (some ⟨← newObj (.view s t), 0, none⟩)) else
      pure (.pointer (some s))) := by
  cases d <;> first | exact Bool.noConfusion hq | exact ⟨_, _, rfl, rfl, rfl⟩

theorem conv_of_bare (src dst u : TypeId) {d : TypeDesc} (hq : bareD d = true) (a : Addr) : ∃ (f g : TypeDesc → TypeDesc → Sem Value) (r : Addr → Sem Value),
    convert src dst (.pointer (some a)) = (do let s ← underlying src; let d ← underlying dst; g s d) ∧
    g d (.pointer u) = (do let s ← underlying src; let d ← underlying dst; f s d) ∧
    f d (.pointer u) = (do
      let a ← Conv.seenAt a
      if (← sizeOf u) = 0 || (← variablesAt a u 1) then pure (.pointer (some a))
      else r a) := by
  cases d <;> first | exact Bool.noConfusion hq | exact ⟨_, _, _, rfl, rfl, rfl⟩

theorem run_convE {src dst : TypeId} {x x' v : Value} (W : WR w0 φ h w) (hx : VR φ x x') (e : convE E h src dst x = some v) :
    ∃ v', (convert src dst x').run E.P w = .ok v' w ∧ VR φ v v' := by
  simp only [convE, Option.bind_eq_some_iff] at e
  obtain ⟨s, hs, d, hd, e⟩ := e
  have rs := run_und (E := E) (w := w) hs
  have rd := run_und (E := E) (w := w) hd
  split at e
  · cases hx with | atom _ _ =>
    simp only [Option.some.injEq] at e; subst e
    exact ⟨_, by simp [convert, rs, rd, Conv.intToInt], .atom _ rfl⟩
  · rename_i e1 a len cap
    simp only [Option.bind_eq_some_iff] at e
    obtain ⟨u, hu, e⟩ := e
    split at e
    · split at e
      · simp only [Option.some.injEq] at e; subst e
        have : ∀ a' cap', (convert src dst (.slice (some a') 0 cap')).run E.P w = .ok (.string .empty) w := fun a' cap' => by
          rw [run_convert_bytes_string w src dst e1 (some a') 0 cap' hs hu hd, run_bytesToString w a' 0 cap' [] (by simp [loadCells, loadCellsFrom])]
          rfl
        cases hx with
        | atom _ k => simp [atom] at k
        | slice => exact ⟨_, this _ _, .atom _ rfl⟩
        | junk => exact ⟨_, this _ _, .atom _ rfl⟩
      · split at e
        · cases e
        · rename_i hsp
          simp only [Option.bind_eq_some_iff, Option.some.injEq] at e
          obtain ⟨c, hc, l, hl, bs, hb, rfl⟩ := e
          cases hx with
          | atom _ k => simp [atom] at k
          | slice _ p _ _ cap' h1 h2 h3 =>
            obtain ⟨l', r1, r2, r3⟩ := W.loads (E := E) h2 (getCells_eq hc) hl
            obtain ⟨ns, e1', e2'⟩ := bytesOf_eq _ _ hb
            have hl' := r2.ints e1'
            rw [hl'] at r1
            refine ⟨_, ?_, .atom _ rfl⟩
            rw [run_convert_bytes_string w src dst _ (some _) _ cap' hs hu hd, run_bytesToString w _ _ cap' ns r1, foldl_push_bytes, e2']
            simp [ByteArray.empty, ByteArray.emptyWithCapacity]
            rfl
    · cases e
  · rename_i t a
    cases hq : bareD d with
    | false => simp [hq] at e
    | true =>
    simp only [hq, cond_true] at e
    split at e
    · rename_i c e1 hg hsp
      simp only [Option.bind_eq_some_iff] at e
      obtain ⟨n, hn, e⟩ := e
      cases hb : (Nat.blt a.off c.length && !Nat.beq n 0) with
      | false => simp [hb] at e
      | true =>
        simp only [hb, cond_true, Option.some.injEq] at e
        subst e
        simp only [Bool.and_eq_true, Nat.blt_eq, Bool.not_eq_true'] at hb
        have hn0 : n ≠ 0 := fun k => by subst k; simp at hb
        cases hx with
        | atom _ k => simp [atom] at k
        | ptr _ p h1 h2 =>
          obtain ⟨c', et, fz, hh, C⟩ := W.row h2 hg
          have hsh : w.shape? p.b = some (et, c'.size) := by simp [World.shape?, hh]
          refine ⟨_, ?_, .ptr _ p h1 h2⟩
          have hfit := C.fits
          have hlen := C.len
          have hnot : ¬ (p.o + a.off ≥ c'.size) := by omega
          have hcell : (cellsIn p.b).run E.P w = .ok (some c'.size) w := by simp [cellsIn, hsh]
          have hseen : (Conv.seenAt ⟨p.b, p.o + a.off, none⟩).run E.P w = .ok ⟨p.b, p.o + a.off, none⟩ w := by
            simp [Conv.seenAt, viewAt, hsh]
          obtain ⟨f, g, q1, q2, q3⟩ := conv_to_bare src dst t hq ⟨p.b, p.o + a.off, none⟩
          simp only [q1, q2, q3, Sem.run_bind, rs, rd, Result.andThen_ok, hseen, hcell, run_size hn, hn0, hnot, decide_false, Bool.false_and, Bool.false_eq_true, if_false, or_self, Sem.run_ite, Sem.run_pure, Bool.or_false, decide_eq_true_eq]
    · cases e
  · rename_i u a _
    cases hq : bareD s with
    | false => simp [hq] at e
    | true =>
    simp only [hq, cond_true] at e
    split at e
    · rename_i c e1 hg hsp
      simp only [Option.bind_eq_some_iff] at e
      obtain ⟨n, hn, e⟩ := e
      cases hb : (Nat.beq a.off 0 && Nat.beq e1 u && !Nat.beq n 0 && Nat.beq c.length n) with
      | false => simp [hb] at e
      | true =>
        simp only [hb, cond_true, Option.some.injEq] at e
        subst e
        simp only [Bool.and_eq_true, Nat.beq_eq, Bool.not_eq_true'] at hb
        obtain ⟨⟨⟨ho, rfl⟩, hb⟩, hcl⟩ := hb
        have hn0 : n ≠ 0 := fun k => by subst k; simp at hb
        cases hx with
        | atom _ k => simp [atom] at k
        | ptr _ p h1 h2 =>
          obtain ⟨c', et, fz, hh, C⟩ := W.row h2 hg
          obtain ⟨k1, k2, k3, k4, k5, k6⟩ := C.kind
          subst k1
          have hsh : w.shape? p.b = some (et, c'.size) := by simp [World.shape?, hh]
          refine ⟨_, ?_, .ptr _ p h1 h2⟩
          have hseen : (Conv.seenAt ⟨p.b, p.o + a.off, none⟩).run E.P w = .ok ⟨p.b, p.o + a.off, none⟩ w := by
            simp [Conv.seenAt, viewAt, hsh]
          have hvar : (variablesAt ⟨p.b, p.o + a.off, none⟩ et 1).run E.P w = .ok true w := by
            have hcs : E.P.cellsOf et = n := by
              unfold sizeE at hn
              unfold Program.cellsOf
              rw [hn]; rfl
            simp only [variablesAt, Sem.run_bind, run_program, Result.andThen_ok, run_shape, hsh, Sem.run_pure]
            have hd : ∃ k, E.P.depth = k + 1 := ⟨2 * (E.P.types.size + Made.depth) + 1, rfl⟩
            obtain ⟨k, hk⟩ := hd
            have := lies_var E.P hcs hn0 k (c'.size / n) (by rw [k4, hcl]; rw [Nat.div_self (by omega)]; exact Nat.le_refl 1)
            rw [hcs, k3, ho, hk, this]
          obtain ⟨f, g, r, q1, q2, q3⟩ := conv_of_bare src dst et hq ⟨p.b, p.o + a.off, none⟩
          simp only [q1, q2, q3, Sem.run_bind, rs, rd, Result.andThen_ok, hseen, hvar, run_size hn, hn0, if_false, Sem.run_ite, Sem.run_pure, or_true, decide_true, Bool.or_true, if_true, Bool.true_eq_false]
    · cases e
  · cases e

theorem boundE_rel {x x' : Option Value} {lo n : Nat} (hx : ∀ v, x = some v → ∃ v', x' = some v' ∧ VR φ v v') (hn : x = none → x' = none) (e : boundE x lo = some n) :
    (x' = none ∧ n = lo) ∨ ∃ k, x' = some (.int k (Int.ofNat n)) := by
  unfold boundE at e
  split at e
  · simp only [Option.some.injEq] at e
    exact .inl ⟨hn rfl, e.symm⟩
  · rename_i k m
    simp only [Option.some.injEq] at e
    subst e
    obtain ⟨v', h1, h2⟩ := hx _ rfl
    cases h2 with
    | atom _ _ => exact .inr ⟨k, h1⟩
  · cases e

theorem run_bound {k : IntKind} {n y : Nat} {c : BoundsCode} (h : n ≤ y) : (Instr.sliceBound (.int k (Int.ofNat n)) y c).run E.P w = .ok n w := by
  unfold Instr.sliceBound
  have h1 : (0 : Int) ≤ Int.ofNat n ∧ Int.ofNat n ≤ (y : Int) := ⟨Int.natCast_nonneg n, Int.ofNat_le.2 h⟩
  simp only [asIntOf, Sem.run_bind, Sem.run_pure, Result.andThen_ok, h1, and_self, if_true, Sem.run_ite]
  rfl

/-- The bounds of a slicing, read off. -/
theorem run_bounds {isSlice : Bool} {len cap l u m : Nat} {lo hi mx : Option Value} (hl : (lo = none ∧ l = 0) ∨ ∃ k, lo = some (.int k (Int.ofNat l)))
    (hu : (hi = none ∧ u = len) ∨ ∃ k, hi = some (.int k (Int.ofNat u))) (hm : (mx = none ∧ m = cap) ∨ ∃ k, mx = some (.int k (Int.ofNat m))) (hno : ¬ (hi = none ∧ mx ≠ none))
    (h1 : l ≤ u) (h2 : hi = none → u ≤ m) (h2' : hi ≠ none → u ≤ m) (h3 : m ≤ cap) :
    (Instr.sliceBounds isSlice len cap lo hi mx).run E.P w = .ok (l, u, m) w := by
  unfold Instr.sliceBounds
  rcases hm with ⟨rfl, rfl⟩ | ⟨km, rfl⟩ <;> rcases hu with ⟨rfl, rfl⟩ | ⟨ku, rfl⟩ <;> rcases hl with ⟨rfl, rfl⟩ | ⟨kl, rfl⟩
  all_goals first
    | (simp only [Sem.run_bind, Sem.run_pure, Result.andThen_ok, run_bound h1, run_bound h3]; done)
    | (simp only [Sem.run_bind, Sem.run_pure, Result.andThen_ok, run_bound h1, run_bound h3]; rfl)
    | (refine absurd ⟨rfl, ?_⟩ hno; simp; done)
    | (have h2'' := h2' (by simp)
       simp only [Sem.run_bind, Sem.run_pure, Result.andThen_ok, run_bound h1, run_bound h2'', run_bound h3]
       done)
    | (have h2'' := h2' (by simp)
       simp only [Sem.run_bind, Sem.run_pure, Result.andThen_ok, run_bound h1, run_bound h2'', run_bound h3]
       rfl)

theorem CapR.slice {p : Pl} {off cap cap' l m size : Nat} (h : CapR p off cap cap') (hg : p.g = none ∨ p.g = some size) (hle : l ≤ m) (hm : m ≤ cap) : CapR p (off + l * size) (m - l) (m - l) := by
  unfold CapR at *
  rcases hg with g | g
  · simp only [g]
  · simp only [g] at h ⊢
    refine ⟨Nat.le_refl _, ?_⟩
    have : off + l * size + (m - l) * size = off + m * size := by rw [Nat.sub_mul]; have := Nat.mul_le_mul_right size hle; omega
    have h2 : m * size ≤ cap' * size := Nat.mul_le_mul_right _ (by omega)
    omega
theorem CapR.rest {p : Pl} {off cap cap' l size : Nat} (h : CapR p off cap cap') (hg : p.g = some size) (hle : l ≤ cap) : CapR p (off + l * size) (cap - l) (cap' - l) := by
  unfold CapR at *
  simp only [hg] at h ⊢
  refine ⟨by omega, ?_⟩
  have : off + l * size + (cap' - l) * size = off + cap' * size := by rw [Nat.sub_mul]; have := Nat.mul_le_mul_right size (show l ≤ cap' by omega); omega
  omega
end
end Go.Ab
