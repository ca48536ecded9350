/-
  The small machine's operations that turn no memory are the model's: conversions, slices, indices, maps. No statement of the seat is proved here. Conditions: none.
-/
import Derived.Test.YtmpiakibllgdeaaGreatDoorAn
import Derived.Laws.BytesArg
import Derived.Laws.Append
set_option linter.unusedVariables false
set_option linter.unusedSimpArgs false
namespace Go.Ab
section
variable {E : Env} {w0 w : World} {φ : Phi} {h : AHeap}

theorem bytesOf_eq : ∀ (l : List Value) (bs : List UInt8), bytesOf l = some bs → ∃ ns : List Int, l = ns.map (Value.int .u8) ∧ bs = ns.map fun n => UInt8.ofNat n.toNat
  | [], bs, e => by simp [bytesOf] at e; subst e; exact ⟨[], rfl, rfl⟩
  | v :: r, bs, e => by
    unfold bytesOf at e
    split at e
    · simp at *
    · rename_i n r' heq
      simp only [List.cons.injEq] at heq
      obtain ⟨rfl, rfl⟩ := heq
      simp only [Option.bind_eq_some_iff, Option.some.injEq] at e
      obtain ⟨l, hl, rfl⟩ := e
      obtain ⟨ns, h1, h2⟩ := bytesOf_eq _ _ hl
      exact ⟨n :: ns, by simp [h1], by simp [h2]⟩
    · cases e

theorem VRs.ints {l l' : List Value} (hr : VRs φ l l') {ns : List Int} (e : l = ns.map (Value.int .u8)) : l' = ns.map (Value.int .u8) := by
  induction ns generalizing l l' with
  | nil => simp at e; subst e; cases hr; rfl
  | cons n ns ih =>
    subst e
    cases hr with
    | cons a b =>
      cases a with
      | atom _ _ => rw [ih b rfl]; rfl

theorem lies_var (P : Program) {e : TypeId} {s : Nat} (hs : P.cellsOf e = s) (h0 : s ≠ 0) (d n : Nat) (h1 : 1 ≤ n) : liesAt P (d + 1) e n 0 e 1 = true := by
  have hd : ∃ k, P.depth = k + 2 := ⟨2 * (P.types.size + Made.depth), rfl⟩
  obtain ⟨k, hk⟩ := hd
  unfold liesAt
  rw [hk]
  unfold rowAt
  simp only [hs, h0, if_false, Nat.zero_div, Nat.zero_mod, Nat.zero_add]
  have : sameLayout P (k + 2) e e = true := by unfold sameLayout; simp
  simp [this, h1]

theorem run_convE {src dst : TypeId} {x x' v : Value} (W : WR w0 φ h w) (hx : VR φ x x') (e : convE E h src dst x = some v) :
    ∃ v', (convert src dst x').run E.P w = .ok v' w ∧ VR φ v v' := by
  simp only [convE, Option.bind_eq_some_iff] at e
  obtain ⟨s, hs, d, hd, e⟩ := e
  have rs := run_und (E := E) (w := w) hs
  have rd := run_und (E := E) (w := w) hd
  split at e
  · cases hx with | atom _ _ =>
    simp only [Option.some.injEq] at e; subst e
    exact ⟨_, by simp [convert, rs, rd, Conv.intToInt], .atom _ rfl⟩
  · rename_i e1 a len cap
    simp only [Option.bind_eq_some_iff] at e
    obtain ⟨u, hu, e⟩ := e
    split at e
    · split at e
      · simp only [Option.some.injEq] at e; subst e
        have : ∀ a' cap', (convert src dst (.slice (some a') 0 cap')).run E.P w = .ok (.string .empty) w := fun a' cap' => by
          rw [run_convert_bytes_string w src dst e1 (some a') 0 cap' hs hu hd, run_bytesToString w a' 0 cap' [] (by simp [loadCells, loadCellsFrom])]
          rfl
        cases hx with
        | atom _ k => simp [atom] at k
        | slice => exact ⟨_, this _ _, .atom _ rfl⟩
        | junk => exact ⟨_, this _ _, .atom _ rfl⟩
      · split at e
        · cases e
        · rename_i hsp
          simp only [Option.bind_eq_some_iff, Option.some.injEq] at e
          obtain ⟨c, hc, l, hl, bs, hb, rfl⟩ := e
          cases hx with
          | atom _ k => simp [atom] at k
          | slice _ p _ _ cap' h1 h2 h3 =>
            obtain ⟨l', r1, r2, r3⟩ := W.loads (E := E) h2 (getCells_eq hc) hl
            obtain ⟨ns, e1', e2'⟩ := bytesOf_eq _ _ hb
            have hl' := r2.ints e1'
            rw [hl'] at r1
            refine ⟨_, ?_, .atom _ rfl⟩
            rw [run_convert_bytes_string w src dst _ (some _) _ cap' hs hu hd, run_bytesToString w _ _ cap' ns r1, foldl_push_bytes, e2']
            simp [ByteArray.empty, ByteArray.emptyWithCapacity]
            rfl
    · cases e
  · rename_i t a
    split at e
    · rename_i c e1 hg hsp
      simp only [Option.bind_eq_some_iff] at e
      obtain ⟨n, hn, e⟩ := e
      cases hb : (Nat.blt a.off c.length && !Nat.beq n 0) with
      | false => simp [hb] at e
      | true =>
        simp only [hb, cond_true, Option.some.injEq] at e
        subst e
        simp only [Bool.and_eq_true, Nat.blt_eq, Bool.not_eq_true'] at hb
        have hn0 : n ≠ 0 := fun k => by subst k; simp at hb
        cases hx with
        | atom _ k => simp [atom] at k
        | ptr _ p h1 h2 =>
          obtain ⟨c', et, fz, hh, C⟩ := W.row h2 hg
          have hsh : w.shape? p.b = some (et, c'.size) := by simp [World.shape?, hh]
          refine ⟨_, ?_, .ptr _ p h1 h2⟩
          have hfit := C.fits
          have hlen := C.len
          have hnot : ¬ (p.o + a.off ≥ c'.size) := by omega
          have hcell : (cellsIn p.b).run E.P w = .ok (some c'.size) w := by simp [cellsIn, hsh]
          have hseen : (Conv.seenAt ⟨p.b, p.o + a.off, none⟩).run E.P w = .ok ⟨p.b, p.o + a.off, none⟩ w := by
            simp [Conv.seenAt, viewAt, hsh]
          simp only [convert, Sem.run_bind, rs, rd, Result.andThen_ok, Conv.unsafePointer, hseen, hcell, run_size hn, hn0, hnot, decide_false, Bool.false_and, Bool.false_eq_true, if_false, or_self, Sem.run_ite, Sem.run_pure, Bool.or_false, decide_eq_true_eq]
    · cases e
  · rename_i u a
    split at e
    · rename_i c e1 hg hsp
      simp only [Option.bind_eq_some_iff] at e
      obtain ⟨n, hn, e⟩ := e
      cases hb : (Nat.beq a.off 0 && Nat.beq e1 u && !Nat.beq n 0 && Nat.beq c.length n) with
      | false => simp [hb] at e
      | true =>
        simp only [hb, cond_true, Option.some.injEq] at e
        subst e
        simp only [Bool.and_eq_true, Nat.beq_eq, Bool.not_eq_true'] at hb
        obtain ⟨⟨⟨ho, rfl⟩, hb⟩, hcl⟩ := hb
        have hn0 : n ≠ 0 := fun k => by subst k; simp at hb
        cases hx with
        | atom _ k => simp [atom] at k
        | ptr _ p h1 h2 =>
          obtain ⟨c', et, fz, hh, C⟩ := W.row h2 hg
          obtain ⟨k1, k2, k3, k4, k5, k6⟩ := C.kind
          subst k1
          have hsh : w.shape? p.b = some (et, c'.size) := by simp [World.shape?, hh]
          refine ⟨_, ?_, .ptr _ p h1 h2⟩
          have hseen : (Conv.seenAt ⟨p.b, p.o + a.off, none⟩).run E.P w = .ok ⟨p.b, p.o + a.off, none⟩ w := by
            simp [Conv.seenAt, viewAt, hsh]
          have hvar : (variablesAt ⟨p.b, p.o + a.off, none⟩ et 1).run E.P w = .ok true w := by
            have hcs : E.P.cellsOf et = n := by
              unfold sizeE at hn
              unfold Program.cellsOf
              rw [hn]; rfl
            simp only [variablesAt, Sem.run_bind, run_program, Result.andThen_ok, run_shape, hsh, Sem.run_pure]
            have hd : ∃ k, E.P.depth = k + 1 := ⟨2 * (E.P.types.size + Made.depth) + 1, rfl⟩
            obtain ⟨k, hk⟩ := hd
            have := lies_var E.P hcs hn0 k (c'.size / n) (by rw [k4, hcl]; rw [Nat.div_self (by omega)]; exact Nat.le_refl 1)
            rw [hcs, k3, ho, hk, this]
          simp only [convert, Sem.run_bind, rs, rd, Result.andThen_ok, Conv.unsafePointer, hseen, hvar, run_size hn, hn0, if_false, Sem.run_ite, Sem.run_pure, or_true, decide_true, Bool.or_true, if_true, Bool.true_eq_false]
    · cases e
  · cases e

theorem boundE_rel {x x' : Option Value} {lo n : Nat} (hx : ∀ v, x = some v → ∃ v', x' = some v' ∧ VR φ v v') (hn : x = none → x' = none) (e : boundE x lo = some n) :
    (x' = none ∧ n = lo) ∨ ∃ k, x' = some (.int k (Int.ofNat n)) := by
  unfold boundE at e
  split at e
  · simp only [Option.some.injEq] at e
    exact .inl ⟨hn rfl, e.symm⟩
  · rename_i k m
    simp only [Option.some.injEq] at e
    subst e
    obtain ⟨v', h1, h2⟩ := hx _ rfl
    cases h2 with
    | atom _ _ => exact .inr ⟨k, h1⟩
  · cases e

theorem run_bound {k : IntKind} {n y : Nat} {c : BoundsCode} (h : n ≤ y) : (Instr.sliceBound (.int k (Int.ofNat n)) y c).run E.P w = .ok n w := by
  unfold Instr.sliceBound
  have h1 : (0 : Int) ≤ Int.ofNat n ∧ Int.ofNat n ≤ (y : Int) := ⟨Int.natCast_nonneg n, Int.ofNat_le.2 h⟩
  simp only [asIntOf, Sem.run_bind, Sem.run_pure, Result.andThen_ok, h1, and_self, if_true, Sem.run_ite]
  rfl

/-- The bounds of a slicing, read off. -/
theorem run_bounds {isSlice : Bool} {len cap l u m : Nat} {lo hi mx : Option Value} (hl : (lo = none ∧ l = 0) ∨ ∃ k, lo = some (.int k (Int.ofNat l)))
    (hu : (hi = none ∧ u = len) ∨ ∃ k, hi = some (.int k (Int.ofNat u))) (hm : (mx = none ∧ m = cap) ∨ ∃ k, mx = some (.int k (Int.ofNat m))) (hno : ¬ (hi = none ∧ mx ≠ none))
    (h1 : l ≤ u) (h2 : hi = none → u ≤ m) (h2' : hi ≠ none → u ≤ m) (h3 : m ≤ cap) :
    (Instr.sliceBounds isSlice len cap lo hi mx).run E.P w = .ok (l, u, m) w := by
  unfold Instr.sliceBounds
  rcases hm with ⟨rfl, rfl⟩ | ⟨km, rfl⟩ <;> rcases hu with ⟨rfl, rfl⟩ | ⟨ku, rfl⟩ <;> rcases hl with ⟨rfl, rfl⟩ | ⟨kl, rfl⟩
  all_goals first
    | (simp only [Sem.run_bind, Sem.run_pure, Result.andThen_ok, run_bound h1, run_bound h3]; done)
    | (simp only [Sem.run_bind, Sem.run_pure, Result.andThen_ok, run_bound h1, run_bound h3]; rfl)
    | (refine absurd ⟨rfl, ?_⟩ hno; simp; done)
    | (have h2'' := h2' (by simp)
       simp only [Sem.run_bind, Sem.run_pure, Result.andThen_ok, run_bound h1, run_bound h2'', run_bound h3]
       done)
    | (have h2'' := h2' (by simp)
       simp only [Sem.run_bind, Sem.run_pure, Result.andThen_ok, run_bound h1, run_bound h2'', run_bound h3]
       rfl)

theorem CapR.slice {p : Pl} {off cap cap' l m size : Nat} (h : CapR p off cap cap') (hg : p.g = none ∨ p.g = some size) (hle : l ≤ m) (hm : m ≤ cap) : CapR p (off + l * size) (m - l) (m - l) := by
  unfold CapR at *
  rcases hg with g | g
  · simp only [g]
  · simp only [g] at h ⊢
    refine ⟨Nat.le_refl _, ?_⟩
    have : off + l * size + (m - l) * size = off + m * size := by rw [Nat.sub_mul]; have := Nat.mul_le_mul_right size hle; omega
    have h2 : m * size ≤ cap' * size := Nat.mul_le_mul_right _ (by omega)
    omega
theorem CapR.rest {p : Pl} {off cap cap' l size : Nat} (h : CapR p off cap cap') (hg : p.g = some size) (hle : l ≤ cap) : CapR p (off + l * size) (cap - l) (cap' - l) := by
  unfold CapR at *
  simp only [hg] at h ⊢
  refine ⟨by omega, ?_⟩
  have : off + l * size + (cap' - l) * size = off + cap' * size := by rw [Nat.sub_mul]; have := Nat.mul_le_mul_right size (show l ≤ cap' by omega); omega
  omega
end
end Go.Ab
