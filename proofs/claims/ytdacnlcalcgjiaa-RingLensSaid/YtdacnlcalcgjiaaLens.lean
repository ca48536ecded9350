/-
  PROVED: harrowlaw06.RingLens returns true at every int, and its argument reads behind the call as before (Rows.RingLensSaid). No condition.
-/
import Derived.Test.YtdacnlcalcgjiaaBase
namespace Go.Proofs.Ytdacnlcalcgjiaa.ringLens
open Go.ChangeShapes Go.WideShapes Go.ChangeAt Go.RowKit
set_option linter.unusedVariables false

theorem own : ownKnob Try.prog.godebug = none := by kernel_rfl
theorem laidOut : laidOutB Try.prog = true := by kernel_rfl

/-- What the walk is told of a slice of ints that came in: nil, or a row of cap cells, the numbers zs, the first len its elements. -/
def IsRow (k : IntKind) (w : World) (a : Option Addr) (len cap : Nat) (zs : List Int) : Prop :=
  (a = none ∧ len = 0 ∧ cap = 0 ∧ zs = []) ∨
  ∃ x, a = some x ∧ len ≤ cap ∧ cap ≤ maxLen ∧ zs.length = cap ∧ (∀ i, i < zs.length → w.cell? (x.add i) = some (.int k (zs.getD i 0))) ∧ ∀ n ∈ zs, (Lit.int k n).wf = true
attribute [local go_sem] and65535

theorem getB_rep (B p b n : Nat) (v : Value) (a : Int) (w : World) (hR : RingAt w B 5 p b n (List.replicate n v)) (wa : -9223372036854775808 ≤ a) (wb : a ≤ 9223372036854775807) :
    Calls Try.prog 18 #[.pointer (some ⟨p, 0, none⟩), .int .i64 a] w fun e w' => e = .returned v ∧ RingAt w' B 5 p b n (List.replicate n v) ∧ ∀ B', Below B' w w' := by
  have n1 := hR.n1
  have m0 := Int.emod_nonneg a (by omega : (n : Int) ≠ 0)
  have m1 := Int.emod_lt_of_pos a (by omega : 0 < (n : Int))
  have e : (List.replicate n v)[(a % n).toNat]?.getD undef = v := by simp [show (a % n).toNat < n by omega]
  have h := getsB_any B p b n _ a w hR wa wb
  rw [e] at h
  exact h

set_option maxHeartbeats 2000000 in
theorem walk (a0 : Int) (w0 : (Lit.int .i64 a0).wf = true) (w : World) :
    Calls Try.prog 5 #[.int .i64 a0] w fun e w' => e = .returned (.bool true) ∧ Below w.heap.size w w' := by
  have hb := bounds_i64 w0
  obtain ⟨N, m, W, hN, hW, hcase⟩ : ∃ (N : Nat) (m W : Int), (N : Int) = min (max m 1) 1048576 ∧ W = N ∧ ((a0 < 1 ∧ m = a0 ∧ W = 1) ∨ (1 ≤ a0 ∧ a0 ≤ 5000 ∧ m = a0 ∧ W = a0) ∨ (5000 < a0 ∧ a0 ≤ 1048576 ∧ a0 % 5000 < 1 ∧ m = a0 % 5000 ∧ W = 1) ∨ (5000 < a0 ∧ a0 ≤ 1048576 ∧ 1 ≤ a0 % 5000 ∧ m = a0 % 5000 ∧ W = a0 % 5000) ∨ (1048576 < a0 ∧ m = a0 ∧ W = 1048576)) := by
    by_cases c1 : 5000 < a0 ∧ a0 ≤ 1048576
    · exact ⟨(min (max (a0 % 5000) 1) 1048576).toNat, a0 % 5000, min (max (a0 % 5000) 1) 1048576, by omega, by omega, by omega⟩
    · exact ⟨(min (max a0 1) 1048576).toNat, a0, min (max a0 1) 1048576, by omega, by omega, by omega⟩
  have n1 : 1 ≤ N := by omega
  have n2 : N ≤ 1048576 := by omega
  have e1 : -1 % (N : Int) = N - 1 := by
    have := Int.emod_nonneg (-1) (by omega : (N : Int) ≠ 0)
    have h2 := Int.emod_lt_of_pos (-1) (by omega : 0 < (N : Int))
    have h3 := Int.emod_add_mul_ediv (-1) N
    generalize -1 % (N : Int) = r at *
    generalize -1 / (N : Int) = q at *
    have : q = -1 := by
      rcases Int.lt_trichotomy q (-1) with h | h | h
      · have : (N : Int) * q ≤ N * (-2) := Int.mul_le_mul_of_nonneg_left (by omega) (by omega)
        omega
      · exact h
      · have : (N : Int) * 0 ≤ N * q := Int.mul_le_mul_of_nonneg_left (by omega) (by omega)
        omega
    subst this; omega
  have e2 : ((-1 % (N : Int)) == ((N : Int) - 1)) = true := by rw [e1]; simp
  have e3 : -1 % (N : Int) ≤ N - 1 := by omega
  have e4 : (N : Int) - 1 ≤ -1 % (N : Int) := by omega
  have HN := Lib.hid hN
  have k0 : W % (N : Int) ≤ 0 := by rw [hW]; simp
  have k1 : 0 ≤ W % (N : Int) := by rw [hW]; simp
  have k2 : W ≤ N := by omega
  have k3 : N ≤ W := by omega
  have k4 : 0 ≤ a0 % 5000 := by omega
  have k5 : a0 % 5000 < 5000 := by omega
  have k6 : ((-1 % W) == (W - 1)) = true := by rw [hW]; exact e2
  clear hN e1 e2 hW w0
  rcases hcase with ⟨c1, c2, rfl⟩ | ⟨c1, c1', c2, rfl⟩ | ⟨c1, c1', c1'', c2, rfl⟩ | ⟨c1, c1', c1'', c2, rfl⟩ | ⟨c1, c2, rfl⟩
  all_goals
    have HM := Lib.hid c2
    clear c2
    go_enter Try.func5, Try.ntmps5
    go_wp2_with fail
    refine (shown_any _).mono ?_
    rintro e u1 ⟨rfl, hB1⟩
    go_wp2_with fail
    refine (newB_any _ 3 N _ (by have := HN.out; have := HM.out; omega)).mono ?_
    rintro e w2 ⟨p, b, rfl, hR, hB2⟩
    have hd := hR.hd
    have H := Lib.hid hR
    have HB := Lib.hid (hB1.trans (hB2.mono hB1.size))
    clear hB1 hB2 hR
    go_wp2_with (first | (go_at_call 17; refine (lenB_any p b N _ hd).mono ?_; rintro e w' ⟨rfl, rfl⟩))
    refine (getB_rep _ p b N _ _ _ H.out (by omega) (by omega)).mono ?_
    rintro e w3 ⟨rfl, hR3, hB3⟩
    have hd3 := hR3.hd
    have HB3 := Lib.hid (HB.out.trans (hB3 _))
    clear hB3 hR3
    go_wp2_with (first | (go_at_call 19; refine (farB_any p b N _ _ _ hd3 n1 (by omega) (by omega) (by omega) (by omega) (by omega)).mono ?_; rintro e w' ⟨rfl, rfl⟩) | (go_at_call 20; refine (goB_any p b N _ _ _ hd3 n1 (by omega) (by omega) (by omega) (by omega) (by omega)).mono ?_; rintro e w' ⟨rfl, rfl⟩))
    go_ret
    exact ⟨rfl, HB3.out⟩
set_option maxRecDepth 100000 in
theorem lifted (os : Os) (started : os.Started) (H : Type) (enc : TypeId × Value → H) :
    ReturnsInHanded {} Try.checked os 5 .any (Rows.ringLensSpec.pre6 enc Try.prog Try.f5 Rows.ringLensRow.domain false) (Rows.ringLensSpec.post enc Try.prog Try.f5 false true false false) := by
  refine returnsInHanded_of_change (C := Try.checked) own started (by kernel_rfl) Try.func5
    (ChangeSpec.witness6 (enc := enc) (C := Try.checked) false ⟨#[], #[.int .i64 0], []⟩ 8 (by kernel_rfl) (by kernel_rfl) (by kernel_rfl) (by kernel_rfl)) ?_
  intro W base args ds gs before hval0 hW hcnd _
  have hval : ∀ (j : Nat) t v, Try.f5.params[j]? = some t → args[j]? = some v → Value.okWide Try.prog W .any base t v := hval0
  have hW' := hW
  obtain ⟨p, q, hA0, hV, rfl, hfz, hnd⟩ := hW
  have hA : DataW.TrodAll enc Try.prog W 0 (fun _ => true) true Try.f5.params.toList args.toList ds p := hA0
  rw [Try.params5] at hA hval
  obtain ⟨v0, vs0, d0, ds0, p0, q0, hargs, rfl, rfl, h0, r0⟩ := trodAll_cons hA
  obtain ⟨rfl, rfl, rfl⟩ := trodAll_nil r0
  obtain rfl : args = #[v0] := by cases args; simp_all
  obtain ⟨rfl, rfl⟩ := trodVars_none hV
  obtain ⟨a0, rfl, rfl, rfl, w0⟩ := open_int Try.underlying3 (hval 0 3 v0 rfl rfl) h0
  clear hA0 hval0
  refine (walk a0 w0 W).mono fun e W' ⟨he, bel⟩ => ?_
  subst he
  exact ⟨_, rfl, _, _, _, [], _, [], hW', trodAll_mk1 (shut_bool Try.underlying4 _), (trodAll_cons_mk (shut_int Try.underlying3 w0) trodAll_mk0), rfl, bel.frame _, fun h => by cases h⟩

theorem over : Rows.ringLensRow.holds Try.pinned (OpenSpec.ofChange Rows.ringLensSpec) :=
  OpenClaim.holds_of_wide 5 Try.f5 rfl rfl rfl rfl rfl rfl rfl ⟨rfl, rfl, rfl, rfl, rfl⟩ rfl rfl rfl rfl rfl (by kernel_rfl) Try.func5 (by kernel_rfl)
    (of_decide_eq_true (by kernel_rfl)) (by unfold Func.isWrapper; first | (rw [if_pos (by decide +kernel)]; kernel_rfl) | (rw [if_neg (by decide +kernel)]; exact ⟨rfl, rfl⟩))
    (fun os started H enc _ => lifted os started H enc)

/-- THE STATEMENT. -/
theorem proved : Rows.RingLensSaid := over
#print axioms proved
end Go.Proofs.Ytdacnlcalcgjiaa.ringLens
