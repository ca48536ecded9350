/-
  PROVED: harrowlaw06.RingTurns returns true at every three ints, and its arguments read behind the call as before (Rows.RingTurnsSaid). No condition.
-/
import Derived.Test.YtdacnlcalcgjiaaBase
namespace Go.Proofs.Ytdacnlcalcgjiaa.ringTurns
open Go.ChangeShapes Go.WideShapes Go.ChangeAt Go.RowKit
set_option linter.unusedVariables false

theorem own : ownKnob Try.prog.godebug = none := by kernel_rfl
theorem laidOut : laidOutB Try.prog = true := by kernel_rfl

/-- What the walk is told of a slice of ints that came in: nil, or a row of cap cells, the numbers zs, the first len its elements. -/
def IsRow (k : IntKind) (w : World) (a : Option Addr) (len cap : Nat) (zs : List Int) : Prop :=
  (a = none ∧ len = 0 ∧ cap = 0 ∧ zs = []) ∨
  ∃ x, a = some x ∧ len ≤ cap ∧ cap ≤ maxLen ∧ zs.length = cap ∧ (∀ i, i < zs.length → w.cell? (x.add i) = some (.int k (zs.getD i 0))) ∧ ∀ n ∈ zs, (Lit.int k n).wf = true
attribute [local go_sem] and65535

theorem tmod_in (a n : Int) (hn : 0 < n) : -n < a.tmod n ∧ a.tmod n < n := by
  have h1 := Int.emod_nonneg a (by omega : n ≠ 0)
  have h2 := Int.emod_lt_of_pos a hn
  have := Int.tmod_eq_emod (a := a) (b := n)
  rw [this]; split <;> omega

set_option maxHeartbeats 2000000 in
theorem walk (a0 a1 a2 : Int) (w0 : (Lit.int .i64 a0).wf = true) (w1 : (Lit.int .i64 a1).wf = true) (w2 : (Lit.int .i64 a2).wf = true) (w : World) :
    Calls Try.prog 6 #[.int .i64 a0, .int .i64 a1, .int .i64 a2] w fun e w' => e = .returned (.bool true) ∧ Below w.heap.size w w' := by
  obtain ⟨a4, a5⟩ := tmod_in a1 100000 (by decide)
  obtain ⟨b4, b5⟩ := tmod_in a2 1000 (by decide)
  obtain ⟨n, hn⟩ : ∃ n : Nat, (n : Int) = 1 + a0 % 65536 % 300 := ⟨(1 + a0 % 65536 % 300).toNat, by omega⟩
  have n1 : 1 ≤ n := by omega
  have n2 : n ≤ 300 := by omega
  have p1 : (n : Int) * a2.tmod 1000 ≤ 300000 := by
    have := Int.mul_le_mul_of_nonneg_left (show a2.tmod 1000 ≤ 1000 by omega) (show (0 : Int) ≤ n by omega)
    omega
  have p2 : -300000 ≤ (n : Int) * a2.tmod 1000 := by
    have := Int.mul_le_mul_of_nonneg_left (show -1000 ≤ a2.tmod 1000 by omega) (show (0 : Int) ≤ n by omega)
    omega
  have HN := Lib.hid hn
  have hn0 : (n : Int) ≠ 0 := by omega
  have e1 := Int.emod_nonneg (a1.tmod 100000) hn0
  have e2 := Int.emod_lt_of_pos (a1.tmod 100000) (by omega : 0 < (n : Int))
  have e3 := Int.emod_nonneg (a1.tmod 100000 + n / 2) hn0
  have e4 := Int.emod_lt_of_pos (a1.tmod 100000 + n / 2) (by omega : 0 < (n : Int))
  have x1 : ((a1.tmod 100000 + (n : Int) * a2.tmod 1000) % n == a1.tmod 100000 % n) = true := by simp
  have x2 : ((a1.tmod 100000 + (n : Int) * a2.tmod 1000 - a1.tmod 100000) % n == 0) = true := by
    rw [show a1.tmod 100000 + (n : Int) * a2.tmod 1000 - a1.tmod 100000 = n * a2.tmod 1000 from by omega]; simp
  have x3 : ((a1.tmod 100000 + (n : Int) / 2 + ((n : Int) - (n : Int) / 2)) % n == a1.tmod 100000 % n) = true := by
    rw [show a1.tmod 100000 + (n : Int) / 2 + ((n : Int) - (n : Int) / 2) = a1.tmod 100000 + n from by omega]; simp
  clear w0 w1 w2 hn hn0
  go_enter Try.func6, Try.ntmps6
  go_wp2_with fail
  refine (shown_any _).mono ?_
  rintro e u1 ⟨rfl, hB1⟩
  go_wp2_with fail
  refine (few_any _ _).mono ?_
  rintro e u1 ⟨rfl, rfl⟩
  rw [← HN.out]
  go_wp2_with fail
  refine (newI_any _ _ n _ (by omega)).mono ?_
  rintro e w2 ⟨p, b, rfl, hR, hB2⟩
  have hd := hR.hd
  have HB := Lib.hid (hB1.trans (hB2.mono hB1.size))
  clear hR hB2 hB1
  go_wp2_with (first | (go_at_call 21; refine (goI_any p b n _ _ _ hd n1 (by omega) (by omega) (by omega) (by omega) (by omega)).mono ?_; rintro e w' ⟨rfl, rfl⟩) | (go_at_call 22; refine (farI_any p b n _ _ _ hd n1 (by omega) (by omega) (by omega) (by omega) (by omega)).mono ?_; rintro e w' ⟨rfl, rfl⟩))
  go_ret
  exact ⟨rfl, HB.out⟩
set_option maxRecDepth 100000 in
theorem lifted (os : Os) (started : os.Started) (H : Type) (enc : TypeId × Value → H) :
    ReturnsInHanded {} Try.checked os 6 .any (Rows.ringTurnsSpec.pre6 enc Try.prog Try.f6 Rows.ringTurnsRow.domain false) (Rows.ringTurnsSpec.post enc Try.prog Try.f6 false true false false) := by
  refine returnsInHanded_of_change (C := Try.checked) own started (by kernel_rfl) Try.func6
    (ChangeSpec.witness6 (enc := enc) (C := Try.checked) false ⟨#[], #[.int .i64 0, .int .i64 0, .int .i64 0], []⟩ 8 (by kernel_rfl) (by kernel_rfl) (by kernel_rfl) (by kernel_rfl)) ?_
  intro W base args ds gs before hval0 hW hcnd _
  have hval : ∀ (j : Nat) t v, Try.f6.params[j]? = some t → args[j]? = some v → Value.okWide Try.prog W .any base t v := hval0
  have hW' := hW
  obtain ⟨p, q, hA0, hV, rfl, hfz, hnd⟩ := hW
  have hA : DataW.TrodAll enc Try.prog W 0 (fun _ => true) true Try.f6.params.toList args.toList ds p := hA0
  rw [Try.params6] at hA hval
  obtain ⟨v0, vs0, d0, ds0, p0, q0, hargs, rfl, rfl, h0, r0⟩ := trodAll_cons hA
  obtain ⟨v1, vs1, d1, ds1, p1, q1, rfl, rfl, rfl, h1, r1⟩ := trodAll_cons r0
  obtain ⟨v2, vs2, d2, ds2, p2, q2, rfl, rfl, rfl, h2, r2⟩ := trodAll_cons r1
  obtain ⟨rfl, rfl, rfl⟩ := trodAll_nil r2
  obtain rfl : args = #[v0, v1, v2] := by cases args; simp_all
  obtain ⟨rfl, rfl⟩ := trodVars_none hV
  obtain ⟨a0, rfl, rfl, rfl, w0⟩ := open_int Try.underlying3 (hval 0 3 v0 rfl rfl) h0
  obtain ⟨a1, rfl, rfl, rfl, w1⟩ := open_int Try.underlying3 (hval 1 3 v1 rfl rfl) h1
  obtain ⟨a2, rfl, rfl, rfl, w2⟩ := open_int Try.underlying3 (hval 2 3 v2 rfl rfl) h2
  clear hA0 hval0
  refine (walk a0 a1 a2 w0 w1 w2 W).mono fun e W' ⟨he, bel⟩ => ?_
  subst he
  exact ⟨_, rfl, _, _, _, [], _, [], hW', trodAll_mk1 (shut_bool Try.underlying4 _), (trodAll_cons_mk (shut_int Try.underlying3 w0) (trodAll_cons_mk (shut_int Try.underlying3 w1) (trodAll_cons_mk (shut_int Try.underlying3 w2) trodAll_mk0))), rfl, bel.frame _, fun h => by cases h⟩

theorem over : Rows.ringTurnsRow.holds Try.pinned (OpenSpec.ofChange Rows.ringTurnsSpec) :=
  OpenClaim.holds_of_wide 6 Try.f6 rfl rfl rfl rfl rfl rfl rfl ⟨rfl, rfl, rfl, rfl, rfl⟩ rfl rfl rfl rfl rfl (by kernel_rfl) Try.func6 (by kernel_rfl)
    (of_decide_eq_true (by kernel_rfl)) (by unfold Func.isWrapper; first | (rw [if_pos (by decide +kernel)]; kernel_rfl) | (rw [if_neg (by decide +kernel)]; exact ⟨rfl, rfl⟩))
    (fun os started H enc _ => lifted os started H enc)

/-- THE STATEMENT. -/
theorem proved : Rows.RingTurnsSaid := over
#print axioms proved
end Go.Proofs.Ytdacnlcalcgjiaa.ringTurns
