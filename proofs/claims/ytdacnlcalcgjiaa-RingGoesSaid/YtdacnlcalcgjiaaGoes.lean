/-
  PROVED: harrowlaw06.RingGoes returns true at every four ints, and its arguments read behind the call as before (Rows.RingGoesSaid). No condition.
-/
import Derived.Test.YtdacnlcalcgjiaaBase
namespace Go.Proofs.Ytdacnlcalcgjiaa.ringGoes
open Go.ChangeShapes Go.WideShapes Go.ChangeAt Go.RowKit
set_option linter.unusedVariables false

theorem own : ownKnob Try.prog.godebug = none := by kernel_rfl
theorem laidOut : laidOutB Try.prog = true := by kernel_rfl

/-- What the walk is told of a slice of ints that came in: nil, or a row of cap cells, the numbers zs, the first len its elements. -/
def IsRow (k : IntKind) (w : World) (a : Option Addr) (len cap : Nat) (zs : List Int) : Prop :=
  (a = none ∧ len = 0 ∧ cap = 0 ∧ zs = []) ∨
  ∃ x, a = some x ∧ len ≤ cap ∧ cap ≤ maxLen ∧ zs.length = cap ∧ (∀ i, i < zs.length → w.cell? (x.add i) = some (.int k (zs.getD i 0))) ∧ ∀ n ∈ zs, (Lit.int k n).wf = true
attribute [local go_sem] and65535

theorem tmod_in (a : Int) : -1000000 < a.tmod 1000000 ∧ a.tmod 1000000 < 1000000 := by
  have := Int.tmod_eq_emod (a := a) (b := 1000000)
  rw [this]; split <;> omega

theorem far_goes (a b n : Int) : ((a + (b - a)) % n != b % n) = false := by rw [show a + (b - a) = b from by omega]; simp
theorem goes_twice (a b c n : Int) : ((a + b + c) % n != (a + (b + c)) % n) = false := by rw [Int.add_assoc]; simp
theorem goes_back (a b n : Int) : ((a + b + -b) % n != a % n) = false := by rw [show a + b + -b = a from by omega]; simp
theorem far_both (a b n : Int) : ((b - a + (a - b)) % n == 0) = true := by rw [show b - a + (a - b) = 0 from by omega]; simp

set_option maxHeartbeats 2000000 in
theorem walk (a0 a1 a2 a3 : Int) (w0 : (Lit.int .i64 a0).wf = true) (w1 : (Lit.int .i64 a1).wf = true) (w2 : (Lit.int .i64 a2).wf = true) (w3 : (Lit.int .i64 a3).wf = true) (w : World) :
    Calls Try.prog 3 #[.int .i64 a0, .int .i64 a1, .int .i64 a2, .int .i64 a3] w fun e w' => e = .returned (.bool true) ∧ Below w.heap.size w w' := by
  obtain ⟨a4, a5⟩ := tmod_in a1
  obtain ⟨b4, b5⟩ := tmod_in a2
  obtain ⟨c4, c5⟩ := tmod_in a3
  obtain ⟨n, hn⟩ : ∃ n : Nat, (n : Int) = 1 + a0 % 65536 % 300 := ⟨(1 + a0 % 65536 % 300).toNat, by omega⟩
  have n1 : 1 ≤ n := by omega
  have n2 : n ≤ 300 := by omega
  have HN := Lib.hid hn
  clear w0 w1 w2 w3 hn
  go_enter Try.func3, Try.ntmps3
  go_wp2_with fail
  refine (shown_any _).mono ?_
  rintro e u1 ⟨rfl, hB1⟩
  go_wp2_with fail
  refine (few_any _ _).mono ?_
  rintro e u1 ⟨rfl, rfl⟩
  rw [← HN.out]
  go_wp2_with fail
  refine (newS_any _ _ n _ (by omega)).mono ?_
  rintro e w2 ⟨p, b, rfl, hR, hB2⟩
  have hd := hR.hd
  have hB := hB1.trans (hB2.mono hB1.size)
  have HB := Lib.hid hB
  clear hR hB2 hB hB1
  have hn0 : (n : Int) ≠ 0 := by omega
  have e1 := Int.emod_nonneg (a2.tmod 1000000 - a1.tmod 1000000) hn0
  have e2 := Int.emod_lt_of_pos (a2.tmod 1000000 - a1.tmod 1000000) (by omega : 0 < (n : Int))
  have e3 := Int.emod_nonneg (a1.tmod 1000000 - a2.tmod 1000000) hn0
  have e4 := Int.emod_lt_of_pos (a1.tmod 1000000 - a2.tmod 1000000) (by omega : 0 < (n : Int))
  have e5 := Int.emod_nonneg (a1.tmod 1000000 + a2.tmod 1000000) hn0
  have e6 := Int.emod_lt_of_pos (a1.tmod 1000000 + a2.tmod 1000000) (by omega : 0 < (n : Int))
  clear hn0
  have x1 := far_goes (a1.tmod 1000000) (a2.tmod 1000000) n
  have x2 := goes_twice (a1.tmod 1000000) (a2.tmod 1000000) (a3.tmod 1000000) n
  have x3 := goes_back (a1.tmod 1000000) (a2.tmod 1000000) n
  have x4 := far_both (a1.tmod 1000000) (a2.tmod 1000000) n
  go_wp2_with (first | (go_at_call 12; refine (goS_any p b n _ _ _ hd n1 (by omega) (by omega) (by omega) (by omega) (by omega)).mono ?_; rintro e w' ⟨rfl, rfl⟩) | (go_at_call 11; refine (farS_any p b n _ _ _ hd n1 (by omega) (by omega) (by omega) (by omega) (by omega)).mono ?_; rintro e w' ⟨rfl, rfl⟩))
  go_ret
  exact ⟨rfl, HB.out⟩
set_option maxRecDepth 100000 in
theorem lifted (os : Os) (started : os.Started) (H : Type) (enc : TypeId × Value → H) :
    ReturnsInHanded {} Try.checked os 3 .any (Rows.ringGoesSpec.pre6 enc Try.prog Try.f3 Rows.ringGoesRow.domain false) (Rows.ringGoesSpec.post enc Try.prog Try.f3 false true false false) := by
  refine returnsInHanded_of_change (C := Try.checked) own started (by kernel_rfl) Try.func3
    (ChangeSpec.witness6 (enc := enc) (C := Try.checked) false ⟨#[], #[.int .i64 0, .int .i64 0, .int .i64 0, .int .i64 0], []⟩ 8 (by kernel_rfl) (by kernel_rfl) (by kernel_rfl) (by kernel_rfl)) ?_
  intro W base args ds gs before hval0 hW hcnd _
  have hval : ∀ (j : Nat) t v, Try.f3.params[j]? = some t → args[j]? = some v → Value.okWide Try.prog W .any base t v := hval0
  have hW' := hW
  obtain ⟨p, q, hA0, hV, rfl, hfz, hnd⟩ := hW
  have hA : DataW.TrodAll enc Try.prog W 0 (fun _ => true) true Try.f3.params.toList args.toList ds p := hA0
  rw [Try.params3] at hA hval
  obtain ⟨v0, vs0, d0, ds0, p0, q0, hargs, rfl, rfl, h0, r0⟩ := trodAll_cons hA
  obtain ⟨v1, vs1, d1, ds1, p1, q1, rfl, rfl, rfl, h1, r1⟩ := trodAll_cons r0
  obtain ⟨v2, vs2, d2, ds2, p2, q2, rfl, rfl, rfl, h2, r2⟩ := trodAll_cons r1
  obtain ⟨v3, vs3, d3, ds3, p3, q3, rfl, rfl, rfl, h3, r3⟩ := trodAll_cons r2
  obtain ⟨rfl, rfl, rfl⟩ := trodAll_nil r3
  obtain rfl : args = #[v0, v1, v2, v3] := by cases args; simp_all
  obtain ⟨rfl, rfl⟩ := trodVars_none hV
  obtain ⟨a0, rfl, rfl, rfl, w0⟩ := open_int Try.underlying3 (hval 0 3 v0 rfl rfl) h0
  obtain ⟨a1, rfl, rfl, rfl, w1⟩ := open_int Try.underlying3 (hval 1 3 v1 rfl rfl) h1
  obtain ⟨a2, rfl, rfl, rfl, w2⟩ := open_int Try.underlying3 (hval 2 3 v2 rfl rfl) h2
  obtain ⟨a3, rfl, rfl, rfl, w3⟩ := open_int Try.underlying3 (hval 3 3 v3 rfl rfl) h3
  clear hA0 hval0
  refine (walk a0 a1 a2 a3 w0 w1 w2 w3 W).mono fun e W' ⟨he, bel⟩ => ?_
  subst he
  exact ⟨_, rfl, _, _, _, [], _, [], hW', trodAll_mk1 (shut_bool Try.underlying4 _), (trodAll_cons_mk (shut_int Try.underlying3 w0) (trodAll_cons_mk (shut_int Try.underlying3 w1) (trodAll_cons_mk (shut_int Try.underlying3 w2) (trodAll_cons_mk (shut_int Try.underlying3 w3) trodAll_mk0)))), rfl, bel.frame _, fun h => by cases h⟩

theorem over : Rows.ringGoesRow.holds Try.pinned (OpenSpec.ofChange Rows.ringGoesSpec) :=
  OpenClaim.holds_of_wide 3 Try.f3 rfl rfl rfl rfl rfl rfl rfl ⟨rfl, rfl, rfl, rfl, rfl⟩ rfl rfl rfl rfl rfl (by kernel_rfl) Try.func3 (by kernel_rfl)
    (of_decide_eq_true (by kernel_rfl)) (by unfold Func.isWrapper; first | (rw [if_pos (by decide +kernel)]; kernel_rfl) | (rw [if_neg (by decide +kernel)]; exact ⟨rfl, rfl⟩))
    (fun os started H enc _ => lifted os started H enc)

/-- THE STATEMENT. -/
theorem proved : Rows.RingGoesSaid := over
#print axioms proved
end Go.Proofs.Ytdacnlcalcgjiaa.ringGoes
