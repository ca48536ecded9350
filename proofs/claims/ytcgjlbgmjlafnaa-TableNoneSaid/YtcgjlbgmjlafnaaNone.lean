/-
  PROVED: harrowlaw07.TableNone returns true at every four ints, and its arguments read behind the call as before (Rows.TableNoneSaid). No condition.
-/
import Derived.Test.YtcgjlbgmjlafnaaBase
namespace Go.Proofs.Ytcgjlbgmjlafnaa.tableNone
open Go.ChangeShapes Go.WideShapes Go.ChangeAt Go.RowKit
set_option linter.unusedVariables false

theorem own : ownKnob Try.prog.godebug = none := by kernel_rfl
theorem laidOut : laidOutB Try.prog = true := by kernel_rfl
attribute [local go_sem] and65535

theorem fresh_at (nb np : Nat) (i : Int) : toldB (fresh nb np).ps i = false ∧ toldB (fresh nb np).os i = false := by
  simp [fresh, toldB, at_replicate]
theorem fresh_drop (nb np : Nat) (i : Int) : (fresh nb np).drop i = fresh nb np := by
  unfold Tab.drop; rw [if_pos (show at' (fresh nb np).ps i = -1 from at_replicate nb i)]
theorem fresh_ok (nb np : Nat) (i j : Int) : (fresh nb np).ok i j = ((decide (0 ≤ i) && decide (i < (nb : Int))) && (decide (0 ≤ j) && decide (j < (np : Int)))) := by
  simp [Tab.ok, inR, fresh, at_replicate]
theorem fresh_put (nb np : Nat) (i j : Int) (h : (fresh nb np).ok i j = true) : ((fresh nb np).put i j).cnt = 1 := by
  unfold Tab.put; rw [if_pos h, fresh_drop]; rfl
theorem fresh_put_no (nb np : Nat) (i j : Int) (h : (fresh nb np).ok i j = false) : (fresh nb np).put i j = fresh nb np := by
  unfold Tab.put; rw [if_neg (by simp [h])]

set_option maxRecDepth 100000 in
set_option maxHeartbeats 4000000 in
theorem walk (a0 a1 a2 a3 : Int) (w0 : (Lit.int .i64 a0).wf = true) (w1 : (Lit.int .i64 a1).wf = true) (w2 : (Lit.int .i64 a2).wf = true) (w3 : (Lit.int .i64 a3).wf = true) (w : World) :
    Calls Try.prog 3 #[.int .i64 a0, .int .i64 a1, .int .i64 a2, .int .i64 a3] w fun e w' => e = .returned (.bool true) ∧ Below w.heap.size w w' := by
  clear w0 w1 w2 w3
  obtain ⟨nb, hnb⟩ : ∃ n : Nat, (n : Int) = max (min a0 50) 0 := ⟨(max (min a0 50) 0).toNat, by omega⟩
  obtain ⟨np, hnp⟩ : ∃ n : Nat, (n : Int) = max (min a1 50) 0 := ⟨(max (min a1 50) 0).toNat, by omega⟩
  have hk := fresh_ok nb np a2 a3
  have H1 := Lib.hid hnb
  have H2 := Lib.hid hnp
  clear hnb hnp
  by_cases hin : (0 ≤ a2 ∧ a2 < min a0 50) ∧ 0 ≤ a3 ∧ a3 < min a1 50
  · obtain ⟨⟨i1, i2⟩, i3, i4⟩ := hin
    have hok : (fresh nb np).ok a2 a3 = true := by rw [hk]; have := H1.out; have := H2.out; simp; omega
    have HC := Lib.hid (fresh_put nb np a2 a3 hok)
    clear hk
    rcases (show a0 ≤ 50 ∨ 50 < a0 by omega) with c0 | c0 <;> rcases (show a1 ≤ 50 ∨ 50 < a1 by omega) with c1 | c1
    all_goals
      have j2 : a2 < a0 := by omega
      have j2' : a2 < 50 := by omega
      have j4 : a3 < a1 := by omega
      have j4' : a3 < 50 := by omega
      clear i2 i4
      go_enter Try.func3, Try.ntmps3
      go_wp2_with fail
      refine (shown_any _).mono ?_
      rintro e u1 ⟨rfl, hB1⟩
      go_wp2_with fail
      refine (new_any _ _ nb np _ (by have := H1.out; omega) (by have := H2.out; omega)).mono ?_
      rintro e w2 ⟨t, b, o, rfl, h1, hB2⟩
      go_wp2_with fail
      refine (put_any _ t b o nb np _ a2 a3 _ h1 (fresh_good nb np)).mono ?_
      rintro e w3 ⟨rfl, h2, hB3⟩
      rw [hok]
      go_wp2_with fail
      refine (len_any _ t b o nb np _ _ h2).mono ?_
      rintro e w' ⟨rfl, rfl⟩
      rw [HC.out]
      go_wp2_with fail
      go_ret
      exact ⟨rfl, hB1.trans ((hB2.trans hB3).mono hB1.size)⟩
  · have hok : (fresh nb np).ok a2 a3 = false := by rw [hk]; have := H1.out; have := H2.out; simp; omega
    have HP := Lib.hid (fresh_put_no nb np a2 a3 hok)
    have hat := (fresh_at nb np a2).1
    have how := (fresh_at nb np a3).2
    have HD := Lib.hid (fresh_drop nb np a2)
    have hcase : a2 < 0 ∨ (0 ≤ a2 ∧ min a0 50 ≤ a2) ∨ (0 ≤ a2 ∧ a2 < min a0 50 ∧ a3 < 0) ∨ (0 ≤ a2 ∧ a2 < min a0 50 ∧ 0 ≤ a3 ∧ min a1 50 ≤ a3) := by omega
    clear hk hin
    rcases (show a0 ≤ 50 ∨ 50 < a0 by omega) with c0 | c0 <;> rcases (show a1 ≤ 50 ∨ 50 < a1 by omega) with c1 | c1 <;> rcases hcase with k1 | ⟨k1, k2⟩ | ⟨k1, k2, k3⟩ | ⟨k1, k2, k3, k4⟩
    all_goals
      go_enter Try.func3, Try.ntmps3
      go_wp2_with fail
      refine (shown_any _).mono ?_
      rintro e u1 ⟨rfl, hB1⟩
      go_wp2_with fail
      refine (new_any _ _ nb np _ (by have := H1.out; omega) (by have := H2.out; omega)).mono ?_
      rintro e w2 ⟨t, b, o, rfl, h1, hB2⟩
      go_wp2_with fail
      refine (put_any _ t b o nb np _ a2 a3 _ h1 (fresh_good nb np)).mono ?_
      rintro e w3 ⟨rfl, h2, hB3⟩
      rw [hok]
      rw [HP.out] at h2
      go_wp2_with fail
      refine (drop_any _ t b o nb np _ a2 _ h2 (fresh_good nb np)).mono ?_
      rintro e w4 ⟨rfl, h3, hB4⟩
      rw [hat]
      rw [HD.out] at h3
      go_wp2_with fail
      refine (at_any _ t b o nb np _ a2 _ h3).mono ?_
      rintro e w' ⟨rfl, rfl⟩
      rw [hat]
      go_wp2_with fail
      refine (owner_any _ t b o nb np _ a3 _ h3).mono ?_
      rintro e w' ⟨rfl, rfl⟩
      rw [how]
      go_wp2_with fail
      refine (len_any _ t b o nb np _ _ h3).mono ?_
      rintro e w' ⟨rfl, rfl⟩
      rw [show (fresh nb np).cnt = 0 from rfl]
      go_wp2_with fail
      go_ret
      exact ⟨rfl, hB1.trans (((hB2.trans hB3).trans hB4).mono hB1.size)⟩

set_option maxRecDepth 100000 in
theorem lifted (os : Os) (started : os.Started) (H : Type) (enc : TypeId × Value → H) :
    ReturnsInHanded {} Try.checked os 3 .any (Rows.tableNoneSpec.pre6 enc Try.prog Try.f3 Rows.tableNoneRow.domain false) (Rows.tableNoneSpec.post enc Try.prog Try.f3 false true false false) := by
  refine returnsInHanded_of_change (C := Try.checked) own started (by kernel_rfl) Try.func3
    (ChangeSpec.witness6 (enc := enc) (C := Try.checked) false ⟨#[], #[.int .i64 0, .int .i64 0, .int .i64 0, .int .i64 0], []⟩ 8 (by kernel_rfl) (by kernel_rfl) (by kernel_rfl) (by kernel_rfl)) ?_
  intro W base args ds gs before hval0 hW hcnd _
  have hval : ∀ (j : Nat) t v, Try.f3.params[j]? = some t → args[j]? = some v → Value.okWide Try.prog W .any base t v := hval0
  have hW' := hW
  obtain ⟨p, q, hA0, hV, rfl, hfz, hnd⟩ := hW
  have hA : DataW.TrodAll enc Try.prog W 0 (fun _ => true) true Try.f3.params.toList args.toList ds p := hA0
  rw [Try.params3] at hA hval
  obtain ⟨v0, vs0, d0, ds0, p0, q0, hargs, rfl, rfl, h0, r0⟩ := trodAll_cons hA
  obtain ⟨v1, vs1, d1, ds1, p1, q1, rfl, rfl, rfl, h1, r1⟩ := trodAll_cons r0
  obtain ⟨v2, vs2, d2, ds2, p2, q2, rfl, rfl, rfl, h2, r2⟩ := trodAll_cons r1
  obtain ⟨v3, vs3, d3, ds3, p3, q3, rfl, rfl, rfl, h3, r3⟩ := trodAll_cons r2
  obtain ⟨rfl, rfl, rfl⟩ := trodAll_nil r3
  obtain rfl : args = #[v0, v1, v2, v3] := by cases args; simp_all
  obtain ⟨rfl, rfl⟩ := trodVars_none hV
  obtain ⟨a0, rfl, rfl, rfl, w0⟩ := open_int Try.underlying3 (hval 0 3 v0 rfl rfl) h0
  obtain ⟨a1, rfl, rfl, rfl, w1⟩ := open_int Try.underlying3 (hval 1 3 v1 rfl rfl) h1
  obtain ⟨a2, rfl, rfl, rfl, w2⟩ := open_int Try.underlying3 (hval 2 3 v2 rfl rfl) h2
  obtain ⟨a3, rfl, rfl, rfl, w3⟩ := open_int Try.underlying3 (hval 3 3 v3 rfl rfl) h3
  clear hA0 hval0
  refine (walk a0 a1 a2 a3 w0 w1 w2 w3 W).mono fun e W' ⟨he, bel⟩ => ?_
  subst he
  exact ⟨_, rfl, _, _, _, [], _, [], hW', trodAll_mk1 (shut_bool Try.underlying4 _), (trodAll_cons_mk (shut_int Try.underlying3 w0) (trodAll_cons_mk (shut_int Try.underlying3 w1) (trodAll_cons_mk (shut_int Try.underlying3 w2) (trodAll_cons_mk (shut_int Try.underlying3 w3) trodAll_mk0)))), rfl, bel.frame _, fun h => by cases h⟩

theorem over : Rows.tableNoneRow.holds Try.pinned (OpenSpec.ofChange Rows.tableNoneSpec) :=
  OpenClaim.holds_of_wide 3 Try.f3 rfl rfl rfl rfl rfl rfl rfl ⟨rfl, rfl, rfl, rfl, rfl⟩ rfl rfl rfl rfl rfl (by kernel_rfl) Try.func3 (by kernel_rfl)
    (of_decide_eq_true (by kernel_rfl)) (by unfold Func.isWrapper; first | (rw [if_pos (by decide +kernel)]; kernel_rfl) | (rw [if_neg (by decide +kernel)]; exact ⟨rfl, rfl⟩))
    (fun os started H enc _ => lifted os started H enc)

/-- THE STATEMENT. -/
theorem proved : Rows.TableNoneSaid := over
#print axioms proved
end Go.Proofs.Ytcgjlbgmjlafnaa.tableNone
