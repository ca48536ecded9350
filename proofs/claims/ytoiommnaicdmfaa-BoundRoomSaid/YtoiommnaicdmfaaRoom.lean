/-
  PROVED: harrowlaw10.BoundRoom returns true at every pair of ints, and its arguments read behind the call as before (Rows.BoundRoomSaid). No condition.
  The walk takes Least and Most by contracts (least_any, most_any); the plain law is least and most on Int. The frame round the walk (lifted, over) is the kit's proof-skeleton's.
-/
import Derived.Test.YtoiommnaicdmfaaRows
import Derived.WalkKit
import Derived.ProofKit
import Derived.OpenShut
import Derived.Lib.Hide
import Derived.Handy
namespace Go.Proofs.Ytoiommnaicdmfaa.boundRoom
open Go.ChangeShapes Go.WideShapes Go.ChangeAt Go.RowKit
set_option linter.unusedVariables false      -- a walk need not use every 'w<i>' (that an integer argument fits its kind)

theorem own : ownKnob Try.prog.godebug = none := by kernel_rfl

theorem and65535 (n : Int) : bits .and .i64 n 65535 = n % 65536 := by
  have h : (BitVec.ofInt 64 65535).toNat = 2 ^ 16 - 1 := by decide
  have key : (BitVec.ofInt 64 n &&& BitVec.ofInt 64 65535).toNat = (n % ((2 ^ 64 : Nat) : Int)).toNat % 2 ^ 16 := by
    rw [BitVec.toNat_and, BitVec.toNat_ofInt, h, Nat.and_two_pow_sub_one_eq_mod]
  show IntKind.i64.wrap ((BitVec.ofInt 64 n &&& BitVec.ofInt 64 65535).toNat : Nat) = n % 65536
  rw [key, IntKind.wrap_i64]
  omega
attribute [local go_sem] and65535

theorem ret_int {k : IntKind} {a b : Int} (h : a = b) : Ending.returned (.int k a) = .returned (.int k b) := by rw [h]

/-- What Least computes. -/
def least (n : Int) : Int := if n < 4 then 0 else if 3840 < n then 0 else (5 * n + 241) / 2
/-- What Most computes. -/
def most (s : Int) : Int := if s < 130 then 0 else if 19999 < s then 0 else if 3840 < (2 * s - 240) / 5 then 3840 else (2 * s - 240) / 5

theorem least_any (n : Int) (w : World) :
    Calls Try.prog 5 #[.int .i64 n] w fun e w' => e = .returned (.int .i64 (least n)) ∧ w = w' := by
  by_cases h1 : n < 4
  · have HL := Lib.hid (show least n = 0 by simp [least, h1])
    go_enter Try.func5, Try.ntmps5
    go_wp2
    go_ret
    exact ⟨ret_int HL.out.symm, rfl⟩
  · by_cases h2 : 3840 < n
    · have HL := Lib.hid (show least n = 0 by simp [least, h1, h2])
      go_enter Try.func5, Try.ntmps5
      go_wp2
      go_ret
      exact ⟨ret_int HL.out.symm, rfl⟩
    · have HL := Lib.hid (show least n = (5 * n + 240 + 2 - 1) / 2 by simp [least, h1, h2]; omega)
      go_enter Try.func5, Try.ntmps5
      go_wp2
      go_ret
      exact ⟨ret_int HL.out.symm, rfl⟩

theorem most_any (n : Int) (w : World) :
    Calls Try.prog 6 #[.int .i64 n] w fun e w' => e = .returned (.int .i64 (most n)) ∧ w = w' := by
  have H4 := Lib.hid (show least 4 = 130 by simp [least])
  by_cases h1 : n < 130
  · have HL := Lib.hid (show most n = 0 by simp [most, h1])
    go_enter Try.func6, Try.ntmps6
    go_wp2_with (go_at_call 5; refine (least_any _ _).mono ?_; rintro e w' ⟨rfl, rfl⟩; rw [H4.out])
    go_ret
    exact ⟨ret_int HL.out.symm, rfl⟩
  · by_cases h2 : 19999 < n
    · have HL := Lib.hid (show most n = 0 by simp [most, h1, h2])
      go_enter Try.func6, Try.ntmps6
      go_wp2_with (go_at_call 5; refine (least_any _ _).mono ?_; rintro e w' ⟨rfl, rfl⟩; rw [H4.out])
      go_ret
      exact ⟨ret_int HL.out.symm, rfl⟩
    · by_cases h3 : 3840 < (2 * n - 240) / 5
      · have HL := Lib.hid (show most n = 3840 by simp [most, h1, h2, h3])
        go_enter Try.func6, Try.ntmps6
        go_wp2_with (go_at_call 5; refine (least_any _ _).mono ?_; rintro e w' ⟨rfl, rfl⟩; rw [H4.out])
        go_ret
        exact ⟨ret_int HL.out.symm, rfl⟩
      · have HL := Lib.hid (show most n = (2 * n - 240) / 5 by simp [most, h1, h2, h3])
        go_enter Try.func6, Try.ntmps6
        go_wp2_with (go_at_call 5; refine (least_any _ _).mono ?_; rintro e w' ⟨rfl, rfl⟩; rw [H4.out])
        go_ret
        exact ⟨ret_int HL.out.symm, rfl⟩

theorem shown_any (w : World) :
    Calls Try.prog 4 #[] w fun e w' => e = .returned (.bool true) ∧ Grown w w' := by
  go_enter Try.func4, Try.ntmps4
  go_wp2
  go_ret
  exact ⟨rfl, by repeat (first | exact Grown.refl _ | apply Grown.drew | apply Grown.alloc)⟩

/-! ### THE PLAIN LAW -/
theorem least_eq (b : Int) (h1 : 4 ≤ b) (h2 : b ≤ 3840) : least b = (5 * b + 241) / 2 := by
  unfold least; rw [if_neg (by omega), if_neg (by omega)]
theorem most_le (s : Int) : most s ≤ 3840 := by
  unfold most; split <;> (try split) <;> (try split) <;> omega
theorem most_least (b : Int) (h1 : 4 ≤ b) (h2 : b ≤ 3840) : b ≤ most (least b) := by
  rw [least_eq b h1 h2]; unfold most
  rw [if_neg (by omega), if_neg (by omega)]; split <;> omega
theorem most_less (b : Int) (h1 : 4 ≤ b) (h2 : b ≤ 3840) : most (least b - 1) < b := by
  rw [least_eq b h1 h2]; unfold most
  split
  · omega
  · rw [if_neg (by omega)]; split <;> omega
theorem least_most (s : Int) (h1 : 130 ≤ s) (h2 : s ≤ 9929) : least (most s) ≤ s := by
  have e : most s = if 3840 < (2 * s - 240) / 5 then 3840 else (2 * s - 240) / 5 := by unfold most; rw [if_neg (by omega), if_neg (by omega)]
  rw [e]; split
  · rw [least_eq _ (by omega) (by omega)]; omega
  · rw [least_eq _ (by omega) (by omega)]; omega
theorem least_more (s : Int) (h1 : 130 ≤ s) (h2 : s ≤ 9929) (h : most s < 3840) : s < least (most s + 1) := by
  have e : most s = if 3840 < (2 * s - 240) / 5 then 3840 else (2 * s - 240) / 5 := by unfold most; rw [if_neg (by omega), if_neg (by omega)]
  have e2 : most s = (2 * s - 240) / 5 := by rw [e] at h ⊢; split at h <;> (split <;> omega)
  rw [e2, least_eq _ (by omega) (by omega)]; omega
theorem most_share (s : Int) (h1 : 130 ≤ s) (h2 : s ≤ 9929) (h : most s < 3840) : 2 * s - 244 ≤ 5 * most s := by
  have e : most s = if 3840 < (2 * s - 240) / 5 then 3840 else (2 * s - 240) / 5 := by unfold most; rw [if_neg (by omega), if_neg (by omega)]
  have e2 : most s = (2 * s - 240) / 5 := by rw [e] at h ⊢; split at h <;> (split <;> omega)
  rw [e2]; omega
theorem most_pos (s : Int) (h1 : 130 ≤ s) (h2 : s ≤ 9929) : 4 ≤ most s := by
  have e : most s = if 3840 < (2 * s - 240) / 5 then 3840 else (2 * s - 240) / 5 := by unfold most; rw [if_neg (by omega), if_neg (by omega)]
  rw [e]; split <;> omega

/-! ### STEP 1: THE WALK -/
set_option maxHeartbeats 1000000 in
theorem walk (a0 : Int) (a1 : Int) (w0 : (Lit.int .i64 a0).wf = true) (w1 : (Lit.int .i64 a1).wf = true) (w : World) :
    Calls Try.prog 3 #[.int .i64 a0, .int .i64 a1] w fun e w' => e = .returned (.bool true) ∧ Grown w w' := by
  clear w0 w1
  have hb1 : 4 ≤ 4 + a0 % 65536 % 3837 := by omega
  have hb2 : 4 + a0 % 65536 % 3837 ≤ 3840 := by omega
  have hs1 : 130 ≤ 130 + a1 % 65536 % 9800 := by omega
  have hs2 : 130 + a1 % 65536 % 9800 ≤ 9929 := by omega
  have r0 : 0 ≤ a0 % 65536 := by omega
  have r1 : 0 ≤ a1 % 65536 := by omega
  have f1 := most_least _ hb1 hb2
  have f2 := most_less _ hb1 hb2
  have f3 : 5 * (4 + a0 % 65536 % 3837) + 240 ≤ 2 * least (4 + a0 % 65536 % 3837) := by rw [least_eq _ hb1 hb2]; omega
  have f3' : least (4 + a0 % 65536 % 3837) ≤ 9721 := by rw [least_eq _ hb1 hb2]; omega
  have f4 := least_most _ hs1 hs2
  have f5 := most_le (130 + a1 % 65536 % 9800)
  have f6 := most_pos _ hs1 hs2
  by_cases hm : most (130 + a1 % 65536 % 9800) < 3840
  · have f7 := least_more _ hs1 hs2 hm
    have f8 := most_share _ hs1 hs2 hm
    go_enter Try.func3, Try.ntmps3
    go_wp2_with (first | (go_at_call 4; refine (shown_any _).mono ?_; rintro e w' ⟨rfl, hg⟩) | (go_at_call 5; refine (least_any _ _).mono ?_; rintro e w' ⟨rfl, rfl⟩) | (go_at_call 6; refine (most_any _ _).mono ?_; rintro e w' ⟨rfl, rfl⟩))
    go_ret
    exact ⟨rfl, by assumption⟩
  · have hm' : 3840 ≤ most (130 + a1 % 65536 % 9800) := by omega
    clear hm
    go_enter Try.func3, Try.ntmps3
    go_wp2_with (first | (go_at_call 4; refine (shown_any _).mono ?_; rintro e w' ⟨rfl, hg⟩) | (go_at_call 5; refine (least_any _ _).mono ?_; rintro e w' ⟨rfl, rfl⟩) | (go_at_call 6; refine (most_any _ _).mono ?_; rintro e w' ⟨rfl, rfl⟩))
    go_ret
    exact ⟨rfl, by assumption⟩

/-! ### THE ROW's STEP: WRITTEN OUT: LEAVE IT -/
set_option maxRecDepth 100000 in
theorem lifted (os : Os) (started : os.Started) (H : Type) (enc : TypeId × Value → H) :
    ReturnsInHanded {} Try.checked os 3 .any (Rows.boundRoomSpec.pre6 enc Try.prog Try.f3 Rows.boundRoomRow.domain false) (Rows.boundRoomSpec.post enc Try.prog Try.f3 false true false false) := by
  refine returnsInHanded_of_change (C := Try.checked) own started (by kernel_rfl) Try.func3
    (ChangeSpec.witness6 (enc := enc) (C := Try.checked) false ⟨#[], #[.int .i64 0, .int .i64 0], []⟩ 8 (by kernel_rfl) (by kernel_rfl) (by kernel_rfl) (by kernel_rfl)) ?_
  intro W base args ds gs before hval0 hW hcnd _
  have hval : ∀ (j : Nat) t v, Try.f3.params[j]? = some t → args[j]? = some v → Value.okWide Try.prog W .any base t v := hval0
  have hW' := hW
  obtain ⟨p, q, hA0, hV, rfl, hfz, hnd⟩ := hW
  have hA : DataW.TrodAll enc Try.prog W 0 (fun _ => true) true Try.f3.params.toList args.toList ds p := hA0
  rw [Try.params3] at hA hval
  obtain ⟨v0, vs0, d0, ds0, p0, q0, hargs, rfl, rfl, h0, r0⟩ := trodAll_cons hA
  obtain ⟨v1, vs1, d1, ds1, p1, q1, rfl, rfl, rfl, h1, r1⟩ := trodAll_cons r0
  obtain ⟨rfl, rfl, rfl⟩ := trodAll_nil r1
  obtain rfl : args = #[v0, v1] := by cases args; simp_all
  obtain ⟨rfl, rfl⟩ := trodVars_none hV
  obtain ⟨a0, rfl, rfl, rfl, w0⟩ := open_int Try.underlying3 (hval 0 3 v0 rfl rfl) h0
  obtain ⟨a1, rfl, rfl, rfl, w1⟩ := open_int Try.underlying3 (hval 1 3 v1 rfl rfl) h1
  clear hA0 hval0
  simp only [List.append_nil] at hW'
  refine (walk a0 a1 w0 w1 W).mono fun e W' ⟨he, hg⟩ => ?_
  subst he
  exact ⟨_, rfl, post_of_same (pa := []) (pv := []) hW' (fun _ _ _ => (trodAll_cons_mk (shut_bool Try.underlying4 _) trodAll_mk0)) (fun sp _ => (trodAll_cons_mk (shut_int Try.underlying3 w0) (trodAll_cons_mk (shut_int Try.underlying3 w1) trodAll_mk0))) (fun _ _ => rfl) rfl
    (hg.frame _) hg.2.1 (ok_one (by kernel_rfl) rfl (okWide_bool_mk Try.underlying4 _))⟩

theorem over : Rows.boundRoomRow.holds Try.pinned (OpenSpec.ofChange Rows.boundRoomSpec) :=
  OpenClaim.holds_of_wide 3 Try.f3 rfl rfl rfl rfl rfl rfl rfl ⟨rfl, rfl, rfl, rfl, rfl⟩ rfl rfl rfl rfl rfl (by kernel_rfl) Try.func3 (by kernel_rfl)
    (of_decide_eq_true (by kernel_rfl)) (by unfold Func.isWrapper; first | (rw [if_pos (by decide +kernel)]; kernel_rfl) | (rw [if_neg (by decide +kernel)]; exact ⟨rfl, rfl⟩))
    (fun os started H enc _ => lifted os started H enc)

/-- ████ THE STATEMENT ████ -/
theorem proved : Rows.BoundRoomSaid :=
  over
#print axioms proved
end Go.Proofs.Ytoiommnaicdmfaa.boundRoom
