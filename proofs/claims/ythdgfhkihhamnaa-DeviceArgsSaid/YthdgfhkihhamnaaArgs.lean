/-
  DeviceArgs answers true, whatever the input.
-/
import Derived.Test.YthdgfhkihhamnaaLaw
namespace Go.Proofs.Ythdgfhkihhamnaa.deviceArgs
open Go.ChangeShapes Go.WideShapes Go.ChangeAt Go.RowKit
set_option linter.unusedVariables false

theorem own : ownKnob Try.prog.godebug = none := by kernel_rfl
theorem laidOut : laidOutB Try.prog = true := by kernel_rfl

/-- What the walk is told of a slice of ints that came in: nil, or a row of cap cells, the numbers zs, the first len its elements. -/
def IsRow (k : IntKind) (w : World) (a : Option Addr) (len cap : Nat) (zs : List Int) : Prop :=
  (a = none ∧ len = 0 ∧ cap = 0 ∧ zs = []) ∨
  ∃ x, a = some x ∧ len ≤ cap ∧ cap ≤ maxLen ∧ zs.length = cap ∧ (∀ i, i < zs.length → w.cell? (x.add i) = some (.int k (zs.getD i 0))) ∧ ∀ n ∈ zs, (Lit.int k n).wf = true

theorem and1023 (n : Int) : bits .and .i64 n 1023 = n % 1024 := by
  have h : (BitVec.ofInt 64 1023).toNat = 2 ^ 10 - 1 := by decide
  have key : (BitVec.ofInt 64 n &&& BitVec.ofInt 64 1023).toNat = (n % ((2 ^ 64 : Nat) : Int)).toNat % 2 ^ 10 := by
    rw [BitVec.toNat_and, BitVec.toNat_ofInt, h, Nat.and_two_pow_sub_one_eq_mod]
  show IntKind.i64.wrap ((BitVec.ofInt 64 n &&& BitVec.ofInt 64 1023).toNat : Nat) = n % 1024
  rw [key, IntKind.wrap_i64]
  omega
attribute [local go_sem] and1023
def f7 : Dev := Dev.fresh 7
def c7 : Dev := f7.crash []
theorem has7 (D : Dev) (h : D.n = 7) (i : Int) : D.has i = true ↔ 0 ≤ i ∧ i ≤ 6 := by
  unfold Dev.has; rw [h]; simp; omega
theorem no7 (D : Dev) (h : D.n = 7) (i : Int) (hi : i < 0 ∨ 6 < i) : D.has i = false := by
  rw [← Bool.not_eq_true, has7 D h]; omega

theorem fresh_answer (a0 : Int) : ∃ bs, f7.answer a0 = (0, some bs) := ⟨_, rfl⟩
theorem written_answer (a0 : Int) : ∃ bs, (f7.write a0 noughts).answer a0 = (0, some bs) := by
  have h : newest a0 [(a0, noughts)] = some noughts := by simp [newest]
  refine ⟨noughts, ?_⟩
  unfold Dev.answer
  rw [if_neg (show ¬ (f7.write a0 noughts).err = 2 from show ¬ (0 : Int) = 2 by omega), show newest a0 (f7.write a0 noughts).begin.wait = some noughts from h]

set_option maxRecDepth 100000 in
set_option maxHeartbeats 4000000 in
theorem args_0n0 (a0 a1 : Int) (h : a0 < 0) (s : ¬ a1 % 1024 = 512) (w : World) :
    Calls Try.prog 3 #[.int .i64 a0, .int .i64 a1, .bool false] w fun e w' => e = .returned (.bool true) ∧ Below w.heap.size w w' := by
  obtain ⟨i0, hi, hz0, hz1, hz2⟩ := info_parts Try.info5
  have t1 : decide (a0 < 0) = true := by rw [decide_eq_true_iff]; omega
  have s1 : (a1 % 1024 != 512) = true := by rw [bne_iff_ne]; exact s
  obtain ⟨n, hn⟩ : ∃ n : Nat, a1 % 1024 = n := ⟨(a1 % 1024).toNat, by omega⟩
  have hn2 : n ≤ 1023 := by omega
  have hn3 : n ≠ 512 := by omega
  have hn4 : ((n : Int) != 512) = true := by rw [bne_iff_ne]; omega
  have m1 : 0 ≤ a1 % 1024 := by omega
  have m2 : a1 % 1024 ≤ 1023 := by omega
  have HH := Lib.hid h
  go_enter Try.func3, Try.ntmps3
  go_wp2_with fail
  refine (shown_any _).mono ?_
  rintro e u0 ⟨rfl, hB0⟩
  have HB0 := Lib.hid hB0
  clear hB0
  go_wp2_with fail
  refine (new_in _ 7 7 rfl (by omega) (by omega)).mono ?_
  rintro e u1 ⟨dp, Z, rfl, hI, hB⟩
  have H1 := Lib.hid (And.intro (show In _ _ _ dp f7 from hI) (And.intro (HB0.out.trans (hB.mono HB0.out.size)) (Nat.le_trans HB0.out.size hB.size)))
  have HU := Lib.hid HB0.out.size
  have HB1 := Lib.hid hB.size
  clear hI hB
  have HZ := Lib.hid (show u0.heap.size ≤ u1.heap.size from HB1.out)
  go_wp2_with (at_make; refine wpList_make_full _ rfl _ _ 29 rfl w.heap.size 5 i0 (.int .u8 0) 1 Try.underlying29 hi hz0 hz1 .i64 .i64 _ _ n rfl rfl rfl rfl (by rw [hz2]; omega) (by unfold maxLen; omega) H1.out.2.2 ?_; intro w3 hown hgr; have HM := Lib.hid (And.intro hown ((Below.refl _ _).grown hgr (Nat.le_refl _) (fun k e => by cases e))); clear hown hgr)
  have hI3 := H1.out.1.below HM.out.2
  have hB3 := H1.out.2.1.trans (HM.out.2.mono H1.out.2.2)
  have hs3 := Nat.le_trans H1.out.2.2 HM.out.2.size
  refine (write_no (D := f7) hI3 a0 _ _ _ (by omega) (.inl (no7 f7 rfl a0 (.inl HH.out)))).mono ?_
  rintro e u4 ⟨rfl, rfl⟩
  have H4 := Lib.hid (And.intro hI3 (And.intro hB3 hs3))
  clear hI3 hB3 hs3
  go_wp2_with fail
  refine (read_bad H4.out.1.dev a0 (no7 f7 rfl a0 (.inl HH.out))).mono ?_
  rintro e u5 ⟨rfl, hl⟩
  have H5 := Lib.hid (And.intro (H4.out.1.below hl) (And.intro (H4.out.2.1.trans (hl.mono H4.out.2.2)) (Nat.le_trans H4.out.2.2 hl.size)))
  clear hl
  go_wp2_with fail
  refine (counts_in (D := f7) H5.out.1).mono ?_
  rintro e u6 ⟨rfl, hl⟩
  have H6 := Lib.hid (And.intro (H5.out.2.1.trans (hl.mono H5.out.2.2)) (Nat.le_trans H5.out.2.2 hl.size))
  clear hl
  rw [show (f7 : Dev).r = 0 from rfl, show (f7 : Dev).w = 0 from rfl, show (f7 : Dev).f = 0 from rfl]
  go_wp2_with fail
  go_ret
  exact ⟨rfl, H6.out.1.trans (((Below.refl _ _).alloc (Nat.le_refl _) _).mono H6.out.2)⟩

set_option maxRecDepth 100000 in
set_option maxHeartbeats 4000000 in
theorem args_0n1 (a0 a1 : Int) (h : a0 < 0) (s : a1 % 1024 = 512) (w : World) :
    Calls Try.prog 3 #[.int .i64 a0, .int .i64 a1, .bool false] w fun e w' => e = .returned (.bool true) ∧ Below w.heap.size w w' := by
  obtain ⟨i0, hi, hz0, hz1, hz2⟩ := info_parts Try.info5
  have t1 : decide (a0 < 0) = true := by rw [decide_eq_true_iff]; omega
  have s1 : (a1 % 1024 != 512) = false := by rw [s]; rfl
  have HH := Lib.hid h
  go_enter Try.func3, Try.ntmps3
  go_wp2_with fail
  refine (shown_any _).mono ?_
  rintro e u0 ⟨rfl, hB0⟩
  have HB0 := Lib.hid hB0
  clear hB0
  go_wp2_with fail
  refine (new_in _ 7 7 rfl (by omega) (by omega)).mono ?_
  rintro e u1 ⟨dp, Z, rfl, hI, hB⟩
  have H1 := Lib.hid (And.intro (show In _ _ _ dp f7 from hI) (And.intro (HB0.out.trans (hB.mono HB0.out.size)) (Nat.le_trans HB0.out.size hB.size)))
  have HU := Lib.hid HB0.out.size
  have HB1 := Lib.hid hB.size
  clear hI hB
  have HZ := Lib.hid (show u0.heap.size ≤ u1.heap.size from HB1.out)
  go_wp2_with (at_make; refine wpList_make_full _ rfl _ _ 29 rfl w.heap.size 5 i0 (.int .u8 0) 1 Try.underlying29 hi hz0 hz1 .i64 .i64 _ _ 512 rfl rfl rfl rfl (by rw [hz2]; decide) (by unfold maxLen; omega) H1.out.2.2 ?_; intro w3 hown hgr; have HM := Lib.hid (And.intro hown ((Below.refl _ _).grown hgr (Nat.le_refl _) (fun k e => by cases e))); clear hown hgr)
  have hI3 := H1.out.1.below HM.out.2
  have hB3 := H1.out.2.1.trans (HM.out.2.mono H1.out.2.2)
  have hs3 := Nat.le_trans H1.out.2.2 HM.out.2.size
  refine (write_no (D := f7) hI3 a0 _ _ _ (by omega) (.inl (no7 f7 rfl a0 (.inl HH.out)))).mono ?_
  rintro e u4 ⟨rfl, rfl⟩
  have H4 := Lib.hid (And.intro hI3 (And.intro hB3 hs3))
  clear hI3 hB3 hs3
  go_wp2_with fail
  refine (read_bad H4.out.1.dev a0 (no7 f7 rfl a0 (.inl HH.out))).mono ?_
  rintro e u5 ⟨rfl, hl⟩
  have H5 := Lib.hid (And.intro (H4.out.1.below hl) (And.intro (H4.out.2.1.trans (hl.mono H4.out.2.2)) (Nat.le_trans H4.out.2.2 hl.size)))
  clear hl
  go_wp2_with fail
  refine (counts_in (D := f7) H5.out.1).mono ?_
  rintro e u6 ⟨rfl, hl⟩
  have H6 := Lib.hid (And.intro (H5.out.2.1.trans (hl.mono H5.out.2.2)) (Nat.le_trans H5.out.2.2 hl.size))
  clear hl
  rw [show (f7 : Dev).r = 0 from rfl, show (f7 : Dev).w = 0 from rfl, show (f7 : Dev).f = 0 from rfl]
  go_wp2_with fail
  go_ret
  exact ⟨rfl, H6.out.1.trans (((Below.refl _ _).alloc (Nat.le_refl _) _).mono H6.out.2)⟩

set_option maxRecDepth 100000 in
set_option maxHeartbeats 4000000 in
theorem args_0i0 (a0 a1 : Int) (h : 0 ≤ a0 ∧ a0 ≤ 6) (s : ¬ a1 % 1024 = 512) (w : World) :
    Calls Try.prog 3 #[.int .i64 a0, .int .i64 a1, .bool false] w fun e w' => e = .returned (.bool true) ∧ Below w.heap.size w w' := by
  obtain ⟨i0, hi, hz0, hz1, hz2⟩ := info_parts Try.info5
  obtain ⟨h1, h2⟩ := h
  have t1 : decide (a0 < 0) = false := by rw [decide_eq_false_iff_not]; omega
  have t2 : decide (a0 > 6) = false := by rw [decide_eq_false_iff_not]; omega
  have t3 : decide (6 < a0) = false := by rw [decide_eq_false_iff_not]; omega
  have r3 : ¬ a0 < 0 := by omega
  have r4 : ¬ 6 < a0 := by omega
  have s1 : (a1 % 1024 != 512) = true := by rw [bne_iff_ne]; exact s
  obtain ⟨n, hn⟩ : ∃ n : Nat, a1 % 1024 = n := ⟨(a1 % 1024).toNat, by omega⟩
  have hn2 : n ≤ 1023 := by omega
  have hn3 : n ≠ 512 := by omega
  have hn4 : ((n : Int) != 512) = true := by rw [bne_iff_ne]; omega
  have m1 : 0 ≤ a1 % 1024 := by omega
  have m2 : a1 % 1024 ≤ 1023 := by omega
  have HH := Lib.hid (And.intro h1 h2)
  go_enter Try.func3, Try.ntmps3
  go_wp2_with fail
  refine (shown_any _).mono ?_
  rintro e u0 ⟨rfl, hB0⟩
  have HB0 := Lib.hid hB0
  clear hB0
  go_wp2_with fail
  refine (new_in _ 7 7 rfl (by omega) (by omega)).mono ?_
  rintro e u1 ⟨dp, Z, rfl, hI, hB⟩
  have H1 := Lib.hid (And.intro (show In _ _ _ dp f7 from hI) (And.intro (HB0.out.trans (hB.mono HB0.out.size)) (Nat.le_trans HB0.out.size hB.size)))
  have HU := Lib.hid HB0.out.size
  have HB1 := Lib.hid hB.size
  clear hI hB
  have HZ := Lib.hid (show u0.heap.size ≤ u1.heap.size from HB1.out)
  go_wp2_with (at_make; refine wpList_make_full _ rfl _ _ 29 rfl w.heap.size 5 i0 (.int .u8 0) 1 Try.underlying29 hi hz0 hz1 .i64 .i64 _ _ n rfl rfl rfl rfl (by rw [hz2]; omega) (by unfold maxLen; omega) H1.out.2.2 ?_; intro w3 hown hgr; have HM := Lib.hid (And.intro hown ((Below.refl _ _).grown hgr (Nat.le_refl _) (fun k e => by cases e))); clear hown hgr)
  have hI3 := H1.out.1.below HM.out.2
  have hB3 := H1.out.2.1.trans (HM.out.2.mono H1.out.2.2)
  have hs3 := Nat.le_trans H1.out.2.2 HM.out.2.size
  refine (write_no (D := f7) hI3 a0 _ _ _ (by omega) (.inr (by omega))).mono ?_
  rintro e u4 ⟨rfl, rfl⟩
  have H4 := Lib.hid (And.intro hI3 (And.intro hB3 hs3))
  clear hI3 hB3 hs3
  go_wp2_with fail
  refine (read_in (D := f7) H4.out.1 a0 ((has7 f7 rfl a0).2 HH.out) (show (0 : Int) ≤ 0 by omega) (show (0 : Int) ≤ 1000000000 by omega) (show (0 : Int) ≤ 1000000000 by omega)).mono ?_
  rintro e u5 ⟨hg, hI, hS⟩
  obtain ⟨x, hx⟩ : ∃ bs, Dev.answer f7 a0 = (0, some bs) := fresh_answer a0
  rw [hx] at hg
  obtain ⟨u, _, rfl, _, _⟩ := hg
  unfold dv
  have H5 := Lib.hid (And.intro (show In _ Z u5 dp (Dev.read f7) from hI) (And.intro (H4.out.2.1.trans (hS.below (fun k hk => Nat.le_trans HU.out (H4.out.1.lo k hk)) H4.out.2.2)) (Nat.le_trans H4.out.2.2 hS.out.size)))
  clear hI hS
  go_wp2_with fail
  refine (counts_in (D := (Dev.read f7)) H5.out.1).mono ?_
  rintro e u6 ⟨rfl, hl⟩
  have H6 := Lib.hid (And.intro (H5.out.2.1.trans (hl.mono H5.out.2.2)) (Nat.le_trans H5.out.2.2 hl.size))
  clear hl
  rw [show ((Dev.read f7) : Dev).r = 1 from rfl, show ((Dev.read f7) : Dev).w = 0 from rfl, show ((Dev.read f7) : Dev).f = 0 from rfl]
  go_wp2_with fail
  go_ret
  exact ⟨rfl, H6.out.1.trans (((Below.refl _ _).alloc (Nat.le_refl _) _).mono H6.out.2)⟩

set_option maxRecDepth 100000 in
set_option maxHeartbeats 4000000 in
theorem args_0i1 (a0 a1 : Int) (h : 0 ≤ a0 ∧ a0 ≤ 6) (s : a1 % 1024 = 512) (w : World) :
    Calls Try.prog 3 #[.int .i64 a0, .int .i64 a1, .bool false] w fun e w' => e = .returned (.bool true) ∧ Below w.heap.size w w' := by
  obtain ⟨i0, hi, hz0, hz1, hz2⟩ := info_parts Try.info5
  obtain ⟨h1, h2⟩ := h
  have t1 : decide (a0 < 0) = false := by rw [decide_eq_false_iff_not]; omega
  have t2 : decide (a0 > 6) = false := by rw [decide_eq_false_iff_not]; omega
  have t3 : decide (6 < a0) = false := by rw [decide_eq_false_iff_not]; omega
  have r3 : ¬ a0 < 0 := by omega
  have r4 : ¬ 6 < a0 := by omega
  have s1 : (a1 % 1024 != 512) = false := by rw [s]; rfl
  have HH := Lib.hid (And.intro h1 h2)
  go_enter Try.func3, Try.ntmps3
  go_wp2_with fail
  refine (shown_any _).mono ?_
  rintro e u0 ⟨rfl, hB0⟩
  have HB0 := Lib.hid hB0
  clear hB0
  go_wp2_with fail
  refine (new_in _ 7 7 rfl (by omega) (by omega)).mono ?_
  rintro e u1 ⟨dp, Z, rfl, hI, hB⟩
  have H1 := Lib.hid (And.intro (show In _ _ _ dp f7 from hI) (And.intro (HB0.out.trans (hB.mono HB0.out.size)) (Nat.le_trans HB0.out.size hB.size)))
  have HU := Lib.hid HB0.out.size
  have HB1 := Lib.hid hB.size
  clear hI hB
  have HZ := Lib.hid (show u0.heap.size ≤ u1.heap.size from HB1.out)
  go_wp2_with (at_make; refine wpList_make_full _ rfl _ _ 29 rfl w.heap.size 5 i0 (.int .u8 0) 1 Try.underlying29 hi hz0 hz1 .i64 .i64 _ _ 512 rfl rfl rfl rfl (by rw [hz2]; decide) (by unfold maxLen; omega) H1.out.2.2 ?_; intro w3 hown hgr; have HM := Lib.hid (And.intro hown ((Below.refl _ _).grown hgr (Nat.le_refl _) (fun k e => by cases e))); clear hown hgr)
  have hI3 := H1.out.1.below HM.out.2
  have hB3 := H1.out.2.1.trans (HM.out.2.mono H1.out.2.2)
  have hs3 := Nat.le_trans H1.out.2.2 HM.out.2.size
  have hF := Free.new (made_bytes HM.out.1) H1.out.1.hi
  refine (write_in (D := f7) hI3 (Nat.le_trans (show _ ≤ u1.heap.size from HZ.out) HM.out.2.size) a0 ((has7 f7 rfl a0).2 HH.out) _ _ hF noughts_len (by decide) (by decide)).mono ?_
  rintro e u4 ⟨Z4, rfl, hI, hS⟩
  rw [show (f7).err = 0 from rfl]
  have H4 := Lib.hid (And.intro (show In _ Z4 u4 dp (f7.write a0 noughts) from hI) (And.intro (hB3.trans (hS.below (fun k hk => Nat.le_trans HU.out (H1.out.1.lo k hk)) hs3)) (Nat.le_trans hs3 hS.out.size)))
  clear hI hS hF
  clear hI3 hB3 hs3
  go_wp2_with fail
  refine (read_in (D := (f7.write a0 noughts)) H4.out.1 a0 ((has7 (f7.write a0 noughts) rfl a0).2 HH.out) (show (0 : Int) ≤ 0 by omega) (show (0 : Int) ≤ 1000000000 by omega) (show (1 : Int) ≤ 1000000000 by omega)).mono ?_
  rintro e u5 ⟨hg, hI, hS⟩
  obtain ⟨x, hx⟩ : ∃ bs, Dev.answer (f7.write a0 noughts) a0 = (0, some bs) := written_answer a0
  rw [hx] at hg
  obtain ⟨u, _, rfl, _, _⟩ := hg
  unfold dv
  have H5 := Lib.hid (And.intro (show In _ Z4 u5 dp (Dev.read (f7.write a0 noughts)) from hI) (And.intro (H4.out.2.1.trans (hS.below (fun k hk => Nat.le_trans HU.out (H4.out.1.lo k hk)) H4.out.2.2)) (Nat.le_trans H4.out.2.2 hS.out.size)))
  clear hI hS
  go_wp2_with fail
  refine (counts_in (D := (Dev.read (f7.write a0 noughts))) H5.out.1).mono ?_
  rintro e u6 ⟨rfl, hl⟩
  have H6 := Lib.hid (And.intro (H5.out.2.1.trans (hl.mono H5.out.2.2)) (Nat.le_trans H5.out.2.2 hl.size))
  clear hl
  rw [show ((Dev.read (f7.write a0 noughts)) : Dev).r = 1 from rfl, show ((Dev.read (f7.write a0 noughts)) : Dev).w = 1 from rfl, show ((Dev.read (f7.write a0 noughts)) : Dev).f = 0 from rfl]
  go_wp2_with fail
  go_ret
  exact ⟨rfl, H6.out.1.trans (((Below.refl _ _).alloc (Nat.le_refl _) _).mono H6.out.2)⟩

set_option maxRecDepth 100000 in
set_option maxHeartbeats 4000000 in
theorem args_0p0 (a0 a1 : Int) (h : 6 < a0) (s : ¬ a1 % 1024 = 512) (w : World) :
    Calls Try.prog 3 #[.int .i64 a0, .int .i64 a1, .bool false] w fun e w' => e = .returned (.bool true) ∧ Below w.heap.size w w' := by
  obtain ⟨i0, hi, hz0, hz1, hz2⟩ := info_parts Try.info5
  have t1 : decide (a0 < 0) = false := by rw [decide_eq_false_iff_not]; omega
  have t2 : decide (a0 > 6) = true := by rw [decide_eq_true_iff]; omega
  have t3 : decide (6 < a0) = true := by rw [decide_eq_true_iff]; omega
  have r3 : ¬ a0 < 0 := by omega
  have s1 : (a1 % 1024 != 512) = true := by rw [bne_iff_ne]; exact s
  obtain ⟨n, hn⟩ : ∃ n : Nat, a1 % 1024 = n := ⟨(a1 % 1024).toNat, by omega⟩
  have hn2 : n ≤ 1023 := by omega
  have hn3 : n ≠ 512 := by omega
  have hn4 : ((n : Int) != 512) = true := by rw [bne_iff_ne]; omega
  have m1 : 0 ≤ a1 % 1024 := by omega
  have m2 : a1 % 1024 ≤ 1023 := by omega
  have HH := Lib.hid h
  go_enter Try.func3, Try.ntmps3
  go_wp2_with fail
  refine (shown_any _).mono ?_
  rintro e u0 ⟨rfl, hB0⟩
  have HB0 := Lib.hid hB0
  clear hB0
  go_wp2_with fail
  refine (new_in _ 7 7 rfl (by omega) (by omega)).mono ?_
  rintro e u1 ⟨dp, Z, rfl, hI, hB⟩
  have H1 := Lib.hid (And.intro (show In _ _ _ dp f7 from hI) (And.intro (HB0.out.trans (hB.mono HB0.out.size)) (Nat.le_trans HB0.out.size hB.size)))
  have HU := Lib.hid HB0.out.size
  have HB1 := Lib.hid hB.size
  clear hI hB
  have HZ := Lib.hid (show u0.heap.size ≤ u1.heap.size from HB1.out)
  go_wp2_with (at_make; refine wpList_make_full _ rfl _ _ 29 rfl w.heap.size 5 i0 (.int .u8 0) 1 Try.underlying29 hi hz0 hz1 .i64 .i64 _ _ n rfl rfl rfl rfl (by rw [hz2]; omega) (by unfold maxLen; omega) H1.out.2.2 ?_; intro w3 hown hgr; have HM := Lib.hid (And.intro hown ((Below.refl _ _).grown hgr (Nat.le_refl _) (fun k e => by cases e))); clear hown hgr)
  have hI3 := H1.out.1.below HM.out.2
  have hB3 := H1.out.2.1.trans (HM.out.2.mono H1.out.2.2)
  have hs3 := Nat.le_trans H1.out.2.2 HM.out.2.size
  refine (write_no (D := f7) hI3 a0 _ _ _ (by omega) (.inl (no7 f7 rfl a0 (.inr HH.out)))).mono ?_
  rintro e u4 ⟨rfl, rfl⟩
  have H4 := Lib.hid (And.intro hI3 (And.intro hB3 hs3))
  clear hI3 hB3 hs3
  go_wp2_with fail
  refine (read_bad H4.out.1.dev a0 (no7 f7 rfl a0 (.inr HH.out))).mono ?_
  rintro e u5 ⟨rfl, hl⟩
  have H5 := Lib.hid (And.intro (H4.out.1.below hl) (And.intro (H4.out.2.1.trans (hl.mono H4.out.2.2)) (Nat.le_trans H4.out.2.2 hl.size)))
  clear hl
  go_wp2_with fail
  refine (counts_in (D := f7) H5.out.1).mono ?_
  rintro e u6 ⟨rfl, hl⟩
  have H6 := Lib.hid (And.intro (H5.out.2.1.trans (hl.mono H5.out.2.2)) (Nat.le_trans H5.out.2.2 hl.size))
  clear hl
  rw [show (f7 : Dev).r = 0 from rfl, show (f7 : Dev).w = 0 from rfl, show (f7 : Dev).f = 0 from rfl]
  go_wp2_with fail
  go_ret
  exact ⟨rfl, H6.out.1.trans (((Below.refl _ _).alloc (Nat.le_refl _) _).mono H6.out.2)⟩

set_option maxRecDepth 100000 in
set_option maxHeartbeats 4000000 in
theorem args_0p1 (a0 a1 : Int) (h : 6 < a0) (s : a1 % 1024 = 512) (w : World) :
    Calls Try.prog 3 #[.int .i64 a0, .int .i64 a1, .bool false] w fun e w' => e = .returned (.bool true) ∧ Below w.heap.size w w' := by
  obtain ⟨i0, hi, hz0, hz1, hz2⟩ := info_parts Try.info5
  have t1 : decide (a0 < 0) = false := by rw [decide_eq_false_iff_not]; omega
  have t2 : decide (a0 > 6) = true := by rw [decide_eq_true_iff]; omega
  have t3 : decide (6 < a0) = true := by rw [decide_eq_true_iff]; omega
  have r3 : ¬ a0 < 0 := by omega
  have s1 : (a1 % 1024 != 512) = false := by rw [s]; rfl
  have HH := Lib.hid h
  go_enter Try.func3, Try.ntmps3
  go_wp2_with fail
  refine (shown_any _).mono ?_
  rintro e u0 ⟨rfl, hB0⟩
  have HB0 := Lib.hid hB0
  clear hB0
  go_wp2_with fail
  refine (new_in _ 7 7 rfl (by omega) (by omega)).mono ?_
  rintro e u1 ⟨dp, Z, rfl, hI, hB⟩
  have H1 := Lib.hid (And.intro (show In _ _ _ dp f7 from hI) (And.intro (HB0.out.trans (hB.mono HB0.out.size)) (Nat.le_trans HB0.out.size hB.size)))
  have HU := Lib.hid HB0.out.size
  have HB1 := Lib.hid hB.size
  clear hI hB
  have HZ := Lib.hid (show u0.heap.size ≤ u1.heap.size from HB1.out)
  go_wp2_with (at_make; refine wpList_make_full _ rfl _ _ 29 rfl w.heap.size 5 i0 (.int .u8 0) 1 Try.underlying29 hi hz0 hz1 .i64 .i64 _ _ 512 rfl rfl rfl rfl (by rw [hz2]; decide) (by unfold maxLen; omega) H1.out.2.2 ?_; intro w3 hown hgr; have HM := Lib.hid (And.intro hown ((Below.refl _ _).grown hgr (Nat.le_refl _) (fun k e => by cases e))); clear hown hgr)
  have hI3 := H1.out.1.below HM.out.2
  have hB3 := H1.out.2.1.trans (HM.out.2.mono H1.out.2.2)
  have hs3 := Nat.le_trans H1.out.2.2 HM.out.2.size
  refine (write_no (D := f7) hI3 a0 _ _ _ (by omega) (.inl (no7 f7 rfl a0 (.inr HH.out)))).mono ?_
  rintro e u4 ⟨rfl, rfl⟩
  have H4 := Lib.hid (And.intro hI3 (And.intro hB3 hs3))
  clear hI3 hB3 hs3
  go_wp2_with fail
  refine (read_bad H4.out.1.dev a0 (no7 f7 rfl a0 (.inr HH.out))).mono ?_
  rintro e u5 ⟨rfl, hl⟩
  have H5 := Lib.hid (And.intro (H4.out.1.below hl) (And.intro (H4.out.2.1.trans (hl.mono H4.out.2.2)) (Nat.le_trans H4.out.2.2 hl.size)))
  clear hl
  go_wp2_with fail
  refine (counts_in (D := f7) H5.out.1).mono ?_
  rintro e u6 ⟨rfl, hl⟩
  have H6 := Lib.hid (And.intro (H5.out.2.1.trans (hl.mono H5.out.2.2)) (Nat.le_trans H5.out.2.2 hl.size))
  clear hl
  rw [show (f7 : Dev).r = 0 from rfl, show (f7 : Dev).w = 0 from rfl, show (f7 : Dev).f = 0 from rfl]
  go_wp2_with fail
  go_ret
  exact ⟨rfl, H6.out.1.trans (((Below.refl _ _).alloc (Nat.le_refl _) _).mono H6.out.2)⟩

set_option maxRecDepth 100000 in
set_option maxHeartbeats 4000000 in
theorem args_1n0 (a0 a1 : Int) (h : a0 < 0) (s : ¬ a1 % 1024 = 512) (w : World) :
    Calls Try.prog 3 #[.int .i64 a0, .int .i64 a1, .bool true] w fun e w' => e = .returned (.bool true) ∧ Below w.heap.size w w' := by
  obtain ⟨i0, hi, hz0, hz1, hz2⟩ := info_parts Try.info5
  have t1 : decide (a0 < 0) = true := by rw [decide_eq_true_iff]; omega
  have s1 : (a1 % 1024 != 512) = true := by rw [bne_iff_ne]; exact s
  obtain ⟨n, hn⟩ : ∃ n : Nat, a1 % 1024 = n := ⟨(a1 % 1024).toNat, by omega⟩
  have hn2 : n ≤ 1023 := by omega
  have hn3 : n ≠ 512 := by omega
  have hn4 : ((n : Int) != 512) = true := by rw [bne_iff_ne]; omega
  have m1 : 0 ≤ a1 % 1024 := by omega
  have m2 : a1 % 1024 ≤ 1023 := by omega
  have HH := Lib.hid h
  go_enter Try.func3, Try.ntmps3
  go_wp2_with fail
  refine (shown_any _).mono ?_
  rintro e u0 ⟨rfl, hB0⟩
  have HB0 := Lib.hid hB0
  clear hB0
  go_wp2_with fail
  refine (new_in _ 7 7 rfl (by omega) (by omega)).mono ?_
  rintro e u1 ⟨dp, Z, rfl, hI, hB⟩
  have H1 := Lib.hid (And.intro (show In _ _ _ dp f7 from hI) (And.intro (HB0.out.trans (hB.mono HB0.out.size)) (Nat.le_trans HB0.out.size hB.size)))
  have HU := Lib.hid HB0.out.size
  have HB1 := Lib.hid hB.size
  clear hI hB
  go_wp2_with fail
  refine (crash_in (D := f7) H1.out.1 _ _ _ [] (KeepArg.none _) (by decide)).mono ?_
  rintro e u2 ⟨rfl, hI, hS⟩
  have H2 := Lib.hid (And.intro (show In _ _ _ dp c7 from hI) (And.intro (H1.out.2.1.trans (hS.below (fun k hk => Nat.le_trans HU.out (H1.out.1.lo k hk)) H1.out.2.2)) (Nat.le_trans H1.out.2.2 hS.out.size)))
  have HS2 := Lib.hid hS.out.size
  clear hI hS
  have HZ := Lib.hid (show u0.heap.size ≤ u2.heap.size from Nat.le_trans HB1.out HS2.out)
  go_wp2_with (at_make; refine wpList_make_full _ rfl _ _ 29 rfl w.heap.size 5 i0 (.int .u8 0) 1 Try.underlying29 hi hz0 hz1 .i64 .i64 _ _ n rfl rfl rfl rfl (by rw [hz2]; omega) (by unfold maxLen; omega) H2.out.2.2 ?_; intro w3 hown hgr; have HM := Lib.hid (And.intro hown ((Below.refl _ _).grown hgr (Nat.le_refl _) (fun k e => by cases e))); clear hown hgr)
  have hI3 := H2.out.1.below HM.out.2
  have hB3 := H2.out.2.1.trans (HM.out.2.mono H2.out.2.2)
  have hs3 := Nat.le_trans H2.out.2.2 HM.out.2.size
  refine (write_no (D := c7) hI3 a0 _ _ _ (by omega) (.inl (no7 c7 rfl a0 (.inl HH.out)))).mono ?_
  rintro e u4 ⟨rfl, rfl⟩
  have H4 := Lib.hid (And.intro hI3 (And.intro hB3 hs3))
  clear hI3 hB3 hs3
  go_wp2_with fail
  refine (read_bad H4.out.1.dev a0 (no7 c7 rfl a0 (.inl HH.out))).mono ?_
  rintro e u5 ⟨rfl, hl⟩
  have H5 := Lib.hid (And.intro (H4.out.1.below hl) (And.intro (H4.out.2.1.trans (hl.mono H4.out.2.2)) (Nat.le_trans H4.out.2.2 hl.size)))
  clear hl
  go_wp2_with fail
  refine (counts_in (D := c7) H5.out.1).mono ?_
  rintro e u6 ⟨rfl, hl⟩
  have H6 := Lib.hid (And.intro (H5.out.2.1.trans (hl.mono H5.out.2.2)) (Nat.le_trans H5.out.2.2 hl.size))
  clear hl
  rw [show (c7 : Dev).r = 0 from rfl, show (c7 : Dev).w = 0 from rfl, show (c7 : Dev).f = 0 from rfl]
  go_wp2_with fail
  go_ret
  exact ⟨rfl, H6.out.1.trans (((Below.refl _ _).alloc (Nat.le_refl _) _).mono H6.out.2)⟩

set_option maxRecDepth 100000 in
set_option maxHeartbeats 4000000 in
theorem args_1n1 (a0 a1 : Int) (h : a0 < 0) (s : a1 % 1024 = 512) (w : World) :
    Calls Try.prog 3 #[.int .i64 a0, .int .i64 a1, .bool true] w fun e w' => e = .returned (.bool true) ∧ Below w.heap.size w w' := by
  obtain ⟨i0, hi, hz0, hz1, hz2⟩ := info_parts Try.info5
  have t1 : decide (a0 < 0) = true := by rw [decide_eq_true_iff]; omega
  have s1 : (a1 % 1024 != 512) = false := by rw [s]; rfl
  have HH := Lib.hid h
  go_enter Try.func3, Try.ntmps3
  go_wp2_with fail
  refine (shown_any _).mono ?_
  rintro e u0 ⟨rfl, hB0⟩
  have HB0 := Lib.hid hB0
  clear hB0
  go_wp2_with fail
  refine (new_in _ 7 7 rfl (by omega) (by omega)).mono ?_
  rintro e u1 ⟨dp, Z, rfl, hI, hB⟩
  have H1 := Lib.hid (And.intro (show In _ _ _ dp f7 from hI) (And.intro (HB0.out.trans (hB.mono HB0.out.size)) (Nat.le_trans HB0.out.size hB.size)))
  have HU := Lib.hid HB0.out.size
  have HB1 := Lib.hid hB.size
  clear hI hB
  go_wp2_with fail
  refine (crash_in (D := f7) H1.out.1 _ _ _ [] (KeepArg.none _) (by decide)).mono ?_
  rintro e u2 ⟨rfl, hI, hS⟩
  have H2 := Lib.hid (And.intro (show In _ _ _ dp c7 from hI) (And.intro (H1.out.2.1.trans (hS.below (fun k hk => Nat.le_trans HU.out (H1.out.1.lo k hk)) H1.out.2.2)) (Nat.le_trans H1.out.2.2 hS.out.size)))
  have HS2 := Lib.hid hS.out.size
  clear hI hS
  have HZ := Lib.hid (show u0.heap.size ≤ u2.heap.size from Nat.le_trans HB1.out HS2.out)
  go_wp2_with (at_make; refine wpList_make_full _ rfl _ _ 29 rfl w.heap.size 5 i0 (.int .u8 0) 1 Try.underlying29 hi hz0 hz1 .i64 .i64 _ _ 512 rfl rfl rfl rfl (by rw [hz2]; decide) (by unfold maxLen; omega) H2.out.2.2 ?_; intro w3 hown hgr; have HM := Lib.hid (And.intro hown ((Below.refl _ _).grown hgr (Nat.le_refl _) (fun k e => by cases e))); clear hown hgr)
  have hI3 := H2.out.1.below HM.out.2
  have hB3 := H2.out.2.1.trans (HM.out.2.mono H2.out.2.2)
  have hs3 := Nat.le_trans H2.out.2.2 HM.out.2.size
  refine (write_no (D := c7) hI3 a0 _ _ _ (by omega) (.inl (no7 c7 rfl a0 (.inl HH.out)))).mono ?_
  rintro e u4 ⟨rfl, rfl⟩
  have H4 := Lib.hid (And.intro hI3 (And.intro hB3 hs3))
  clear hI3 hB3 hs3
  go_wp2_with fail
  refine (read_bad H4.out.1.dev a0 (no7 c7 rfl a0 (.inl HH.out))).mono ?_
  rintro e u5 ⟨rfl, hl⟩
  have H5 := Lib.hid (And.intro (H4.out.1.below hl) (And.intro (H4.out.2.1.trans (hl.mono H4.out.2.2)) (Nat.le_trans H4.out.2.2 hl.size)))
  clear hl
  go_wp2_with fail
  refine (counts_in (D := c7) H5.out.1).mono ?_
  rintro e u6 ⟨rfl, hl⟩
  have H6 := Lib.hid (And.intro (H5.out.2.1.trans (hl.mono H5.out.2.2)) (Nat.le_trans H5.out.2.2 hl.size))
  clear hl
  rw [show (c7 : Dev).r = 0 from rfl, show (c7 : Dev).w = 0 from rfl, show (c7 : Dev).f = 0 from rfl]
  go_wp2_with fail
  go_ret
  exact ⟨rfl, H6.out.1.trans (((Below.refl _ _).alloc (Nat.le_refl _) _).mono H6.out.2)⟩

set_option maxRecDepth 100000 in
set_option maxHeartbeats 4000000 in
theorem args_1i0 (a0 a1 : Int) (h : 0 ≤ a0 ∧ a0 ≤ 6) (s : ¬ a1 % 1024 = 512) (w : World) :
    Calls Try.prog 3 #[.int .i64 a0, .int .i64 a1, .bool true] w fun e w' => e = .returned (.bool true) ∧ Below w.heap.size w w' := by
  obtain ⟨i0, hi, hz0, hz1, hz2⟩ := info_parts Try.info5
  obtain ⟨h1, h2⟩ := h
  have t1 : decide (a0 < 0) = false := by rw [decide_eq_false_iff_not]; omega
  have t2 : decide (a0 > 6) = false := by rw [decide_eq_false_iff_not]; omega
  have t3 : decide (6 < a0) = false := by rw [decide_eq_false_iff_not]; omega
  have r3 : ¬ a0 < 0 := by omega
  have r4 : ¬ 6 < a0 := by omega
  have s1 : (a1 % 1024 != 512) = true := by rw [bne_iff_ne]; exact s
  obtain ⟨n, hn⟩ : ∃ n : Nat, a1 % 1024 = n := ⟨(a1 % 1024).toNat, by omega⟩
  have hn2 : n ≤ 1023 := by omega
  have hn3 : n ≠ 512 := by omega
  have hn4 : ((n : Int) != 512) = true := by rw [bne_iff_ne]; omega
  have m1 : 0 ≤ a1 % 1024 := by omega
  have m2 : a1 % 1024 ≤ 1023 := by omega
  have HH := Lib.hid (And.intro h1 h2)
  go_enter Try.func3, Try.ntmps3
  go_wp2_with fail
  refine (shown_any _).mono ?_
  rintro e u0 ⟨rfl, hB0⟩
  have HB0 := Lib.hid hB0
  clear hB0
  go_wp2_with fail
  refine (new_in _ 7 7 rfl (by omega) (by omega)).mono ?_
  rintro e u1 ⟨dp, Z, rfl, hI, hB⟩
  have H1 := Lib.hid (And.intro (show In _ _ _ dp f7 from hI) (And.intro (HB0.out.trans (hB.mono HB0.out.size)) (Nat.le_trans HB0.out.size hB.size)))
  have HU := Lib.hid HB0.out.size
  have HB1 := Lib.hid hB.size
  clear hI hB
  go_wp2_with fail
  refine (crash_in (D := f7) H1.out.1 _ _ _ [] (KeepArg.none _) (by decide)).mono ?_
  rintro e u2 ⟨rfl, hI, hS⟩
  have H2 := Lib.hid (And.intro (show In _ _ _ dp c7 from hI) (And.intro (H1.out.2.1.trans (hS.below (fun k hk => Nat.le_trans HU.out (H1.out.1.lo k hk)) H1.out.2.2)) (Nat.le_trans H1.out.2.2 hS.out.size)))
  have HS2 := Lib.hid hS.out.size
  clear hI hS
  have HZ := Lib.hid (show u0.heap.size ≤ u2.heap.size from Nat.le_trans HB1.out HS2.out)
  go_wp2_with (at_make; refine wpList_make_full _ rfl _ _ 29 rfl w.heap.size 5 i0 (.int .u8 0) 1 Try.underlying29 hi hz0 hz1 .i64 .i64 _ _ n rfl rfl rfl rfl (by rw [hz2]; omega) (by unfold maxLen; omega) H2.out.2.2 ?_; intro w3 hown hgr; have HM := Lib.hid (And.intro hown ((Below.refl _ _).grown hgr (Nat.le_refl _) (fun k e => by cases e))); clear hown hgr)
  have hI3 := H2.out.1.below HM.out.2
  have hB3 := H2.out.2.1.trans (HM.out.2.mono H2.out.2.2)
  have hs3 := Nat.le_trans H2.out.2.2 HM.out.2.size
  refine (write_no (D := c7) hI3 a0 _ _ _ (by omega) (.inr (by omega))).mono ?_
  rintro e u4 ⟨rfl, rfl⟩
  have H4 := Lib.hid (And.intro hI3 (And.intro hB3 hs3))
  clear hI3 hB3 hs3
  go_wp2_with fail
  refine (read_not (D := c7) H4.out.1 a0 2 rfl ((has7 c7 rfl a0).2 HH.out) (show (0 : Int) ≤ 0 by omega) (show (0 : Int) ≤ 1000000000 by omega) (show (0 : Int) ≤ 1000000000 by omega)).mono ?_
  rintro e u5 ⟨rfl, hI, hS⟩
  have H5 := Lib.hid (And.intro (show In _ Z u5 dp (Dev.read c7) from hI) (And.intro (H4.out.2.1.trans (hS.below (fun k hk => Nat.le_trans HU.out (H4.out.1.lo k hk)) H4.out.2.2)) (Nat.le_trans H4.out.2.2 hS.out.size)))
  clear hI hS
  go_wp2_with fail
  refine (counts_in (D := (Dev.read c7)) H5.out.1).mono ?_
  rintro e u6 ⟨rfl, hl⟩
  have H6 := Lib.hid (And.intro (H5.out.2.1.trans (hl.mono H5.out.2.2)) (Nat.le_trans H5.out.2.2 hl.size))
  clear hl
  rw [show ((Dev.read c7) : Dev).r = 0 from rfl, show ((Dev.read c7) : Dev).w = 0 from rfl, show ((Dev.read c7) : Dev).f = 0 from rfl]
  go_wp2_with fail
  go_ret
  exact ⟨rfl, H6.out.1.trans (((Below.refl _ _).alloc (Nat.le_refl _) _).mono H6.out.2)⟩

set_option maxRecDepth 100000 in
set_option maxHeartbeats 4000000 in
theorem args_1i1 (a0 a1 : Int) (h : 0 ≤ a0 ∧ a0 ≤ 6) (s : a1 % 1024 = 512) (w : World) :
    Calls Try.prog 3 #[.int .i64 a0, .int .i64 a1, .bool true] w fun e w' => e = .returned (.bool true) ∧ Below w.heap.size w w' := by
  obtain ⟨i0, hi, hz0, hz1, hz2⟩ := info_parts Try.info5
  obtain ⟨h1, h2⟩ := h
  have t1 : decide (a0 < 0) = false := by rw [decide_eq_false_iff_not]; omega
  have t2 : decide (a0 > 6) = false := by rw [decide_eq_false_iff_not]; omega
  have t3 : decide (6 < a0) = false := by rw [decide_eq_false_iff_not]; omega
  have r3 : ¬ a0 < 0 := by omega
  have r4 : ¬ 6 < a0 := by omega
  have s1 : (a1 % 1024 != 512) = false := by rw [s]; rfl
  have HH := Lib.hid (And.intro h1 h2)
  go_enter Try.func3, Try.ntmps3
  go_wp2_with fail
  refine (shown_any _).mono ?_
  rintro e u0 ⟨rfl, hB0⟩
  have HB0 := Lib.hid hB0
  clear hB0
  go_wp2_with fail
  refine (new_in _ 7 7 rfl (by omega) (by omega)).mono ?_
  rintro e u1 ⟨dp, Z, rfl, hI, hB⟩
  have H1 := Lib.hid (And.intro (show In _ _ _ dp f7 from hI) (And.intro (HB0.out.trans (hB.mono HB0.out.size)) (Nat.le_trans HB0.out.size hB.size)))
  have HU := Lib.hid HB0.out.size
  have HB1 := Lib.hid hB.size
  clear hI hB
  go_wp2_with fail
  refine (crash_in (D := f7) H1.out.1 _ _ _ [] (KeepArg.none _) (by decide)).mono ?_
  rintro e u2 ⟨rfl, hI, hS⟩
  have H2 := Lib.hid (And.intro (show In _ _ _ dp c7 from hI) (And.intro (H1.out.2.1.trans (hS.below (fun k hk => Nat.le_trans HU.out (H1.out.1.lo k hk)) H1.out.2.2)) (Nat.le_trans H1.out.2.2 hS.out.size)))
  have HS2 := Lib.hid hS.out.size
  clear hI hS
  have HZ := Lib.hid (show u0.heap.size ≤ u2.heap.size from Nat.le_trans HB1.out HS2.out)
  go_wp2_with (at_make; refine wpList_make_full _ rfl _ _ 29 rfl w.heap.size 5 i0 (.int .u8 0) 1 Try.underlying29 hi hz0 hz1 .i64 .i64 _ _ 512 rfl rfl rfl rfl (by rw [hz2]; decide) (by unfold maxLen; omega) H2.out.2.2 ?_; intro w3 hown hgr; have HM := Lib.hid (And.intro hown ((Below.refl _ _).grown hgr (Nat.le_refl _) (fun k e => by cases e))); clear hown hgr)
  have hI3 := H2.out.1.below HM.out.2
  have hB3 := H2.out.2.1.trans (HM.out.2.mono H2.out.2.2)
  have hs3 := Nat.le_trans H2.out.2.2 HM.out.2.size
  have hF := Free.new (made_bytes HM.out.1) H2.out.1.hi
  refine (write_in (D := c7) hI3 (Nat.le_trans (show _ ≤ u2.heap.size from HZ.out) HM.out.2.size) a0 ((has7 c7 rfl a0).2 HH.out) _ _ hF noughts_len (by decide) (by decide)).mono ?_
  rintro e u4 ⟨Z4, rfl, hI, hS⟩
  rw [show (c7).err = 2 from rfl]
  have H4 := Lib.hid (And.intro (show In _ Z4 u4 dp (c7.write a0 noughts) from hI) (And.intro (hB3.trans (hS.below (fun k hk => Nat.le_trans HU.out (H2.out.1.lo k hk)) hs3)) (Nat.le_trans hs3 hS.out.size)))
  clear hI hS hF
  clear hI3 hB3 hs3
  go_wp2_with fail
  refine (read_not (D := (c7.write a0 noughts)) H4.out.1 a0 2 rfl ((has7 (c7.write a0 noughts) rfl a0).2 HH.out) (show (0 : Int) ≤ 0 by omega) (show (0 : Int) ≤ 1000000000 by omega) (show (0 : Int) ≤ 1000000000 by omega)).mono ?_
  rintro e u5 ⟨rfl, hI, hS⟩
  have H5 := Lib.hid (And.intro (show In _ Z4 u5 dp (Dev.read (c7.write a0 noughts)) from hI) (And.intro (H4.out.2.1.trans (hS.below (fun k hk => Nat.le_trans HU.out (H4.out.1.lo k hk)) H4.out.2.2)) (Nat.le_trans H4.out.2.2 hS.out.size)))
  clear hI hS
  go_wp2_with fail
  refine (counts_in (D := (Dev.read (c7.write a0 noughts))) H5.out.1).mono ?_
  rintro e u6 ⟨rfl, hl⟩
  have H6 := Lib.hid (And.intro (H5.out.2.1.trans (hl.mono H5.out.2.2)) (Nat.le_trans H5.out.2.2 hl.size))
  clear hl
  rw [show ((Dev.read (c7.write a0 noughts)) : Dev).r = 0 from rfl, show ((Dev.read (c7.write a0 noughts)) : Dev).w = 0 from rfl, show ((Dev.read (c7.write a0 noughts)) : Dev).f = 0 from rfl]
  go_wp2_with fail
  go_ret
  exact ⟨rfl, H6.out.1.trans (((Below.refl _ _).alloc (Nat.le_refl _) _).mono H6.out.2)⟩

set_option maxRecDepth 100000 in
set_option maxHeartbeats 4000000 in
theorem args_1p0 (a0 a1 : Int) (h : 6 < a0) (s : ¬ a1 % 1024 = 512) (w : World) :
    Calls Try.prog 3 #[.int .i64 a0, .int .i64 a1, .bool true] w fun e w' => e = .returned (.bool true) ∧ Below w.heap.size w w' := by
  obtain ⟨i0, hi, hz0, hz1, hz2⟩ := info_parts Try.info5
  have t1 : decide (a0 < 0) = false := by rw [decide_eq_false_iff_not]; omega
  have t2 : decide (a0 > 6) = true := by rw [decide_eq_true_iff]; omega
  have t3 : decide (6 < a0) = true := by rw [decide_eq_true_iff]; omega
  have r3 : ¬ a0 < 0 := by omega
  have s1 : (a1 % 1024 != 512) = true := by rw [bne_iff_ne]; exact s
  obtain ⟨n, hn⟩ : ∃ n : Nat, a1 % 1024 = n := ⟨(a1 % 1024).toNat, by omega⟩
  have hn2 : n ≤ 1023 := by omega
  have hn3 : n ≠ 512 := by omega
  have hn4 : ((n : Int) != 512) = true := by rw [bne_iff_ne]; omega
  have m1 : 0 ≤ a1 % 1024 := by omega
  have m2 : a1 % 1024 ≤ 1023 := by omega
  have HH := Lib.hid h
  go_enter Try.func3, Try.ntmps3
  go_wp2_with fail
  refine (shown_any _).mono ?_
  rintro e u0 ⟨rfl, hB0⟩
  have HB0 := Lib.hid hB0
  clear hB0
  go_wp2_with fail
  refine (new_in _ 7 7 rfl (by omega) (by omega)).mono ?_
  rintro e u1 ⟨dp, Z, rfl, hI, hB⟩
  have H1 := Lib.hid (And.intro (show In _ _ _ dp f7 from hI) (And.intro (HB0.out.trans (hB.mono HB0.out.size)) (Nat.le_trans HB0.out.size hB.size)))
  have HU := Lib.hid HB0.out.size
  have HB1 := Lib.hid hB.size
  clear hI hB
  go_wp2_with fail
  refine (crash_in (D := f7) H1.out.1 _ _ _ [] (KeepArg.none _) (by decide)).mono ?_
  rintro e u2 ⟨rfl, hI, hS⟩
  have H2 := Lib.hid (And.intro (show In _ _ _ dp c7 from hI) (And.intro (H1.out.2.1.trans (hS.below (fun k hk => Nat.le_trans HU.out (H1.out.1.lo k hk)) H1.out.2.2)) (Nat.le_trans H1.out.2.2 hS.out.size)))
  have HS2 := Lib.hid hS.out.size
  clear hI hS
  have HZ := Lib.hid (show u0.heap.size ≤ u2.heap.size from Nat.le_trans HB1.out HS2.out)
  go_wp2_with (at_make; refine wpList_make_full _ rfl _ _ 29 rfl w.heap.size 5 i0 (.int .u8 0) 1 Try.underlying29 hi hz0 hz1 .i64 .i64 _ _ n rfl rfl rfl rfl (by rw [hz2]; omega) (by unfold maxLen; omega) H2.out.2.2 ?_; intro w3 hown hgr; have HM := Lib.hid (And.intro hown ((Below.refl _ _).grown hgr (Nat.le_refl _) (fun k e => by cases e))); clear hown hgr)
  have hI3 := H2.out.1.below HM.out.2
  have hB3 := H2.out.2.1.trans (HM.out.2.mono H2.out.2.2)
  have hs3 := Nat.le_trans H2.out.2.2 HM.out.2.size
  refine (write_no (D := c7) hI3 a0 _ _ _ (by omega) (.inl (no7 c7 rfl a0 (.inr HH.out)))).mono ?_
  rintro e u4 ⟨rfl, rfl⟩
  have H4 := Lib.hid (And.intro hI3 (And.intro hB3 hs3))
  clear hI3 hB3 hs3
  go_wp2_with fail
  refine (read_bad H4.out.1.dev a0 (no7 c7 rfl a0 (.inr HH.out))).mono ?_
  rintro e u5 ⟨rfl, hl⟩
  have H5 := Lib.hid (And.intro (H4.out.1.below hl) (And.intro (H4.out.2.1.trans (hl.mono H4.out.2.2)) (Nat.le_trans H4.out.2.2 hl.size)))
  clear hl
  go_wp2_with fail
  refine (counts_in (D := c7) H5.out.1).mono ?_
  rintro e u6 ⟨rfl, hl⟩
  have H6 := Lib.hid (And.intro (H5.out.2.1.trans (hl.mono H5.out.2.2)) (Nat.le_trans H5.out.2.2 hl.size))
  clear hl
  rw [show (c7 : Dev).r = 0 from rfl, show (c7 : Dev).w = 0 from rfl, show (c7 : Dev).f = 0 from rfl]
  go_wp2_with fail
  go_ret
  exact ⟨rfl, H6.out.1.trans (((Below.refl _ _).alloc (Nat.le_refl _) _).mono H6.out.2)⟩

set_option maxRecDepth 100000 in
set_option maxHeartbeats 4000000 in
theorem args_1p1 (a0 a1 : Int) (h : 6 < a0) (s : a1 % 1024 = 512) (w : World) :
    Calls Try.prog 3 #[.int .i64 a0, .int .i64 a1, .bool true] w fun e w' => e = .returned (.bool true) ∧ Below w.heap.size w w' := by
  obtain ⟨i0, hi, hz0, hz1, hz2⟩ := info_parts Try.info5
  have t1 : decide (a0 < 0) = false := by rw [decide_eq_false_iff_not]; omega
  have t2 : decide (a0 > 6) = true := by rw [decide_eq_true_iff]; omega
  have t3 : decide (6 < a0) = true := by rw [decide_eq_true_iff]; omega
  have r3 : ¬ a0 < 0 := by omega
  have s1 : (a1 % 1024 != 512) = false := by rw [s]; rfl
  have HH := Lib.hid h
  go_enter Try.func3, Try.ntmps3
  go_wp2_with fail
  refine (shown_any _).mono ?_
  rintro e u0 ⟨rfl, hB0⟩
  have HB0 := Lib.hid hB0
  clear hB0
  go_wp2_with fail
  refine (new_in _ 7 7 rfl (by omega) (by omega)).mono ?_
  rintro e u1 ⟨dp, Z, rfl, hI, hB⟩
  have H1 := Lib.hid (And.intro (show In _ _ _ dp f7 from hI) (And.intro (HB0.out.trans (hB.mono HB0.out.size)) (Nat.le_trans HB0.out.size hB.size)))
  have HU := Lib.hid HB0.out.size
  have HB1 := Lib.hid hB.size
  clear hI hB
  go_wp2_with fail
  refine (crash_in (D := f7) H1.out.1 _ _ _ [] (KeepArg.none _) (by decide)).mono ?_
  rintro e u2 ⟨rfl, hI, hS⟩
  have H2 := Lib.hid (And.intro (show In _ _ _ dp c7 from hI) (And.intro (H1.out.2.1.trans (hS.below (fun k hk => Nat.le_trans HU.out (H1.out.1.lo k hk)) H1.out.2.2)) (Nat.le_trans H1.out.2.2 hS.out.size)))
  have HS2 := Lib.hid hS.out.size
  clear hI hS
  have HZ := Lib.hid (show u0.heap.size ≤ u2.heap.size from Nat.le_trans HB1.out HS2.out)
  go_wp2_with (at_make; refine wpList_make_full _ rfl _ _ 29 rfl w.heap.size 5 i0 (.int .u8 0) 1 Try.underlying29 hi hz0 hz1 .i64 .i64 _ _ 512 rfl rfl rfl rfl (by rw [hz2]; decide) (by unfold maxLen; omega) H2.out.2.2 ?_; intro w3 hown hgr; have HM := Lib.hid (And.intro hown ((Below.refl _ _).grown hgr (Nat.le_refl _) (fun k e => by cases e))); clear hown hgr)
  have hI3 := H2.out.1.below HM.out.2
  have hB3 := H2.out.2.1.trans (HM.out.2.mono H2.out.2.2)
  have hs3 := Nat.le_trans H2.out.2.2 HM.out.2.size
  refine (write_no (D := c7) hI3 a0 _ _ _ (by omega) (.inl (no7 c7 rfl a0 (.inr HH.out)))).mono ?_
  rintro e u4 ⟨rfl, rfl⟩
  have H4 := Lib.hid (And.intro hI3 (And.intro hB3 hs3))
  clear hI3 hB3 hs3
  go_wp2_with fail
  refine (read_bad H4.out.1.dev a0 (no7 c7 rfl a0 (.inr HH.out))).mono ?_
  rintro e u5 ⟨rfl, hl⟩
  have H5 := Lib.hid (And.intro (H4.out.1.below hl) (And.intro (H4.out.2.1.trans (hl.mono H4.out.2.2)) (Nat.le_trans H4.out.2.2 hl.size)))
  clear hl
  go_wp2_with fail
  refine (counts_in (D := c7) H5.out.1).mono ?_
  rintro e u6 ⟨rfl, hl⟩
  have H6 := Lib.hid (And.intro (H5.out.2.1.trans (hl.mono H5.out.2.2)) (Nat.le_trans H5.out.2.2 hl.size))
  clear hl
  rw [show (c7 : Dev).r = 0 from rfl, show (c7 : Dev).w = 0 from rfl, show (c7 : Dev).f = 0 from rfl]
  go_wp2_with fail
  go_ret
  exact ⟨rfl, H6.out.1.trans (((Below.refl _ _).alloc (Nat.le_refl _) _).mono H6.out.2)⟩

theorem walk (a0 a1 : Int) (a2 : Bool) (w0 : (Lit.int .i64 a0).wf = true) (w1 : (Lit.int .i64 a1).wf = true) (w : World) :
    Calls Try.prog 3 #[.int .i64 a0, .int .i64 a1, .bool a2] w fun e w' => e = .returned (.bool true) ∧ Below w.heap.size w w' := by
  rcases (show a0 < 0 ∨ (0 ≤ a0 ∧ a0 ≤ 6) ∨ 6 < a0 by omega) with h | h | h <;> by_cases s : a1 % 1024 = 512 <;> cases a2
  · exact args_0n1 a0 a1 h s w
  · exact args_1n1 a0 a1 h s w
  · exact args_0n0 a0 a1 h s w
  · exact args_1n0 a0 a1 h s w
  · exact args_0i1 a0 a1 h s w
  · exact args_1i1 a0 a1 h s w
  · exact args_0i0 a0 a1 h s w
  · exact args_1i0 a0 a1 h s w
  · exact args_0p1 a0 a1 h s w
  · exact args_1p1 a0 a1 h s w
  · exact args_0p0 a0 a1 h s w
  · exact args_1p0 a0 a1 h s w
set_option maxRecDepth 100000 in
theorem lifted (os : Os) (started : os.Started) (H : Type) (enc : TypeId × Value → H) :
    ReturnsInHanded {} Try.checked os 3 .any (Rows.deviceArgsSpec.pre6 enc Try.prog Try.f3 Rows.deviceArgsRow.domain false) (Rows.deviceArgsSpec.post enc Try.prog Try.f3 false true false false) := by
  refine returnsInHanded_of_change (C := Try.checked) own started (by kernel_rfl) Try.func3
    (ChangeSpec.witness6 (enc := enc) (C := Try.checked) false ⟨#[], #[.int .i64 0, .int .i64 0, .bool false], []⟩ 8 (by kernel_rfl) (by kernel_rfl) (by kernel_rfl) (by kernel_rfl)) ?_
  intro W base args ds gs before hval0 hW hcnd _
  have hval : ∀ (j : Nat) t v, Try.f3.params[j]? = some t → args[j]? = some v → Value.okWide Try.prog W .any base t v := hval0
  have hW' := hW
  obtain ⟨p, q, hA0, hV, rfl, hfz, hnd⟩ := hW
  have hA : DataW.TrodAll enc Try.prog W 0 (fun _ => true) true Try.f3.params.toList args.toList ds p := hA0
  rw [Try.params3] at hA hval
  obtain ⟨v0, vs0, d0, ds0, p0, q0, hargs, rfl, rfl, h0, r0⟩ := trodAll_cons hA
  obtain ⟨v1, vs1, d1, ds1, p1, q1, rfl, rfl, rfl, h1, r1⟩ := trodAll_cons r0
  obtain ⟨v2, vs2, d2, ds2, p2, q2, rfl, rfl, rfl, h2, r2⟩ := trodAll_cons r1
  obtain ⟨rfl, rfl, rfl⟩ := trodAll_nil r2
  obtain rfl : args = #[v0, v1, v2] := by cases args; simp_all
  obtain ⟨rfl, rfl⟩ := trodVars_none hV
  obtain ⟨a0, rfl, rfl, rfl, w0⟩ := open_int Try.underlying3 (hval 0 3 v0 rfl rfl) h0
  obtain ⟨a1, rfl, rfl, rfl, w1⟩ := open_int Try.underlying3 (hval 1 3 v1 rfl rfl) h1
  obtain ⟨a2, rfl, rfl, rfl⟩ := open_bool Try.underlying4 (hval 2 4 v2 rfl rfl) h2
  clear hA0 hval0
  refine (walk a0 a1 a2 w0 w1 W).mono fun e W' ⟨he, bel⟩ => ?_
  subst he
  exact ⟨_, rfl, _, _, _, [], _, [], hW', trodAll_mk1 (shut_bool Try.underlying4 _), (trodAll_cons_mk (shut_int Try.underlying3 w0) (trodAll_cons_mk (shut_int Try.underlying3 w1) (trodAll_cons_mk (shut_bool Try.underlying4 a2) trodAll_mk0))), rfl, bel.frame _, fun h => by cases h⟩

theorem over : Rows.deviceArgsRow.holds Try.pinned (OpenSpec.ofChange Rows.deviceArgsSpec) :=
  OpenClaim.holds_of_wide 3 Try.f3 rfl rfl rfl rfl rfl rfl rfl ⟨rfl, rfl, rfl, rfl, rfl⟩ rfl rfl rfl rfl rfl (by kernel_rfl) Try.func3 (by kernel_rfl)
    (of_decide_eq_true (by kernel_rfl)) (by unfold Func.isWrapper; first | (rw [if_pos (by decide +kernel)]; kernel_rfl) | (rw [if_neg (by decide +kernel)]; exact ⟨rfl, rfl⟩))
    (fun os started H enc _ => lifted os started H enc)

/-- THE STATEMENT. -/
theorem proved : Rows.DeviceArgsSaid := over
#print axioms proved
end Go.Proofs.Ythdgfhkihhamnaa.deviceArgs
