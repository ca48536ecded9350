/-
  PROVED HERE: the contracts of From and of the iterator that it answers.
-/
import Derived.Test.YtdacnlcalcgjiaaBase
import Derived.Test.YtdacnlcalcgjiaaZ
import Derived.RangeFuncNested
import Derived.RangeFuncBound
import Derived.RangeFuncCalls
import Derived.RangeFuncLeaves
import Derived.Shelf.Abstract
import Derived.Shelf.RegionOpen
import Derived.OwnWalkIn
import Derived.TacticsInMore
import Derived.LoopNIn
import Derived.LoopIn
import Derived.Deep.RegionHeld3
import Derived.IntWalk
import Derived.Deep.DrawnRows
namespace Go.Proofs.Ytdacnlcalcgjiaa
open Go.ChangeShapes Go.WideShapes Go.ChangeAt Go.RowKit

open Go.Shelf
set_option linter.unusedSimpArgs false
set_option linter.unusedVariables false
attribute [local go_sem] Oper.semAt_some
attribute [local go_sem ↓] Go.wp_at_zero Go.wp_at_succ

/-- From's boxes: the ring's pointer, how many, the first place. -/
structure Caps (w : World) (g p : Nat) (N f : Int) : Prop where
  c0 : w.cell? ⟨g, 0, none⟩ = some (.pointer (some ⟨p, 0, none⟩))
  c1 : w.cell? ⟨g + 1, 0, none⟩ = some (.int .i64 N)
  c2 : w.cell? ⟨g + 1 + 1, 0, none⟩ = some (.int .i64 f)
theorem from_end {w W0 : World} {B p : Nat} {x m V : Int} (hB0 : Below B w W0) (hs0 : W0.heap.size = B + 2) (c0 : W0.cell? ⟨B, 0, none⟩ = some (.pointer (some ⟨p, 0, none⟩))) (c1 : W0.cell? ⟨B + 1, 0, none⟩ = some (.int .i64 m)) :
    Below B w ((W0.alloc (.cells #[.int .i64 x] 3)).setCell ⟨B + 1, 0, none⟩ (.int .i64 V)).drew ∧ ((W0.alloc (.cells #[.int .i64 x] 3)).setCell ⟨B + 1, 0, none⟩ (.int .i64 V)).drew.heap.size = B + 3 ∧ Caps ((W0.alloc (.cells #[.int .i64 x] 3)).setCell ⟨B + 1, 0, none⟩ (.int .i64 V)).drew B p V x := by
  have hb := (Below.refl W0.heap.size W0).alloc (Nat.le_refl _) (.cells #[.int .i64 x] 3)
  have d0 := (hb.cell (p := ⟨B, 0, none⟩) (by simp only; omega)).trans c0
  have d1 := (hb.cell (p := ⟨B + 1, 0, none⟩) (by simp only; omega)).trans c1
  have d2 := heap_alloc_new W0 (.cells #[.int .i64 x] 3)
  have d3 : (W0.alloc (.cells #[.int .i64 x] 3)).heap.size = B + 3 := by rw [World.size_alloc, hs0]
  rw [hs0] at d2
  have hbb := hB0.alloc (by omega) (.cells #[.int .i64 x] 3)
  generalize W0.alloc (.cells #[.int .i64 x] 3) = W1 at *
  refine ⟨(hbb.setCell (p := ⟨B + 1, 0, none⟩) (by simp only; omega) _).drew, ?_, ⟨?_, ?_, ?_⟩⟩
  · show (W1.setCell ⟨B + 1, 0, none⟩ (.int .i64 V)).heap.size = B + 3
    rw [World.size_setCell, d3]
  · show (W1.setCell ⟨B + 1, 0, none⟩ (.int .i64 V)).cell? ⟨B, 0, none⟩ = _
    rw [World.cell?_of_block (w := W1) (Below.heap_setCell W1 ⟨B + 1, 0, none⟩ _ B (by simp only; omega)), d0]
  · show (W1.setCell ⟨B + 1, 0, none⟩ (.int .i64 V)).cell? ⟨B + 1, 0, none⟩ = _
    exact World.cell?_setCell_same' _ _ _ (by rw [d1]; rfl)
  · show (W1.setCell ⟨B + 1, 0, none⟩ (.int .i64 V)).cell? ⟨B + 1 + 1, 0, none⟩ = _
    rw [World.cell?_of_block (w := W1) (Below.heap_setCell W1 ⟨B + 1, 0, none⟩ _ (B + 1 + 1) (by simp only; omega))]
    simp [World.cell?, d2]
set_option maxHeartbeats 2000000 in
theorem from_any (p b n : Nat) (a m N : Int) (w : World) (hd : w.cell? ⟨p, 0, none⟩ = some (.slice (some ⟨b, 0, none⟩) n n)) (n1 : 1 ≤ n) (n2 : n ≤ 1048576) (wa : -9223372036854775808 ≤ a) (wb : a ≤ 9223372036854775807) (hN : N = min (max m 0) n) :
    Calls Try.prog 23 #[.pointer (some ⟨p, 0, none⟩), .int .i64 a, .int .i64 m] w fun e w' => e = .returned (.func (.func 28) #[] #[.pointer (some ⟨w.heap.size + 1, 0, none⟩), .pointer (some ⟨w.heap.size, 0, none⟩), .pointer (some ⟨w.heap.size + 1 + 1, 0, none⟩)]) ∧ Below w.heap.size w w' ∧ w'.heap.size = w.heap.size + 3 ∧ Caps w' w.heap.size p N (a % n) := by
  have HN := Lib.hid hN
  have m0 := Int.emod_nonneg a (by omega : (n : Int) ≠ 0)
  have m1 := Int.emod_lt_of_pos a (by omega : 0 < (n : Int))
  clear hN
  have hlt : p < w.heap.size := World.block_lt_of_cell? w ⟨p, 0, none⟩ hd
  have HD := Lib.hid (fun W (hb : Below w.heap.size w W) => (hb.cell (p := ⟨p, 0, none⟩) hlt).trans hd)
  rcases (show m < 0 ∨ (0 ≤ m ∧ m ≤ (n : Int)) ∨ (0 ≤ m ∧ (n : Int) < m) by omega) with h1 | ⟨h1, h2⟩ | ⟨h1, h2⟩
  all_goals
    go_enter Try.func23, Try.ntmps23
    go_wp2_with fail
    obtain ⟨W0, hW0⟩ : ∃ W0, (w.alloc (.cells #[.pointer (some ⟨p, 0, none⟩)] 29)).alloc (.cells #[.int .i64 m] 3) = W0 := ⟨_, rfl⟩
    have hB0 : Below w.heap.size w W0 := by rw [← hW0]; exact ((Below.refl _ w).alloc (Nat.le_refl _) _).alloc (by simp) _
    have hs0 : W0.heap.size = w.heap.size + 2 := by rw [← hW0]; simp
    have c0 : W0.cell? ⟨w.heap.size, 0, none⟩ = some (.pointer (some ⟨p, 0, none⟩)) := by rw [← hW0]; simp
    have c1 : W0.cell? ⟨w.heap.size + 1, 0, none⟩ = some (.int .i64 m) := by rw [← hW0]; simp
    have f1 : W0.frozen? ⟨w.heap.size + 1, 0, none⟩ = false := by rw [← hW0]; simp
    have hdA := HD.out _ hB0
    rw [hW0]
    clear hW0 hd
    generalize hBe : w.heap.size = B at *
    have HBE := Lib.hid hBe
    clear hBe
    have n0 := World.new_ne W0 _ c0
    have n1' := World.new_ne W0 _ c1
    have n2' := World.new_ne W0 _ hdA
    have hAl : ∀ x : Obj, (W0.alloc x).cell? ⟨B, 0, none⟩ = some (.pointer (some ⟨p, 0, none⟩)) ∧ (W0.alloc x).cell? ⟨B + 1, 0, none⟩ = some (.int .i64 m) ∧ (W0.alloc x).cell? ⟨p, 0, none⟩ = some (.slice (some ⟨b, 0, none⟩) n n) := fun x =>
      have hb := (Below.refl W0.heap.size W0).alloc (Nat.le_refl _) x
      ⟨(hb.cell (p := ⟨B, 0, none⟩) (World.block_lt_of_cell? W0 ⟨B, 0, none⟩ c0)).trans c0, (hb.cell (p := ⟨B + 1, 0, none⟩) (World.block_lt_of_cell? W0 ⟨B + 1, 0, none⟩ c1)).trans c1, (hb.cell (p := ⟨p, 0, none⟩) (World.block_lt_of_cell? W0 ⟨p, 0, none⟩ hdA)).trans hdA⟩
    have f2 : ∀ x : Obj, (W0.alloc x).frozen? ⟨B + 1, 0, none⟩ = false := fun x => (((Below.refl W0.heap.size W0).alloc (Nat.le_refl _) x).frozen (p := ⟨B + 1, 0, none⟩) (World.block_lt_of_cell? W0 ⟨B + 1, 0, none⟩ c1)).trans f1
    have HS := Lib.hid (And.intro hB0 hs0)
    clear HD hB0 hlt hs0
    have q3 : ¬ (n : Int) < 0 := by omega
    have hS : W0.drew.cell? ⟨B, 0, none⟩ = some (.pointer (some ⟨p, 0, none⟩)) ∧ W0.drew.cell? ⟨B + 1, 0, none⟩ = some (.int .i64 m) ∧ W0.drew.cell? ⟨p, 0, none⟩ = some (.slice (some ⟨b, 0, none⟩) n n) := ⟨c0, c1, hdA⟩
    refine region_but (S := fun w' => w'.cell? ⟨B, 0, none⟩ = some (.pointer (some ⟨p, 0, none⟩)) ∧ w'.cell? ⟨B + 1, 0, none⟩ = some (.int .i64 m) ∧ w'.cell? ⟨p, 0, none⟩ = some (.slice (some ⟨b, 0, none⟩) n n)) (z := 10) (by kernel_rfl) ?_
    refine AnyBut.take (i := 0) (v := ?_) rfl (by kernel_rfl) (by kernel_rfl) (by kernel_rfl) (fun _ _ _ h => h) (waits_of (by kernel_rfl)) (by decide) (Or.inl ⟨by rfl, ?_⟩) hS ?_
    rotate_left 1
    · intro w' hS'; obtain ⟨s1, s2, s3⟩ := hS'; go_simp; try with_reducible rfl
    try simp only [Act.put, List.setIfInBounds_toArray, List.set_cons_zero, List.set_cons_succ]
    refine AnyBut.take (i := 1) (v := ?_) rfl (by kernel_rfl) (by kernel_rfl) (by kernel_rfl) (fun _ _ _ h => h) (waits_of (by kernel_rfl)) (by decide) (Or.inl ⟨by rfl, ?_⟩) hS ?_
    rotate_left 1
    · intro w' hS'; obtain ⟨s1, s2, s3⟩ := hS'; go_simp; try with_reducible rfl
    try simp only [Act.put, List.setIfInBounds_toArray, List.set_cons_zero, List.set_cons_succ]
    refine AnyBut.take (i := 3) (v := ?_) rfl (by kernel_rfl) (by kernel_rfl) (by kernel_rfl) (fun _ _ _ h => h) (waits_of (by kernel_rfl)) (by decide) (Or.inl ⟨by rfl, ?_⟩) hS ?_
    rotate_left 1
    · intro w' hS'; obtain ⟨s1, s2, s3⟩ := hS'; go_simp; try with_reducible rfl
    try simp only [Act.put, List.setIfInBounds_toArray, List.set_cons_zero, List.set_cons_succ]
    refine AnyBut.take (i := 4) (v := ?_) rfl (by kernel_rfl) (by kernel_rfl) (by kernel_rfl) (fun _ _ _ h => h) (waits_of (by kernel_rfl)) (by decide) (Or.inl ⟨by rfl, ?_⟩) hS ?_
    rotate_left 1
    · intro w' hS'; obtain ⟨s1, s2, s3⟩ := hS'; go_simp; try with_reducible rfl
    try simp only [Act.put, List.setIfInBounds_toArray, List.set_cons_zero, List.set_cons_succ]
    refine AnyBut.take (i := 5) (v := ?_) rfl (by kernel_rfl) (by kernel_rfl) (by kernel_rfl) (fun _ _ _ h => h) (waits_of (by kernel_rfl)) (by decide) (Or.inl ⟨by rfl, ?_⟩) hS ?_
    rotate_left 1
    · intro w' hS'; obtain ⟨s1, s2, s3⟩ := hS'; go_simp; try with_reducible rfl
    try simp only [Act.put, List.setIfInBounds_toArray, List.set_cons_zero, List.set_cons_succ]
    refine AnyBut.ups (rs := [2, 8]) (by kernel_rfl) (by simp) ?_
    refine Ups.cons rfl (fun K hK => ?_) ?_
    · go_simp
      refine (placeI_any p b n _ _ hS.2.2 n1 n2 (by omega) (by omega)).mono ?_
      rintro e w' ⟨rfl, rfl⟩
      try go_wp2_with fail
      refine hK.out _ _ (fun _ => hS) (fun _ => ?_)
      clear hK K
      try simp only [Act.put, List.setIfInBounds_toArray, List.set_cons_zero, List.set_cons_succ]
      refine AnyBut.ups (rs := [6, 8]) (by kernel_rfl) (by simp) ?_
      refine Ups.cons rfl (fun K hK => ?_) ?_
      · go_simp
        refine (lenI_any p b n _ hS.2.2).mono ?_
        rintro e w' ⟨rfl, rfl⟩
        try go_wp2_with fail
        refine hK.out _ _ (fun _ => hS) (fun _ => ?_)
        clear hK K
        try simp only [Act.put, List.setIfInBounds_toArray, List.set_cons_zero, List.set_cons_succ]
        refine AnyBut.take (i := 7) (v := ?_) rfl (by kernel_rfl) (by kernel_rfl) (by kernel_rfl) (fun _ _ _ h => h) (waits_of (by kernel_rfl)) (by decide) (Or.inl ⟨by rfl, ?_⟩) hS ?_
        rotate_left 1
        · intro w' hS'; obtain ⟨s1, s2, s3⟩ := hS'; go_simp; try with_reducible rfl
        try simp only [Act.put, List.setIfInBounds_toArray, List.set_cons_zero, List.set_cons_succ]
        refine AnyBut.ups (rs := [8]) (by kernel_rfl) (by simp) ?_
        refine Ups.cons rfl (fun K hK => ?_) ?_
        · go_simp
          refine hK.out _ _ (fun _ => hAl _) (fun hS2 => ?_)
          have hS := hS2 (by decide)
          clear hS2
          clear hK K
          try simp only [Act.put, List.setIfInBounds_toArray, List.set_cons_zero, List.set_cons_succ]
          refine AnyBut.ups (rs := [9]) (by kernel_rfl) (by simp) ?_
          refine Ups.cons rfl (fun K hK => ?_) ?_
          · go_simp
            refine hK.out _ _ (fun _ => hAl _) (fun hS2 => ?_)
            have hS := hS2 (by decide)
            clear hS2
            clear hK K
            try simp only [Act.put, List.setIfInBounds_toArray, List.set_cons_zero, List.set_cons_succ]
            refine AnyBut.ups (rs := [10]) (by kernel_rfl) (by simp) ?_
            refine Ups.cons rfl (fun K hK => ?_) ?_
            · obtain ⟨s1, s2, s3⟩ := hS
              have t2 := hAl (.cells #[.int .i64 (a % (n : Int))] 3)
              obtain ⟨t1, t2, t3⟩ := t2
              have t4 := f2 (.cells #[.int .i64 (a % (n : Int))] 3)
              go_simp
              refine hK.out _ _ (fun h => absurd rfl h) (fun _ => ?_)
              clear hK K
              try simp only [Act.put, List.setIfInBounds_toArray, List.set_cons_zero, List.set_cons_succ]
              refine AnyBut.done (by kernel_rfl) ?_ _
              clear hS
              go_wp2_with fail
              go_ret
              rw [HBE.out]
              refine ⟨by rw [HS.out.2]; rfl, ?_⟩
              first
                | (rw [show N = 0 from by rw [HN.out]; omega]; exact from_end HS.out.1 HS.out.2 c0 c1)
                | (rw [show N = m from by rw [HN.out]; omega]; exact from_end HS.out.1 HS.out.2 c0 c1)
                | (rw [show N = (n : Int) from by rw [HN.out]; omega]; exact from_end HS.out.1 HS.out.2 c0 c1)
            exact Ups.nil
          exact Ups.nil
        exact Ups.nil
      refine Ups.cons rfl (fun K hK => ?_) ?_
      · go_simp
        refine hK.out _ _ (fun _ => hAl _) (fun hS2 => ?_)
        have hS := hS2 (by decide)
        clear hS2
        clear hK K
        try simp only [Act.put, List.setIfInBounds_toArray, List.set_cons_zero, List.set_cons_succ]
        refine AnyBut.ups (rs := [6]) (by kernel_rfl) (by simp) ?_
        refine Ups.cons rfl (fun K hK => ?_) ?_
        · go_simp
          refine (lenI_any p b n _ hS.2.2).mono ?_
          rintro e w' ⟨rfl, rfl⟩
          try go_wp2_with fail
          refine hK.out _ _ (fun _ => hS) (fun _ => ?_)
          clear hK K
          try simp only [Act.put, List.setIfInBounds_toArray, List.set_cons_zero, List.set_cons_succ]
          refine AnyBut.take (i := 7) (v := ?_) rfl (by kernel_rfl) (by kernel_rfl) (by kernel_rfl) (fun _ _ _ h => h) (waits_of (by kernel_rfl)) (by decide) (Or.inl ⟨by rfl, ?_⟩) hS ?_
          rotate_left 1
          · intro w' hS'; obtain ⟨s1, s2, s3⟩ := hS'; go_simp; try with_reducible rfl
          try simp only [Act.put, List.setIfInBounds_toArray, List.set_cons_zero, List.set_cons_succ]
          refine AnyBut.ups (rs := [9]) (by kernel_rfl) (by simp) ?_
          refine Ups.cons rfl (fun K hK => ?_) ?_
          · go_simp
            refine hK.out _ _ (fun _ => hAl _) (fun hS2 => ?_)
            have hS := hS2 (by decide)
            clear hS2
            clear hK K
            try simp only [Act.put, List.setIfInBounds_toArray, List.set_cons_zero, List.set_cons_succ]
            refine AnyBut.ups (rs := [10]) (by kernel_rfl) (by simp) ?_
            refine Ups.cons rfl (fun K hK => ?_) ?_
            · obtain ⟨s1, s2, s3⟩ := hS
              have t2 := hAl (.cells #[.int .i64 (a % (n : Int))] 3)
              obtain ⟨t1, t2, t3⟩ := t2
              have t4 := f2 (.cells #[.int .i64 (a % (n : Int))] 3)
              go_simp
              refine hK.out _ _ (fun h => absurd rfl h) (fun _ => ?_)
              clear hK K
              try simp only [Act.put, List.setIfInBounds_toArray, List.set_cons_zero, List.set_cons_succ]
              refine AnyBut.done (by kernel_rfl) ?_ _
              clear hS
              go_wp2_with fail
              go_ret
              rw [HBE.out]
              refine ⟨by rw [HS.out.2]; rfl, ?_⟩
              first
                | (rw [show N = 0 from by rw [HN.out]; omega]; exact from_end HS.out.1 HS.out.2 c0 c1)
                | (rw [show N = m from by rw [HN.out]; omega]; exact from_end HS.out.1 HS.out.2 c0 c1)
                | (rw [show N = (n : Int) from by rw [HN.out]; omega]; exact from_end HS.out.1 HS.out.2 c0 c1)
            exact Ups.nil
          exact Ups.nil
        exact Ups.nil
      exact Ups.nil
    refine Ups.cons rfl (fun K hK => ?_) ?_
    · go_simp
      refine hK.out _ _ (fun _ => hAl _) (fun hS2 => ?_)
      have hS := hS2 (by decide)
      clear hS2
      clear hK K
      try simp only [Act.put, List.setIfInBounds_toArray, List.set_cons_zero, List.set_cons_succ]
      refine AnyBut.ups (rs := [2]) (by kernel_rfl) (by simp) ?_
      refine Ups.cons rfl (fun K hK => ?_) ?_
      · go_simp
        refine (placeI_any p b n _ _ hS.2.2 n1 n2 (by omega) (by omega)).mono ?_
        rintro e w' ⟨rfl, rfl⟩
        try go_wp2_with fail
        refine hK.out _ _ (fun _ => hS) (fun _ => ?_)
        clear hK K
        try simp only [Act.put, List.setIfInBounds_toArray, List.set_cons_zero, List.set_cons_succ]
        refine AnyBut.ups (rs := [6]) (by kernel_rfl) (by simp) ?_
        refine Ups.cons rfl (fun K hK => ?_) ?_
        · go_simp
          refine (lenI_any p b n _ hS.2.2).mono ?_
          rintro e w' ⟨rfl, rfl⟩
          try go_wp2_with fail
          refine hK.out _ _ (fun _ => hS) (fun _ => ?_)
          clear hK K
          try simp only [Act.put, List.setIfInBounds_toArray, List.set_cons_zero, List.set_cons_succ]
          refine AnyBut.take (i := 7) (v := ?_) rfl (by kernel_rfl) (by kernel_rfl) (by kernel_rfl) (fun _ _ _ h => h) (waits_of (by kernel_rfl)) (by decide) (Or.inl ⟨by rfl, ?_⟩) hS ?_
          rotate_left 1
          · intro w' hS'; obtain ⟨s1, s2, s3⟩ := hS'; go_simp; try with_reducible rfl
          try simp only [Act.put, List.setIfInBounds_toArray, List.set_cons_zero, List.set_cons_succ]
          refine AnyBut.ups (rs := [9]) (by kernel_rfl) (by simp) ?_
          refine Ups.cons rfl (fun K hK => ?_) ?_
          · go_simp
            refine hK.out _ _ (fun _ => hAl _) (fun hS2 => ?_)
            have hS := hS2 (by decide)
            clear hS2
            clear hK K
            try simp only [Act.put, List.setIfInBounds_toArray, List.set_cons_zero, List.set_cons_succ]
            refine AnyBut.ups (rs := [10]) (by kernel_rfl) (by simp) ?_
            refine Ups.cons rfl (fun K hK => ?_) ?_
            · obtain ⟨s1, s2, s3⟩ := hS
              have t2 := hAl (.cells #[.int .i64 (a % (n : Int))] 3)
              obtain ⟨t1, t2, t3⟩ := t2
              have t4 := f2 (.cells #[.int .i64 (a % (n : Int))] 3)
              go_simp
              refine hK.out _ _ (fun h => absurd rfl h) (fun _ => ?_)
              clear hK K
              try simp only [Act.put, List.setIfInBounds_toArray, List.set_cons_zero, List.set_cons_succ]
              refine AnyBut.done (by kernel_rfl) ?_ _
              clear hS
              go_wp2_with fail
              go_ret
              rw [HBE.out]
              refine ⟨by rw [HS.out.2]; rfl, ?_⟩
              first
                | (rw [show N = 0 from by rw [HN.out]; omega]; exact from_end HS.out.1 HS.out.2 c0 c1)
                | (rw [show N = m from by rw [HN.out]; omega]; exact from_end HS.out.1 HS.out.2 c0 c1)
                | (rw [show N = (n : Int) from by rw [HN.out]; omega]; exact from_end HS.out.1 HS.out.2 c0 c1)
            exact Ups.nil
          exact Ups.nil
        exact Ups.nil
      exact Ups.nil
    exact Ups.nil
/-- What the iterator tells, k of them. -/
def told (n f : Int) (k : Nat) : List (Int × Int) := (List.range k).map fun (i : Nat) => ((f + i) % n, 3 * ((f + i) % n))
theorem told_succ (n f : Int) (k : Nat) : told n f (k + 1) = told n f k ++ [((f + k) % n, 3 * ((f + k) % n))] := by
  unfold told; rw [List.range_succ, List.map_append]; rfl
theorem told_len (n f : Int) (k : Nat) : (told n f k).length = k := by unfold told; simp
theorem told_pre (n f : Int) (k m : Nat) (h : k ≤ m) : told n f k <+: told n f m := by
  induction m with
  | zero => obtain rfl : k = 0 := by omega
            exact List.prefix_refl _
  | succ m ih =>
    by_cases e : k = m + 1
    · subst e; exact List.prefix_refl _
    · rw [told_succ]; exact (ih (by omega)).trans (List.prefix_append _ _)
theorem told_next {n f : Int} {m : Nat} {pre : List (Int × Int)} {x : Int × Int} (h : pre ++ [x] <+: told n f m) : x.1 = (f + pre.length) % n ∧ x.2 = 3 * x.1 := by
  obtain ⟨t, ht⟩ := h
  have h1 : (told n f m)[pre.length]? = some x := by rw [← ht]; simp
  unfold told at h1
  rw [List.getElem?_map] at h1
  cases e : (List.range m)[pre.length]? with
  | none => rw [e] at h1; cases h1
  | some i =>
    rw [e] at h1
    have hi : i = pre.length := by
      have := List.getElem?_eq_some_iff.1 e
      obtain ⟨_, h2⟩ := this
      simpa using h2.symm
    subst hi
    simp only [Option.map_some, Option.some.injEq] at h1
    subst h1
    exact ⟨rfl, rfl⟩
/-- A ring that has three times its place everywhere. -/
structure Tri (w : World) (g p b n : Nat) (f : Int) : Prop where
  c0 : w.cell? ⟨g, 0, none⟩ = some (.pointer (some ⟨p, 0, none⟩))
  c2 : w.cell? ⟨g + 1 + 1, 0, none⟩ = some (.int .i64 f)
  hd : w.cell? ⟨p, 0, none⟩ = some (.slice (some ⟨b, 0, none⟩) n n)
  vs : ∀ j : Nat, j < n → w.cell? ⟨b, j, none⟩ = some (.int .i64 (3 * (j : Int)))
def Four (g p b : Nat) (W W' : World) : Prop := W'.heap[g]? = W.heap[g]? ∧ W'.heap[g + 1 + 1]? = W.heap[g + 1 + 1]? ∧ W'.heap[p]? = W.heap[p]? ∧ W'.heap[b]? = W.heap[b]?
theorem Four.refl (g p b : Nat) (W : World) : Four g p b W W := ⟨rfl, rfl, rfl, rfl⟩
theorem Four.trans {g p b : Nat} {A B C : World} (h : Four g p b A B) (k : Four g p b B C) : Four g p b A C := ⟨k.1.trans h.1, k.2.1.trans h.2.1, k.2.2.1.trans h.2.2.1, k.2.2.2.trans h.2.2.2⟩
theorem Tri.same {w w' : World} {g p b n : Nat} {f : Int} (h : Tri w g p b n f) (k : Four g p b w w') : Tri w' g p b n f :=
  ⟨(World.cell?_of_block (a := ⟨g, 0, none⟩) k.1).trans h.c0, (World.cell?_of_block (a := ⟨g + 1 + 1, 0, none⟩) k.2.1).trans h.c2, (World.cell?_of_block (a := ⟨p, 0, none⟩) k.2.2.1).trans h.hd, fun j hj => (World.cell?_of_block (a := ⟨b, j, none⟩) k.2.2.2).trans (h.vs j hj)⟩
def encP (x : Int × Int) : Array Value := #[.int .i64 x.1, .int .i64 x.2]
set_option maxRecDepth 100000 in
set_option maxHeartbeats 2000000 in
theorem from1_in (d : Nat) (hd2 : 2 ≤ d) (l g p b n N : Nat) (f : Int) (f0 : 0 ≤ f) (f1 : f < n) (n1 : 1 ≤ n) (n2 : n ≤ 1048576) (hN : N ≤ n) (J Jx : List (Int × Int) → World → Prop)
    (hY : ∀ pre x W, J pre W → pre.length < N → YieldAt Fence.wide (d - 1) Try.prog l (encP x) W fun e W' =>
      (e = .returned (.bool true) ∧ J (pre ++ [x]) W' ∧ Four g p b W W') ∨ (e = .returned (.bool false) ∧ Jx (pre ++ [x]) W'))
    (W : World) (c1 : W.cell? ⟨g + 1, 0, none⟩ = some (.int .i64 N)) (hT : Tri W g p b n f) (h0 : J [] W) :
    CallsIn Fence.wide d Try.prog 28 #[.func (.yield l) #[] #[], .pointer (some ⟨g + 1, 0, none⟩), .pointer (some ⟨g, 0, none⟩), .pointer (some ⟨g + 1 + 1, 0, none⟩)] W fun e W' => (∃ v, e = .returned v) ∧
      ((∃ ys, ys = told n f N ∧ J ys W') ∨ (∃ pre, pre <+: told n f N ∧ Jx pre W')) := by
  refine callsIn_of_wp Try.func28 rfl trivial ?_ rfl
  simp only [Try.ntmps28, List.size_toArray, List.length_cons, List.length_nil, Nat.reduceAdd, Nat.reduceSub, Array.replicate_succ, Array.replicate_zero, List.push_toArray, List.append_toArray, List.nil_append, List.cons_append]
  have HJ := Lib.hid h0
  have HT := Lib.hid hT
  clear h0 hT
  gi_wp2
  gi_loopw [8] (fun i wr => ∃ k : Nat, k ≤ N ∧ i = .int .i64 k ∧ J (told n f k) wr ∧ Four g p b W wr) (fun i _ => N - (intOf i).toNat)
  case atStart => exact ⟨0, by omega, rfl, HJ.out, Four.refl _ _ _ _⟩
  case round =>
    obtain ⟨k, hk, rfl, hJs, hB⟩ := hrel
    by_cases hlt : k < N
    · have HR := Lib.hid (HT.out.same hB)
      have e0 := HR.out.c0
      have e2 := HR.out.c2
      have ed := HR.out.hd
      have m0 := Int.emod_nonneg (f + k) (by omega : (n : Int) ≠ 0)
      have m1 := Int.emod_lt_of_pos (f + k) (by omega : 0 < (n : Int))
      have ev : wr.cell? ⟨b, ((f + k) % n).toNat, none⟩ = some (.int .i64 (3 * ((f + k) % n))) := by
        have h := HR.out.vs ((f + k) % n).toNat (by omega)
        rwa [Int.toNat_of_nonneg m0] at h
      have HG := Lib.hid (goI_any p b n f k wr ed n1 n2 (by omega) (by omega) (by omega) (by omega))
      have HS := Lib.hid (And.intro hJs hB)
      have HX := Lib.hid (told_succ n f k)
      obtain ⟨fn, tmps, assign, body, hy, hRd⟩ := hY (told n f k) ((f + k) % n, 3 * ((f + k) % n)) wr hJs (by rw [told_len]; exact hlt)
      unfold encP at hy
      dsimp only at hy
      have HRd := Lib.hid hRd
      clear c1 hJs hB hRd
      generalize (f + (k : Int)) % n = q at *
      gi_wp2
      refine ⟨trivial, fun _ => by omega, ?_⟩
      refine (callsIn_wide.2 HG.out).mono ?_
      rintro e w' ⟨rfl, rfl⟩
      clear HG
      gi_wp2
      refine ⟨fun _ => by omega, ?_⟩
      refine (HRd.out).mono ?_
      rintro e W3 (⟨rfl, hJ3, hk3⟩ | ⟨rfl, hJx3⟩)
      · have HJ3 := Lib.hid (And.intro hJ3 hk3)
        clear hJ3 hk3
        gi_wp2
        go_roundw
        case rel => exact ⟨k + 1, by omega, by go_num, by rw [HX.out]; exact HJ3.out.1, HS.out.2.trans HJ3.out.2⟩
        case measure => simp [intOf]; omega
      · have HJ3 := Lib.hid hJx3
        clear hJx3
        gi_wp2
        refine bodyPost_ret (results_none rfl _ _ _) rfl ?_
        exact ⟨⟨_, rfl⟩, .inr ⟨_, by rw [← HX.out]; exact told_pre n f (k + 1) N hlt, HJ3.out⟩⟩
    · obtain rfl : N = k := by omega
      have HX := Lib.hid hJs
      clear hJs
      gi_wp2
      go_end0
      exact ⟨⟨_, rfl⟩, .inl ⟨_, rfl, HX.out⟩⟩
theorem from_stops (d : Nat) (hd2 : 2 ≤ d) (g p b n N : Nat) (f : Int) (f0 : 0 ≤ f) (f1 : f < n) (n1 : 1 ≤ n) (n2 : n ≤ 1048576) (hN : N ≤ n) (w : World) (c1 : w.cell? ⟨g + 1, 0, none⟩ = some (.int .i64 N)) (hT : Tri w g p b n f) (hg : g + 1 + 1 < w.heap.size) (hp : p < w.heap.size) (hb : b < w.heap.size) :
    SeqStopsK Fence.wide d Try.prog 28 #[.pointer (some ⟨g + 1, 0, none⟩), .pointer (some ⟨g, 0, none⟩), .pointer (some ⟨g + 1 + 1, 0, none⟩)] encP (Four g p b) (fun ys => ys = told n f N) (fun pre => pre <+: told n f N) N w := fun l J Jx W hW _ _ hY h0 =>
  from1_in d hd2 l g p b n N f f0 f1 n1 n2 hN J Jx hY W ((hW.cell (p := ⟨g + 1, 0, none⟩) (by simp only; omega)).trans c1) (hT.same ⟨hW.block g (by omega), hW.block _ hg, hW.block p hp, hW.block b hb⟩) h0
end Go.Proofs.Ytdacnlcalcgjiaa
