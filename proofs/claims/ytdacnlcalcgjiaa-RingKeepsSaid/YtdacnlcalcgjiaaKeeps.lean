/-
  PROVED: harrowlaw06.RingKeeps returns true at every int and every list of ints, and its arguments read behind the call as before (Rows.RingKeepsSaid). No condition.
-/
import Derived.Test.YtdacnlcalcgjiaaBase
namespace Go.Proofs.Ytdacnlcalcgjiaa.ringKeeps
open Go.ChangeShapes Go.WideShapes Go.ChangeAt Go.RowKit
set_option linter.unusedVariables false

theorem own : ownKnob Try.prog.godebug = none := by kernel_rfl
theorem laidOut : laidOutB Try.prog = true := by kernel_rfl

/-- What the walk is told of a slice of ints that came in: nil, or a row of cap cells, the numbers zs, the first len its elements. -/
def IsRow (k : IntKind) (w : World) (a : Option Addr) (len cap : Nat) (zs : List Int) : Prop :=
  (a = none ∧ len = 0 ∧ cap = 0 ∧ zs = []) ∨
  ∃ x, a = some x ∧ len ≤ cap ∧ cap ≤ maxLen ∧ zs.length = cap ∧ (∀ i, i < zs.length → w.cell? (x.add i) = some (.int k (zs.getD i 0))) ∧ ∀ n ∈ zs, (Lit.int k n).wf = true
attribute [local go_sem] and65535

theorem set_strong (B p b n : Nat) (xs : List Value) (a : Int) (v : Int) (w : World) (hR : RingAt w B 3 p b n xs) (wa : -9223372036854775808 ≤ a) (wb : a ≤ 9223372036854775807) :
    Calls Try.prog 14 #[.pointer (some ⟨p, 0, none⟩), .int .i64 a, .int .i64 v] w fun e w' => e = .returned (.tuple #[]) ∧ RingAt w' B 3 p b n (xs.set (a % n).toNat (.int .i64 v)) ∧ w.grownBy w' (some b) := by
  have hS := hR.set (a % n).toNat (.int .i64 v)
  have hW := (hR.row.stored (a % n).toNat (.int .i64 v)).2
  have HH := Lib.hid (And.intro hS hW)
  clear hS hW
  have hd := hR.hd
  have n1 := hR.n1
  have n2 := hR.n2
  have m0 := Int.emod_nonneg a (by omega : (n : Int) ≠ 0)
  have m1 := Int.emod_lt_of_pos a (by omega : 0 < (n : Int))
  have hc := hR.cell (a % n).toNat (by omega)
  have hfz := hR.free (a % n).toNat
  go_enter Try.func14, Try.ntmps14
  go_still_tail 9, (by kernel_rfl)
  still_call (still_left (placeI_any p b n _ _ hd n1 n2 (by omega) (by omega)))
  repeat still_step
  refine wpStill_nil ?_
  change wpList _ _ _ _ _ w.drew
  go_wp2
  go_end0
  exact ⟨rfl, HH.out.1.drewN 1, ⟨HH.out.2.os, HH.out.2.tape, HH.out.2.output, HH.out.2.size, HH.out.2.block⟩⟩

/-- Ring and list of the law's own: the ring holds zs, the list ys. -/
structure Both (w wr : World) (B p b g n : Nat) (zs ys : List Int) : Prop where
  ring : RingAt wr B 3 p b n (zs.map (.int .i64))
  row : wr.ownsRow B 3 1 (.slice (some ⟨g, 0, none⟩) n n) n (ys.map (.int .i64))
  bg : b ≠ g
  pg : p ≠ g
  gB : B ≤ g
  wB : w.heap.size ≤ B
  below : Below w.heap.size w wr
theorem Both.len {w wr : World} {B p b g n : Nat} {zs ys : List Int} (h : Both w wr B p b g n zs ys) : ys.length = n := by have := h.row.1; simp at this; omega
theorem Both.cell {w wr : World} {B p b g n : Nat} {zs ys : List Int} (h : Both w wr B p b g n zs ys) (j : Nat) (hj : j < n) : wr.cell? ⟨g, j, none⟩ = some (.int .i64 (ys[j]?.getD 0)) := by
  rw [h.row.cellAt j (by omega)]
  have : j < ys.length := by rw [h.len]; exact hj
  simp [this]
theorem Both.free {w wr : World} {B p b g n : Nat} {zs ys : List Int} (h : Both w wr B p b g n zs ys) (j : Nat) : wr.frozen? ⟨g, j, none⟩ = false := h.row.frozenAt j
theorem Both.store {w wr : World} {B p b g n : Nat} {zs ys : List Int} (h : Both w wr B p b g n zs ys) (j : Nat) (u : Int) : Both w (wr.setCell ⟨g, j, none⟩ (.int .i64 u)) B p b g n zs (ys.set j u) := by
  obtain ⟨s1, s2⟩ := h.row.stored j (.int .i64 u)
  refine ⟨⟨by rw [World.cell?_of_block (w := wr) (Below.heap_setCell wr ⟨g, j, none⟩ _ p h.pg)]; exact h.ring.hd, h.ring.row.kept s2 (.inr (by simp [Value.ownBlock]; exact h.bg)), h.ring.ne, h.ring.pB, h.ring.n1, h.ring.n2⟩, ?_, h.bg, h.pg, h.gB, h.wB, h.below.setCell (p := ⟨g, j, none⟩) (Nat.le_trans h.wB h.gB) _⟩
  rw [List.map_set]; exact s1
theorem Both.set {w wr w' : World} {B p b g n : Nat} {zs ys : List Int} (h : Both w wr B p b g n zs ys) (j : Nat) (u : Int) (hR : RingAt w' B 3 p b n ((zs.map (Value.int .i64)).set j (.int .i64 u))) (hg : wr.grownBy w' (some b)) : Both w w' B p b g n (zs.set j u) ys := by
  refine ⟨by rw [List.map_set]; exact hR, h.row.kept hg (.inr (by simp [Value.ownBlock]; exact fun e => h.bg e.symm)), h.bg, h.pg, h.gB, h.wB, h.below.grown hg h.below.size (fun k e => by cases e; exact Nat.le_trans h.wB h.ring.lt.1)⟩
theorem Both.drewN {w wr : World} {B p b g n : Nat} {zs ys : List Int} (h : Both w wr B p b g n zs ys) (k : Nat) : Both w (wr.drewN k) B p b g n zs ys :=
  ⟨h.ring.drewN k, h.row, h.bg, h.pg, h.gB, h.wB, h.below.trans ⟨rfl, rfl, rfl, Nat.le_refl _, fun _ _ => rfl⟩⟩
theorem Both.start {w w2 w3 : World} {B p b n : Nat} (hw : w.heap.size ≤ B) (hR : RingAt w2 B 3 p b n (List.replicate n (.int .i64 (-1)))) (hb : Below w.heap.size w w2) (hown : w3.ownsRow w2.heap.size 3 1 (.slice (some ⟨w2.heap.size, 0, none⟩) n n) n (madeCells #[.int .i64 0] (n * 1)).toList) (hg : w2.grownBy w3 none) :
    Both w w3 B p b w2.heap.size n (List.replicate n (-1)) (List.replicate n 0) := by
  have h1 := hR.lt
  have h2 := hR.ltp
  have e1 : (madeCells #[.int .i64 0] (n * 1)).toList = (List.replicate n (0 : Int)).map (Value.int .i64) := by rw [Nat.mul_one, toList_madeCells_one]; simp
  rw [e1] at hown
  refine ⟨⟨?_, by simpa using hR.row.kept hg (.inr (by simp [Value.ownBlock])), hR.ne, hR.pB, hR.n1, hR.n2⟩, ?_, by omega, by omega, by omega, hw, hb.grown hg hb.size (fun k e => by cases e)⟩
  · exact hg.cell hR.hd (by simp)
  · obtain ⟨r1, r2⟩ := hown
    refine ⟨r1, ?_⟩
    rcases r2 with r2 | ⟨g', cap, cur, r3, r4, r5⟩
    · exact .inl r2
    · exact .inr ⟨g', cap, cur, r3, by omega, r5⟩
/-- What the third loop reads. -/
theorem get_at (B p b n k : Nat) (zs : List Int) (a : Int) (w : World) (hR : RingAt w B 3 p b n (zs.map (.int .i64))) (wa : -9223372036854775808 ≤ a) (wb : a ≤ 9223372036854775807) (hk : k < n) (ha : a % n = k) :
    Calls Try.prog 15 #[.pointer (some ⟨p, 0, none⟩), .int .i64 a] w fun e w' => e = .returned (.int .i64 (zs[k]?.getD 0)) ∧ ∃ m, w' = w.drewN m := by
  have hl := hR.len
  simp at hl
  have e : (zs.map (Value.int .i64))[(a % n).toNat]?.getD undef = .int .i64 (zs[k]?.getD 0) := by rw [ha]; simp [show k < zs.length by omega]
  have h := getI_any B p b n _ a w hR wa wb
  rw [e] at h
  exact h

theorem at2 (k n : Nat) (h : k < n) : ((k : Int) - n) % n = k := by rw [Int.sub_emod_right]; exact Int.emod_eq_of_lt (by omega) (by omega)
theorem at3 (k n : Nat) (h : k < n) : ((k : Int) + 3 * n) % n = k := by rw [Int.add_mul_emod_self_right]; exact Int.emod_eq_of_lt (by omega) (by omega)
theorem all_set (ys : List Int) (n k : Nat) (hl : ys.length = n) (hk : k < n) (h : ∀ j, j < k → ys[j]? = some (-1)) : ∀ j, j < k + 1 → (ys.set k (-1))[j]? = some (-1) := by
  intro j hj
  by_cases e : j = k
  · subst e; simp [hl, hk]
  · rw [List.getElem?_set_ne (by omega)]; exact h j (by omega)
theorem all_done (ys : List Int) (n : Nat) (hl : ys.length = n) (h : ∀ j, j < n → ys[j]? = some (-1)) : ys = List.replicate n (-1) := by
  apply List.ext_getElem?
  intro j
  by_cases hj : j < n
  · rw [h j hj]; simp [hj]
  · simp [hj, hl]

set_option maxRecDepth 100000 in
set_option maxHeartbeats 4000000 in
theorem walk_row (a0 : Int) (a : Option Addr) (len cap : Nat) (z : List Int) (w : World) (hlen : len ≤ maxLen)
    (hz : ∀ i, i < len → -9223372036854775808 ≤ z[i]?.getD 0 ∧ z[i]?.getD 0 ≤ 9223372036854775807)
    (hrow : (len = 0) ∨ ∃ blk off, a = some ⟨blk, off, none⟩ ∧ blk < w.heap.size ∧ ∀ i, i < len → w.cell? ⟨blk, off + i, none⟩ = some (.int .i64 (z[i]?.getD 0))) :
    Calls Try.prog 4 #[.int .i64 a0, .slice a len cap] w fun e w' => e = .returned (.bool true) ∧ Below w.heap.size w w' := by
  obtain ⟨n, hn⟩ : ∃ n : Nat, (n : Int) = 1 + a0 % 65536 % 300 := ⟨(1 + a0 % 65536 % 300).toNat, by omega⟩
  have n1 : 1 ≤ n := by omega
  have n2 : n ≤ 300 := by omega
  have HN := Lib.hid hn
  have HZ := Lib.hid hz
  unfold maxLen at hlen
  obtain ⟨i0, hi, hz0, hz1, hz2⟩ := info_parts Try.info3
  have c3 : i0.bytes * n ≤ 281474976710656 := by rw [hz2]; omega
  have c4 : n ≤ maxLen := by unfold maxLen; omega
  clear hn hz
  rcases hrow with hl0 | ⟨blk, off, rfl, hblk, hcell⟩
  · go_enter Try.func4, Try.ntmps4
    go_wp2_with fail
    refine (shown_any _).mono ?_
    rintro e u1 ⟨rfl, hB1⟩
    go_wp2_with fail
    refine (few_any _ _).mono ?_
    rintro e u1 ⟨rfl, rfl⟩
    rw [← HN.out]
    go_wp2_with fail
    refine (newI_any _ _ n _ (by omega)).mono ?_
    rintro e w2 ⟨p, b, rfl, hR, hB2⟩
    have HR := Lib.hid hR
    have HB := Lib.hid (hB1.trans (hB2.mono hB1.size))
    have hs1 := hB1.size
    clear hR hB2 hB1
    go_wp2_with (at_make; refine wpList_make_full _ rfl _ _ 28 rfl w2.heap.size 3 i0 (.int .i64 0) 1 Try.underlying28 hi hz0 hz1 .i64 .i64 _ _ n rfl rfl rfl rfl c3 c4 (Nat.le_refl _) ?_; intro w3 hown hgr)
    have hB3 := Both.start hs1 HR.out HB.out hown hgr
    generalize u1.heap.size = B at *
    generalize w2.heap.size = g at *
    have HB3 := Lib.hid hB3
    clear hB3 hown hgr HR HB
    go_loopw [8] (fun i wr => ∃ (k : Nat) (ys : List Int), k ≤ n ∧ i = .int .i64 k ∧ Both w wr B p b g n (List.replicate n (-1)) ys ∧ ∀ j, j < k → ys[j]? = some (-1)) (fun i _ => n - (intOf i).toNat)
    case atStart => exact ⟨0, _, Nat.zero_le _, rfl, HB3.out, fun j hj => by omega⟩
    case round =>
      clear HB3
      obtain ⟨k, ys, hk, rfl, hF, hys⟩ := hrel
      by_cases hlt : k < n
      · have hc := hF.cell k hlt
        have hfz := hF.free k
        have hS := hF.store k (-1)
        have hA := all_set ys n k hF.len hlt hys
        have HH := Lib.hid (And.intro hS hA)
        clear hS hA hys
        go_wp2
        go_roundw
        case rel => exact ⟨k + 1, _, by omega, by go_num, HH.out.1, HH.out.2⟩
        case measure => simp [intOf]; omega
      · obtain rfl : n = k := by omega
        obtain rfl := all_done ys n hF.len hys
        have HF := Lib.hid hF
        clear hF hys
        go_wp2
        go_loopw [9] (fun i wr => ∃ (k : Nat) (zs : List Int), k ≤ len ∧ k ≤ 200 ∧ i = .int .i64 k ∧ Both w wr B p b g n zs zs) (fun i _ => 200 - (intOf i).toNat)
        case atStart => exact ⟨0, _, Nat.zero_le _, Nat.zero_le _, rfl, HF.out⟩
        case round =>
          clear HF hlt hk
          obtain ⟨k, zs, hk, hk2, rfl, hF⟩ := hrel
          by_cases hlt : k < len ∧ k < 200
          · exfalso; omega
          · have HF := Lib.hid hF
            clear hF
            go_wp2
            all_goals
              go_loopw [11] (fun i wr => ∃ k : Nat, k ≤ n ∧ i = .int .i64 k ∧ Both w wr B p b g n zs zs) (fun i _ => n - (intOf i).toNat)
              case atStart => exact ⟨0, Nat.zero_le _, rfl, HF.out⟩
              case round =>
                clear HF hlt hk hk2
                obtain ⟨k, hk, rfl, hF⟩ := hrel
                by_cases hlt : k < n
                · have hc := hF.cell k hlt
                  have HG := Lib.hid (fun a m wa wb ha => get_at B p b n k zs a _ (hF.drewN m).ring wa wb hlt ha)
                  have H1 := Lib.hid (show (k : Int) % n = k from Int.emod_eq_of_lt (by omega) (by omega))
                  have H2 := Lib.hid (show ((k : Int) - n) % n = k from at2 k n hlt)
                  have H3 := Lib.hid (show ((k : Int) + 3 * n) % n = k from at3 k n hlt)
                  have HF := Lib.hid hF
                  clear hF
                  generalize zs[k]?.getD 0 = q at *
                  go_wp2
                  go_quiet ((go_at_call 15; exact Calls.quiet_of (HG.out _ _ (by omega) (by omega) (by first | exact H1.out | exact H2.out | exact H3.out))))
                  go_wp2
                  go_roundw
                  case rel => exact ⟨k + 1, by omega, by go_num, HF.out.drewN _⟩
                  case measure => simp [intOf]; omega
                · obtain rfl : n = k := by omega
                  have HF := Lib.hid hF.below
                  clear hF
                  go_wp2
                  go_ret
                  exact ⟨rfl, HF.out⟩
  · have HC := Lib.hid hcell
    clear hcell
    go_enter Try.func4, Try.ntmps4
    go_wp2_with fail
    refine (shown_any _).mono ?_
    rintro e u1 ⟨rfl, hB1⟩
    go_wp2_with fail
    refine (few_any _ _).mono ?_
    rintro e u1 ⟨rfl, rfl⟩
    rw [← HN.out]
    go_wp2_with fail
    refine (newI_any _ _ n _ (by omega)).mono ?_
    rintro e w2 ⟨p, b, rfl, hR, hB2⟩
    have HR := Lib.hid hR
    have HB := Lib.hid (hB1.trans (hB2.mono hB1.size))
    have hs1 := hB1.size
    clear hR hB2 hB1
    go_wp2_with (at_make; refine wpList_make_full _ rfl _ _ 28 rfl w2.heap.size 3 i0 (.int .i64 0) 1 Try.underlying28 hi hz0 hz1 .i64 .i64 _ _ n rfl rfl rfl rfl c3 c4 (Nat.le_refl _) ?_; intro w3 hown hgr)
    have hB3 := Both.start hs1 HR.out HB.out hown hgr
    generalize u1.heap.size = B at *
    generalize w2.heap.size = g at *
    have HB3 := Lib.hid hB3
    clear hB3 hown hgr HR HB
    go_loopw [8] (fun i wr => ∃ (k : Nat) (ys : List Int), k ≤ n ∧ i = .int .i64 k ∧ Both w wr B p b g n (List.replicate n (-1)) ys ∧ ∀ j, j < k → ys[j]? = some (-1)) (fun i _ => n - (intOf i).toNat)
    case atStart => exact ⟨0, _, Nat.zero_le _, rfl, HB3.out, fun j hj => by omega⟩
    case round =>
      clear HB3
      obtain ⟨k, ys, hk, rfl, hF, hys⟩ := hrel
      by_cases hlt : k < n
      · have hc := hF.cell k hlt
        have hfz := hF.free k
        have hS := hF.store k (-1)
        have hA := all_set ys n k hF.len hlt hys
        have HH := Lib.hid (And.intro hS hA)
        clear hS hA hys
        go_wp2
        go_roundw
        case rel => exact ⟨k + 1, _, by omega, by go_num, HH.out.1, HH.out.2⟩
        case measure => simp [intOf]; omega
      · obtain rfl : n = k := by omega
        obtain rfl := all_done ys n hF.len hys
        have HF := Lib.hid hF
        clear hF hys
        go_wp2
        go_loopw [9] (fun i wr => ∃ (k : Nat) (zs : List Int), k ≤ len ∧ k ≤ 200 ∧ i = .int .i64 k ∧ Both w wr B p b g n zs zs) (fun i _ => 200 - (intOf i).toNat)
        case atStart => exact ⟨0, _, Nat.zero_le _, Nat.zero_le _, rfl, HF.out⟩
        case round =>
          clear HF hlt hk
          obtain ⟨k, zs, hk, hk2, rfl, hF⟩ := hrel
          by_cases hlt : k < len ∧ k < 200
          · obtain ⟨hlt, hlt2⟩ := hlt
            have hz1 := HZ.out k hlt
            have hq := (hF.below.cell (p := ⟨blk, off + k, none⟩) hblk).trans (HC.out k hlt)
            generalize z[k]?.getD 0 = q at *
            obtain ⟨q1, q2⟩ := hz1
            have m0 := Int.emod_nonneg q (by omega : (n : Int) ≠ 0)
            have m1 := Int.emod_lt_of_pos q (by omega : 0 < (n : Int))
            have HF := Lib.hid hF
            have hidx : (0 ≤ q) ∨ (q < 0 ∧ q.tmod n < 0 ∧ -n < q.tmod n ∧ Hid (q.tmod n + n = q % n)) ∨ (q < 0 ∧ 0 ≤ q.tmod n ∧ q.tmod n < n ∧ Hid (q.tmod n = q % n)) := by
              by_cases s1 : 0 ≤ q
              · exact .inl s1
              · obtain ⟨t1, t2, t3, t4⟩ := tmod_neg q n (by omega) (by omega)
                by_cases s2 : q.tmod n < 0
                · exact .inr (.inl ⟨by omega, s2, t2, Lib.hid (t3 s2).symm⟩)
                · exact .inr (.inr ⟨by omega, by omega, by omega, Lib.hid (t4 (by omega)).symm⟩)
            clear hF
            rcases hidx with s1 | ⟨s1, s2, s3, s4⟩ | ⟨s1, s2, s3, s4⟩
            · go_wp2_with fail
              refine (set_strong B p b n _ q k _ HF.out.ring q1 q2).mono ?_
              rintro e w4 ⟨rfl, hR4, hg4⟩
              have hF4 := HF.out.set _ _ hR4 hg4
              have hq4 := (hF4.below.cell (p := ⟨blk, off + k, none⟩) hblk).trans ((HF.out.below.cell (p := ⟨blk, off + k, none⟩) hblk).symm.trans hq)
              have hc5 := hF4.cell (q % n).toNat (by omega)
              have hf5 := hF4.free (q % n).toNat
              have HS := Lib.hid (hF4.store (q % n).toNat k)
              clear hF4 hR4 hg4 hq
              go_wp2_with fail
              go_roundw
              case rel => exact ⟨k + 1, _, by omega, by omega, by go_num, HS.out⟩
              case measure => simp [intOf]; omega
            · go_wp2_with fail
              refine (set_strong B p b n _ q k _ HF.out.ring q1 q2).mono ?_
              rintro e w4 ⟨rfl, hR4, hg4⟩
              have hF4 := HF.out.set _ _ hR4 hg4
              have hq4 := (hF4.below.cell (p := ⟨blk, off + k, none⟩) hblk).trans ((HF.out.below.cell (p := ⟨blk, off + k, none⟩) hblk).symm.trans hq)
              have hc5 := hF4.cell (q % n).toNat (by omega)
              have hf5 := hF4.free (q % n).toNat
              have HS := Lib.hid (hF4.store (q % n).toNat k)
              rw [← s4.out] at hc5 hf5 HS
              clear hF4 hR4 hg4 hq
              go_wp2_with fail
              go_roundw
              case rel => exact ⟨k + 1, _, by omega, by omega, by go_num, HS.out⟩
              case measure => simp [intOf]; omega
            · go_wp2_with fail
              refine (set_strong B p b n _ q k _ HF.out.ring q1 q2).mono ?_
              rintro e w4 ⟨rfl, hR4, hg4⟩
              have hF4 := HF.out.set _ _ hR4 hg4
              have hq4 := (hF4.below.cell (p := ⟨blk, off + k, none⟩) hblk).trans ((HF.out.below.cell (p := ⟨blk, off + k, none⟩) hblk).symm.trans hq)
              have hc5 := hF4.cell (q % n).toNat (by omega)
              have hf5 := hF4.free (q % n).toNat
              have HS := Lib.hid (hF4.store (q % n).toNat k)
              rw [← s4.out] at hc5 hf5 HS
              clear hF4 hR4 hg4 hq
              go_wp2_with fail
              go_roundw
              case rel => exact ⟨k + 1, _, by omega, by omega, by go_num, HS.out⟩
              case measure => simp [intOf]; omega
          · have HF := Lib.hid hF
            clear hF
            go_wp2
            all_goals
              go_loopw [11] (fun i wr => ∃ k : Nat, k ≤ n ∧ i = .int .i64 k ∧ Both w wr B p b g n zs zs) (fun i _ => n - (intOf i).toNat)
              case atStart => exact ⟨0, Nat.zero_le _, rfl, HF.out⟩
              case round =>
                clear HF hlt hk hk2
                obtain ⟨k, hk, rfl, hF⟩ := hrel
                by_cases hlt : k < n
                · have hc := hF.cell k hlt
                  have HG := Lib.hid (fun a m wa wb ha => get_at B p b n k zs a _ (hF.drewN m).ring wa wb hlt ha)
                  have H1 := Lib.hid (show (k : Int) % n = k from Int.emod_eq_of_lt (by omega) (by omega))
                  have H2 := Lib.hid (show ((k : Int) - n) % n = k from at2 k n hlt)
                  have H3 := Lib.hid (show ((k : Int) + 3 * n) % n = k from at3 k n hlt)
                  have HF := Lib.hid hF
                  clear hF
                  generalize zs[k]?.getD 0 = q at *
                  go_wp2
                  go_quiet ((go_at_call 15; exact Calls.quiet_of (HG.out _ _ (by omega) (by omega) (by first | exact H1.out | exact H2.out | exact H3.out))))
                  go_wp2
                  go_roundw
                  case rel => exact ⟨k + 1, by omega, by go_num, HF.out.drewN _⟩
                  case measure => simp [intOf]; omega
                · obtain rfl : n = k := by omega
                  have HF := Lib.hid hF.below
                  clear hF
                  go_wp2
                  go_ret
                  exact ⟨rfl, HF.out⟩

theorem walk (a0 : Int) (a1 : Option Addr) (len1 cap1 : Nat) (z1 : List Int) (w : World) (w0 : (Lit.int .i64 a0).wf = true) (w1 : IsRow .i64 w a1 len1 cap1 z1) :
    Calls Try.prog 4 #[.int .i64 a0, .slice a1 len1 cap1] w fun e w' => e = .returned (.bool true) ∧ Below w.heap.size w w' := by
  rcases w1 with ⟨rfl, rfl, rfl, rfl⟩ | ⟨x, rfl, hl, hm, hz, hcell, hwz⟩
  · exact walk_row a0 none 0 0 [] w (by unfold maxLen; omega) (fun i hi => by omega) (.inl rfl)
  · refine walk_row a0 _ len1 cap1 z1 w (by omega) (fun i hi => ?_) ?_
    · have hi2 : i < z1.length := by omega
      rw [List.getElem?_eq_getElem hi2, Option.getD_some]
      exact bounds_i64 (hwz _ (List.getElem_mem hi2))
    · by_cases h0 : len1 = 0
      · exact .inl h0
      · right
        obtain ⟨blk, off, spot⟩ := x
        have hc := hcell 0 (by omega)
        have hspot : spot = none := by simpa [Addr.add] using World.cell?_spot hc
        subst hspot
        refine ⟨blk, off, rfl, World.block_lt_of_cell? w ⟨blk, off, none⟩ (by simpa [Addr.add] using hc), fun i hi => ?_⟩
        have h := hcell i (by omega)
        by_cases e : i = 0
        · subst e; simpa [Addr.add] using h
        · simpa [Addr.add, e] using h
set_option maxRecDepth 100000 in
theorem lifted (os : Os) (started : os.Started) (H : Type) (enc : TypeId × Value → H) :
    ReturnsInHanded {} Try.checked os 4 .any (Rows.ringKeepsSpec.pre6 enc Try.prog Try.f4 Rows.ringKeepsRow.domain false) (Rows.ringKeepsSpec.post enc Try.prog Try.f4 false true false false) := by
  refine returnsInHanded_of_change (C := Try.checked) own started (by kernel_rfl) Try.func4
    (ChangeSpec.witness6 (enc := enc) (C := Try.checked) false ⟨#[], #[.int .i64 0, .slice none 0 0], []⟩ 8 (by kernel_rfl) (by kernel_rfl) (by kernel_rfl) (by kernel_rfl)) ?_
  intro W base args ds gs before hval0 hW hcnd _
  have hval : ∀ (j : Nat) t v, Try.f4.params[j]? = some t → args[j]? = some v → Value.okWide Try.prog W .any base t v := hval0
  have hW' := hW
  obtain ⟨p, q, hA0, hV, rfl, hfz, hnd⟩ := hW
  have hA : DataW.TrodAll enc Try.prog W 0 (fun _ => true) true Try.f4.params.toList args.toList ds p := hA0
  rw [Try.params4] at hA hval
  obtain ⟨v0, vs0, d0, ds0, p0, q0, hargs, rfl, rfl, h0, r0⟩ := trodAll_cons hA
  obtain ⟨v1, vs1, d1, ds1, p1, q1, rfl, rfl, rfl, h1, r1⟩ := trodAll_cons r0
  obtain ⟨rfl, rfl, rfl⟩ := trodAll_nil r1
  obtain rfl : args = #[v0, v1] := by cases args; simp_all
  obtain ⟨rfl, rfl⟩ := trodVars_none hV
  obtain ⟨a0, rfl, rfl, rfl, w0⟩ := open_int Try.underlying3 (hval 0 3 v0 rfl rfl) h0
  obtain ⟨a1, len1, cap1, rfl⟩ := okWide_slice Try.underlying28 (hval 1 28 v1 rfl rfl)
  have k1 := h1
  have lt1 : ∀ x ∈ p1, x.block < W.heap.size := by obtain ⟨m, hm⟩ := k1; exact DataW.trod_lt m _ _ _ hm
  obtain ⟨z1, w1⟩ : ∃ zs, IsRow .i64 W a1 len1 cap1 zs := by
    obtain ⟨fuel, hf⟩ := h1
    rcases open_ints Try.underlying28 Try.underlying3 (by kernel_rfl) hf with ⟨hcs, _⟩ | ⟨x, l, c, zs, hcs, _, hl, hm, hz, _, hcell, hwz⟩
    · simp [Value.cells] at hcs
      obtain ⟨rfl, rfl, rfl⟩ := hcs
      exact ⟨[], .inl ⟨rfl, rfl, rfl, rfl⟩⟩
    · simp [Value.cells] at hcs
      obtain ⟨rfl, rfl, rfl⟩ := hcs
      exact ⟨zs, .inr ⟨_, rfl, hl, hm, by simpa using hz, hcell, hwz⟩⟩
  clear hA0 hval0
  refine (walk a0 a1 len1 cap1 z1 W w0 w1).mono fun e W' ⟨he, bel⟩ => ?_
  subst he
  exact ⟨_, rfl, _, _, _, [], _, [], hW', trodAll_mk1 (shut_bool Try.underlying4 _), (trodAll_cons_mk (shut_int Try.underlying3 w0) (trodAll_cons_mk (Below.trod laidOut (by kernel_rfl) (of_decide_eq_true (by kernel_rfl)) k1 bel lt1) trodAll_mk0)), rfl, bel.frame _, fun h => by cases h⟩

theorem over : Rows.ringKeepsRow.holds Try.pinned (OpenSpec.ofChange Rows.ringKeepsSpec) :=
  OpenClaim.holds_of_wide 4 Try.f4 rfl rfl rfl rfl rfl rfl rfl ⟨rfl, rfl, rfl, rfl, rfl⟩ rfl rfl rfl rfl rfl (by kernel_rfl) Try.func4 (by kernel_rfl)
    (of_decide_eq_true (by kernel_rfl)) (by unfold Func.isWrapper; first | (rw [if_pos (by decide +kernel)]; kernel_rfl) | (rw [if_neg (by decide +kernel)]; exact ⟨rfl, rfl⟩))
    (fun os started H enc _ => lifted os started H enc)

/-- THE STATEMENT. -/
theorem proved : Rows.RingKeepsSaid := over
#print axioms proved
end Go.Proofs.Ytdacnlcalcgjiaa.ringKeeps
