/-
  DeviceLast answers true, whatever the input.
-/
import Derived.Test.YthdgfhkihhamnaaCalm
import Derived.Deep.Grids
namespace Go.Proofs.Ythdgfhkihhamnaa.deviceLast
open Go.ChangeShapes Go.WideShapes Go.ChangeAt Go.RowKit
set_option linter.unusedVariables false

theorem own : ownKnob Try.prog.godebug = none := by kernel_rfl
theorem laidOut : laidOutB Try.prog = true := by kernel_rfl

/-- What the walk is told of a slice of ints that came in: nil, or a row of cap cells, the numbers zs, the first len its elements. -/
def IsRow (k : IntKind) (w : World) (a : Option Addr) (len cap : Nat) (zs : List Int) : Prop :=
  (a = none ∧ len = 0 ∧ cap = 0 ∧ zs = []) ∨
  ∃ x, a = some x ∧ len ≤ cap ∧ cap ≤ maxLen ∧ zs.length = cap ∧ (∀ i, i < zs.length → w.cell? (x.add i) = some (.int k (zs.getD i 0))) ∧ ∀ n ∈ zs, (Lit.int k n).wf = true

/-- A slice of bools that came in. -/
def IsBools (w : World) (a : Option Addr) (len cap : Nat) (B : Nat → Bool) : Prop :=
  (a = none ∧ len = 0 ∧ cap = 0) ∨ ∃ x, a = some x ∧ len ≤ cap ∧ cap ≤ maxLen ∧ ∀ i, i < cap → w.cell? (x.add i) = some (.bool (B i))

theorem and65535 (n : Int) : bits .and .i64 n 65535 = n % 65536 := by
  have h : (BitVec.ofInt 64 65535).toNat = 2 ^ 16 - 1 := by decide
  have key : (BitVec.ofInt 64 n &&& BitVec.ofInt 64 65535).toNat = (n % ((2 ^ 64 : Nat) : Int)).toNat % 2 ^ 16 := by
    rw [BitVec.toNat_and, BitVec.toNat_ofInt, h, Nat.and_two_pow_sub_one_eq_mod]
  show IntKind.i64.wrap ((BitVec.ofInt 64 n &&& BitVec.ofInt 64 65535).toNat : Nat) = n % 65536
  rw [key, IntKind.wrap_i64]
  omega
attribute [local go_sem] and65535

theorem made_ints {w w1 : World} {B n : Nat} (hown : w1.ownsRow B 3 1 (.slice (some ⟨w.heap.size, 0, none⟩) n n) n (madeCells #[.int .i64 0] (n * 1)).toList) : IntsAt w1 w.heap.size (List.replicate n 0) := by
  obtain ⟨h1, h2⟩ := hown
  rcases h2 with ⟨h2, _⟩ | ⟨g, cap, cur, hv, hb, hh, hn, hc, hs, ht⟩
  · simp at h2
  · simp only [Value.slice.injEq, Option.some.injEq, Addr.mk.injEq, and_true, true_and] at hv
    obtain ⟨rfl, rfl⟩ := hv
    unfold IntsAt
    rw [hh]
    have e : cur.toList = (List.replicate n (0 : Int)).map (Value.int .i64) := by
      rw [Nat.mul_one, toList_madeCells_one] at ht
      rw [List.take_of_length_le (by rw [Array.length_toList]; omega)] at ht
      rw [ht]; simp
    rw [← e]
structure LW (w wr : World) (B dp lb : Nat) (Z : Nat → Prop) (D : Dev) (ys : List Int) (k r f : Int) : Prop where
  dev : In B Z wr dp D
  row : IntsAt wr lb ys
  nz : ¬ Z lb
  lo : w.heap.size ≤ lb
  tells : Tells D 5 ys k
  r0 : 0 ≤ D.r
  r1 : D.r ≤ r
  f0 : 0 ≤ D.f
  f1 : D.f ≤ f
  bel : Below w.heap.size w wr
  wB : w.heap.size ≤ B
  BW : B ≤ wr.heap.size
section
variable {w wr w' : World} {B dp lb : Nat} {Z Z' : Nat → Prop} {D D' : Dev} {ys : List Int} {k r f : Int}
theorem LW.below (h : LW w wr B dp lb Z D ys k r f) (hb : Below wr.heap.size wr w') : LW w w' B dp lb Z D ys k r f :=
  ⟨h.dev.below hb, h.row.below hb, h.nz, h.lo, h.tells, h.r0, h.r1, h.f0, h.f1, h.bel.trans (hb.mono h.bel.size), h.wB, Nat.le_trans h.BW hb.size⟩
theorem LW.read (h : LW w wr B dp lb Z D ys k r f) (hI : In B Z w' dp D.read) (hS : Step Z Z wr w') : LW w w' B dp lb Z D.read ys k (r + 1) f := by
  obtain ⟨t1, t2, t3⟩ := h.tells.read
  have := h.r0; have := h.r1; have := h.f0; have := h.f1
  exact ⟨hI, h.row.step h.nz hS, h.nz, h.lo, t1, by omega, by omega, by omega, by omega, h.bel.trans (hS.below (fun k hk => Nat.le_trans h.wB (h.dev.lo k hk)) h.bel.size), h.wB, Nat.le_trans h.BW hS.out.size⟩
theorem LW.flush (h : LW w wr B dp lb Z D ys k r f) (hI : In B Z w' dp D.flush) (hS : Step Z Z wr w') : LW w w' B dp lb Z D.flush ys k r (f + 1) := by
  obtain ⟨t1, t2, t3⟩ := h.tells.flush
  have := h.r0; have := h.r1; have := h.f0; have := h.f1
  exact ⟨hI, h.row.step h.nz hS, h.nz, h.lo, t1, by omega, by omega, by omega, by omega, h.bel.trans (hS.below (fun k hk => Nat.le_trans h.wB (h.dev.lo k hk)) h.bel.size), h.wB, Nat.le_trans h.BW hS.out.size⟩
theorem LW.more (h : LW w wr B dp lb Z D ys k r f) {r' f' : Int} (h1 : r ≤ r') (h2 : f ≤ f') : LW w wr B dp lb Z D ys k r' f' :=
  ⟨h.dev, h.row, h.nz, h.lo, h.tells, h.r0, Int.le_trans h.r1 h1, h.f0, Int.le_trans h.f1 h2, h.bel, h.wB, h.BW⟩
/-- A round's store and Write. -/
theorem LW.write (h : LW w wr B dp lb Z D ys k r f) (j : Nat) (hj : j < 5) (hk : k + 1 ≠ 0) {u : World} (hl : Below (wr.setCell ⟨lb, j, none⟩ (.int .i64 (k + 1))).heap.size (wr.setCell ⟨lb, j, none⟩ (.int .i64 (k + 1))) u)
    (hI : In B Z' w' dp (D.write j (sec (k + 1)))) (hS : Step Z Z' u w') : LW w w' B dp lb Z' (D.write j (sec (k + 1))) (ys.set j (k + 1)) (k + 1) r f := by
  obtain ⟨t1, t2, t3⟩ := h.tells.write j hj (k + 1) hk
  have := h.r0; have := h.r1; have := h.f0; have := h.f1
  have hs : (wr.setCell ⟨lb, j, none⟩ (.int .i64 (k + 1))).heap.size = wr.heap.size := World.size_setCell _ _ _
  have r1 := (h.row.set j (k + 1)).below hl
  have hsz : wr.heap.size ≤ u.heap.size := by rw [← hs]; exact hl.size
  have b1 : Below w.heap.size wr u := ((Below.refl w.heap.size wr).setCell (p := ⟨lb, j, none⟩) h.lo _).trans (hl.mono (by rw [hs]; exact h.bel.size))
  refine ⟨hI, r1.step h.nz hS, fun e => h.nz (hS.new lb r1.lt e), h.lo, t1, by omega, by omega, by omega, by omega, (h.bel.trans b1).trans (hS.below (fun k hk => Nat.le_trans h.wB (h.dev.lo k hk)) (Nat.le_trans h.bel.size hsz)), h.wB, Nat.le_trans (Nat.le_trans h.BW hsz) hS.out.size⟩
theorem LW.stored (h : LW w wr B dp lb Z D ys k r f) (j : Nat) (v : Int) : In B Z (wr.setCell ⟨lb, j, none⟩ (.int .i64 v)) dp D :=
  h.dev.apart (by rw [World.size_setCell]; exact Nat.le_refl _) (fun k hk => Below.heap_setCell wr ⟨lb, j, none⟩ _ k (fun e => h.nz (by have e2 : lb = k := e.symm; rw [e2]; exact hk)))
end

set_option maxRecDepth 100000 in
set_option maxHeartbeats 8000000 in
theorem walk_row (a0 : Option Addr) (len cap : Nat) (z : List Int) (a1 : Option Addr) (flen fcap : Nat) (F : Nat → Bool) (w : World) (hlen : len ≤ maxLen) (hflen : flen ≤ maxLen)
    (hrow : len = 0 ∨ ∃ blk off, a0 = some ⟨blk, off, none⟩ ∧ blk < w.heap.size ∧ ∀ i, i < len → w.cell? ⟨blk, off + i, none⟩ = some (.int .i64 (z[i]?.getD 0)))
    (hfl : flen = 0 ∨ ∃ blk off, a1 = some ⟨blk, off, none⟩ ∧ blk < w.heap.size ∧ ∀ i, i < flen → w.cell? ⟨blk, off + i, none⟩ = some (.bool (F i))) :
    Calls Try.prog 4 #[.slice a0 len cap, .slice a1 flen fcap] w fun e w' => e = .returned (.bool true) ∧ Below w.heap.size w w' := by
  obtain ⟨i0, hi, hz0, hz1, hz2⟩ := info_parts Try.info5
  obtain ⟨i3, hi3, hy0, hy1, hy2⟩ := info_parts Try.info3
  unfold maxLen at hlen hflen
  have HR := Lib.hid hrow
  have HF := Lib.hid hfl
  clear hrow hfl
  go_enter Try.func4, Try.ntmps4
  go_wp2_with fail
  refine (shown_any _).mono ?_
  rintro e u0 ⟨rfl, hB0⟩
  have HB0 := Lib.hid hB0
  clear hB0
  go_wp2_with fail
  refine (new_in _ 5 5 rfl (by omega) (by omega)).mono ?_
  rintro e u1 ⟨dp, Z, rfl, hI, hB⟩
  have H1 := Lib.hid (And.intro hI (And.intro (HB0.out.trans (hB.mono HB0.out.size)) hB.size))
  clear hI hB
  go_wp2_with (at_make; refine wpList_make_full _ rfl _ _ 36 rfl u1.heap.size 3 i3 (.int .i64 0) 1 Try.underlying36 hi3 hy0 hy1 .i64 .i64 _ _ 5 rfl rfl rfl rfl (by rw [hy2]; decide) (by unfold maxLen; decide) (Nat.le_refl _) ?_; intro u2 hown hgr; have HM := Lib.hid (And.intro hown ((Below.refl _ _).grown hgr (Nat.le_refl _) (fun k e => by cases e))); clear hown hgr)
  have hst : LW w u2 u0.heap.size dp u1.heap.size Z (Dev.fresh 5) (List.replicate 5 0) 0 0 0 := by
    have hs := H1.out.2.1.size
    have h0 := HB0.out.size
    refine ⟨H1.out.1.below HM.out.2, made_ints HM.out.1, fun e => Nat.lt_irrefl _ (H1.out.1.hi _ e), hs, Tells.fresh 5, by decide, by decide, by decide, by decide, H1.out.2.1.trans (HM.out.2.mono hs), h0, Nat.le_trans H1.out.2.2 HM.out.2.size⟩
  generalize u0.heap.size = B at *
  generalize u1.heap.size = lb at *
  have HS := Lib.hid hst
  clear hst HM H1
  rcases HR.out with hl0 | ⟨blk, off, rfl, hblk, hcell⟩
  · subst hl0
    go_wp2
    refine wp_loop_rounds 1 ?_
    rw [rounds_succ]
    go_wp2
    go_ret
    exact ⟨rfl, HS.out.bel⟩
  have HC := Lib.hid hcell
  clear hcell
  go_wp2_with fail
  go_loopw [9] (fun i wr => ∃ (k : Nat) (D : Dev) (Z : Nat → Prop) (ys : List Int), k ≤ len ∧ k ≤ 60 ∧ i = .int .i64 k ∧ LW w wr B dp lb Z D ys k (5 * k) k) (fun i _ => 60 - (intOf i).toNat)
  case atStart => exact ⟨0, _, _, _, by omega, by omega, rfl, HS.out⟩
  case round =>
    clear HS
    obtain ⟨k, D, Z1, ys, hk, hk6, rfl, hW⟩ := hrel
    have HW := Lib.hid hW
    clear hW
    by_cases hlt : k < len ∧ k < 60
    · obtain ⟨hlt, hlt6⟩ := hlt
      have cz : wr.cell? ⟨blk, off + k, none⟩ = some (.int .i64 (z[k]?.getD 0)) := (HW.out.bel.cell (p := ⟨blk, off + k, none⟩) hblk).trans (HC.out k hlt)
      generalize z[k]?.getD 0 = v at *
      obtain ⟨j, hj⟩ : ∃ j : Nat, v % 65536 % 5 = j := ⟨(v % 65536 % 5).toNat, by omega⟩
      have hj5 : j < 5 := by omega
      have cl := HW.out.row.cell j (by rw [HW.out.tells.len]; exact hj5)
      have fl := HW.out.row.free j
      go_wp2_with fail
      refine (sector_in (k + 1) _).mono ?_
      rintro e u3 ⟨rfl, hb, hl⟩
      have hst := HW.out.stored j (k + 1)
      have hI3 := hst.below hl
      have hf3 := Free.new hb hst.hi
      rw [World.size_setCell] at hf3
      have hs3 := hl.size
      rw [World.size_setCell] at hs3
      have HT := Lib.hid (And.intro hI3 (And.intro hf3 (And.intro hl (Nat.le_trans HW.out.BW hs3))))
      clear hst hI3 hf3 hl hb hs3
      go_wp2_with fail
      refine (write_in HT.out.1 HT.out.2.2.2 j (HW.out.tells.has j hj5) _ (sec (k + 1)) HT.out.2.1 (sec_len _) (by rw [HW.out.tells.w]; omega) (by rw [HW.out.tells.w]; omega)).mono ?_
      rintro e w4 ⟨Z', rfl, hI, hS⟩
      rw [HW.out.tells.calm.err]
      have hW4 := HW.out.write j hj5 (by omega) HT.out.2.2.1 hI hS
      have HV := Lib.hid hW4
      clear hI hS hW4
      obtain ⟨fc, hfc⟩ : ∃ b : Bool, b = decide (k < flen) := ⟨_, rfl⟩
      cases fc with
      | false =>
        have hge : ¬ k < flen := of_decide_eq_false hfc.symm
        have d2 : decide ((k : Int) < flen) = false := by rw [decide_eq_false_iff_not]; omega
        have HW := Lib.hid (show LW w w4 B dp lb Z' (D.write j (sec (k + 1))) (ys.set j (k + 1)) (k + 1) (5 * k + (0 : Nat)) (k + 1) from HV.out.more (by omega) (by omega))
        clear hfc
        go_wp2_with fail
        go_loopw [11] (fun i wr => ∃ (m : Nat) (D' : Dev), m ≤ 5 ∧ i = .int .i64 m ∧ LW w wr B dp lb Z' D' (ys.set j (k + 1)) (k + 1) (5 * k + m) (k + 1)) (fun i _ => 5 - (intOf i).toNat)
        case atStart => exact ⟨0, _, by omega, rfl, HW.out⟩
        case round =>
          clear HW
          obtain ⟨m, D', hm, rfl, hF⟩ := hrel
          by_cases hml : m < 5
          · have hlen : (ys.set j ((k : Int) + 1)).length = 5 := hF.tells.len
            have cm := hF.row.cell m (by omega)
            have ha := hF.tells.answer m hml
            have hh := hF.tells.has m hml
            have HF := Lib.hid (And.intro hF (And.intro ha hh))
            clear hF ha hh hlen
            generalize (ys.set j ((k : Int) + 1))[m]?.getD 0 = y at *
            go_wp2_with fail
            refine (sector_in y _).mono ?_
            rintro e u3 ⟨rfl, hb, hl⟩
            have cm3 := (hl.cell (p := ⟨lb, m, none⟩) HF.out.1.row.lt).trans cm
            by_cases hy : y = 0
            · subst hy
              have HL := Lib.hid hl
              clear hl hb
              go_wp2_with (at_make; refine wpList_make_full _ rfl _ _ 29 rfl u3.heap.size 5 i0 (.int .u8 0) 1 Try.underlying29 hi hz0 hz1 .i64 .i64 _ _ 512 rfl rfl rfl rfl (by rw [hz2]; decide) (by unfold maxLen; decide) (Nat.le_refl _) ?_; intro u4 hown hgr; have HN := Lib.hid (And.intro (made_bytes hown) ((Below.refl _ _).grown hgr (Nat.le_refl _) (fun k e => by cases e))); clear hown hgr)
              have hl2 := HL.out.trans (HN.out.2.mono HL.out.size)
              have hG := HF.out.1.below hl2
              have hfr := Free.new HN.out.1 (HF.out.1.dev.below HL.out).hi
              refine (read_got hG.dev m noughts (by rw [HF.out.2.1]; simp) HF.out.2.2 hG.r0 (by have := hG.r1; omega) (by rw [hG.tells.w]; omega)).mono ?_
              rintro e u5 ⟨u, rfl, hf, _, _, hI, hS⟩
              have hf2 := hfr.step hS
              have hR := hG.read hI hS
              have HR := Lib.hid (And.intro hR (And.intro hf.bytes hf2.bytes))
              clear hG hfr hf hf2 hI hS hR hl2
              go_wp2_with (go_at_call 16; refine (same_yes _ _ _ _ HR.out.2.1 HR.out.2.2 noughts_len).mono ?_; rintro e w' ⟨rfl, rfl⟩)
              go_roundw
              case rel => exact ⟨m + 1, _, by omega, by go_num, by have := HR.out.1; rwa [show 5 * (k : Int) + (m + 1 : Nat) = 5 * k + m + 1 by omega]⟩
              case measure => simp [intOf]; omega
            · have hyb : (y == 0) = false := by rw [beq_eq_false_iff_ne]; exact hy
              have hG := HF.out.1.below hl
              have hfr := Free.new hb HF.out.1.dev.hi
              have HG := Lib.hid (And.intro hG hfr)
              clear hl hb hG hfr
              go_wp2_with fail
              refine (read_got HG.out.1.dev m (sec y) (by rw [HF.out.2.1, if_neg hy]) HF.out.2.2 HG.out.1.r0 (by have := HG.out.1.r1; omega) (by rw [HG.out.1.tells.w]; omega)).mono ?_
              rintro e u5 ⟨u, rfl, hf, _, _, hI, hS⟩
              have hf2 := HG.out.2.step hS
              have hR := HG.out.1.read hI hS
              have HR := Lib.hid (And.intro hR (And.intro hf.bytes hf2.bytes))
              clear hf hf2 hI hS hR
              go_wp2_with (go_at_call 16; refine (same_yes _ _ _ _ HR.out.2.1 HR.out.2.2 (sec_len _)).mono ?_; rintro e w' ⟨rfl, rfl⟩)
              go_roundw
              case rel => exact ⟨m + 1, _, by omega, by go_num, by have := HR.out.1; rwa [show 5 * (k : Int) + (m + 1 : Nat) = 5 * k + m + 1 by omega]⟩
              case measure => simp [intOf]; omega
          · obtain rfl : m = 5 := by omega
            have HF := Lib.hid hF
            clear hF
            go_wp2
            go_roundw
            case rel => exact ⟨k + 1, _, _, _, by omega, by omega, by go_num, by have := HF.out; rwa [show 5 * (k : Int) + (5 : Nat) = 5 * (k + 1 : Nat) by omega, show (k : Int) + 1 = (k + 1 : Nat) by omega] at this⟩
            case measure => simp [intOf]; omega
      | true =>
        have hlf : k < flen := of_decide_eq_true hfc.symm
        have d2 : decide ((k : Int) < flen) = true := by rw [decide_eq_true_iff]; omega
        rcases HF.out with h0 | ⟨fb, fo, rfl, hfb, hfcell⟩
        · omega
        have cf : w4.cell? ⟨fb, fo + k, none⟩ = some (.bool (F k)) := (HV.out.bel.cell (p := ⟨fb, fo + k, none⟩) hfb).trans (hfcell k hlf)
        clear hfcell hfc
        cases hF : F k with
        | false =>
          rw [hF] at cf
          have HW := Lib.hid (show LW w w4 B dp lb Z' (D.write j (sec (k + 1))) (ys.set j (k + 1)) (k + 1) (5 * k + (0 : Nat)) (k + 1) from HV.out.more (by omega) (by omega))
          go_wp2_with fail
          go_loopw [11] (fun i wr => ∃ (m : Nat) (D' : Dev), m ≤ 5 ∧ i = .int .i64 m ∧ LW w wr B dp lb Z' D' (ys.set j (k + 1)) (k + 1) (5 * k + m) (k + 1)) (fun i _ => 5 - (intOf i).toNat)
          case atStart => exact ⟨0, _, by omega, rfl, HW.out⟩
          case round =>
            clear HW
            obtain ⟨m, D', hm, rfl, hF⟩ := hrel
            by_cases hml : m < 5
            · have hlen : (ys.set j ((k : Int) + 1)).length = 5 := hF.tells.len
              have cm := hF.row.cell m (by omega)
              have ha := hF.tells.answer m hml
              have hh := hF.tells.has m hml
              have HF := Lib.hid (And.intro hF (And.intro ha hh))
              clear hF ha hh hlen
              generalize (ys.set j ((k : Int) + 1))[m]?.getD 0 = y at *
              go_wp2_with fail
              refine (sector_in y _).mono ?_
              rintro e u3 ⟨rfl, hb, hl⟩
              have cm3 := (hl.cell (p := ⟨lb, m, none⟩) HF.out.1.row.lt).trans cm
              by_cases hy : y = 0
              · subst hy
                have HL := Lib.hid hl
                clear hl hb
                go_wp2_with (at_make; refine wpList_make_full _ rfl _ _ 29 rfl u3.heap.size 5 i0 (.int .u8 0) 1 Try.underlying29 hi hz0 hz1 .i64 .i64 _ _ 512 rfl rfl rfl rfl (by rw [hz2]; decide) (by unfold maxLen; decide) (Nat.le_refl _) ?_; intro u4 hown hgr; have HN := Lib.hid (And.intro (made_bytes hown) ((Below.refl _ _).grown hgr (Nat.le_refl _) (fun k e => by cases e))); clear hown hgr)
                have hl2 := HL.out.trans (HN.out.2.mono HL.out.size)
                have hG := HF.out.1.below hl2
                have hfr := Free.new HN.out.1 (HF.out.1.dev.below HL.out).hi
                refine (read_got hG.dev m noughts (by rw [HF.out.2.1]; simp) HF.out.2.2 hG.r0 (by have := hG.r1; omega) (by rw [hG.tells.w]; omega)).mono ?_
                rintro e u5 ⟨u, rfl, hf, _, _, hI, hS⟩
                have hf2 := hfr.step hS
                have hR := hG.read hI hS
                have HR := Lib.hid (And.intro hR (And.intro hf.bytes hf2.bytes))
                clear hG hfr hf hf2 hI hS hR hl2
                go_wp2_with (go_at_call 16; refine (same_yes _ _ _ _ HR.out.2.1 HR.out.2.2 noughts_len).mono ?_; rintro e w' ⟨rfl, rfl⟩)
                go_roundw
                case rel => exact ⟨m + 1, _, by omega, by go_num, by have := HR.out.1; rwa [show 5 * (k : Int) + (m + 1 : Nat) = 5 * k + m + 1 by omega]⟩
                case measure => simp [intOf]; omega
              · have hyb : (y == 0) = false := by rw [beq_eq_false_iff_ne]; exact hy
                have hG := HF.out.1.below hl
                have hfr := Free.new hb HF.out.1.dev.hi
                have HG := Lib.hid (And.intro hG hfr)
                clear hl hb hG hfr
                go_wp2_with fail
                refine (read_got HG.out.1.dev m (sec y) (by rw [HF.out.2.1, if_neg hy]) HF.out.2.2 HG.out.1.r0 (by have := HG.out.1.r1; omega) (by rw [HG.out.1.tells.w]; omega)).mono ?_
                rintro e u5 ⟨u, rfl, hf, _, _, hI, hS⟩
                have hf2 := HG.out.2.step hS
                have hR := HG.out.1.read hI hS
                have HR := Lib.hid (And.intro hR (And.intro hf.bytes hf2.bytes))
                clear hf hf2 hI hS hR
                go_wp2_with (go_at_call 16; refine (same_yes _ _ _ _ HR.out.2.1 HR.out.2.2 (sec_len _)).mono ?_; rintro e w' ⟨rfl, rfl⟩)
                go_roundw
                case rel => exact ⟨m + 1, _, by omega, by go_num, by have := HR.out.1; rwa [show 5 * (k : Int) + (m + 1 : Nat) = 5 * k + m + 1 by omega]⟩
                case measure => simp [intOf]; omega
            · obtain rfl : m = 5 := by omega
              have HF := Lib.hid hF
              clear hF
              go_wp2
              go_roundw
              case rel => exact ⟨k + 1, _, _, _, by omega, by omega, by go_num, by have := HF.out; rwa [show 5 * (k : Int) + (5 : Nat) = 5 * (k + 1 : Nat) by omega, show (k : Int) + 1 = (k + 1 : Nat) by omega] at this⟩
              case measure => simp [intOf]; omega
        | true =>
          rw [hF] at cf
          go_wp2_with fail
          refine (flush_in HV.out.dev (by rw [HV.out.tells.w]; omega) HV.out.f0 (by have := HV.out.f1; omega)).mono ?_
          rintro e w5 ⟨rfl, hI, hS⟩
          rw [HV.out.tells.calm.err]
          have hW5 := HV.out.flush hI hS
          have HW := Lib.hid (show LW w w5 B dp lb Z' (D.write j (sec (k + 1))).flush (ys.set j (k + 1)) (k + 1) (5 * k + (0 : Nat)) (k + 1) from hW5.more (by omega) (by omega))
          clear hI hS hW5
          go_wp2_with fail
          go_loopw [11] (fun i wr => ∃ (m : Nat) (D' : Dev), m ≤ 5 ∧ i = .int .i64 m ∧ LW w wr B dp lb Z' D' (ys.set j (k + 1)) (k + 1) (5 * k + m) (k + 1)) (fun i _ => 5 - (intOf i).toNat)
          case atStart => exact ⟨0, _, by omega, rfl, HW.out⟩
          case round =>
            clear HW
            obtain ⟨m, D', hm, rfl, hF⟩ := hrel
            by_cases hml : m < 5
            · have hlen : (ys.set j ((k : Int) + 1)).length = 5 := hF.tells.len
              have cm := hF.row.cell m (by omega)
              have ha := hF.tells.answer m hml
              have hh := hF.tells.has m hml
              have HF := Lib.hid (And.intro hF (And.intro ha hh))
              clear hF ha hh hlen
              generalize (ys.set j ((k : Int) + 1))[m]?.getD 0 = y at *
              go_wp2_with fail
              refine (sector_in y _).mono ?_
              rintro e u3 ⟨rfl, hb, hl⟩
              have cm3 := (hl.cell (p := ⟨lb, m, none⟩) HF.out.1.row.lt).trans cm
              by_cases hy : y = 0
              · subst hy
                have HL := Lib.hid hl
                clear hl hb
                go_wp2_with (at_make; refine wpList_make_full _ rfl _ _ 29 rfl u3.heap.size 5 i0 (.int .u8 0) 1 Try.underlying29 hi hz0 hz1 .i64 .i64 _ _ 512 rfl rfl rfl rfl (by rw [hz2]; decide) (by unfold maxLen; decide) (Nat.le_refl _) ?_; intro u4 hown hgr; have HN := Lib.hid (And.intro (made_bytes hown) ((Below.refl _ _).grown hgr (Nat.le_refl _) (fun k e => by cases e))); clear hown hgr)
                have hl2 := HL.out.trans (HN.out.2.mono HL.out.size)
                have hG := HF.out.1.below hl2
                have hfr := Free.new HN.out.1 (HF.out.1.dev.below HL.out).hi
                refine (read_got hG.dev m noughts (by rw [HF.out.2.1]; simp) HF.out.2.2 hG.r0 (by have := hG.r1; omega) (by rw [hG.tells.w]; omega)).mono ?_
                rintro e u5 ⟨u, rfl, hf, _, _, hI, hS⟩
                have hf2 := hfr.step hS
                have hR := hG.read hI hS
                have HR := Lib.hid (And.intro hR (And.intro hf.bytes hf2.bytes))
                clear hG hfr hf hf2 hI hS hR hl2
                go_wp2_with (go_at_call 16; refine (same_yes _ _ _ _ HR.out.2.1 HR.out.2.2 noughts_len).mono ?_; rintro e w' ⟨rfl, rfl⟩)
                go_roundw
                case rel => exact ⟨m + 1, _, by omega, by go_num, by have := HR.out.1; rwa [show 5 * (k : Int) + (m + 1 : Nat) = 5 * k + m + 1 by omega]⟩
                case measure => simp [intOf]; omega
              · have hyb : (y == 0) = false := by rw [beq_eq_false_iff_ne]; exact hy
                have hG := HF.out.1.below hl
                have hfr := Free.new hb HF.out.1.dev.hi
                have HG := Lib.hid (And.intro hG hfr)
                clear hl hb hG hfr
                go_wp2_with fail
                refine (read_got HG.out.1.dev m (sec y) (by rw [HF.out.2.1, if_neg hy]) HF.out.2.2 HG.out.1.r0 (by have := HG.out.1.r1; omega) (by rw [HG.out.1.tells.w]; omega)).mono ?_
                rintro e u5 ⟨u, rfl, hf, _, _, hI, hS⟩
                have hf2 := HG.out.2.step hS
                have hR := HG.out.1.read hI hS
                have HR := Lib.hid (And.intro hR (And.intro hf.bytes hf2.bytes))
                clear hf hf2 hI hS hR
                go_wp2_with (go_at_call 16; refine (same_yes _ _ _ _ HR.out.2.1 HR.out.2.2 (sec_len _)).mono ?_; rintro e w' ⟨rfl, rfl⟩)
                go_roundw
                case rel => exact ⟨m + 1, _, by omega, by go_num, by have := HR.out.1; rwa [show 5 * (k : Int) + (m + 1 : Nat) = 5 * k + m + 1 by omega]⟩
                case measure => simp [intOf]; omega
            · obtain rfl : m = 5 := by omega
              have HF := Lib.hid hF
              clear hF
              go_wp2
              go_roundw
              case rel => exact ⟨k + 1, _, _, _, by omega, by omega, by go_num, by have := HF.out; rwa [show 5 * (k : Int) + (5 : Nat) = 5 * (k + 1 : Nat) by omega, show (k : Int) + 1 = (k + 1 : Nat) by omega] at this⟩
              case measure => simp [intOf]; omega
    · rcases (show ¬ k < len ∨ (k < len ∧ k = 60) by omega) with h | ⟨h, rfl⟩
      · have d1 : decide ((k : Int) < len) = false := by rw [decide_eq_false_iff_not]; omega
        go_wp2
        go_ret
        exact ⟨rfl, HW.out.bel⟩
      · have d1 : decide (((60 : Nat) : Int) < len) = true := by rw [decide_eq_true_iff]; omega
        go_wp2
        go_ret
        exact ⟨rfl, HW.out.bel⟩

theorem row_of {len cap : Nat} {k : IntKind} {a : Option Addr} {z : List Int} {w : World} (h : IsRow k w a len cap z) (hl : len ≤ maxLen) : len = 0 ∨ ∃ blk off, a = some ⟨blk, off, none⟩ ∧ blk < w.heap.size ∧ ∀ i, i < len → w.cell? ⟨blk, off + i, none⟩ = some (.int k (z[i]?.getD 0)) := by
  rcases h with ⟨rfl, rfl, rfl, rfl⟩ | ⟨x, rfl, hl, hm, hz, hcell, hwz⟩
  · exact .inl rfl
  · by_cases h0 : len = 0
    · exact .inl h0
    · right
      obtain ⟨blk, off, spot⟩ := x
      have hc := hcell 0 (by omega)
      have hspot : spot = none := by simpa [Addr.add] using World.cell?_spot hc
      subst hspot
      refine ⟨blk, off, rfl, World.block_lt_of_cell? w ⟨blk, off, none⟩ (by simpa [Addr.add] using hc), fun i hi => ?_⟩
      have h := hcell i (by omega)
      by_cases e : i = 0
      · subst e; simpa [Addr.add] using h
      · simpa [Addr.add, e] using h
theorem bools_of {len cap : Nat} {a : Option Addr} {z : Nat → Bool} {w : World} (h : IsBools w a len cap z) : len = 0 ∨ ∃ blk off, a = some ⟨blk, off, none⟩ ∧ blk < w.heap.size ∧ ∀ i, i < len → w.cell? ⟨blk, off + i, none⟩ = some (.bool (z i)) := by
  rcases h with ⟨rfl, rfl, rfl⟩ | ⟨x, rfl, hl, hm, hcell⟩
  · exact .inl rfl
  · by_cases h0 : len = 0
    · exact .inl h0
    · right
      obtain ⟨blk, off, spot⟩ := x
      have hc := hcell 0 (by omega)
      have hspot : spot = none := by simpa [Addr.add] using World.cell?_spot hc
      subst hspot
      refine ⟨blk, off, rfl, World.block_lt_of_cell? w ⟨blk, off, none⟩ (by simpa [Addr.add] using hc), fun i hi => ?_⟩
      have h := hcell i (by omega)
      by_cases e : i = 0
      · subst e; simpa [Addr.add] using h
      · simpa [Addr.add, e] using h
theorem len_le {len cap : Nat} {k : IntKind} {a : Option Addr} {z : List Int} {w : World} (h : IsRow k w a len cap z) : len ≤ maxLen := by
  rcases h with ⟨rfl, rfl, rfl, rfl⟩ | ⟨x, rfl, hl, hm, hz, hcell, hwz⟩
  · unfold maxLen; omega
  · omega
theorem blen_le {len cap : Nat} {a : Option Addr} {z : Nat → Bool} {w : World} (h : IsBools w a len cap z) : len ≤ maxLen := by
  rcases h with ⟨rfl, rfl, rfl⟩ | ⟨x, rfl, hl, hm, hcell⟩
  · unfold maxLen; omega
  · omega
theorem walk (a0 : Option Addr) (len0 cap0 : Nat) (z0 : List Int) (a1 : Option Addr) (len1 cap1 : Nat) (z1 : Nat → Bool) (w : World) (w0 : IsRow .i64 w a0 len0 cap0 z0) (w1 : IsBools w a1 len1 cap1 z1) :
    Calls Try.prog 4 #[.slice a0 len0 cap0, .slice a1 len1 cap1] w fun e w' => e = .returned (.bool true) ∧ Below w.heap.size w w' :=
  walk_row a0 len0 cap0 z0 a1 len1 cap1 z1 w (len_le w0) (blen_le w1) (row_of w0 (len_le w0)) (bools_of w1)
set_option maxRecDepth 100000 in
theorem lifted (os : Os) (started : os.Started) (H : Type) (enc : TypeId × Value → H) :
    ReturnsInHanded {} Try.checked os 4 .any (Rows.deviceLastSpec.pre6 enc Try.prog Try.f4 Rows.deviceLastRow.domain false) (Rows.deviceLastSpec.post enc Try.prog Try.f4 false true false false) := by
  refine returnsInHanded_of_change (C := Try.checked) own started (by kernel_rfl) Try.func4
    (ChangeSpec.witness6 (enc := enc) (C := Try.checked) false ⟨#[], #[.slice none 0 0, .slice none 0 0], []⟩ 8 (by kernel_rfl) (by kernel_rfl) (by kernel_rfl) (by kernel_rfl)) ?_
  intro W base args ds gs before hval0 hW hcnd _
  have hval : ∀ (j : Nat) t v, Try.f4.params[j]? = some t → args[j]? = some v → Value.okWide Try.prog W .any base t v := hval0
  have hW' := hW
  obtain ⟨p, q, hA0, hV, rfl, hfz, hnd⟩ := hW
  have hA : DataW.TrodAll enc Try.prog W 0 (fun _ => true) true Try.f4.params.toList args.toList ds p := hA0
  rw [Try.params4] at hA hval
  obtain ⟨v0, vs0, d0, ds0, p0, q0, hargs, rfl, rfl, h0, r0⟩ := trodAll_cons hA
  obtain ⟨v1, vs1, d1, ds1, p1, q1, rfl, rfl, rfl, h1, r1⟩ := trodAll_cons r0
  obtain ⟨rfl, rfl, rfl⟩ := trodAll_nil r1
  obtain rfl : args = #[v0, v1] := by cases args; simp_all
  obtain ⟨rfl, rfl⟩ := trodVars_none hV
  obtain ⟨a0, len0, cap0, rfl⟩ := okWide_slice Try.underlying36 (hval 0 36 v0 rfl rfl)
  have k0 := h0
  have lt0 : ∀ x ∈ p0, x.block < W.heap.size := by obtain ⟨m, hm⟩ := k0; exact DataW.trod_lt m _ _ _ hm
  obtain ⟨z0, w0⟩ : ∃ zs, IsRow .i64 W a0 len0 cap0 zs := by
    obtain ⟨fuel, hf⟩ := h0
    rcases open_ints Try.underlying36 Try.underlying3 (by kernel_rfl) hf with ⟨hcs, _⟩ | ⟨x, l, c, zs, hcs, _, hl, hm, hz, _, hcell, hwz⟩
    · simp [Value.cells] at hcs
      obtain ⟨rfl, rfl, rfl⟩ := hcs
      exact ⟨[], .inl ⟨rfl, rfl, rfl, rfl⟩⟩
    · simp [Value.cells] at hcs
      obtain ⟨rfl, rfl, rfl⟩ := hcs
      exact ⟨zs, .inr ⟨_, rfl, hl, hm, by simpa using hz, hcell, hwz⟩⟩
  obtain ⟨a1, len1, cap1, rfl⟩ := okWide_slice Try.underlying37 (hval 1 37 v1 rfl rfl)
  have k1 := h1
  have lt1 : ∀ x ∈ p1, x.block < W.heap.size := by obtain ⟨m, hm⟩ := k1; exact DataW.trod_lt m _ _ _ hm
  obtain ⟨z1, w1⟩ : ∃ zs, IsBools W a1 len1 cap1 zs := by
    obtain ⟨fuel, hf⟩ := h1
    rcases Deep.open_bools Try.underlying37 Try.underlying4 (by kernel_rfl) hf with ⟨hcs, _⟩ | ⟨x, l, c, zs, hcs, _, hl, hm, _, hcell⟩
    · simp [Value.cells] at hcs
      obtain ⟨rfl, rfl, rfl⟩ := hcs
      exact ⟨fun _ => false, .inl ⟨rfl, rfl, rfl⟩⟩
    · simp [Value.cells] at hcs
      obtain ⟨rfl, rfl, rfl⟩ := hcs
      exact ⟨zs, .inr ⟨_, rfl, hl, hm, hcell⟩⟩
  clear hA0 hval0
  refine (walk a0 len0 cap0 z0 a1 len1 cap1 z1 W w0 w1).mono fun e W' ⟨he, bel⟩ => ?_
  subst he
  exact ⟨_, rfl, _, _, _, [], _, [], hW', trodAll_mk1 (shut_bool Try.underlying4 _), (trodAll_cons_mk (Below.trod laidOut (by kernel_rfl) (of_decide_eq_true (by kernel_rfl)) k0 bel lt0) (trodAll_cons_mk (Below.trod laidOut (by kernel_rfl) (of_decide_eq_true (by kernel_rfl)) k1 bel lt1) trodAll_mk0)), rfl, bel.frame _, fun h => by cases h⟩

theorem over : Rows.deviceLastRow.holds Try.pinned (OpenSpec.ofChange Rows.deviceLastSpec) :=
  OpenClaim.holds_of_wide 4 Try.f4 rfl rfl rfl rfl rfl rfl rfl ⟨rfl, rfl, rfl, rfl, rfl⟩ rfl rfl rfl rfl rfl (by kernel_rfl) Try.func4 (by kernel_rfl)
    (of_decide_eq_true (by kernel_rfl)) (by unfold Func.isWrapper; first | (rw [if_pos (by decide +kernel)]; kernel_rfl) | (rw [if_neg (by decide +kernel)]; exact ⟨rfl, rfl⟩))
    (fun os started H enc _ => lifted os started H enc)

/-- THE STATEMENT. -/
theorem proved : Rows.DeviceLastSaid := over
#print axioms proved
end Go.Proofs.Ythdgfhkihhamnaa.deviceLast
