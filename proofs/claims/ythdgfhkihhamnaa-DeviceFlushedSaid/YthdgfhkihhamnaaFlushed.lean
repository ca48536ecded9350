/-
  DeviceFlushed answers true, whatever the input.
-/
import Derived.Test.YthdgfhkihhamnaaFlow
import Derived.Deep.Grids
import Derived.Deep.CutBlock
import Derived.Deep.RegionHeld3
import Derived.IntWalk
namespace Go.Proofs.Ythdgfhkihhamnaa.deviceFlushed
open Go.ChangeShapes Go.WideShapes Go.ChangeAt Go.RowKit
set_option linter.unusedVariables false

theorem own : ownKnob Try.prog.godebug = none := by kernel_rfl
theorem laidOut : laidOutB Try.prog = true := by kernel_rfl


/-- What the walk is told of a slice of ints that came in: nil, or a row of cap cells, the numbers zs, the first len its elements. -/
def IsRow (k : IntKind) (w : World) (a : Option Addr) (len cap : Nat) (zs : List Int) : Prop :=
  (a = none ∧ len = 0 ∧ cap = 0 ∧ zs = []) ∨
  ∃ x, a = some x ∧ len ≤ cap ∧ cap ≤ maxLen ∧ zs.length = cap ∧ (∀ i, i < zs.length → w.cell? (x.add i) = some (.int k (zs.getD i 0))) ∧ ∀ n ∈ zs, (Lit.int k n).wf = true

theorem in_row {len cap : Nat} {a : Option Addr} {z : List Int} {w : World} (h : IsRow .i64 w a len cap z) : len ≤ maxLen ∧ InRow w a len z := by
  rcases h with ⟨rfl, rfl, rfl, rfl⟩ | ⟨x, rfl, hl, hm, hz, hcell, hwz⟩
  · exact ⟨by unfold maxLen; omega, fun i hi => by omega⟩
  · refine ⟨by omega, fun i0 hi0 => ?_⟩
    obtain ⟨blk, off, spot⟩ := x
    have hc := hcell 0 (by omega)
    have hspot : spot = none := by simpa [Addr.add] using World.cell?_spot hc
    subst hspot
    refine ⟨blk, off, rfl, World.block_lt_of_cell? w ⟨blk, off, none⟩ (by simpa [Addr.add] using hc), fun i hi => ?_⟩
    have h := hcell i (by omega)
    by_cases e : i = 0
    · subst e; simpa [Addr.add] using h
    · simpa [Addr.add, e] using h
theorem and65535 (n : Int) : bits .and .i64 n 65535 = n % 65536 := by
  have h : (BitVec.ofInt 64 65535).toNat = 2 ^ 16 - 1 := by decide
  have key : (BitVec.ofInt 64 n &&& BitVec.ofInt 64 65535).toNat = (n % ((2 ^ 64 : Nat) : Int)).toNat % 2 ^ 16 := by
    rw [BitVec.toNat_and, BitVec.toNat_ofInt, h, Nat.and_two_pow_sub_one_eq_mod]
  show IntKind.i64.wrap ((BitVec.ofInt 64 n &&& BitVec.ofInt 64 65535).toNat : Nat) = n % 65536
  rw [key, IntKind.wrap_i64]
  omega
attribute [local go_sem] and65535

def Ph1 (ys : List Int) (k : Nat) (D : Dev) : Prop := Tells D 10 ys k ∧ D.r = 0 ∧ D.f = 0
def Ph2 (F : Dev) (z : List Int) (k : Nat) (D : Dev) : Prop := Waits F D (mores 10 2000 z k) D.w ∧ 0 ≤ D.w ∧ D.w ≤ 40 + k ∧ D.r = 0 ∧ D.f = 1
def Ph3 (S : Int → Option (List Int)) (T : Int → Bool) (k : Nat) (D : Dev) : Prop := Up 10 S T D ∧ 0 ≤ D.w ∧ D.w ≤ 80 ∧ D.r = k
theorem Ph1.write {ys : List Int} {k : Nat} {D : Dev} (h : Ph1 ys k D) (j : Nat) (hj : j < 10) : Ph1 (ys.set j (1000 + k)) (k + 1) (D.write j (sec (1000 + k))) := by
  obtain ⟨h1, h2, h3⟩ := h
  obtain ⟨t1, t2, t3⟩ := h1.write j hj (1000 + k) (by omega)
  exact ⟨t1, by omega, by omega⟩
theorem Ph1.flush {ys : List Int} {k : Nat} {D : Dev} (h : Ph1 ys k D) (hk : k ≤ 40) (z : List Int) : Tells D.flush 10 ys k ∧ D.flush.wait = [] ∧ Ph2 D.flush z 0 D.flush := by
  obtain ⟨h1, h2, h3⟩ := h
  obtain ⟨t1, t2, t3⟩ := h1.flush
  have hw := t1.w
  refine ⟨t1, by rw [h1.calm.flush], ⟨?_, by omega, by omega, by omega, by omega⟩⟩
  have := h1.waits
  rw [← hw] at this
  exact this
theorem Ph2.write {F D : Dev} {z : List Int} {k : Nat} (h : Ph2 F z k D) : Ph2 F z (k + 1) (D.write ((z[k]?.getD 0) % 65536 % 10) (sec (2000 + k))) := by
  obtain ⟨h1, h2, h3, h4, h5⟩ := h
  obtain ⟨t1, t2, t3⟩ := h1.write ((z[k]?.getD 0) % 65536 % 10) (sec (2000 + k))
  have hw := t1.w
  refine ⟨?_, by omega, by omega, by omega, by omega⟩
  rw [mores_succ, hw]; exact t1
/-- What a sector may hold at the end. -/
def May (F : Dev) (z : List Int) (K : Nat) (i : Nat) (x : Int × Option (List Int)) : Prop :=
  x = (0, some (F.val i)) ∨ (x = (3, none) ∧ ∃ j, j < K ∧ (z[j]?.getD 0) % 65536 % 10 = i) ∨ ∃ j : Nat, j < K ∧ (z[j]?.getD 0) % 65536 % 10 = i ∧ x = (0, some (sec (2000 + j)))
theorem Ph2.crash {F D : Dev} {z : List Int} {k : Nat} (h : Ph2 F z k D) (hk : k ≤ 40) (hF : F.wait = []) (hn : F.n = 10) (keep : List Int) :
    Ph3 (D.crash keep).secs (D.crash keep).torn 0 (D.crash keep).start ∧ ∀ E n i, Ph3 (D.crash keep).secs (D.crash keep).torn n E → May F z k i (E.answer i) := by
  obtain ⟨h1, h2, h3, h4, h5⟩ := h
  obtain ⟨c1, c2, c3, c4, c5⟩ := crash_up D keep
  have hs := h1.size
  rw [show D.n = 10 by omega] at c1
  refine ⟨⟨c1, by omega, by omega, by omega⟩, fun E n i hE => ?_⟩
  obtain ⟨e1, _⟩ := hE
  have hv : F.val i = (F.secs i).getD noughts := by unfold Dev.val; rw [hF]; rfl
  rcases h1.crash keep i with ⟨ht, x, hx, hxi⟩ | ⟨ht, hs | ⟨x, hx, hxi, hs⟩⟩
  · obtain ⟨j, j1, j2, j3⟩ := mores_mem hx
    exact .inr (.inl ⟨e1.answer_torn i ht, j, j1, by omega⟩)
  · exact .inl (by rw [e1.answer i ht, hs, hv])
  · obtain ⟨j, j1, j2, j3⟩ := mores_mem hx
    exact .inr (.inr ⟨j, j1, by omega, by rw [e1.answer i ht, hs, j3]; rfl⟩)
theorem Ph3.read {S : Int → Option (List Int)} {T : Int → Bool} {k : Nat} {D : Dev} (h : Ph3 S T k D) : Ph3 S T (k + 1) D.read := by
  obtain ⟨h1, h2, h3, h4⟩ := h
  obtain ⟨t1, t2, t3⟩ := h1.read
  exact ⟨t1, by omega, by omega, by omega⟩

set_option maxRecDepth 100000 in
set_option maxHeartbeats 8000000 in
theorem walk_row (a0 : Option Addr) (len0 cap0 : Nat) (z0 : List Int) (a1 : Option Addr) (len1 cap1 : Nat) (z1 : List Int) (a2 : Option Addr) (len2 cap2 : Nat) (z2 : List Int) (w : World)
    (hl0 : len0 ≤ maxLen) (hl1 : len1 ≤ maxLen) (hl2 : len2 ≤ maxLen) (w0 : InRow w a0 len0 z0) (w1 : InRow w a1 len1 z1) (w2 : InRow w a2 len2 z2) :
    Calls Try.prog 6 #[.slice a0 len0 cap0, .slice a1 len1 cap1, .slice a2 len2 cap2] w fun e w' => e = .returned (.bool true) ∧ Below w.heap.size w w' := by
  obtain ⟨i0, hi, hz0, hz1, hz2⟩ := info_parts Try.info5
  obtain ⟨i3, hi3, hy0, hy1, hy2⟩ := info_parts Try.info3
  unfold maxLen at hl0 hl1 hl2
  have A0 := Lib.hid w0
  have A1 := Lib.hid w1
  have A2 := Lib.hid w2
  clear w0 w1 w2
  go_enter Try.func6, Try.ntmps6
  go_wp2_with fail
  refine (shown_any _).mono ?_
  rintro e wa ⟨rfl, hB0⟩
  have HB0 := Lib.hid hB0
  clear hB0
  go_wp2_with fail
  refine (new_in _ 10 10 rfl (by omega) (by omega)).mono ?_
  rintro e wb ⟨dp, Z, rfl, hI, hB⟩
  have H1 := Lib.hid (And.intro hI (And.intro (HB0.out.trans (hB.mono HB0.out.size)) hB.size))
  clear hI hB
  go_upto_block 0 with (at_make; refine wpList_make_full _ rfl _ _ 36 rfl wb.heap.size 3 i3 (.int .i64 0) 1 Try.underlying36 hi3 hy0 hy1 .i64 .i64 _ _ 10 rfl rfl rfl rfl (by rw [hy2]; decide) (by unfold maxLen; decide) (Nat.le_refl _) ?_; intro wc hown hgr; have HM := Lib.hid (And.intro hown ((Below.refl _ _).grown hgr (Nat.le_refl _) (fun k e => by cases e))); clear hown hgr)
  have hst : LG w wc wa.heap.size dp wb.heap.size Z (List.replicate 10 0) (Dev.fresh 10) ∧ Ph1 (List.replicate 10 0) 0 (Dev.fresh 10) := by
    have hs := H1.out.2.1.size
    have h0 := HB0.out.size
    exact ⟨⟨H1.out.1.below HM.out.2, made_ints HM.out.1, fun e => Nat.lt_irrefl _ (H1.out.1.hi _ e), hs, H1.out.2.1.trans (HM.out.2.mono hs), h0, Nat.le_trans H1.out.2.2 HM.out.2.size⟩, Tells.fresh 10, rfl, rfl⟩
  generalize wa.heap.size = B at *
  generalize wb.heap.size = lb at *
  have HS := Lib.hid hst
  clear hst HM H1
  go_cut [11] (fun i wr => ∃ (k : Nat) (D : Dev) (Z : Nat → Prop) (ys : List Int), k ≤ 40 ∧ LG w wr B dp lb Z ys D ∧ Ph1 ys k D)
  case first =>
    go_wp2_with fail
    go_loopw [11] (fun i wr => ∃ (k : Nat) (D : Dev) (Z : Nat → Prop) (ys : List Int), k ≤ len0 ∧ k ≤ 40 ∧ i = .int .i64 k ∧ LG w wr B dp lb Z ys D ∧ Ph1 ys k D) (fun i _ => 40 - (intOf i).toNat)
    case atStart => exact ⟨0, _, _, _, by omega, by omega, rfl, HS.out⟩
    case round =>
      clear HS
      obtain ⟨k, D, Z1, ys, hk, hk6, rfl, hW⟩ := hrel
      have HW := Lib.hid hW
      clear hW
      by_cases hlt : k < len0 ∧ k < 40
      · obtain ⟨hlt, hlt6⟩ := hlt
        obtain ⟨blk, off, rfl, hblk, hcell⟩ := A0.out k hlt
        have cz : wr.cell? ⟨blk, off + k, none⟩ = some (.int .i64 (z0[k]?.getD 0)) := (HW.out.1.bel.cell (p := ⟨blk, off + k, none⟩) hblk).trans (hcell k hlt)
        clear hcell
        generalize z0[k]?.getD 0 = v at *
        obtain ⟨j, hj⟩ : ∃ j : Nat, v % 65536 % 10 = j := ⟨(v % 65536 % 10).toNat, by omega⟩
        have hj5 : j < 10 := by omega
        have cl := HW.out.1.row.cell j (by rw [HW.out.2.1.len]; exact hj5)
        have fl := HW.out.1.row.free j
        go_wp2_with fail
        refine (sector_in (1000 + k) _).mono ?_
        rintro e wd ⟨rfl, hb, hl⟩
        have hst := HW.out.1.set j (1000 + k)
        have hG := hst.below hl
        have hf3 := Free.new hb hst.dev.hi
        rw [World.size_setCell] at hf3
        have HT := Lib.hid (And.intro hG hf3)
        clear hst hG hf3 hl hb
        go_wp2_with fail
        refine (write_in HT.out.1.dev HT.out.1.BW j (HW.out.2.1.has j hj5) _ (sec (1000 + k)) HT.out.2 (sec_len _) (by rw [HW.out.2.1.w]; omega) (by rw [HW.out.2.1.w]; omega)).mono ?_
        rintro e we ⟨Z', rfl, hI, hS⟩
        rw [HW.out.2.1.calm.err]
        have hW4 := HT.out.1.step hI hS
        have HV := Lib.hid (And.intro hW4 (HW.out.2.write j hj5))
        clear hI hS hW4
        go_wp2_with fail
        go_roundw
        case rel => exact ⟨k + 1, _, _, _, by omega, by omega, by go_num, HV.out⟩
        case measure => simp [intOf]; omega
      · rcases (show ¬ k < len0 ∨ (k < len0 ∧ k = 40) by omega) with h | ⟨h, rfl⟩
        · have d1 : decide ((k : Int) < len0) = false := by rw [decide_eq_false_iff_not]; omega
          go_wp2_with fail
          go_meet
          exact ⟨k, _, _, _, hk6, HW.out⟩
        · have d1 : decide (((40 : Nat) : Int) < len0) = true := by rw [decide_eq_true_iff]; omega
          go_wp2_with fail
          go_meet
          exact ⟨40, _, _, _, hk6, HW.out⟩
  case rest =>
    clear HS
    obtain ⟨k, D, Z1, ys, hk, hW, hP⟩ := hcut
    have HW := Lib.hid (And.intro hW hP)
    clear hW hP
    go_wp2_with fail
    refine (flush_in HW.out.1.dev (by rw [HW.out.2.1.w]; omega) (by rw [HW.out.2.2.2]; decide) (by rw [HW.out.2.2.2]; decide)).mono ?_
    rintro e wf ⟨rfl, hI, hS⟩
    rw [HW.out.2.1.calm.err]
    have hW2 := HW.out.1.step hI hS
    obtain ⟨hF1, hF2, hF3⟩ := HW.out.2.flush hk z1
    generalize D.flush = F at *
    have HF := Lib.hid (And.intro hF1 hF2)
    have HS := Lib.hid (And.intro hW2 hF3)
    clear HW hW2 hF1 hF2 hF3 hI hS
    go_upto_block 2 with fail
    go_cut [13] (fun i wr => ∃ (k : Nat) (D : Dev) (Z : Nat → Prop), k ≤ 40 ∧ (k = len1 ∨ k = 40) ∧ k ≤ len1 ∧ LG w wr B dp lb Z ys D ∧ Ph2 F z1 k D)
    case first =>
      go_wp2_with fail
      go_loopw [13] (fun i wr => ∃ (k : Nat) (D : Dev) (Z : Nat → Prop), k ≤ len1 ∧ k ≤ 40 ∧ i = .int .i64 k ∧ LG w wr B dp lb Z ys D ∧ Ph2 F z1 k D) (fun i _ => 40 - (intOf i).toNat)
      case atStart => exact ⟨0, _, _, by omega, by omega, rfl, HS.out⟩
      case round =>
        clear HS
        obtain ⟨k, D, Z1, hk, hk6, rfl, hW⟩ := hrel
        have HW := Lib.hid hW
        clear hW
        by_cases hlt : k < len1 ∧ k < 40
        · obtain ⟨hlt, hlt6⟩ := hlt
          obtain ⟨blk, off, rfl, hblk, hcell⟩ := A1.out k hlt
          have cz : wr.cell? ⟨blk, off + k, none⟩ = some (.int .i64 (z1[k]?.getD 0)) := (HW.out.1.bel.cell (p := ⟨blk, off + k, none⟩) hblk).trans (hcell k hlt)
          clear hcell
          generalize hv : z1[k]?.getD 0 = v at *
          have hh : D.has (v % 65536 % 10) = true := by
            have := HW.out.2.1.size
            have hn := HF.out.1.size
            unfold Dev.has; rw [this, hn]; simp; omega
          have HH := Lib.hid hh
          have HV := Lib.hid hv
          clear hh hv
          have q0 : 0 ≤ v % 65536 % 10 := by omega
          have k0 : (0 : Int) ≤ (k : Int) := by omega
          have k1 : (k : Int) < (len1 : Int) := by omega
          have k2 : IntKind.i64.wrap (2000 + (k : Int)) = 2000 + (k : Int) := IntWalk.i64_in _ ⟨by omega, by omega⟩
          have k3 : (v % 65536).tmod 10 = v % 65536 % 10 := Int.tmod_eq_emod_of_nonneg (by omega)
          have HD := Lib.hid (HW.out.1.below (w' := wr.drew) ((Below.refl _ _).drew))
          go_wp2_with fail
          go_region_held3 (fun w' => w'.cell? ⟨blk, off + k, none⟩ = some (.int .i64 v)) (first | assumption | go_keep)
            (first | (go_at_call 14; refine (sector_in (2000 + k) _).mono ?_; rintro e wd ⟨rfl, hb, hl⟩; have cz2 := (HD.out.below hl).bel.cell (p := ⟨blk, off + k, none⟩) hblk; have HT := Lib.hid (And.intro (HD.out.below hl) (Free.new hb HD.out.dev.hi)); have cz3 := cz2.trans (HW.out.1.bel.cell (p := ⟨blk, off + k, none⟩) hblk).symm; have cz4 := cz3.trans cz; clear cz2 cz3 hb hl) | (go_at_call 11; refine (write_in HT.out.1.dev HT.out.1.BW _ HH.out _ (sec (2000 + k)) HT.out.2 (sec_len _) HW.out.2.2.1 (by have := HW.out.2.2.2.1; omega)).mono ?_; rintro e we ⟨Z', rfl, hI, hS⟩; rw [HW.out.2.1.calm.err]; have HX := Lib.hid (HT.out.1.step hI hS); have cz5 := ((HX.out.bel.cell (p := ⟨blk, off + k, none⟩) hblk).trans (HW.out.1.bel.cell (p := ⟨blk, off + k, none⟩) hblk).symm).trans cz; clear hI hS))
          have HP := Lib.hid (HW.out.2.write)
          rw [HV.out] at HP
          go_wp2_with fail
          go_roundw
          case rel => exact ⟨k + 1, _, _, by omega, by omega, by go_num, HX.out, HP.out⟩
          case measure => simp [intOf]; omega
        · rcases (show ¬ k < len1 ∨ (k < len1 ∧ k = 40) by omega) with h | ⟨h, rfl⟩
          · have d1 : decide ((k : Int) < len1) = false := by rw [decide_eq_false_iff_not]; omega
            go_wp2_with fail
            go_meet
            exact ⟨k, _, _, hk6, .inl (by omega), hk, HW.out⟩
          · have d1 : decide (((40 : Nat) : Int) < len1) = true := by rw [decide_eq_true_iff]; omega
            go_wp2_with fail
            go_meet
            exact ⟨40, _, _, hk6, .inr rfl, hk, HW.out⟩
    case rest =>
      clear HS
      obtain ⟨k, D, Z1, hk, hk1, hk2, hW⟩ := hcut
      have HW := Lib.hid hW
      clear hW
      go_wp2_with fail
      refine (crash_in HW.out.1.dev a2 len2 cap2 _ (A2.out.keep HW.out.1.bel (by omega)) (by have := HW.out.2.2.2.1; omega)).mono ?_
      rintro e wg ⟨rfl, hI, hS⟩
      obtain ⟨hP, hM⟩ := HW.out.2.crash hk HF.out.2 HF.out.1.size ((List.range len2).map fun i => z2[i]?.getD 0)
      have hd : (D.crash ((List.range len2).map fun i => z2[i]?.getD 0)).down = true := rfl
      have hG := HW.out.1.step hI hS
      generalize D.crash ((List.range len2).map fun i => z2[i]?.getD 0) = E at *
      have HE := Lib.hid (And.intro hG (And.intro hd (And.intro hP hM)))
      clear HW hI hS hP hM hd hG
      go_wp2_with fail
      refine (down_in HE.out.1.dev).mono ?_
      rintro e w' ⟨rfl, rfl⟩
      rw [HE.out.2.1]
      go_wp2_with fail
      refine (start_in HE.out.1.dev HE.out.2.1).mono ?_
      rintro e wh ⟨rfl, hI, hS⟩
      have HG := Lib.hid (And.intro (HE.out.1.step hI hS) HE.out.2.2.1)
      have HM := Lib.hid HE.out.2.2.2
      generalize E.start = E0 at *
      generalize E.secs = S at *
      generalize E.torn = T at *
      clear HE hI hS
      go_wp2_with fail
      go_loopw [14] (fun i wr => ∃ (m : Nat) (E : Dev), m ≤ 10 ∧ i = .int .i64 m ∧ LG w wr B dp lb Z1 ys E ∧ Ph3 S T m E) (fun i _ => 10 - (intOf i).toNat)
      case atStart => exact ⟨0, _, by omega, rfl, HG.out⟩
      case round =>
        clear HG
        obtain ⟨m, E, hm, rfl, hE⟩ := hrel
        have HR := Lib.hid hE
        by_cases hlt : m < 10
        · have hmay := HM.out E m m hE.2
          have hh := hE.2.1.has m hlt
          have HX := Lib.hid hE.2.read
          have hold := HF.out.1.val m hlt
          rename m ≤ 10 => hm9
          have hm := hlt
          clear hE
          obtain ⟨old, hold2⟩ : ∃ o, o = F.val m := ⟨_, rfl⟩
          unfold May at hmay
          rw [← hold2] at hold hmay
          clear hold2
          have hcases : (∃ bs, E.answer m = (0, some bs) ∧ (bs = old ∨ ∃ j : Nat, j < k ∧ (z1[j]?.getD 0) % 65536 % 10 = m ∧ bs = sec (2000 + j))) ∨ (E.answer m = (3, none) ∧ ∃ j : Nat, j < k ∧ (z1[j]?.getD 0) % 65536 % 10 = m) := by
            rcases hmay with h | ⟨h, h2⟩ | ⟨j, j1, j2, h⟩
            · exact .inl ⟨_, h, .inl rfl⟩
            · exact .inr ⟨h, h2⟩
            · exact .inl ⟨_, h, .inr ⟨j, j1, j2, rfl⟩⟩
          clear hmay
          rcases hcases with ⟨bs, ha, hbs⟩ | ⟨ha, j, hj, hjm⟩
          · have HB := Lib.hid hbs
            clear hbs
            go_wp2_with fail
            refine (read_got HR.out.1.dev m bs ha hh (by rw [HR.out.2.2.2.2]; omega) (by rw [HR.out.2.2.2.2]; omega) (by have := HR.out.2.2.2.1; omega)).mono ?_
            rintro e wi ⟨u, rfl, hf, hl5, _, hI, hS⟩
            have hG := HR.out.1.step hI hS
            have cm := hG.row.cell m (by rw [HF.out.1.len]; exact hm)
            have L5 := Lib.hid hl5
            have HT := Lib.hid (And.intro hG hf)
            clear hl5 hI hS hG hf ha hh
            generalize ys[m]?.getD 0 = y at *
            go_wp2_with fail
            refine (sector_in y _).mono ?_
            rintro e wj ⟨rfl, hb, hl⟩
            have cm2 := (hl.cell (p := ⟨lb, m, none⟩) HT.out.1.row.lt).trans cm
            have HL := Lib.hid (And.intro hb hl)
            clear hb hl cm
            by_cases hy : y = 0
            · subst hy
              go_wp2_with (at_make; refine wpList_make_full _ rfl _ _ 29 rfl wj.heap.size 5 i0 (.int .u8 0) 1 Try.underlying29 hi hz0 hz1 .i64 .i64 _ _ 512 rfl rfl rfl rfl (by rw [hz2]; decide) (by unfold maxLen; decide) (Nat.le_refl _) ?_; intro wk hown hgr; have HN := Lib.hid (And.intro (made_bytes hown) ((Below.refl _ _).grown hgr (Nat.le_refl _) (fun k e => by cases e))); clear hown hgr)
              have hl2 := HL.out.2.trans (HN.out.2.mono HL.out.2.size)
              have HQ := Lib.hid (And.intro (HT.out.1.below hl2) (And.intro (HT.out.2.step (Step.of_below Z1 hl2)) HN.out.1))
              clear hl2
              have ho : old = noughts := by rw [hold]; simp
              refine (same_any _ _ bs noughts _ HQ.out.2.1.bytes HQ.out.2.2 L5.out noughts_len).mono ?_
              rintro e w' ⟨rfl, rfl⟩
              rw [← ho]
              clear ho hold
              obtain ⟨o0, ho0⟩ : ∃ b : Bool, ((txt bs).toList == (txt old).toList) = b := ⟨_, rfl⟩
              rw [ho0]
              have HO := Lib.hid (And.intro HQ.out.1 (And.intro HQ.out.2.1 (show o0 = true ∨ ∃ j : Nat, 0 ≤ j ∧ j < k ∧ (z1[j]?.getD 0) % 65536 % 10 = m ∧ bs = sec (2000 + j) from by
                rcases HB.out with h | ⟨j, j2, j3, j4⟩
                · left; rw [← ho0, h]; simp
                · exact .inr ⟨j, Nat.zero_le _, j2, j3, j4⟩)))
              clear HQ ho0
              go_wp2_with fail
              go_loopw [18, 19] (fun ok i wr => ∃ (p : Nat) (o : Bool), p ≤ k ∧ i = .int .i64 p ∧ ok = .bool o ∧ (o = true ∨ ∃ j : Nat, p ≤ j ∧ j < k ∧ (z1[j]?.getD 0) % 65536 % 10 = m ∧ bs = sec (2000 + j)) ∧ LG w wr B dp lb Z1 ys E.read ∧ Free Z1 wr u bs) (fun _ i _ => 40 - (intOf i).toNat)
              case atStart => exact ⟨0, _, by omega, rfl, rfl, HO.out.2.2, HO.out.1, HO.out.2.1⟩
              case round =>
                clear HO
                obtain ⟨p, o, hp, rfl, rfl, ho, hGr, hFr⟩ := hrel
                have HO := Lib.hid (And.intro hGr (And.intro hFr ho))
                clear ho hGr hFr
                by_cases hlt : p < k
                · have hlt1 : p < len1 := by omega
                  have hlt6 : p < 40 := by omega
                  obtain ⟨blk, off, rfl, hblk, hcell⟩ := A1.out p hlt1
                  have cz : wr.cell? ⟨blk, off + p, none⟩ = some (.int .i64 (z1[p]?.getD 0)) := (HO.out.1.bel.cell (p := ⟨blk, off + p, none⟩) hblk).trans (hcell p hlt1)
                  clear hcell
                  generalize hv : z1[p]?.getD 0 = v at *
                  have HV := Lib.hid hv
                  clear hv
                  cases hmt : (v % 65536 % 10 == (m : Int)) with
                  | false =>
                    have hne : ¬ v % 65536 % 10 = (m : Int) := by simpa using hmt
                    have HO2 := Lib.hid (show o = true ∨ ∃ j : Nat, p + 1 ≤ j ∧ j < k ∧ (z1[j]?.getD 0) % 65536 % 10 = m ∧ bs = sec (2000 + j) from by
                      rcases HO.out.2.2 with h | ⟨j, j1, j2, j3, j4⟩
                      · exact .inl h
                      · refine .inr ⟨j, ?_, j2, j3, j4⟩
                        by_cases e : j = p
                        · subst e; rw [HV.out] at j3; exact (hne j3).elim
                        · omega)
                    clear hne
                    go_wp2_with fail
                    go_roundw
                    case rel => exact ⟨p + 1, _, by omega, by go_num, rfl, HO2.out, HO.out.1, HO.out.2.1⟩
                    case measure => simp [intOf]; omega
                  | true =>
                    cases o with
                    | true =>
                      go_wp2_with fail
                      go_roundw
                      case rel => exact ⟨p + 1, true, by omega, by go_num, rfl, .inl rfl, HO.out.1, HO.out.2.1⟩
                      case measure => simp [intOf]; omega
                    | false =>
                      go_wp2_with fail
                      refine (sector_in (2000 + p) _).mono ?_
                      rintro e wl ⟨rfl, hb, hl⟩
                      have HQ := Lib.hid (And.intro (HO.out.1.below hl) (And.intro (HO.out.2.1.step (Step.of_below Z1 hl)) hb))
                      clear hb hl
                      go_wp2_with fail
                      refine (same_any _ _ bs (sec (2000 + p)) _ HQ.out.2.1.bytes HQ.out.2.2 L5.out (sec_len _)).mono ?_
                      rintro e w' ⟨rfl, rfl⟩
                      obtain ⟨o', ho'⟩ : ∃ b : Bool, ((txt bs).toList == (txt (sec (2000 + p))).toList) = b := ⟨_, rfl⟩
                      rw [ho']
                      have HO2 := Lib.hid (show o' = true ∨ ∃ j : Nat, p + 1 ≤ j ∧ j < k ∧ (z1[j]?.getD 0) % 65536 % 10 = m ∧ bs = sec (2000 + j) from by
                        rcases HO.out.2.2 with h | ⟨j, j1, j2, j3, j4⟩
                        · cases h
                        · by_cases e : j = p
                          · subst e; left; rw [← ho', j4]; simp
                          · exact .inr ⟨j, by omega, j2, j3, j4⟩)
                      clear ho'
                      go_wp2_with fail
                      go_roundw
                      case rel => exact ⟨p + 1, o', by omega, by go_num, rfl, HO2.out, HQ.out.1, HQ.out.2.1⟩
                      case measure => simp [intOf]; omega
                · obtain rfl : p = k := by omega
                  obtain rfl : o = true := by
                    rcases HO.out.2.2 with h | ⟨j, j1, j2, j3, j4⟩
                    · exact h
                    · omega
                  have hq := HX.out
                  rcases (show p = len1 ∨ (p < len1 ∧ p = 40) by omega) with h | ⟨h, h2⟩
                  · have d1 : decide ((p : Int) < len1) = false := by rw [decide_eq_false_iff_not]; omega
                    clear h
                    go_wp2_with fail
                    all_goals
                      go_roundw
                      case rel => exact ⟨m + 1, _, by omega, by go_num, HO.out.1, hq⟩
                      case measure => simp [intOf]; omega
                  · have d1 : decide ((p : Int) < len1) = true := by rw [decide_eq_true_iff]; omega
                    have d2 : decide ((p : Int) < 40) = false := by rw [decide_eq_false_iff_not]; omega
                    clear h2
                    go_wp2_with fail
                    go_roundw
                    case rel => exact ⟨m + 1, _, by omega, by go_num, HO.out.1, hq⟩
                    case measure => simp [intOf]; omega
            · have hyb : (y == 0) = false := by rw [beq_eq_false_iff_ne]; exact hy
              have ho : old = sec y := by rw [hold, if_neg hy]
              have HQ := Lib.hid (And.intro (HT.out.1.below HL.out.2) (And.intro (HT.out.2.step (Step.of_below Z1 HL.out.2)) HL.out.1))
              go_wp2_with fail
              refine (same_any _ _ bs (sec y) _ HQ.out.2.1.bytes HQ.out.2.2 L5.out (sec_len _)).mono ?_
              rintro e w' ⟨rfl, rfl⟩
              rw [← ho]
              clear ho hold
              obtain ⟨o0, ho0⟩ : ∃ b : Bool, ((txt bs).toList == (txt old).toList) = b := ⟨_, rfl⟩
              rw [ho0]
              have HO := Lib.hid (And.intro HQ.out.1 (And.intro HQ.out.2.1 (show o0 = true ∨ ∃ j : Nat, 0 ≤ j ∧ j < k ∧ (z1[j]?.getD 0) % 65536 % 10 = m ∧ bs = sec (2000 + j) from by
                rcases HB.out with h | ⟨j, j2, j3, j4⟩
                · left; rw [← ho0, h]; simp
                · exact .inr ⟨j, Nat.zero_le _, j2, j3, j4⟩)))
              clear HQ ho0
              go_wp2_with fail
              go_loopw [18, 19] (fun ok i wr => ∃ (p : Nat) (o : Bool), p ≤ k ∧ i = .int .i64 p ∧ ok = .bool o ∧ (o = true ∨ ∃ j : Nat, p ≤ j ∧ j < k ∧ (z1[j]?.getD 0) % 65536 % 10 = m ∧ bs = sec (2000 + j)) ∧ LG w wr B dp lb Z1 ys E.read ∧ Free Z1 wr u bs) (fun _ i _ => 40 - (intOf i).toNat)
              case atStart => exact ⟨0, _, by omega, rfl, rfl, HO.out.2.2, HO.out.1, HO.out.2.1⟩
              case round =>
                clear HO
                obtain ⟨p, o, hp, rfl, rfl, ho, hGr, hFr⟩ := hrel
                have HO := Lib.hid (And.intro hGr (And.intro hFr ho))
                clear ho hGr hFr
                by_cases hlt : p < k
                · have hlt1 : p < len1 := by omega
                  have hlt6 : p < 40 := by omega
                  obtain ⟨blk, off, rfl, hblk, hcell⟩ := A1.out p hlt1
                  have cz : wr.cell? ⟨blk, off + p, none⟩ = some (.int .i64 (z1[p]?.getD 0)) := (HO.out.1.bel.cell (p := ⟨blk, off + p, none⟩) hblk).trans (hcell p hlt1)
                  clear hcell
                  generalize hv : z1[p]?.getD 0 = v at *
                  have HV := Lib.hid hv
                  clear hv
                  cases hmt : (v % 65536 % 10 == (m : Int)) with
                  | false =>
                    have hne : ¬ v % 65536 % 10 = (m : Int) := by simpa using hmt
                    have HO2 := Lib.hid (show o = true ∨ ∃ j : Nat, p + 1 ≤ j ∧ j < k ∧ (z1[j]?.getD 0) % 65536 % 10 = m ∧ bs = sec (2000 + j) from by
                      rcases HO.out.2.2 with h | ⟨j, j1, j2, j3, j4⟩
                      · exact .inl h
                      · refine .inr ⟨j, ?_, j2, j3, j4⟩
                        by_cases e : j = p
                        · subst e; rw [HV.out] at j3; exact (hne j3).elim
                        · omega)
                    clear hne
                    go_wp2_with fail
                    go_roundw
                    case rel => exact ⟨p + 1, _, by omega, by go_num, rfl, HO2.out, HO.out.1, HO.out.2.1⟩
                    case measure => simp [intOf]; omega
                  | true =>
                    cases o with
                    | true =>
                      go_wp2_with fail
                      go_roundw
                      case rel => exact ⟨p + 1, true, by omega, by go_num, rfl, .inl rfl, HO.out.1, HO.out.2.1⟩
                      case measure => simp [intOf]; omega
                    | false =>
                      go_wp2_with fail
                      refine (sector_in (2000 + p) _).mono ?_
                      rintro e wl ⟨rfl, hb, hl⟩
                      have HQ := Lib.hid (And.intro (HO.out.1.below hl) (And.intro (HO.out.2.1.step (Step.of_below Z1 hl)) hb))
                      clear hb hl
                      go_wp2_with fail
                      refine (same_any _ _ bs (sec (2000 + p)) _ HQ.out.2.1.bytes HQ.out.2.2 L5.out (sec_len _)).mono ?_
                      rintro e w' ⟨rfl, rfl⟩
                      obtain ⟨o', ho'⟩ : ∃ b : Bool, ((txt bs).toList == (txt (sec (2000 + p))).toList) = b := ⟨_, rfl⟩
                      rw [ho']
                      have HO2 := Lib.hid (show o' = true ∨ ∃ j : Nat, p + 1 ≤ j ∧ j < k ∧ (z1[j]?.getD 0) % 65536 % 10 = m ∧ bs = sec (2000 + j) from by
                        rcases HO.out.2.2 with h | ⟨j, j1, j2, j3, j4⟩
                        · cases h
                        · by_cases e : j = p
                          · subst e; left; rw [← ho', j4]; simp
                          · exact .inr ⟨j, by omega, j2, j3, j4⟩)
                      clear ho'
                      go_wp2_with fail
                      go_roundw
                      case rel => exact ⟨p + 1, o', by omega, by go_num, rfl, HO2.out, HQ.out.1, HQ.out.2.1⟩
                      case measure => simp [intOf]; omega
                · obtain rfl : p = k := by omega
                  obtain rfl : o = true := by
                    rcases HO.out.2.2 with h | ⟨j, j1, j2, j3, j4⟩
                    · exact h
                    · omega
                  have hq := HX.out
                  rcases (show p = len1 ∨ (p < len1 ∧ p = 40) by omega) with h | ⟨h, h2⟩
                  · have d1 : decide ((p : Int) < len1) = false := by rw [decide_eq_false_iff_not]; omega
                    clear h
                    go_wp2_with fail
                    all_goals
                      go_roundw
                      case rel => exact ⟨m + 1, _, by omega, by go_num, HO.out.1, hq⟩
                      case measure => simp [intOf]; omega
                  · have d1 : decide ((p : Int) < len1) = true := by rw [decide_eq_true_iff]; omega
                    have d2 : decide ((p : Int) < 40) = false := by rw [decide_eq_false_iff_not]; omega
                    clear h2
                    go_wp2_with fail
                    go_roundw
                    case rel => exact ⟨m + 1, _, by omega, by go_num, HO.out.1, hq⟩
                    case measure => simp [intOf]; omega
          · have HJ := Lib.hid hjm
            clear hjm
            go_wp2_with fail
            refine (read_not HR.out.1.dev m 3 ha hh (by rw [HR.out.2.2.2.2]; omega) (by rw [HR.out.2.2.2.2]; omega) (by have := HR.out.2.2.2.1; omega)).mono ?_
            rintro e wi ⟨rfl, hI, hS⟩
            have hG := HR.out.1.step hI hS
            have cm := hG.row.cell m (by rw [HF.out.1.len]; exact hm)
            have HT := Lib.hid hG
            clear hI hS hG ha hh hold
            generalize ys[m]?.getD 0 = y at *
            go_wp2_with fail
            refine (sector_in y _).mono ?_
            rintro e wj ⟨rfl, hb, hl⟩
            have cm2 := (hl.cell (p := ⟨lb, m, none⟩) HT.out.row.lt).trans cm
            have HL := Lib.hid (And.intro hb hl)
            clear hb hl cm
            by_cases hy : y = 0
            · subst hy
              go_wp2_with (at_make; refine wpList_make_full _ rfl _ _ 29 rfl wj.heap.size 5 i0 (.int .u8 0) 1 Try.underlying29 hi hz0 hz1 .i64 .i64 _ _ 512 rfl rfl rfl rfl (by rw [hz2]; decide) (by unfold maxLen; decide) (Nat.le_refl _) ?_; intro wk hown hgr; have HN := Lib.hid (And.intro (made_bytes hown) ((Below.refl _ _).grown hgr (Nat.le_refl _) (fun k e => by cases e))); clear hown hgr)
              have hl2 := HL.out.2.trans (HN.out.2.mono HL.out.2.size)
              have HO := Lib.hid (HT.out.below hl2)
              clear hl2
              go_loopw [18, 19] (fun ok i wr => ∃ (p : Nat) (o : Bool), p ≤ k ∧ i = .int .i64 p ∧ ok = .bool o ∧ (o = true ∨ p ≤ j) ∧ LG w wr B dp lb Z1 ys E.read) (fun _ i _ => 40 - (intOf i).toNat)
              case atStart => exact ⟨0, false, by omega, rfl, rfl, .inr (Nat.zero_le _), HO.out⟩
              case round =>
                clear HO
                obtain ⟨p, o, hp, rfl, rfl, ho, hGr⟩ := hrel
                have HO := Lib.hid (And.intro hGr ho)
                clear ho hGr
                by_cases hlt : p < k
                · have hlt1 : p < len1 := by omega
                  have hlt6 : p < 40 := by omega
                  obtain ⟨blk, off, rfl, hblk, hcell⟩ := A1.out p hlt1
                  have cz : wr.cell? ⟨blk, off + p, none⟩ = some (.int .i64 (z1[p]?.getD 0)) := (HO.out.1.bel.cell (p := ⟨blk, off + p, none⟩) hblk).trans (hcell p hlt1)
                  clear hcell
                  generalize hv : z1[p]?.getD 0 = v at *
                  have HV := Lib.hid hv
                  clear hv
                  cases hmt : (v % 65536 % 10 == (m : Int)) with
                  | false =>
                    have hne : ¬ v % 65536 % 10 = (m : Int) := by simpa using hmt
                    have HO2 := Lib.hid (show o = true ∨ p + 1 ≤ j from by
                      rcases HO.out.2 with h | h
                      · exact .inl h
                      · right
                        by_cases e : j = p
                        · subst e; have j3 := HJ.out; rw [HV.out] at j3; exact (hne j3).elim
                        · omega)
                    clear hne
                    go_wp2_with fail
                    go_roundw
                    case rel => exact ⟨p + 1, _, by omega, by go_num, rfl, HO2.out, HO.out.1⟩
                    case measure => simp [intOf]; omega
                  | true =>
                    cases o with
                    | true =>
                      go_wp2_with fail
                      go_roundw
                      case rel => exact ⟨p + 1, true, by omega, by go_num, rfl, .inl rfl, HO.out.1⟩
                      case measure => simp [intOf]; omega
                    | false =>
                      go_wp2_with fail
                      go_roundw
                      case rel => exact ⟨p + 1, true, by omega, by go_num, rfl, .inl rfl, HO.out.1⟩
                      case measure => simp [intOf]; omega
                · obtain rfl : p = k := by omega
                  obtain rfl : o = true := by
                    rcases HO.out.2 with h | h
                    · exact h
                    · omega
                  have hq := HX.out
                  rcases (show p = len1 ∨ (p < len1 ∧ p = 40) by omega) with h | ⟨h, h2⟩
                  · have d1 : decide ((p : Int) < len1) = false := by rw [decide_eq_false_iff_not]; omega
                    clear h
                    go_wp2_with fail
                    all_goals
                      go_roundw
                      case rel => exact ⟨m + 1, _, by omega, by go_num, HO.out.1, hq⟩
                      case measure => simp [intOf]; omega
                  · have d1 : decide ((p : Int) < len1) = true := by rw [decide_eq_true_iff]; omega
                    have d2 : decide ((p : Int) < 40) = false := by rw [decide_eq_false_iff_not]; omega
                    clear h2
                    go_wp2_with fail
                    go_roundw
                    case rel => exact ⟨m + 1, _, by omega, by go_num, HO.out.1, hq⟩
                    case measure => simp [intOf]; omega
            · have hyb : (y == 0) = false := by rw [beq_eq_false_iff_ne]; exact hy
              have HO := Lib.hid (HT.out.below HL.out.2)
              go_wp2_with fail
              go_loopw [18, 19] (fun ok i wr => ∃ (p : Nat) (o : Bool), p ≤ k ∧ i = .int .i64 p ∧ ok = .bool o ∧ (o = true ∨ p ≤ j) ∧ LG w wr B dp lb Z1 ys E.read) (fun _ i _ => 40 - (intOf i).toNat)
              case atStart => exact ⟨0, false, by omega, rfl, rfl, .inr (Nat.zero_le _), HO.out⟩
              case round =>
                clear HO
                obtain ⟨p, o, hp, rfl, rfl, ho, hGr⟩ := hrel
                have HO := Lib.hid (And.intro hGr ho)
                clear ho hGr
                by_cases hlt : p < k
                · have hlt1 : p < len1 := by omega
                  have hlt6 : p < 40 := by omega
                  obtain ⟨blk, off, rfl, hblk, hcell⟩ := A1.out p hlt1
                  have cz : wr.cell? ⟨blk, off + p, none⟩ = some (.int .i64 (z1[p]?.getD 0)) := (HO.out.1.bel.cell (p := ⟨blk, off + p, none⟩) hblk).trans (hcell p hlt1)
                  clear hcell
                  generalize hv : z1[p]?.getD 0 = v at *
                  have HV := Lib.hid hv
                  clear hv
                  cases hmt : (v % 65536 % 10 == (m : Int)) with
                  | false =>
                    have hne : ¬ v % 65536 % 10 = (m : Int) := by simpa using hmt
                    have HO2 := Lib.hid (show o = true ∨ p + 1 ≤ j from by
                      rcases HO.out.2 with h | h
                      · exact .inl h
                      · right
                        by_cases e : j = p
                        · subst e; have j3 := HJ.out; rw [HV.out] at j3; exact (hne j3).elim
                        · omega)
                    clear hne
                    go_wp2_with fail
                    go_roundw
                    case rel => exact ⟨p + 1, _, by omega, by go_num, rfl, HO2.out, HO.out.1⟩
                    case measure => simp [intOf]; omega
                  | true =>
                    cases o with
                    | true =>
                      go_wp2_with fail
                      go_roundw
                      case rel => exact ⟨p + 1, true, by omega, by go_num, rfl, .inl rfl, HO.out.1⟩
                      case measure => simp [intOf]; omega
                    | false =>
                      go_wp2_with fail
                      go_roundw
                      case rel => exact ⟨p + 1, true, by omega, by go_num, rfl, .inl rfl, HO.out.1⟩
                      case measure => simp [intOf]; omega
                · obtain rfl : p = k := by omega
                  obtain rfl : o = true := by
                    rcases HO.out.2 with h | h
                    · exact h
                    · omega
                  have hq := HX.out
                  rcases (show p = len1 ∨ (p < len1 ∧ p = 40) by omega) with h | ⟨h, h2⟩
                  · have d1 : decide ((p : Int) < len1) = false := by rw [decide_eq_false_iff_not]; omega
                    clear h
                    go_wp2_with fail
                    all_goals
                      go_roundw
                      case rel => exact ⟨m + 1, _, by omega, by go_num, HO.out.1, hq⟩
                      case measure => simp [intOf]; omega
                  · have d1 : decide ((p : Int) < len1) = true := by rw [decide_eq_true_iff]; omega
                    have d2 : decide ((p : Int) < 40) = false := by rw [decide_eq_false_iff_not]; omega
                    clear h2
                    go_wp2_with fail
                    go_roundw
                    case rel => exact ⟨m + 1, _, by omega, by go_num, HO.out.1, hq⟩
                    case measure => simp [intOf]; omega
        · obtain rfl : m = 10 := by omega
          have HX := Lib.hid hE.1.bel
          clear hE
          go_wp2_with fail
          go_ret
          exact ⟨rfl, HX.out⟩

theorem walk (a0 : Option Addr) (len0 cap0 : Nat) (z0 : List Int) (a1 : Option Addr) (len1 cap1 : Nat) (z1 : List Int) (a2 : Option Addr) (len2 cap2 : Nat) (z2 : List Int) (w : World) (w0 : IsRow .i64 w a0 len0 cap0 z0) (w1 : IsRow .i64 w a1 len1 cap1 z1) (w2 : IsRow .i64 w a2 len2 cap2 z2) :
    Calls Try.prog 6 #[.slice a0 len0 cap0, .slice a1 len1 cap1, .slice a2 len2 cap2] w fun e w' => e = .returned (.bool true) ∧ Below w.heap.size w w' :=
  walk_row a0 len0 cap0 z0 a1 len1 cap1 z1 a2 len2 cap2 z2 w (in_row w0).1 (in_row w1).1 (in_row w2).1 (in_row w0).2 (in_row w1).2 (in_row w2).2
set_option maxRecDepth 100000 in
theorem lifted (os : Os) (started : os.Started) (H : Type) (enc : TypeId × Value → H) :
    ReturnsInHanded {} Try.checked os 6 .any (Rows.deviceFlushedSpec.pre6 enc Try.prog Try.f6 Rows.deviceFlushedRow.domain false) (Rows.deviceFlushedSpec.post enc Try.prog Try.f6 false true false false) := by
  refine returnsInHanded_of_change (C := Try.checked) own started (by kernel_rfl) Try.func6
    (ChangeSpec.witness6 (enc := enc) (C := Try.checked) false ⟨#[], #[.slice none 0 0, .slice none 0 0, .slice none 0 0], []⟩ 8 (by kernel_rfl) (by kernel_rfl) (by kernel_rfl) (by kernel_rfl)) ?_
  intro W base args ds gs before hval0 hW hcnd _
  have hval : ∀ (j : Nat) t v, Try.f6.params[j]? = some t → args[j]? = some v → Value.okWide Try.prog W .any base t v := hval0
  have hW' := hW
  obtain ⟨p, q, hA0, hV, rfl, hfz, hnd⟩ := hW
  have hA : DataW.TrodAll enc Try.prog W 0 (fun _ => true) true Try.f6.params.toList args.toList ds p := hA0
  rw [Try.params6] at hA hval
  obtain ⟨v0, vs0, d0, ds0, p0, q0, hargs, rfl, rfl, h0, r0⟩ := trodAll_cons hA
  obtain ⟨v1, vs1, d1, ds1, p1, q1, rfl, rfl, rfl, h1, r1⟩ := trodAll_cons r0
  obtain ⟨v2, vs2, d2, ds2, p2, q2, rfl, rfl, rfl, h2, r2⟩ := trodAll_cons r1
  obtain ⟨rfl, rfl, rfl⟩ := trodAll_nil r2
  obtain rfl : args = #[v0, v1, v2] := by cases args; simp_all
  obtain ⟨rfl, rfl⟩ := trodVars_none hV
  obtain ⟨a0, len0, cap0, rfl⟩ := okWide_slice Try.underlying36 (hval 0 36 v0 rfl rfl)
  have k0 := h0
  have lt0 : ∀ x ∈ p0, x.block < W.heap.size := by obtain ⟨m, hm⟩ := k0; exact DataW.trod_lt m _ _ _ hm
  obtain ⟨z0, w0⟩ : ∃ zs, IsRow .i64 W a0 len0 cap0 zs := by
    obtain ⟨fuel, hf⟩ := h0
    rcases open_ints Try.underlying36 Try.underlying3 (by kernel_rfl) hf with ⟨hcs, _⟩ | ⟨x, l, c, zs, hcs, _, hl, hm, hz, _, hcell, hwz⟩
    · simp [Value.cells] at hcs
      obtain ⟨rfl, rfl, rfl⟩ := hcs
      exact ⟨[], .inl ⟨rfl, rfl, rfl, rfl⟩⟩
    · simp [Value.cells] at hcs
      obtain ⟨rfl, rfl, rfl⟩ := hcs
      exact ⟨zs, .inr ⟨_, rfl, hl, hm, by simpa using hz, hcell, hwz⟩⟩
  obtain ⟨a1, len1, cap1, rfl⟩ := okWide_slice Try.underlying36 (hval 1 36 v1 rfl rfl)
  have k1 := h1
  have lt1 : ∀ x ∈ p1, x.block < W.heap.size := by obtain ⟨m, hm⟩ := k1; exact DataW.trod_lt m _ _ _ hm
  obtain ⟨z1, w1⟩ : ∃ zs, IsRow .i64 W a1 len1 cap1 zs := by
    obtain ⟨fuel, hf⟩ := h1
    rcases open_ints Try.underlying36 Try.underlying3 (by kernel_rfl) hf with ⟨hcs, _⟩ | ⟨x, l, c, zs, hcs, _, hl, hm, hz, _, hcell, hwz⟩
    · simp [Value.cells] at hcs
      obtain ⟨rfl, rfl, rfl⟩ := hcs
      exact ⟨[], .inl ⟨rfl, rfl, rfl, rfl⟩⟩
    · simp [Value.cells] at hcs
      obtain ⟨rfl, rfl, rfl⟩ := hcs
      exact ⟨zs, .inr ⟨_, rfl, hl, hm, by simpa using hz, hcell, hwz⟩⟩
  obtain ⟨a2, len2, cap2, rfl⟩ := okWide_slice Try.underlying36 (hval 2 36 v2 rfl rfl)
  have k2 := h2
  have lt2 : ∀ x ∈ p2, x.block < W.heap.size := by obtain ⟨m, hm⟩ := k2; exact DataW.trod_lt m _ _ _ hm
  obtain ⟨z2, w2⟩ : ∃ zs, IsRow .i64 W a2 len2 cap2 zs := by
    obtain ⟨fuel, hf⟩ := h2
    rcases open_ints Try.underlying36 Try.underlying3 (by kernel_rfl) hf with ⟨hcs, _⟩ | ⟨x, l, c, zs, hcs, _, hl, hm, hz, _, hcell, hwz⟩
    · simp [Value.cells] at hcs
      obtain ⟨rfl, rfl, rfl⟩ := hcs
      exact ⟨[], .inl ⟨rfl, rfl, rfl, rfl⟩⟩
    · simp [Value.cells] at hcs
      obtain ⟨rfl, rfl, rfl⟩ := hcs
      exact ⟨zs, .inr ⟨_, rfl, hl, hm, by simpa using hz, hcell, hwz⟩⟩
  clear hA0 hval0
  refine (walk a0 len0 cap0 z0 a1 len1 cap1 z1 a2 len2 cap2 z2 W w0 w1 w2).mono fun e W' ⟨he, bel⟩ => ?_
  subst he
  exact ⟨_, rfl, _, _, _, [], _, [], hW', trodAll_mk1 (shut_bool Try.underlying4 _), (trodAll_cons_mk (Below.trod laidOut (by kernel_rfl) (of_decide_eq_true (by kernel_rfl)) k0 bel lt0) (trodAll_cons_mk (Below.trod laidOut (by kernel_rfl) (of_decide_eq_true (by kernel_rfl)) k1 bel lt1) (trodAll_cons_mk (Below.trod laidOut (by kernel_rfl) (of_decide_eq_true (by kernel_rfl)) k2 bel lt2) trodAll_mk0))), rfl, bel.frame _, fun h => by cases h⟩

theorem over : Rows.deviceFlushedRow.holds Try.pinned (OpenSpec.ofChange Rows.deviceFlushedSpec) :=
  OpenClaim.holds_of_wide 6 Try.f6 rfl rfl rfl rfl rfl rfl rfl ⟨rfl, rfl, rfl, rfl, rfl⟩ rfl rfl rfl rfl rfl (by kernel_rfl) Try.func6 (by kernel_rfl)
    (of_decide_eq_true (by kernel_rfl)) (by unfold Func.isWrapper; first | (rw [if_pos (by decide +kernel)]; kernel_rfl) | (rw [if_neg (by decide +kernel)]; exact ⟨rfl, rfl⟩))
    (fun os started H enc _ => lifted os started H enc)

/-- THE STATEMENT. -/
theorem proved : Rows.DeviceFlushedSaid := over
#print axioms proved
end Go.Proofs.Ythdgfhkihhamnaa.deviceFlushed
