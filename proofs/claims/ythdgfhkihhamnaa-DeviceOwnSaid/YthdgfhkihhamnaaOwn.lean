/-
  DeviceOwn answers true, whatever the input.
-/
import Derived.Test.YthdgfhkihhamnaaArm
import Derived.Deep.Grids
import Derived.Deep.CutBlock
import Derived.SizedLaws
namespace Go.Proofs.Ythdgfhkihhamnaa.deviceOwn
open Go.ChangeShapes Go.WideShapes Go.ChangeAt Go.RowKit
set_option linter.unusedVariables false

theorem own : ownKnob Try.prog.godebug = none := by kernel_rfl
theorem laidOut : laidOutB Try.prog = true := by kernel_rfl


/-- What the walk is told of a slice of ints that came in: nil, or a row of cap cells, the numbers zs, the first len its elements. -/
def IsRow (k : IntKind) (w : World) (a : Option Addr) (len cap : Nat) (zs : List Int) : Prop :=
  (a = none ∧ len = 0 ∧ cap = 0 ∧ zs = []) ∨
  ∃ x, a = some x ∧ len ≤ cap ∧ cap ≤ maxLen ∧ zs.length = cap ∧ (∀ i, i < zs.length → w.cell? (x.add i) = some (.int k (zs.getD i 0))) ∧ ∀ n ∈ zs, (Lit.int k n).wf = true

theorem in_row {len cap : Nat} {a : Option Addr} {z : List Int} {w : World} (h : IsRow .i64 w a len cap z) : len ≤ maxLen ∧ InRow w a len z := by
  rcases h with ⟨rfl, rfl, rfl, rfl⟩ | ⟨x, rfl, hl, hm, hz, hcell, hwz⟩
  · exact ⟨by unfold maxLen; omega, fun i hi => by omega⟩
  · refine ⟨by omega, fun i0 hi0 => ?_⟩
    obtain ⟨blk, off, spot⟩ := x
    have hc := hcell 0 (by omega)
    have hspot : spot = none := by simpa [Addr.add] using World.cell?_spot hc
    subst hspot
    refine ⟨blk, off, rfl, World.block_lt_of_cell? w ⟨blk, off, none⟩ (by simpa [Addr.add] using hc), fun i hi => ?_⟩
    have h := hcell i (by omega)
    by_cases e : i = 0
    · subst e; simpa [Addr.add] using h
    · simpa [Addr.add, e] using h

theorem row_caps {len cap : Nat} {a : Option Addr} {z : List Int} {w : World} (h : IsRow .i64 w a len cap z) : len ≤ cap ∧ cap ≤ maxLen ∧ (a = none → cap = 0) ∧ (a = none → len = 0 ∧ cap = 0) := by
  rcases h with ⟨rfl, rfl, rfl, rfl⟩ | ⟨x, rfl, hl, hm, hz, hcell, hwz⟩
  · exact ⟨by omega, by unfold maxLen; omega, fun _ => rfl, fun _ => ⟨rfl, rfl⟩⟩
  · exact ⟨hl, hm, (fun e => (by cases e)), (fun e => (by cases e))⟩

/-! ### The devices of this law, one behind the other -/
def p0 : Dev := Dev.fresh 2
def p1 (x : Int) : Dev := p0.write 1 (sec x)
def p2 (x : Int) : Dev := (p1 x).read
def p3 (x : Int) (kl : List Int) : Dev := (p2 x).arm 1 kl
def p4 (x : Int) (kl : List Int) : Dev := (p3 x kl).read
def p5 (x : Int) (kl : List Int) : Dev := (p4 x kl).read
def p6 (x : Int) (kl : List Int) : Dev := (p5 x kl).start
theorem t0 : p0.err = 0 := rfl
theorem t1 (x : Int) : (p1 x).answer 1 = (0, some (sec x)) := rfl
theorem t3 (x : Int) (kl : List Int) : (p3 x kl).answer 1 = (0, some (sec x)) := rfl
theorem t4 (x : Int) (kl : List Int) : (p4 x kl).answer 1 = (2, none) := rfl
theorem c1 (x : Int) : (p1 x).r = 0 ∧ (p1 x).w = 1 := ⟨rfl, rfl⟩
theorem c3 (x : Int) (kl : List Int) : (p3 x kl).r = 1 ∧ (p3 x kl).w = 1 := ⟨rfl, rfl⟩
theorem c4 (x : Int) (kl : List Int) : (p4 x kl).r = 2 ∧ (p4 x kl).w = 1 := ⟨rfl, rfl⟩
theorem t5 (x : Int) (kl : List Int) : (p5 x kl).down = true := rfl
theorem e5 (x : Int) (kl : List Int) : p5 x kl = (p4 x kl).crash kl := rfl
theorem c6 (x : Int) (kl : List Int) : (p6 x kl).r = 2 ∧ (p6 x kl).w = 1 := by
  obtain ⟨_, _, h1, h2, _⟩ := crash_up (p4 x kl) kl
  exact ⟨h1, h2⟩
theorem h6 (x : Int) (kl : List Int) : (p6 x kl).has 1 = true := by
  obtain ⟨h, _⟩ := crash_up (p4 x kl) kl
  exact h.has 1 (by show 1 < 2; omega)
theorem u6 (x : Int) (kl : List Int) : ∃ S T, Up 2 S T (p6 x kl) ∧ T 1 = ((p4 x kl).fate (kl[0]?.getD 0) (1, sec x)).torn 1 ∧ S 1 = ((p4 x kl).fate (kl[0]?.getD 0) (1, sec x)).secs 1 := by
  obtain ⟨h, _⟩ := crash_up (p4 x kl) kl
  exact ⟨_, _, h, rfl, rfl⟩
theorem t6 (x : Int) (kl : List Int) : (kl[0]?.getD 0 = 2 → (p6 x kl).answer 1 = (3, none)) ∧ (kl[0]?.getD 0 = 1 → (p6 x kl).answer 1 = (0, some (sec x))) ∧ (kl[0]?.getD 0 ≠ 1 → kl[0]?.getD 0 ≠ 2 → (p6 x kl).answer 1 = (0, some noughts)) := by
  obtain ⟨S, T, h, hT, hS⟩ := u6 x kl
  generalize kl[0]?.getD 0 = q at *
  refine ⟨fun e => ?_, fun e => ?_, fun e1 e2 => ?_⟩
  · subst e
    exact h.answer_torn 1 (by rw [hT]; rfl)
  · subst e
    rw [h.answer 1 (by rw [hT]; rfl), hS]; rfl
  · have e : (p4 x kl).fate q (1, sec x) = p4 x kl := by unfold Dev.fate; rw [if_neg e1, if_neg e2]
    rw [e] at hT hS
    rw [h.answer 1 (by rw [hT]; rfl), hS]; rfl

set_option maxRecDepth 100000 in
set_option maxHeartbeats 8000000 in
theorem walk_row (x : Int) (a1 : Option Addr) (len1 cap1 : Nat) (z1 : List Int) (w : World)
    (hl1 : len1 ≤ 17592186043904) (hn1 : a1 = none → len1 = 0 ∧ cap1 = 0) (w1 : InRow w a1 len1 z1) :
    Calls Try.prog 7 #[.int .i64 x, .slice a1 len1 cap1] w fun e w' => e = .returned (.bool true) ∧ Below w.heap.size w w' := by
  obtain ⟨i0, hi, hz0, hz1, hz2⟩ := info_parts Try.info5
  obtain ⟨i3, hi3, hy0, hy1, hy2⟩ := info_parts Try.info3
  have A1 := Lib.hid w1
  have N1 := Lib.hid hn1
  clear w1 hn1
  obtain ⟨kl, hkl⟩ : ∃ kl, kl = nums z1 len1 := ⟨_, rfl⟩
  have HKL := Lib.hid hkl
  clear hkl
  go_enter Try.func7, Try.ntmps7
  go_wp2_with fail
  refine (shown_any _).mono ?_
  rintro e wa ⟨rfl, hB0⟩
  have HB0 := Lib.hid hB0
  clear hB0
  go_wp2_with fail
  refine (new_in _ 2 2 rfl (by omega) (by omega)).mono ?_
  rintro e wb ⟨dp, Z, rfl, hI, hB⟩
  have H1 := Lib.hid (show LD w wb wa.heap.size dp Z p0 from ⟨hI, HB0.out.trans (hB.mono HB0.out.size), HB0.out.size, hB.size⟩)
  clear hI hB
  go_wp2_with fail
  refine (sector_in x _).mono ?_
  rintro e wc ⟨rfl, hb, hl⟩
  have HT := Lib.hid (And.intro (H1.out.below hl) (And.intro (Free.new hb H1.out.dev.hi) (show w.heap.size ≤ wb.heap.size from H1.out.bel.size)))
  clear hb hl H1
  generalize wa.heap.size = B at *
  generalize wb.heap.size = g at *
  go_wp2_with fail
  refine (write_in (D := p0) HT.out.1.dev HT.out.1.BW 1 rfl _ (sec x) HT.out.2.1 (sec_len _) (by decide) (by decide)).mono ?_
  rintro e wd ⟨Z1, rfl, hI, hS⟩
  rw [show (Dev.err _ : Int) = 0 from t0]
  have HU := Lib.hid (And.intro (show LD w wd B dp Z1 (p1 x) from HT.out.1.step hI hS) (And.intro (HT.out.2.1.step hS) HT.out.2.2))
  clear hI hS HT
  go_upto_block 0 with fail
  go_cut [9] (fun i wr => LD w wr B dp Z1 (p1 x))
  case first =>
    go_wp2_with fail
    go_loopw [9] (fun i wr => ∃ (k : Nat) (bs : List Int), k ≤ 512 ∧ i = .int .i64 k ∧ LD w wr B dp Z1 (p1 x) ∧ Free Z1 wr g bs ∧ bs.length = 512) (fun i _ => 512 - (intOf i).toNat)
    case atStart => exact ⟨0, _, by omega, rfl, HU.out.1, HU.out.2.1, sec_len _⟩
    case round =>
      obtain ⟨k, bs, hk, rfl, hG, hF, hL⟩ := hrel
      by_cases hlt : k < 512
      · have c0 := hF.bytes.at k (by omega)
        have f0 := hF.bytes.free k
        have HS := Lib.hid (fun v : Int => And.intro (hG.set hF.out HU.out.2.2 k (.int .u8 v)) (And.intro (hF.set k v) (show (bs.set k v).length = 512 by rw [List.length_set]; exact hL)))
        clear hG hF hL
        generalize bs[k]?.getD 0 = v at *
        go_wp2_with fail
        go_roundw
        case rel => exact ⟨k + 1, _, by omega, by go_num, HS.out _⟩
        case measure => simp [intOf]; omega
      · have HS := Lib.hid hG
        clear hG hF hL
        obtain rfl : k = 512 := by omega
        go_wp2_with fail
        go_meet
        exact HS.out
  case rest =>
    have HV := Lib.hid hcut
    clear HU hcut
    go_wp2_with fail
    refine (read_got HV.out.dev 1 (sec x) (t1 x) rfl (by rw [(c1 x).1]; decide) (by rw [(c1 x).1]; decide) (by rw [(c1 x).2]; decide)).mono ?_
    rintro e we ⟨u, rfl, hf, _, hge, hI, hS⟩
    have HU := Lib.hid (And.intro (show LD w we B dp Z1 (p2 x) from HV.out.step hI hS) (And.intro hf (Nat.le_trans HV.out.bel.size hge)))
    clear hI hS hf hge HV
    go_wp2_with fail
    refine (sector_in x _).mono ?_
    rintro e wf ⟨rfl, hb, hl⟩
    have HV := Lib.hid (And.intro (HU.out.1.below hl) (And.intro (HU.out.2.1.below hl) (And.intro HU.out.2.2 hb)))
    clear hb hl HU
    go_wp2_with fail
    refine (same_yes _ _ _ _ HV.out.2.1.bytes HV.out.2.2.2 (sec_len _)).mono ?_
    rintro e w' ⟨rfl, rfl⟩
    go_upto_block 2 with fail
    go_cut [12] (fun i wr => LD w wr B dp Z1 (p2 x))
    case first =>
      go_wp2_with fail
      go_loopw [12] (fun i wr => ∃ (k : Nat) (bs : List Int), k ≤ 512 ∧ i = .int .i64 k ∧ LD w wr B dp Z1 (p2 x) ∧ Free Z1 wr u bs ∧ bs.length = 512) (fun i _ => 512 - (intOf i).toNat)
      case atStart => exact ⟨0, _, by omega, rfl, HV.out.1, HV.out.2.1, sec_len _⟩
      case round =>
        obtain ⟨k, bs, hk, rfl, hG, hF, hL⟩ := hrel
        by_cases hlt : k < 512
        · have c0 := hF.bytes.at k (by omega)
          have f0 := hF.bytes.free k
          have HS := Lib.hid (fun v : Int => And.intro (hG.set hF.out HV.out.2.2.1 k (.int .u8 v)) (And.intro (hF.set k v) (show (bs.set k v).length = 512 by rw [List.length_set]; exact hL)))
          clear hG hF hL
          generalize bs[k]?.getD 0 = v at *
          go_wp2_with fail
          go_roundw
          case rel => exact ⟨k + 1, _, by omega, by go_num, HS.out _⟩
          case measure => simp [intOf]; omega
        · have HS := Lib.hid hG
          clear hG hF hL
          obtain rfl : k = 512 := by omega
          go_wp2_with fail
          go_meet
          exact HS.out
    case rest =>
      have HW := Lib.hid hcut
      clear HV hcut
      go_upto_region 19 with fail
      go_cut [13] (fun s wr => ∃ (a : Option Addr) (c : Nat), s = .slice a len1 c ∧ LD w wr B dp Z1 (p2 x) ∧ ArmArg wr a len1 c kl ∧ (len1 = 0 ∨ ∃ g, a = some ⟨g, 0, none⟩ ∧ ¬ Z1 g ∧ w.heap.size ≤ g ∧ Ints wr g len1))
      case first =>
        have HB := Lib.hid ((Below.refl wc.heap.size wc).alloc (Nat.le_refl _) (.cells #[] 3))
        cases a1 with
        | none =>
          obtain ⟨rfl, rfl⟩ := N1.out rfl
          go_wp2_with (at_builtin; refine wpList_append_own_none rfl _ _ 36 rfl wc.heap.size 3 i3 1 Try.underlying36 hi3 _ 0 [] rfl (World.ownsRow_made wc #[] 0 (Nat.le_refl _) (by unfold maxLen; omega) rfl) rfl ?_)
          go_meet
          exact ⟨_, _, rfl, HW.out.below HB.out, ⟨by rw [HKL.out, nums_len], by omega, .inr ⟨_, rfl, fun j u hu => by simp [HKL.out, nums] at hu⟩⟩, .inl (by trivial)⟩
        | some p =>
          have hnew := A1.out.news (HW.out.below HB.out).bel (by omega)
          rw [← HKL.out] at hnew
          have HN := Lib.hid hnew
          have hlen : kl.length = len1 := by rw [HKL.out, nums_len]
          clear hnew
          go_wp2_with (at_builtin; refine wpList_append_own _ rfl _ _ 36 rfl wc.heap.size 3 i3 (.int .i64 0) 1 8 Try.underlying36 hi3 hy0 hy1 hy2 rfl (by decide) _ 0 [] rfl (World.ownsRow_made wc #[] 0 (Nat.le_refl _) (by unfold maxLen; omega) rfl) p len1 cap1 (kl.map (Value.int .i64)) rfl (by rw [List.length_map, hlen, Nat.mul_one]) HN.out (ints_one _) (by unfold maxLen; omega) (by omega) (by simp) ?_; intro v1 wx1 hown1 hgr1 _; obtain ⟨a', c', rfl, hA, hI⟩ := armed_made (kl := kl) (by have h := hown1; rwa [List.nil_append, Nat.zero_add] at h) hl1; have hb1 := HB.out.grown hgr1 (by simp) (fun k e => by cases e; exact Nat.le_refl _); have HX := Lib.hid (And.intro (HW.out.below hb1) (And.intro hA hI)); clear hown1 hgr1 hA hI hb1)
          go_meet
          refine ⟨_, _, rfl, HX.out.1, HX.out.2.1, ?_⟩
          rcases HX.out.2.2 with h | ⟨g, h1, h2, h3⟩
          · exact .inl h
          · exact .inr ⟨g, h1, fun e => by have := HW.out.dev.hi g e; omega, Nat.le_trans HW.out.bel.size h2, h3⟩
      case rest =>
        clear HW
        obtain ⟨a, c, rfl, hG, hA, hI⟩ := hcut
        have HW := Lib.hid (And.intro hG (And.intro hA hI))
        clear hG hA hI
        go_wp2_with fail
        refine (arm_in (D := p2 x) HW.out.1.dev HW.out.1.BW 1 (by omega) (by omega) a len1 c kl HW.out.2.1).mono ?_
        rintro e wf ⟨Z2, rfl, hI, hS⟩
        have hI3 : len1 = 0 ∨ ∃ g, a = some ⟨g, 0, none⟩ ∧ ¬ Z2 g ∧ w.heap.size ≤ g ∧ Ints wf g len1 := by
          rcases HW.out.2.2 with h | ⟨g, h1, h2, h3, h4⟩
          · exact .inl h
          · exact .inr ⟨g, h1, fun e => h2 (hS.new g h4.lt e), h3, h4.kept (hS.out.block g h4.lt h2)⟩
        have HU := Lib.hid (And.intro (show LD w wf B dp Z2 (p3 x kl) from HW.out.1.step hI hS) hI3)
        clear hI hS hI3 HW
        go_wp2_with fail
        go_loopw [14] (fun i wr => ∃ k : Nat, k ≤ len1 ∧ i = .int .i64 k ∧ LD w wr B dp Z2 (p3 x kl) ∧ (len1 = 0 ∨ ∃ g, a = some ⟨g, 0, none⟩ ∧ ¬ Z2 g ∧ w.heap.size ≤ g ∧ Ints wr g len1)) (fun i _ => len1 - (intOf i).toNat)
        case atStart => exact ⟨0, by omega, rfl, HU.out⟩
        case round =>
          clear HU
          obtain ⟨k, hk, rfl, hG, hI⟩ := hrel
          by_cases hlt : k < len1
          · rcases hI with h | ⟨g2, rfl, nz, lo, hI⟩
            · omega
            · obtain ⟨v, c0⟩ := hI.cell k hlt
              have f0 := hI.free k
              have HS := Lib.hid (fun v : Int => And.intro (hG.set nz lo k (.int .i64 v)) (hI.set k v))
              have HZ := Lib.hid (And.intro nz lo)
              clear hG hI nz lo
              go_wp2_with fail
              go_roundw
              case rel => exact ⟨k + 1, by omega, by go_num, (HS.out _).1, .inr ⟨g2, rfl, HZ.out.1, HZ.out.2, (HS.out _).2⟩⟩
              case measure => simp [intOf]; omega
          · obtain rfl : len1 = k := by omega
            have HS := Lib.hid hG
            clear hG hI
            go_wp2_with fail
            refine (read_got HS.out.dev 1 (sec x) (t3 x kl) rfl (by rw [(c3 x kl).1]; decide) (by rw [(c3 x kl).1]; decide) (by rw [(c3 x kl).2]; decide)).mono ?_
            rintro e wg ⟨y, rfl, hf, _, _, hI, hS⟩
            have HU := Lib.hid (And.intro (show LD w wg B dp Z2 (p4 x kl) from HS.out.step hI hS) hf)
            clear hI hS hf HS
            go_wp2_with fail
            refine (read_not HU.out.1.dev 1 2 (t4 x kl) rfl (by rw [(c4 x kl).1]; decide) (by rw [(c4 x kl).1]; decide) (by rw [(c4 x kl).2]; decide)).mono ?_
            rintro e wh ⟨rfl, hI, hS⟩
            have HV := Lib.hid (And.intro (show LD w wh B dp Z2 (p5 x kl) from HU.out.1.step hI hS) (HU.out.2.step hS))
            clear hI hS HU
            go_wp2_with fail
            refine (start_in HV.out.1.dev (t5 x kl)).mono ?_
            rintro e wi ⟨rfl, hI, hS⟩
            have HU := Lib.hid (And.intro (show LD w wi B dp Z2 (p6 x kl) from HV.out.1.step hI hS) (HV.out.2.step hS))
            clear hI hS HV
            by_cases h0 : 0 < len1
            · obtain ⟨blk, off, rfl, hblk, hcell⟩ := A1.out 0 h0
              have HC := Lib.hid (hcell 0 h0)
              have hq0 : kl[0]?.getD 0 = z1[0]?.getD 0 := by rw [HKL.out, nums_get, if_pos h0]
              clear hcell
              generalize z1[0]?.getD 0 = v at *
              rcases (show v = 2 ∨ v = 1 ∨ (v ≠ 1 ∧ v ≠ 2) by omega) with rfl | rfl | ⟨v1, v2⟩
              · have ha := (t6 x kl).1 hq0
                clear hq0
                go_wp2_with fail
                refine (read_not HU.out.1.dev 1 3 ha (h6 x kl) (by rw [(c6 x kl).1]; decide) (by rw [(c6 x kl).1]; decide) (by rw [(c6 x kl).2]; decide)).mono ?_
                rintro e wj ⟨rfl, hI, hS⟩
                have HV := Lib.hid (And.intro (HU.out.1.step hI hS) (HU.out.2.step hS))
                clear hI hS HU ha
                have cz := (HV.out.1.bel.cell (p := ⟨blk, off, none⟩) hblk).trans HC.out
                go_wp2_with (at_make; refine wpList_make_full _ rfl _ _ 29 rfl wj.heap.size 5 i0 (.int .u8 0) 1 Try.underlying29 hi hz0 hz1 .i64 .i64 _ _ 512 rfl rfl rfl rfl (by rw [hz2]; decide) (by unfold maxLen; decide) (Nat.le_refl _) ?_; intro wk hown hgr; have HM := Lib.hid (And.intro (made_bytes hown) ((Below.refl _ _).grown hgr (Nat.le_refl _) (fun k e => by cases e))); clear hown hgr)
                have HX := Lib.hid (And.intro (HV.out.1.below HM.out.2) (HV.out.2.below HM.out.2))
                clear HV
                refine (sector_in x _).mono ?_
                rintro e wl ⟨rfl, hb, hl⟩
                have HY := Lib.hid (And.intro (HX.out.1.below hl) (And.intro (HX.out.2.below hl) hb))
                clear hb hl HX
                go_wp2_with fail
                refine (same_yes _ _ _ _ HY.out.2.1.bytes HY.out.2.2 (sec_len _)).mono ?_
                rintro e w' ⟨rfl, rfl⟩
                go_wp2_with fail
                go_ret
                exact ⟨rfl, HY.out.1.bel⟩
              · have ha := (t6 x kl).2.1 hq0
                clear hq0
                go_wp2_with fail
                refine (read_got HU.out.1.dev 1 (sec x) ha (h6 x kl) (by rw [(c6 x kl).1]; decide) (by rw [(c6 x kl).1]; decide) (by rw [(c6 x kl).2]; decide)).mono ?_
                rintro e wj ⟨z, rfl, hf, _, _, hI, hS⟩
                have HV := Lib.hid (And.intro (HU.out.1.step hI hS) (And.intro (HU.out.2.step hS) hf))
                clear hI hS HU ha hf
                have cz := (HV.out.1.bel.cell (p := ⟨blk, off, none⟩) hblk).trans HC.out
                go_wp2_with (at_make; refine wpList_make_full _ rfl _ _ 29 rfl wj.heap.size 5 i0 (.int .u8 0) 1 Try.underlying29 hi hz0 hz1 .i64 .i64 _ _ 512 rfl rfl rfl rfl (by rw [hz2]; decide) (by unfold maxLen; decide) (Nat.le_refl _) ?_; intro wk hown hgr; have HM := Lib.hid (And.intro (made_bytes hown) ((Below.refl _ _).grown hgr (Nat.le_refl _) (fun k e => by cases e))); clear hown hgr)
                have HX := Lib.hid (And.intro (HV.out.1.below HM.out.2) (And.intro (HV.out.2.1.below HM.out.2) (And.intro (HV.out.2.2.below HM.out.2) HM.out.1)))
                clear HV
                refine (sector_in x _).mono ?_
                rintro e wm ⟨rfl, hb, hl⟩
                have HT := Lib.hid (And.intro (HX.out.1.below hl) (And.intro (HX.out.2.1.below hl) (And.intro (HX.out.2.2.1.below hl) hb)))
                clear hb hl HX
                go_wp2_with fail
                refine (sector_in x _).mono ?_
                rintro e wl ⟨rfl, hb, hl⟩
                have HY := Lib.hid (And.intro (HT.out.1.below hl) (And.intro (HT.out.2.1.below hl) (And.intro (HT.out.2.2.1.below hl) (And.intro (HT.out.2.2.2.kept hl) hb))))
                clear hb hl HT
                go_wp2_with fail
                refine (same_yes _ _ _ _ HY.out.2.1.bytes HY.out.2.2.2.2 (sec_len _)).mono ?_
                rintro e w' ⟨rfl, rfl⟩
                go_wp2_with fail
                refine (same_yes _ _ _ _ HY.out.2.2.1.bytes HY.out.2.2.2.1 (sec_len _)).mono ?_
                rintro e w' ⟨rfl, rfl⟩
                go_wp2_with fail
                go_ret
                exact ⟨rfl, HY.out.1.bel⟩
              · have ha := (t6 x kl).2.2 (by rw [hq0]; exact v1) (by rw [hq0]; exact v2)
                clear hq0
                have b1 : (v == 1) = false := by rw [beq_eq_false_iff_ne]; exact v1
                have b2 : (v == 2) = false := by rw [beq_eq_false_iff_ne]; exact v2
                go_wp2_with fail
                refine (read_got HU.out.1.dev 1 noughts ha (h6 x kl) (by rw [(c6 x kl).1]; decide) (by rw [(c6 x kl).1]; decide) (by rw [(c6 x kl).2]; decide)).mono ?_
                rintro e wj ⟨z, rfl, hf, _, _, hI, hS⟩
                have HV := Lib.hid (And.intro (HU.out.1.step hI hS) (And.intro (HU.out.2.step hS) hf))
                clear hI hS HU ha hf
                have cz := (HV.out.1.bel.cell (p := ⟨blk, off, none⟩) hblk).trans HC.out
                go_wp2_with (at_make; refine wpList_make_full _ rfl _ _ 29 rfl wj.heap.size 5 i0 (.int .u8 0) 1 Try.underlying29 hi hz0 hz1 .i64 .i64 _ _ 512 rfl rfl rfl rfl (by rw [hz2]; decide) (by unfold maxLen; decide) (Nat.le_refl _) ?_; intro wk hown hgr; have HM := Lib.hid (And.intro (made_bytes hown) ((Below.refl _ _).grown hgr (Nat.le_refl _) (fun k e => by cases e))); clear hown hgr)
                have HX := Lib.hid (And.intro (HV.out.1.below HM.out.2) (And.intro (HV.out.2.1.below HM.out.2) (And.intro (HV.out.2.2.below HM.out.2) HM.out.1)))
                clear HV
                refine (sector_in x _).mono ?_
                rintro e wl ⟨rfl, hb, hl⟩
                have HY := Lib.hid (And.intro (HX.out.1.below hl) (And.intro (HX.out.2.1.below hl) (And.intro (HX.out.2.2.1.below hl) (And.intro (HX.out.2.2.2.kept hl) hb))))
                clear hb hl HX
                go_wp2_with fail
                refine (same_yes _ _ _ _ HY.out.2.1.bytes HY.out.2.2.2.2 (sec_len _)).mono ?_
                rintro e w' ⟨rfl, rfl⟩
                go_wp2_with fail
                refine (same_yes _ _ _ _ HY.out.2.2.1.bytes HY.out.2.2.2.1 noughts_len).mono ?_
                rintro e w' ⟨rfl, rfl⟩
                go_wp2_with fail
                go_ret
                exact ⟨rfl, HY.out.1.bel⟩
            · have hq0 : kl[0]?.getD 0 = 0 := by rw [HKL.out, nums_get, if_neg h0]
              have ha := (t6 x kl).2.2 (by rw [hq0]; decide) (by rw [hq0]; decide)
              clear hq0
              go_wp2_with fail
              refine (read_got HU.out.1.dev 1 noughts ha (h6 x kl) (by rw [(c6 x kl).1]; decide) (by rw [(c6 x kl).1]; decide) (by rw [(c6 x kl).2]; decide)).mono ?_
              rintro e wj ⟨z, rfl, hf, _, _, hI, hS⟩
              have HV := Lib.hid (And.intro (HU.out.1.step hI hS) (And.intro (HU.out.2.step hS) hf))
              clear hI hS HU ha hf
              go_wp2_with (at_make; refine wpList_make_full _ rfl _ _ 29 rfl wj.heap.size 5 i0 (.int .u8 0) 1 Try.underlying29 hi hz0 hz1 .i64 .i64 _ _ 512 rfl rfl rfl rfl (by rw [hz2]; decide) (by unfold maxLen; decide) (Nat.le_refl _) ?_; intro wk hown hgr; have HM := Lib.hid (And.intro (made_bytes hown) ((Below.refl _ _).grown hgr (Nat.le_refl _) (fun k e => by cases e))); clear hown hgr)
              have HX := Lib.hid (And.intro (HV.out.1.below HM.out.2) (And.intro (HV.out.2.1.below HM.out.2) (And.intro (HV.out.2.2.below HM.out.2) HM.out.1)))
              clear HV
              refine (sector_in x _).mono ?_
              rintro e wl ⟨rfl, hb, hl⟩
              have HY := Lib.hid (And.intro (HX.out.1.below hl) (And.intro (HX.out.2.1.below hl) (And.intro (HX.out.2.2.1.below hl) (And.intro (HX.out.2.2.2.kept hl) hb))))
              clear hb hl HX
              go_wp2_with fail
              refine (same_yes _ _ _ _ HY.out.2.1.bytes HY.out.2.2.2.2 (sec_len _)).mono ?_
              rintro e w' ⟨rfl, rfl⟩
              go_wp2_with fail
              refine (same_yes _ _ _ _ HY.out.2.2.1.bytes HY.out.2.2.2.1 noughts_len).mono ?_
              rintro e w' ⟨rfl, rfl⟩
              go_wp2_with fail
              go_ret
              exact ⟨rfl, HY.out.1.bel⟩

theorem walk (a0 : Int) (a1 : Option Addr) (len1 cap1 : Nat) (z1 : List Int) (w : World) (w0 : (Lit.int .i64 a0).wf = true) (w1 : IsRow .i64 w a1 len1 cap1 z1) (s1 : cap1 ≤ 17592186043904) :
    Calls Try.prog 7 #[.int .i64 a0, .slice a1 len1 cap1] w fun e w' => e = .returned (.bool true) ∧ Below w.heap.size w w' :=
  walk_row a0 a1 len1 cap1 z1 w (Nat.le_trans (row_caps w1).1 s1) (row_caps w1).2.2.2 (in_row w1).2
set_option maxRecDepth 100000 in
theorem lifted (os : Os) (started : os.Started) (H : Type) (enc : TypeId × Value → H) :
    ReturnsInHanded {} Try.checked os 7 .any (Rows.deviceOwnSpec.pre6 enc Try.prog Try.f7 Rows.deviceOwnRow.domain false) (Rows.deviceOwnSpec.post enc Try.prog Try.f7 false true false false) := by
  refine returnsInHanded_of_change_sized (C := Try.checked) own started (by kernel_rfl) Try.func7
    (ChangeSpec.witness6 (enc := enc) (C := Try.checked) false ⟨#[], #[.int .i64 0, .slice none 0 0], []⟩ 8 (by kernel_rfl) (by kernel_rfl) (by kernel_rfl) (by kernel_rfl)) ?_
  intro W base args ds gs before hval0 hW hcnd hwt _
  have hval : ∀ (j : Nat) t v, Try.f7.params[j]? = some t → args[j]? = some v → Value.okWide Try.prog W .any base t v := hval0
  have hW' := hW
  obtain ⟨p, q, hA0, hV, rfl, hfz, hnd⟩ := hW
  have hA : DataW.TrodAll enc Try.prog W 0 (fun _ => true) true Try.f7.params.toList args.toList ds p := hA0
  rw [Try.params7] at hA hval
  obtain ⟨v0, vs0, d0, ds0, p0, q0, hargs, rfl, rfl, h0, r0⟩ := trodAll_cons hA
  obtain ⟨v1, vs1, d1, ds1, p1, q1, rfl, rfl, rfl, h1, r1⟩ := trodAll_cons r0
  obtain ⟨rfl, rfl, rfl⟩ := trodAll_nil r1
  obtain rfl : args = #[v0, v1] := by cases args; simp_all
  obtain ⟨rfl, rfl⟩ := trodVars_none hV
  obtain ⟨a0, rfl, rfl, rfl, w0⟩ := open_int Try.underlying3 (hval 0 3 v0 rfl rfl) h0
  obtain ⟨a1, len1, cap1, rfl⟩ := okWide_slice Try.underlying36 (hval 1 36 v1 rfl rfl)
  have k1 := h1
  have lt1 : ∀ x ∈ p1, x.block < W.heap.size := by obtain ⟨m, hm⟩ := k1; exact DataW.trod_lt m _ _ _ hm
  obtain ⟨z1, w1, s1⟩ : ∃ zs, IsRow .i64 W a1 len1 cap1 zs ∧ cap1 ≤ 17592186043904 := by
    obtain ⟨fuel, hf⟩ := h1
    rcases open_ints Try.underlying36 Try.underlying3 (by kernel_rfl) hf with ⟨hcs, _⟩ | ⟨x, l, c, zs, hcs, _, hl, hm, hz, hx, hcell, hwz⟩
    · simp [Value.cells] at hcs
      obtain ⟨rfl, rfl, rfl⟩ := hcs
      exact ⟨[], .inl ⟨rfl, rfl, rfl, rfl⟩, by omega⟩
    · simp [Value.cells] at hcs
      obtain ⟨rfl, rfl, rfl⟩ := hcs
      have hz2 : zs.length = cap1 := by simpa using hz
      obtain ⟨rfl, rfl⟩ := Prod.mk.inj hx
      have hb := sized_slice (P := Try.prog) hwt (j := 1) (t := 36) (e := 3) rfl rfl Try.underlying36
      rw [show Try.prog.bytesOf 3 = 8 from by kernel_rfl] at hb
      simp only [lits, List.length_map, List.length_take, List.length_drop, hz2] at hb
      unfold reachBytes at hb
      exact ⟨zs, .inr ⟨_, rfl, hl, hm, hz2, hcell, hwz⟩, by omega⟩
  clear hA0 hval0
  refine (walk a0 a1 len1 cap1 z1 W w0 w1 s1).mono fun e W' ⟨he, bel⟩ => ?_
  subst he
  exact ⟨_, rfl, _, _, _, [], _, [], hW', trodAll_mk1 (shut_bool Try.underlying4 _), (trodAll_cons_mk (shut_int Try.underlying3 w0) (trodAll_cons_mk (Below.trod laidOut (by kernel_rfl) (of_decide_eq_true (by kernel_rfl)) k1 bel lt1) trodAll_mk0)), rfl, bel.frame _, fun h => by cases h⟩

theorem over : Rows.deviceOwnRow.holds Try.pinned (OpenSpec.ofChange Rows.deviceOwnSpec) :=
  OpenClaim.holds_of_wide 7 Try.f7 rfl rfl rfl rfl rfl rfl rfl ⟨rfl, rfl, rfl, rfl, rfl⟩ rfl rfl rfl rfl rfl (by kernel_rfl) Try.func7 (by kernel_rfl)
    (of_decide_eq_true (by kernel_rfl)) (by unfold Func.isWrapper; first | (rw [if_pos (by decide +kernel)]; kernel_rfl) | (rw [if_neg (by decide +kernel)]; exact ⟨rfl, rfl⟩))
    (fun os started H enc _ => lifted os started H enc)

/-- THE STATEMENT. -/
theorem proved : Rows.DeviceOwnSaid := over
#print axioms proved
end Go.Proofs.Ythdgfhkihhamnaa.deviceOwn
