/-
  DeviceKept answers true, whatever the input.
-/
import Derived.Test.YthdgfhkihhamnaaTwo
import Derived.Deep.Grids
import Derived.Deep.CutBlock
import Derived.SizedLaws
namespace Go.Proofs.Ythdgfhkihhamnaa.deviceKept
open Go.ChangeShapes Go.WideShapes Go.ChangeAt Go.RowKit
set_option linter.unusedVariables false

theorem own : ownKnob Try.prog.godebug = none := by kernel_rfl
theorem laidOut : laidOutB Try.prog = true := by kernel_rfl


/-- What the walk is told of a slice of ints that came in: nil, or a row of cap cells, the numbers zs, the first len its elements. -/
def IsRow (k : IntKind) (w : World) (a : Option Addr) (len cap : Nat) (zs : List Int) : Prop :=
  (a = none ∧ len = 0 ∧ cap = 0 ∧ zs = []) ∨
  ∃ x, a = some x ∧ len ≤ cap ∧ cap ≤ maxLen ∧ zs.length = cap ∧ (∀ i, i < zs.length → w.cell? (x.add i) = some (.int k (zs.getD i 0))) ∧ ∀ n ∈ zs, (Lit.int k n).wf = true

theorem in_row {len cap : Nat} {a : Option Addr} {z : List Int} {w : World} (h : IsRow .i64 w a len cap z) : len ≤ maxLen ∧ InRow w a len z := by
  rcases h with ⟨rfl, rfl, rfl, rfl⟩ | ⟨x, rfl, hl, hm, hz, hcell, hwz⟩
  · exact ⟨by unfold maxLen; omega, fun i hi => by omega⟩
  · refine ⟨by omega, fun i0 hi0 => ?_⟩
    obtain ⟨blk, off, spot⟩ := x
    have hc := hcell 0 (by omega)
    have hspot : spot = none := by simpa [Addr.add] using World.cell?_spot hc
    subst hspot
    refine ⟨blk, off, rfl, World.block_lt_of_cell? w ⟨blk, off, none⟩ (by simpa [Addr.add] using hc), fun i hi => ?_⟩
    have h := hcell i (by omega)
    by_cases e : i = 0
    · subst e; simpa [Addr.add] using h
    · simpa [Addr.add, e] using h

theorem row_caps {len cap : Nat} {a : Option Addr} {z : List Int} {w : World} (h : IsRow .i64 w a len cap z) : len ≤ cap ∧ cap ≤ maxLen ∧ (a = none → cap = 0) ∧ (a = none → len = 0 ∧ cap = 0) := by
  rcases h with ⟨rfl, rfl, rfl, rfl⟩ | ⟨x, rfl, hl, hm, hz, hcell, hwz⟩
  · exact ⟨by omega, by unfold maxLen; omega, fun _ => rfl, fun _ => ⟨rfl, rfl⟩⟩
  · exact ⟨hl, hm, (fun e => (by cases e)), (fun e => (by cases e))⟩
theorem and65535 (n : Int) : bits .and .i64 n 65535 = n % 65536 := by
  have h : (BitVec.ofInt 64 65535).toNat = 2 ^ 16 - 1 := by decide
  have key : (BitVec.ofInt 64 n &&& BitVec.ofInt 64 65535).toNat = (n % ((2 ^ 64 : Nat) : Int)).toNat % 2 ^ 16 := by
    rw [BitVec.toNat_and, BitVec.toNat_ofInt, h, Nat.and_two_pow_sub_one_eq_mod]
  show IntKind.i64.wrap ((BitVec.ofInt 64 n &&& BitVec.ofInt 64 65535).toNat : Nat) = n % 65536
  rw [key, IntKind.wrap_i64]
  omega
attribute [local go_sem] and65535

/-- What the writes have made of a device, m of them. -/
def Wr (n m : Nat) (D : Dev) : Prop := Waits (Dev.fresh n) D (ones 0 m) m ∧ D.r = 0
theorem Wr.fresh (n : Nat) : Wr n 0 (Dev.fresh n) := ⟨⟨⟨rfl, rfl⟩, rfl, rfl, fun _ => rfl, rfl, rfl⟩, rfl⟩
theorem Wr.write {n m : Nat} {D : Dev} (h : Wr n m D) : Wr n (m + 1) (D.write m (sec (m + 1))) := by
  obtain ⟨t1, t2, t3⟩ := h.1.write m (sec (m + 1))
  refine ⟨?_, t2.trans h.2⟩
  rw [ones_snoc]
  exact t1
theorem Wr.has {n m : Nat} {D : Dev} (h : Wr n m D) (i : Nat) (hi : i < n) : D.has i = true := by
  have hs : D.n = n := h.1.size
  unfold Dev.has; rw [hs]; simp; omega

set_option maxRecDepth 100000 in
set_option maxHeartbeats 8000000 in
theorem walk_row (x : Int) (a1 : Option Addr) (len1 cap1 : Nat) (z1 : List Int) (a2 : Option Addr) (len2 cap2 : Nat) (z2 : List Int) (w : World)
    (hl1 : len1 ≤ cap1) (hc1 : cap1 ≤ maxLen) (hn1 : a1 = none → cap1 = 0) (hl2 : len2 ≤ 17592186043904) (hn2 : a2 = none → len2 = 0 ∧ cap2 = 0) (w1 : InRow w a1 len1 z1) (w2 : InRow w a2 len2 z2) :
    Calls Try.prog 5 #[.int .i64 x, .slice a1 len1 cap1, .slice a2 len2 cap2] w fun e w' => e = .returned (.bool true) ∧ Below w.heap.size w w' := by
  obtain ⟨i0, hi, hz0, hz1, hz2⟩ := info_parts Try.info5
  obtain ⟨i3, hi3, hy0, hy1, hy2⟩ := info_parts Try.info3
  unfold maxLen at hc1
  have A1 := Lib.hid w1
  have A2 := Lib.hid w2
  have N2 := Lib.hid hn2
  clear w1 w2 hn2
  obtain ⟨n, hn⟩ : ∃ n : Nat, (n : Int) = 1 + x % 65536 % 30 := ⟨(1 + x % 65536 % 30).toNat, by omega⟩
  have n1 : 1 ≤ n := by omega
  have n30 : n ≤ 30 := by omega
  have HN := Lib.hid hn
  clear hn
  go_enter Try.func5, Try.ntmps5
  go_wp2_with fail
  refine (shown_any _).mono ?_
  rintro e wa ⟨rfl, hB0⟩
  have HB0 := Lib.hid hB0
  clear hB0
  go_wp2_with fail
  rw [← HN.out]
  refine (new_in _ n n rfl n1 (by omega)).mono ?_
  rintro e wb ⟨da, Za, rfl, hI, hB⟩
  have H1 := Lib.hid (And.intro hI (And.intro (HB0.out.trans (hB.mono HB0.out.size)) hB.size))
  clear hI hB
  go_wp2_with fail
  refine (new_in _ n n rfl n1 (by omega)).mono ?_
  rintro e wc ⟨db, Zb, rfl, hI, hB⟩
  have hst : LK w wc wa.heap.size da db Za Zb (Dev.fresh n) (Dev.fresh n) :=
    ⟨H1.out.1.below hB, ⟨hI.dev, fun k hk => Nat.le_trans H1.out.2.2 (hI.lo k hk), hI.hi⟩, fun k hk hz => by have := H1.out.1.hi k hk; have := hI.lo k hz; omega, H1.out.2.1.trans (hB.mono H1.out.2.1.size), HB0.out.size, Nat.le_trans H1.out.2.2 hB.size⟩
  generalize wa.heap.size = B at *
  have HS := Lib.hid hst
  clear hst H1 hI hB
  obtain ⟨K, hKn, hKl, hKe⟩ : ∃ K : Nat, K ≤ n ∧ K ≤ len1 ∧ (K = n ∨ K = len1) := ⟨min len1 n, by omega, by omega, by omega⟩
  have HKE := Lib.hid hKe
  clear hKe
  go_upto_region 7 with fail
  go_cut [1] (fun s1 wx => (∃ c, s1 = .slice a1 K c) ∧ wx = wc)
  case first =>
    have hcase : (len1 ≤ n ∧ K = len1) ∨ (n < len1 ∧ K = n) := by have := HKE.out; omega
    rcases hcase with ⟨h1, rfl⟩ | ⟨h1, rfl⟩
    · have h2 : ¬ (n : Int) < K := by omega
      have h3 : ¬ n < K := by omega
      cases a1 with
      | none =>
        obtain rfl := hn1 rfl
        obtain rfl : K = 0 := by omega
        go_wp2_with fail
        go_meet
        exact ⟨⟨_, rfl⟩, rfl⟩
      | some p =>
        go_wp2_with fail
        go_meet
        exact ⟨⟨_, rfl⟩, rfl⟩
    · have h2 : (K : Int) < len1 := by omega
      have h4 : ¬ (len1 : Int) ≤ K := by omega
      have h5 : ¬ len1 ≤ K := by omega
      cases a1 with
      | none =>
        obtain rfl := hn1 rfl
        omega
      | some p =>
        go_wp2_with fail
        go_meet
        exact ⟨⟨_, rfl⟩, rfl⟩
  case rest =>
    obtain ⟨⟨c, rfl⟩, rfl⟩ := hcut
    have HL := Lib.hid (A1.out.held (Z := fun k => Za k ∨ Zb k) HS.out.bel K hKl (by omega) (fun k hk => hk.elim (fun e => Nat.le_trans HS.out.wB (HS.out.a.lo k e)) (fun e => Nat.le_trans HS.out.wB (HS.out.b.lo k e))))
    go_wp2_with fail
    go_loopw [12] (fun i wr => ∃ (m : Nat) (Za Zb : Nat → Prop) (Da Db : Dev), m ≤ n ∧ i = .int .i64 m ∧ LK w wr B da db Za Zb Da Db ∧ Wr n m Da ∧ Wr n m Db ∧ Held wr (fun k => Za k ∨ Zb k) a1 K (nums z1 K)) (fun i _ => n - (intOf i).toNat)
    case atStart => exact ⟨0, _, _, _, _, by omega, rfl, HS.out, Wr.fresh n, Wr.fresh n, HL.out⟩
    case round =>
      clear HS HL
      obtain ⟨m, Za, Zb, Da, Db, hm, rfl, hr⟩ := hrel
      have HW := Lib.hid hr
      clear hr
      by_cases hlt : m < n
      · go_wp2_with fail
        refine (sector_in (m + 1) _).mono ?_
        rintro e wd ⟨rfl, hb, hl⟩
        have hG := HW.out.1.below hl
        have hf := Free.new hb HW.out.1.a.hi
        have HT := Lib.hid (And.intro hG (And.intro hf (HW.out.2.2.2.below hl)))
        clear hG hf hb hl
        go_wp2_with fail
        refine (write_in HT.out.1.a HT.out.1.BW m (HW.out.2.1.has m hlt) _ (sec (m + 1)) HT.out.2.1 (sec_len _) (by rw [HW.out.2.1.1.w]; omega) (by rw [HW.out.2.1.1.w]; omega)).mono ?_
        rintro e we ⟨Z', rfl, hI, hS⟩
        rw [HW.out.2.1.1.calm.err]
        have HU := Lib.hid (And.intro (HT.out.1.stepA hI hS) (HT.out.2.2.stepA hS))
        clear HT hI hS
        go_wp2_with fail
        refine (sector_in (m + 1) _).mono ?_
        rintro e wf ⟨rfl, hb, hl⟩
        have hG := HU.out.1.below hl
        have hf := Free.new hb HU.out.1.b.hi
        have HT := Lib.hid (And.intro hG (And.intro hf (HU.out.2.below hl)))
        clear HU hG hf hb hl
        go_wp2_with fail
        refine (write_in HT.out.1.b HT.out.1.BW m (HW.out.2.2.1.has m hlt) _ (sec (m + 1)) HT.out.2.1 (sec_len _) (by rw [HW.out.2.2.1.1.w]; omega) (by rw [HW.out.2.2.1.1.w]; omega)).mono ?_
        rintro e wg ⟨Z2, rfl, hI, hS⟩
        rw [HW.out.2.2.1.1.calm.err]
        have HU := Lib.hid (And.intro (HT.out.1.stepB hI hS) (And.intro HW.out.2.1.write (And.intro HW.out.2.2.1.write (HT.out.2.2.stepB hS))))
        clear HT hI hS
        go_wp2_with fail
        go_roundw
        case rel => exact ⟨m + 1, _, _, _, _, by omega, by go_num, HU.out⟩
        case measure => simp [intOf]; omega
      · obtain rfl : n = m := by omega
        go_wp2_with fail
        refine (crash_in HW.out.1.a a1 K c _ HW.out.2.2.2.arg (by rw [HW.out.2.1.1.w]; omega)).mono ?_
        rintro e wd ⟨rfl, hI, hS⟩
        obtain ⟨k1, k2⟩ := ones_crash HW.out.2.1.1 HW.out.2.1.2 (by omega) (nums z1 K)
        have HU := Lib.hid (And.intro (HW.out.1.stepA hI hS) (And.intro (HW.out.2.2.2.stepA hS) (And.intro k1 (And.intro k2 HW.out.2.2.1))))
        clear HW hI hS k1 k2
        generalize Da.crash (nums z1 K) = Ea at *
        go_upto_if 82 with fail
        go_cut [1] (fun s1 wx => ∃ (a : Option Addr) (L c : Nat) (kl : List Int), s1 = .slice a L c ∧ LK w wx B da db Za Zb Ea Db ∧ Held wx (fun k => Za k ∨ Zb k) a L kl ∧ ∀ i : Nat, i < n → kl[i]?.getD 0 = (nums z1 K)[i]?.getD 0)
        case first =>
          by_cases hKm : K = n
          · obtain rfl : K = n := hKm
            obtain ⟨kb, off, rfl⟩ := HU.out.2.1.form (by omega)
            have HB1 := Lib.hid (HU.out.2.1.below ((Below.refl wd.heap.size wd).alloc (Nat.le_refl _) (.cells #[] 3)))
            have HZ := Lib.hid (fun k (hk : Za k ∨ Zb k) => hk.elim (HU.out.1.a.hi k) (HU.out.1.b.hi k))
            have hK63 : K ≤ 9223372036854775807 := by omega
            cases a2 with
            | none =>
              obtain ⟨rfl, rfl⟩ := N2.out rfl
              go_wp2_with (first | (at_builtin; refine wpList_append_own _ rfl _ _ 36 rfl wd.heap.size 3 i3 (.int .i64 0) 1 8 Try.underlying36 hi3 hy0 hy1 hy2 rfl (by decide) _ 0 [] rfl (World.ownsRow_made wd #[] 0 (Nat.le_refl _) (by unfold maxLen; omega) rfl) ⟨kb, off, none⟩ K c ((nums z1 K).map (Value.int .i64)) rfl (by rw [List.length_map, nums_len, Nat.mul_one]) (held_news HB1.out) (ints_one _) (by unfold maxLen; omega) (by omega) (by simp) ?_; intro v1 wx1 hown1 hgr1 _; obtain ⟨a', c', rfl, hh1, hbel1, hown0⟩ := first_made hown1 hgr1 HZ.out hK63; have HX := Lib.hid (And.intro (HU.out.1.below hbel1) (And.intro hh1 (And.intro hbel1 hown0))); have hle2 := hbel1.size; clear hown1 hgr1 hh1 hbel1 hown0) | (at_builtin; refine wpList_append_own_none rfl _ _ 36 rfl wd.heap.size 3 i3 1 Try.underlying36 hi3 _ K ((nums z1 K).map (Value.int .i64)) rfl HX.out.2.2.2 rfl ?_))
              go_meet
              exact ⟨_, _, _, _, rfl, HX.out.1, HX.out.2.1, fun i hi => rfl⟩
            | some p =>
              go_wp2_with (first | (at_builtin; refine wpList_append_own _ rfl _ _ 36 rfl wd.heap.size 3 i3 (.int .i64 0) 1 8 Try.underlying36 hi3 hy0 hy1 hy2 rfl (by decide) _ 0 [] rfl (World.ownsRow_made wd #[] 0 (Nat.le_refl _) (by unfold maxLen; omega) rfl) ⟨kb, off, none⟩ K c ((nums z1 K).map (Value.int .i64)) rfl (by rw [List.length_map, nums_len, Nat.mul_one]) (held_news HB1.out) (ints_one _) (by unfold maxLen; omega) (by omega) (by simp) ?_; intro v1 wx1 hown1 hgr1 _; obtain ⟨a', c', rfl, hh1, hbel1, hown0⟩ := first_made hown1 hgr1 HZ.out hK63; have HX := Lib.hid (And.intro (HU.out.1.below hbel1) (And.intro hh1 (And.intro hbel1 hown0))); have hle2 := hbel1.size; clear hown1 hgr1 hh1 hbel1 hown0) | (at_builtin; refine wpList_append_own _ rfl _ _ 36 rfl wd.heap.size 3 i3 (.int .i64 0) 1 8 Try.underlying36 hi3 hy0 hy1 hy2 rfl (by decide) _ K ((nums z1 K).map (Value.int .i64)) rfl HX.out.2.2.2 p len2 cap2 ((nums z2 len2).map (Value.int .i64)) rfl (by rw [List.length_map, nums_len, Nat.mul_one]) (A2.out.news HX.out.1.bel (by omega)) (ints_one _) (by unfold maxLen; omega) (by omega) hle2 ?_; intro v2 wx2 hown2 hgr2 _; obtain ⟨a3, c3, rfl, hh2, hbel2⟩ := second_made HX.out.2.2.1 HX.out.2.2.2 hown2 hgr2 HZ.out (by omega); have HY := Lib.hid (And.intro (HU.out.1.below hbel2) hh2); clear hown2 hgr2 hh2 hbel2))
              go_meet
              exact ⟨_, _, _, _, rfl, HY.out.1, HY.out.2, fun i hi => by rw [List.getElem?_append_left (by rw [nums_len]; exact hi)]⟩
          · have b1 : ((K : Int) == (n : Int)) = false := by rw [beq_eq_false_iff_ne]; omega
            have b2 : (K == n) = false := by rw [beq_eq_false_iff_ne]; omega
            go_wp2_with fail
            go_meet
            exact ⟨_, _, _, _, rfl, HU.out.1, HU.out.2.1, fun i hi => rfl⟩
        case rest =>
          obtain ⟨a, L, cc, kl, rfl, hG, hH, hq⟩ := hcut
          obtain ⟨g1, g2⟩ := HU.out.2.2.2.2
          obtain ⟨k1, k2⟩ := ones_crash g1 g2 (by omega) kl
          have hal : Al n (fun i => kl[i]?.getD 0) 0 Ea.start := HU.out.2.2.1.congr hq
          have HV := Lib.hid (And.intro hG (And.intro hH (And.intro hal (And.intro HU.out.2.2.2.1 (And.intro k1 (And.intro k2 (show Db.w ≤ 100 by rw [g1.w]; omega)))))))
          clear HU hG hH hq g1 g2 k1 k2 hal
          go_wp2_with fail
          refine (crash_in HV.out.1.b a L cc kl HV.out.2.1.arg (by have := HV.out.2.2.2.2.2.2; omega)).mono ?_
          rintro e we ⟨rfl, hI, hS⟩
          have HX := Lib.hid (And.intro (HV.out.1.stepB hI hS) (HV.out.2.1.stepB hS))
          clear hI hS
          go_wp2_with fail
          refine (start_in HX.out.1.a HV.out.2.2.2.1).mono ?_
          rintro e wf ⟨rfl, hI, hS⟩
          have HY := Lib.hid (And.intro (HX.out.1.stepA hI hS) (HX.out.2.stepA hS))
          clear hI hS HX
          go_wp2_with fail
          refine (start_in HY.out.1.b HV.out.2.2.2.2.2.1).mono ?_
          rintro e wg ⟨rfl, hI, hS⟩
          have HX := Lib.hid (And.intro (HY.out.1.stepB hI hS) (And.intro HV.out.2.2.1 (And.intro HV.out.2.2.2.2.1 (HY.out.2.stepB hS))))
          clear hI hS HY HV
          generalize Ea.start = E at *
          generalize (Db.crash kl).start = F at *
          go_wp2_with fail
          go_loopw [13] (fun i wr => ∃ (j : Nat) (E F : Dev), j ≤ n ∧ i = .int .i64 j ∧ LK w wr B da db Za Zb E F ∧ Al n (fun i => kl[i]?.getD 0) j E ∧ Al n (fun i => kl[i]?.getD 0) j F ∧ Held wr (fun k => Za k ∨ Zb k) a L kl) (fun i _ => n - (intOf i).toNat)
          case atStart => exact ⟨0, _, _, by omega, rfl, HX.out⟩
          case round =>
            clear HX
            obtain ⟨j, E, F, hj, rfl, hr⟩ := hrel
            have HW := Lib.hid hr
            clear hr
            by_cases hlt : j < n
            · by_cases hjL : j < L
              · obtain ⟨kb, off, rfl⟩ := HW.out.2.2.2.form (by omega)
                obtain ⟨v, hv⟩ : ∃ v, kl[j]?.getD 0 = v := ⟨_, rfl⟩
                rcases (show v = 2 ∨ v = 1 ∨ (v ≠ 1 ∧ v ≠ 2) by omega) with rfl | rfl | ⟨v1, v2⟩
                · have hq := hv
                  go_wp2_with fail
                  refine (read_not HW.out.1.a j 3 (HW.out.2.1.torn j hlt hq) (HW.out.2.1.has j hlt) (by rw [HW.out.2.1.r]; omega) (by rw [HW.out.2.1.r]; omega) (by have := HW.out.2.1.w1; omega)).mono ?_
                  rintro e wu ⟨rfl, hI, hS⟩
                  have HU := Lib.hid (And.intro (HW.out.1.stepA hI hS) (HW.out.2.2.2.stepA hS))
                  clear hI hS
                  go_wp2_with fail
                  refine (read_not HU.out.1.b j 3 (HW.out.2.2.1.torn j hlt hq) (HW.out.2.2.1.has j hlt) (by rw [HW.out.2.2.1.r]; omega) (by rw [HW.out.2.2.1.r]; omega) (by have := HW.out.2.2.1.w1; omega)).mono ?_
                  rintro e wv ⟨rfl, hI, hS⟩
                  have HX := Lib.hid (And.intro (HU.out.1.stepB hI hS) (And.intro HW.out.2.1.read (And.intro HW.out.2.2.1.read (HU.out.2.stepB hS))))
                  clear HU hI hS hq
                  have c18 := HX.out.2.2.2.cell j hjL
                  rw [hv] at c18
                  go_wp2_with (at_make; refine wpList_make_full _ rfl _ _ 29 rfl wv.heap.size 5 i0 (.int .u8 0) 1 Try.underlying29 hi hz0 hz1 .i64 .i64 _ _ 512 rfl rfl rfl rfl (by rw [hz2]; decide) (by unfold maxLen; decide) (Nat.le_refl _) ?_; intro wm hown hgr; have HM := Lib.hid (And.intro (made_bytes hown) ((Below.refl _ _).grown hgr (Nat.le_refl _) (fun k e => by cases e))); clear hown hgr)
                  refine (same_nil _).mono ?_
                  rintro e w' ⟨rfl, rfl⟩
                  have HY := Lib.hid (And.intro (HX.out.1.below HM.out.2) (HX.out.2.2.2.below HM.out.2))
                  go_wp2_with fail
                  go_roundw
                  case rel => exact ⟨j + 1, _, _, by omega, by go_num, HY.out.1, HX.out.2.1, HX.out.2.2.1, HY.out.2⟩
                  case measure => simp [intOf]; omega
                · have hq := hv
                  go_wp2_with fail
                  refine (read_got HW.out.1.a j (sec (j + 1)) (HW.out.2.1.done j hlt hq) (HW.out.2.1.has j hlt) (by rw [HW.out.2.1.r]; omega) (by rw [HW.out.2.1.r]; omega) (by have := HW.out.2.1.w1; omega)).mono ?_
                  rintro e wu ⟨u1, rfl, hf, _, hge, hI, hS⟩
                  have hnb : ¬ Zb u1 := fun e => by have := HW.out.1.b.hi u1 e; omega
                  have HU := Lib.hid (And.intro (HW.out.1.stepA hI hS) (And.intro (HW.out.2.2.2.stepA hS) hf))
                  clear hI hS hf
                  go_wp2_with fail
                  refine (read_got HU.out.1.b j (sec (j + 1)) (HW.out.2.2.1.done j hlt hq) (HW.out.2.2.1.has j hlt) (by rw [HW.out.2.2.1.r]; omega) (by rw [HW.out.2.2.1.r]; omega) (by have := HW.out.2.2.1.w1; omega)).mono ?_
                  rintro e wv ⟨u2, rfl, hf, _, _, hI, hS⟩
                  have HX := Lib.hid (And.intro (HU.out.1.stepB hI hS) (And.intro HW.out.2.1.read (And.intro HW.out.2.2.1.read (HU.out.2.1.stepB hS))))
                  have HF := Lib.hid (And.intro (show Bytes wv u1 (sec (j + 1)) from (hS.out.block u1 HU.out.2.2.bytes.lt hnb).trans HU.out.2.2.bytes) hf.bytes)
                  clear HU hI hS hf hq hnb hge
                  have c18 := HX.out.2.2.2.cell j hjL
                  rw [hv] at c18
                  go_wp2_with (at_make; refine wpList_make_full _ rfl _ _ 29 rfl wv.heap.size 5 i0 (.int .u8 0) 1 Try.underlying29 hi hz0 hz1 .i64 .i64 _ _ 512 rfl rfl rfl rfl (by rw [hz2]; decide) (by unfold maxLen; decide) (Nat.le_refl _) ?_; intro wm hown hgr; have HM := Lib.hid (And.intro (made_bytes hown) ((Below.refl _ _).grown hgr (Nat.le_refl _) (fun k e => by cases e))); clear hown hgr)
                  refine (sector_in (j + 1) _).mono ?_
                  rintro e wn ⟨rfl, hb, hl⟩
                  have HG := Lib.hid (And.intro ((HF.out.1.kept HM.out.2).kept hl) (And.intro ((HF.out.2.kept HM.out.2).kept hl) hb))
                  have HY := Lib.hid (And.intro ((HX.out.1.below HM.out.2).below hl) ((HX.out.2.2.2.below HM.out.2).below hl))
                  clear hb hl
                  go_wp2_with fail
                  refine (same_yes _ _ _ _ HG.out.1 HG.out.2.1 (sec_len _)).mono ?_
                  rintro e w' ⟨rfl, rfl⟩
                  go_wp2_with fail
                  refine (same_yes _ _ _ _ HG.out.1 HG.out.2.2 (sec_len _)).mono ?_
                  rintro e w' ⟨rfl, rfl⟩
                  go_wp2_with fail
                  go_roundw
                  case rel => exact ⟨j + 1, _, _, by omega, by go_num, HY.out.1, HX.out.2.1, HX.out.2.2.1, HY.out.2⟩
                  case measure => simp [intOf]; omega
                · have hq : kl[j]?.getD 0 ≠ 1 := by rw [hv]; exact v1
                  have hq2 : kl[j]?.getD 0 ≠ 2 := by rw [hv]; exact v2
                  have b1 : (v == 1) = false := by rw [beq_eq_false_iff_ne]; exact v1
                  have b2 : (v == 2) = false := by rw [beq_eq_false_iff_ne]; exact v2
                  have b3 : (v != 2) = true := by rw [bne_iff_ne]; exact v2
                  go_wp2_with fail
                  refine (read_got HW.out.1.a j noughts (HW.out.2.1.lost j hlt hq hq2) (HW.out.2.1.has j hlt) (by rw [HW.out.2.1.r]; omega) (by rw [HW.out.2.1.r]; omega) (by have := HW.out.2.1.w1; omega)).mono ?_
                  rintro e wu ⟨u1, rfl, hf, _, hge, hI, hS⟩
                  have hnb : ¬ Zb u1 := fun e => by have := HW.out.1.b.hi u1 e; omega
                  have HU := Lib.hid (And.intro (HW.out.1.stepA hI hS) (And.intro (HW.out.2.2.2.stepA hS) hf))
                  clear hI hS hf
                  go_wp2_with fail
                  refine (read_got HU.out.1.b j noughts (HW.out.2.2.1.lost j hlt hq hq2) (HW.out.2.2.1.has j hlt) (by rw [HW.out.2.2.1.r]; omega) (by rw [HW.out.2.2.1.r]; omega) (by have := HW.out.2.2.1.w1; omega)).mono ?_
                  rintro e wv ⟨u2, rfl, hf, _, _, hI, hS⟩
                  have HX := Lib.hid (And.intro (HU.out.1.stepB hI hS) (And.intro HW.out.2.1.read (And.intro HW.out.2.2.1.read (HU.out.2.1.stepB hS))))
                  have HF := Lib.hid (And.intro (show Bytes wv u1 noughts from (hS.out.block u1 HU.out.2.2.bytes.lt hnb).trans HU.out.2.2.bytes) hf.bytes)
                  clear HU hI hS hf hq hnb hge hq2
                  have c18 := HX.out.2.2.2.cell j hjL
                  rw [hv] at c18
                  go_wp2_with (at_make; refine wpList_make_full _ rfl _ _ 29 rfl wv.heap.size 5 i0 (.int .u8 0) 1 Try.underlying29 hi hz0 hz1 .i64 .i64 _ _ 512 rfl rfl rfl rfl (by rw [hz2]; decide) (by unfold maxLen; decide) (Nat.le_refl _) ?_; intro wm hown hgr; have HM := Lib.hid (And.intro (made_bytes hown) ((Below.refl _ _).grown hgr (Nat.le_refl _) (fun k e => by cases e))); clear hown hgr)
                  have HG := Lib.hid (And.intro (HF.out.1.kept HM.out.2) (HF.out.2.kept HM.out.2))
                  refine (same_yes _ _ _ _ HG.out.1 HG.out.2 noughts_len).mono ?_
                  rintro e w' ⟨rfl, rfl⟩
                  have HY := Lib.hid (And.intro (HX.out.1.below HM.out.2) (HX.out.2.2.2.below HM.out.2))
                  go_wp2_with fail
                  refine (same_yes _ _ _ _ HG.out.1 HM.out.1 noughts_len).mono ?_
                  rintro e w' ⟨rfl, rfl⟩
                  go_wp2_with fail
                  go_roundw
                  case rel => exact ⟨j + 1, _, _, by omega, by go_num, HY.out.1, HX.out.2.1, HX.out.2.2.1, HY.out.2⟩
                  case measure => simp [intOf]; omega
              · have hv : kl[j]?.getD 0 = 0 := by
                  rw [List.getElem?_eq_none (by rw [HW.out.2.2.2.1]; omega)]; rfl
                have hq : kl[j]?.getD 0 ≠ 1 := by rw [hv]; decide
                have hq2 : kl[j]?.getD 0 ≠ 2 := by rw [hv]; decide
                clear hv
                go_wp2_with fail
                refine (read_got HW.out.1.a j noughts (HW.out.2.1.lost j hlt hq hq2) (HW.out.2.1.has j hlt) (by rw [HW.out.2.1.r]; omega) (by rw [HW.out.2.1.r]; omega) (by have := HW.out.2.1.w1; omega)).mono ?_
                rintro e wu ⟨u1, rfl, hf, _, hge, hI, hS⟩
                have hnb : ¬ Zb u1 := fun e => by have := HW.out.1.b.hi u1 e; omega
                have HU := Lib.hid (And.intro (HW.out.1.stepA hI hS) (And.intro (HW.out.2.2.2.stepA hS) hf))
                clear hI hS hf
                go_wp2_with fail
                refine (read_got HU.out.1.b j noughts (HW.out.2.2.1.lost j hlt hq hq2) (HW.out.2.2.1.has j hlt) (by rw [HW.out.2.2.1.r]; omega) (by rw [HW.out.2.2.1.r]; omega) (by have := HW.out.2.2.1.w1; omega)).mono ?_
                rintro e wv ⟨u2, rfl, hf, _, _, hI, hS⟩
                have HX := Lib.hid (And.intro (HU.out.1.stepB hI hS) (And.intro HW.out.2.1.read (And.intro HW.out.2.2.1.read (HU.out.2.1.stepB hS))))
                have HF := Lib.hid (And.intro (show Bytes wv u1 noughts from (hS.out.block u1 HU.out.2.2.bytes.lt hnb).trans HU.out.2.2.bytes) hf.bytes)
                clear HU hI hS hf hq hnb hge hq2
                go_wp2_with (at_make; refine wpList_make_full _ rfl _ _ 29 rfl wv.heap.size 5 i0 (.int .u8 0) 1 Try.underlying29 hi hz0 hz1 .i64 .i64 _ _ 512 rfl rfl rfl rfl (by rw [hz2]; decide) (by unfold maxLen; decide) (Nat.le_refl _) ?_; intro wm hown hgr; have HM := Lib.hid (And.intro (made_bytes hown) ((Below.refl _ _).grown hgr (Nat.le_refl _) (fun k e => by cases e))); clear hown hgr)
                have HG := Lib.hid (And.intro (HF.out.1.kept HM.out.2) (HF.out.2.kept HM.out.2))
                refine (same_yes _ _ _ _ HG.out.1 HG.out.2 noughts_len).mono ?_
                rintro e w' ⟨rfl, rfl⟩
                have HY := Lib.hid (And.intro (HX.out.1.below HM.out.2) (HX.out.2.2.2.below HM.out.2))
                go_wp2_with fail
                refine (same_yes _ _ _ _ HG.out.1 HM.out.1 noughts_len).mono ?_
                rintro e w' ⟨rfl, rfl⟩
                go_wp2_with fail
                go_roundw
                case rel => exact ⟨j + 1, _, _, by omega, by go_num, HY.out.1, HX.out.2.1, HX.out.2.2.1, HY.out.2⟩
                case measure => simp [intOf]; omega
            · obtain rfl : n = j := by omega
              have HX := Lib.hid HW.out.1.bel
              clear HW
              go_wp2_with fail
              go_ret
              exact ⟨rfl, HX.out⟩

theorem walk (a0 : Int) (a1 : Option Addr) (len1 cap1 : Nat) (z1 : List Int) (a2 : Option Addr) (len2 cap2 : Nat) (z2 : List Int) (w : World) (w0 : (Lit.int .i64 a0).wf = true) (w1 : IsRow .i64 w a1 len1 cap1 z1) (w2 : IsRow .i64 w a2 len2 cap2 z2) (s2 : cap2 ≤ 17592186043904) :
    Calls Try.prog 5 #[.int .i64 a0, .slice a1 len1 cap1, .slice a2 len2 cap2] w fun e w' => e = .returned (.bool true) ∧ Below w.heap.size w w' :=
  walk_row a0 a1 len1 cap1 z1 a2 len2 cap2 z2 w (row_caps w1).1 (row_caps w1).2.1 (row_caps w1).2.2.1 (Nat.le_trans (row_caps w2).1 s2) (row_caps w2).2.2.2 (in_row w1).2 (in_row w2).2
set_option maxRecDepth 100000 in
theorem lifted (os : Os) (started : os.Started) (H : Type) (enc : TypeId × Value → H) :
    ReturnsInHanded {} Try.checked os 5 .any (Rows.deviceKeptSpec.pre6 enc Try.prog Try.f5 Rows.deviceKeptRow.domain false) (Rows.deviceKeptSpec.post enc Try.prog Try.f5 false true false false) := by
  refine returnsInHanded_of_change_sized (C := Try.checked) own started (by kernel_rfl) Try.func5
    (ChangeSpec.witness6 (enc := enc) (C := Try.checked) false ⟨#[], #[.int .i64 0, .slice none 0 0, .slice none 0 0], []⟩ 8 (by kernel_rfl) (by kernel_rfl) (by kernel_rfl) (by kernel_rfl)) ?_
  intro W base args ds gs before hval0 hW hcnd hwt _
  have hval : ∀ (j : Nat) t v, Try.f5.params[j]? = some t → args[j]? = some v → Value.okWide Try.prog W .any base t v := hval0
  have hW' := hW
  obtain ⟨p, q, hA0, hV, rfl, hfz, hnd⟩ := hW
  have hA : DataW.TrodAll enc Try.prog W 0 (fun _ => true) true Try.f5.params.toList args.toList ds p := hA0
  rw [Try.params5] at hA hval
  obtain ⟨v0, vs0, d0, ds0, p0, q0, hargs, rfl, rfl, h0, r0⟩ := trodAll_cons hA
  obtain ⟨v1, vs1, d1, ds1, p1, q1, rfl, rfl, rfl, h1, r1⟩ := trodAll_cons r0
  obtain ⟨v2, vs2, d2, ds2, p2, q2, rfl, rfl, rfl, h2, r2⟩ := trodAll_cons r1
  obtain ⟨rfl, rfl, rfl⟩ := trodAll_nil r2
  obtain rfl : args = #[v0, v1, v2] := by cases args; simp_all
  obtain ⟨rfl, rfl⟩ := trodVars_none hV
  obtain ⟨a0, rfl, rfl, rfl, w0⟩ := open_int Try.underlying3 (hval 0 3 v0 rfl rfl) h0
  obtain ⟨a1, len1, cap1, rfl⟩ := okWide_slice Try.underlying36 (hval 1 36 v1 rfl rfl)
  have k1 := h1
  have lt1 : ∀ x ∈ p1, x.block < W.heap.size := by obtain ⟨m, hm⟩ := k1; exact DataW.trod_lt m _ _ _ hm
  obtain ⟨z1, w1⟩ : ∃ zs, IsRow .i64 W a1 len1 cap1 zs := by
    obtain ⟨fuel, hf⟩ := h1
    rcases open_ints Try.underlying36 Try.underlying3 (by kernel_rfl) hf with ⟨hcs, _⟩ | ⟨x, l, c, zs, hcs, _, hl, hm, hz, _, hcell, hwz⟩
    · simp [Value.cells] at hcs
      obtain ⟨rfl, rfl, rfl⟩ := hcs
      exact ⟨[], .inl ⟨rfl, rfl, rfl, rfl⟩⟩
    · simp [Value.cells] at hcs
      obtain ⟨rfl, rfl, rfl⟩ := hcs
      exact ⟨zs, .inr ⟨_, rfl, hl, hm, by simpa using hz, hcell, hwz⟩⟩
  obtain ⟨a2, len2, cap2, rfl⟩ := okWide_slice Try.underlying36 (hval 2 36 v2 rfl rfl)
  have k2 := h2
  have lt2 : ∀ x ∈ p2, x.block < W.heap.size := by obtain ⟨m, hm⟩ := k2; exact DataW.trod_lt m _ _ _ hm
  obtain ⟨z2, w2, s2⟩ : ∃ zs, IsRow .i64 W a2 len2 cap2 zs ∧ cap2 ≤ 17592186043904 := by
    obtain ⟨fuel, hf⟩ := h2
    rcases open_ints Try.underlying36 Try.underlying3 (by kernel_rfl) hf with ⟨hcs, _⟩ | ⟨x, l, c, zs, hcs, _, hl, hm, hz, hx, hcell, hwz⟩
    · simp [Value.cells] at hcs
      obtain ⟨rfl, rfl, rfl⟩ := hcs
      exact ⟨[], .inl ⟨rfl, rfl, rfl, rfl⟩, by omega⟩
    · simp [Value.cells] at hcs
      obtain ⟨rfl, rfl, rfl⟩ := hcs
      have hz2 : zs.length = cap2 := by simpa using hz
      obtain ⟨rfl, rfl⟩ := Prod.mk.inj hx
      have hb := sized_slice (P := Try.prog) hwt (j := 2) (t := 36) (e := 3) rfl rfl Try.underlying36
      rw [show Try.prog.bytesOf 3 = 8 from by kernel_rfl] at hb
      simp only [lits, List.length_map, List.length_take, List.length_drop, hz2] at hb
      unfold reachBytes at hb
      exact ⟨zs, .inr ⟨_, rfl, hl, hm, hz2, hcell, hwz⟩, by omega⟩
  clear hA0 hval0
  refine (walk a0 a1 len1 cap1 z1 a2 len2 cap2 z2 W w0 w1 w2 s2).mono fun e W' ⟨he, bel⟩ => ?_
  subst he
  exact ⟨_, rfl, _, _, _, [], _, [], hW', trodAll_mk1 (shut_bool Try.underlying4 _), (trodAll_cons_mk (shut_int Try.underlying3 w0) (trodAll_cons_mk (Below.trod laidOut (by kernel_rfl) (of_decide_eq_true (by kernel_rfl)) k1 bel lt1) (trodAll_cons_mk (Below.trod laidOut (by kernel_rfl) (of_decide_eq_true (by kernel_rfl)) k2 bel lt2) trodAll_mk0))), rfl, bel.frame _, fun h => by cases h⟩

theorem over : Rows.deviceKeptRow.holds Try.pinned (OpenSpec.ofChange Rows.deviceKeptSpec) :=
  OpenClaim.holds_of_wide 5 Try.f5 rfl rfl rfl rfl rfl rfl rfl ⟨rfl, rfl, rfl, rfl, rfl⟩ rfl rfl rfl rfl rfl (by kernel_rfl) Try.func5 (by kernel_rfl)
    (of_decide_eq_true (by kernel_rfl)) (by unfold Func.isWrapper; first | (rw [if_pos (by decide +kernel)]; kernel_rfl) | (rw [if_neg (by decide +kernel)]; exact ⟨rfl, rfl⟩))
    (fun os started H enc _ => lifted os started H enc)

/-- THE STATEMENT. -/
theorem proved : Rows.DeviceKeptSaid := over
#print axioms proved
end Go.Proofs.Ythdgfhkihhamnaa.deviceKept
