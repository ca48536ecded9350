/-
  PROVED: harrowlaw07.TableMoves returns true at every list of ints, and its argument reads behind the call as before (Rows.TableMovesSaid). No condition.
-/
import Derived.Test.YtcgjlbgmjlafnaaBase
namespace Go.Proofs.Ytcgjlbgmjlafnaa.tableMoves
open Go.ChangeShapes Go.WideShapes Go.ChangeAt Go.RowKit
set_option linter.unusedVariables false

theorem own : ownKnob Try.prog.godebug = none := by kernel_rfl
theorem laidOut : laidOutB Try.prog = true := by kernel_rfl

/-- What the walk is told of a slice of ints that came in: nil, or a row of cap cells, the numbers zs, the first len its elements. -/
def IsRow (k : IntKind) (w : World) (a : Option Addr) (len cap : Nat) (zs : List Int) : Prop :=
  (a = none ∧ len = 0 ∧ cap = 0 ∧ zs = []) ∨
  ∃ x, a = some x ∧ len ≤ cap ∧ cap ≤ maxLen ∧ zs.length = cap ∧ (∀ i, i < zs.length → w.cell? (x.add i) = some (.int k (zs.getD i 0))) ∧ ∀ n ∈ zs, (Lit.int k n).wf = true
attribute [local go_sem] and65535

theorem put_ps (T : Tab) (id pl : Int) (h : T.ok id pl = true) (j : Int) : at' (T.put id pl).ps j = if j = id then pl else at' T.ps j := by
  unfold Tab.put; rw [if_pos h]
  simp only [Tab.ok, inR, Bool.and_eq_true, decide_eq_true_eq] at h
  obtain ⟨⟨b1, b2⟩, _⟩ := h
  have hl := (T.drop_len id).1
  simp only
  rw [at_set _ id pl b1 (by omega)]
  by_cases c : j = id
  · rw [if_pos c, if_pos c]
  · rw [if_neg c, if_neg c]
    unfold Tab.drop
    split
    · rfl
    · simp only; rw [at_set _ id _ b1 b2, if_neg c]
theorem left_free (T : Tab) (p lst : Int) (hG : Good T) (h : T.ok 1 p = true) (h1 : at' T.ps 1 = lst) (h2 : 0 ≤ lst) (h3 : lst ≠ p) : at' (T.put 1 p).os lst = -1 := by
  by_cases c : at' (T.put 1 p).os lst = -1
  · exact c
  · exfalso
    obtain ⟨q1, q2, q3⟩ := (hG.put 1 p).bwd lst c
    generalize at' (T.put 1 p).os lst = x at *
    rw [put_ps T 1 p h] at q3
    by_cases d : x = 1
    · rw [if_pos d] at q3; exact h3 q3.symm
    · rw [if_neg d] at q3
      have f1 := (hG.fwd x (by omega)).2.2
      have f2 := (hG.fwd 1 (by omega)).2.2
      rw [q3] at f1
      rw [h1] at f2
      omega
theorem num_three (l : List Int) (hl : l.length = 3) (h : at' l 0 = -1) : num l ≤ 2 := by
  match l, hl with
  | [a, b, c], _ =>
    have : a = -1 := by simpa [at'] using h
    subst this
    simp only [num, List.countP_cons, List.countP_nil]
    split <;> split <;> simp

/-- What holds at the head of each round: block 1 is at lst (-1: nowhere), block 0 nowhere. -/
structure Now (w wr : World) (B t b o : Nat) (T : Tab) (lst : Int) : Prop where
  tab : TableAt wr B t b o 3 30 T
  good : Good T
  one : at' T.ps 1 = lst
  zero : at' T.ps 0 = -1
  below : Below w.heap.size w wr
theorem ok_one (T : Tab) (id p : Int) (h1 : T.ps.length = 3) (h2 : T.os.length = 30) (i1 : 0 ≤ id) (i2 : id < 3) (p1 : 0 ≤ p) (p2 : p < 30) : T.ok id p = (at' T.os p == -1 || at' T.os p == id) := by
  have e1 : inR T.ps id = true := by unfold inR; rw [h1]; simp; omega
  have e2 : inR T.os p = true := by unfold inR; rw [h2]; simp; omega
  simp [Tab.ok, e1, e2]

set_option maxRecDepth 100000 in
set_option maxHeartbeats 8000000 in
theorem walk_row (a : Option Addr) (len cap : Nat) (z : List Int) (w : World) (hlen : len ≤ maxLen)
    (hrow : (len = 0) ∨ ∃ blk off, a = some ⟨blk, off, none⟩ ∧ blk < w.heap.size ∧ ∀ i, i < len → w.cell? ⟨blk, off + i, none⟩ = some (.int .i64 (z[i]?.getD 0))) :
    Calls Try.prog 4 #[.slice a len cap] w fun e w' => e = .returned (.bool true) ∧ Below w.heap.size w w' := by
  unfold maxLen at hlen
  rcases hrow with hl0 | ⟨blk, off, rfl, hblk, hcell⟩
  · go_enter Try.func4, Try.ntmps4
    go_wp2_with fail
    refine (shown_any _).mono ?_
    rintro e u1 ⟨rfl, hB1⟩
    go_wp2_with fail
    refine (new_any _ _ 3 30 _ (by decide) (by decide)).mono ?_
    rintro e w2 ⟨t, b, o, rfl, h1, hB2⟩
    generalize hBs : u1.heap.size = B at *
    have hsB : w.heap.size ≤ B := by rw [← hBs]; exact hB1.size
    have HN := Lib.hid (show Now w w2 B t b o (fresh 3 30) (-1) from ⟨h1, fresh_good 3 30, at_replicate 3 1, at_replicate 3 0, hB1.trans (hB2.mono hsB)⟩)
    clear hB1 hB2 hBs h1
    go_wp2_with fail
    go_loopw [5, 6] (fun s i wr => ∃ (k : Nat) (T : Tab) (lst : Int), k ≤ len ∧ k ≤ 40 ∧ i = .int .i64 k ∧ s = .int .i64 lst ∧ -1 ≤ lst ∧ Now w wr B t b o T lst) (fun _ i _ => 40 - (intOf i).toNat)
    case atStart => exact ⟨0, _, -1, Nat.zero_le _, Nat.zero_le _, rfl, rfl, by omega, HN.out⟩
    case round =>
      clear HN
      obtain ⟨k, T, lst, hk, hk2, rfl, rfl, hlst, hN⟩ := hrel
      have HN := Lib.hid hN
      clear hN
      by_cases hlt : k < len ∧ k < 40
      · exfalso; omega
      · have HC2 := Lib.hid (And.intro HN.out.good.cp (num_three _ HN.out.tab.rp.len HN.out.zero))
        have q1 : T.cnt ≤ 2 := by have := HC2.out.1; have := HC2.out.2; omega
        go_wp2_with fail
        all_goals
          refine (len_any B t b o 3 30 T _ HN.out.tab).mono ?_
          rintro e w' ⟨rfl, rfl⟩
          go_wp2_with fail
          go_ret
          exact ⟨rfl, HN.out.below⟩
  · have HC := Lib.hid hcell
    clear hcell
    go_enter Try.func4, Try.ntmps4
    go_wp2_with fail
    refine (shown_any _).mono ?_
    rintro e u1 ⟨rfl, hB1⟩
    go_wp2_with fail
    refine (new_any _ _ 3 30 _ (by decide) (by decide)).mono ?_
    rintro e w2 ⟨t, b, o, rfl, h1, hB2⟩
    generalize hBs : u1.heap.size = B at *
    have hsB : w.heap.size ≤ B := by rw [← hBs]; exact hB1.size
    have HN := Lib.hid (show Now w w2 B t b o (fresh 3 30) (-1) from ⟨h1, fresh_good 3 30, at_replicate 3 1, at_replicate 3 0, hB1.trans (hB2.mono hsB)⟩)
    clear hB1 hB2 hBs h1
    go_wp2_with fail
    go_loopw [5, 6] (fun s i wr => ∃ (k : Nat) (T : Tab) (lst : Int), k ≤ len ∧ k ≤ 40 ∧ i = .int .i64 k ∧ s = .int .i64 lst ∧ -1 ≤ lst ∧ Now w wr B t b o T lst) (fun _ i _ => 40 - (intOf i).toNat)
    case atStart => exact ⟨0, _, -1, Nat.zero_le _, Nat.zero_le _, rfl, rfl, by omega, HN.out⟩
    case round =>
      clear HN
      obtain ⟨k, T, lst, hk, hk2, rfl, rfl, hlst, hN⟩ := hrel
      have HN := Lib.hid hN
      clear hN
      by_cases hlt : k < len ∧ k < 40
      · obtain ⟨hlt, hlt2⟩ := hlt
        have hq := (HN.out.below.cell (p := ⟨blk, off + k, none⟩) hblk).trans (HC.out k hlt)
        generalize z[k]?.getD 0 = z0 at *
        have p0 : 0 ≤ z0 % 65536 := by omega
        have p1 : 0 ≤ z0 % 65536 % 30 := by omega
        have p2 : z0 % 65536 % 30 < 30 := by omega
        have hok := ok_one T 1 _ HN.out.tab.rp.len HN.out.tab.ro.len (by omega) (by omega) p1 p2
        have hown : (toldB T.os (z0 % 65536 % 30) = false ∧ toldV T.os (z0 % 65536 % 30) = 0 ∧ T.ok 1 (z0 % 65536 % 30) = true) ∨ (toldB T.os (z0 % 65536 % 30) = true ∧ toldV T.os (z0 % 65536 % 30) = 1 ∧ T.ok 1 (z0 % 65536 % 30) = true) ∨ (∃ q, toldB T.os (z0 % 65536 % 30) = true ∧ toldV T.os (z0 % 65536 % 30) = q ∧ (q != 1) = true ∧ T.ok 1 (z0 % 65536 % 30) = false) := by
          rw [hok]
          by_cases c1 : at' T.os (z0 % 65536 % 30) = -1
          · exact .inl ⟨by simp [toldB, c1], by simp [toldV, c1], by simp [c1]⟩
          · by_cases c2 : at' T.os (z0 % 65536 % 30) = 1
            · exact .inr (.inl ⟨by simp [toldB, c2], by simp [toldV, c2], by simp [c2]⟩)
            · exact .inr (.inr ⟨_, by simp [toldB, c1], by unfold toldV; rw [if_neg c1], by simp [c2], by simp [c1, c2]⟩)
        clear hok
        rcases hown with ⟨t1, t2, t3⟩ | ⟨t1, t2, t3⟩ | ⟨q, t1, t2, t4, t3⟩
        · have T1 := Lib.hid t1
          have T2 := Lib.hid t2
          have T3 := Lib.hid t3
          have hps := put_ps T 1 (z0 % 65536 % 30) t3
          have HA1 := Lib.hid (show at' (T.put 1 (z0 % 65536 % 30)).ps 1 = z0 % 65536 % 30 by rw [hps, if_pos rfl])
          have HV := Lib.hid (show toldV (T.put 1 (z0 % 65536 % 30)).ps 1 = z0 % 65536 % 30 by unfold toldV; rw [HA1.out, if_neg (by omega)])
          have HW := Lib.hid (show toldB (T.put 1 (z0 % 65536 % 30)).ps 1 = true by unfold toldB; rw [HA1.out, bne_iff_ne]; omega)
          have HA0 := Lib.hid (show at' (T.put 1 (z0 % 65536 % 30)).ps 0 = -1 by rw [hps, if_neg (by decide)]; exact HN.out.zero)
          have HF := Lib.hid (fun h2 h3 => left_free T (z0 % 65536 % 30) lst HN.out.good t3 HN.out.one h2 h3)
          have HG1 := Lib.hid (HN.out.good.put 1 (z0 % 65536 % 30))
          clear t1 t2 t3 hps
          rcases (show lst < 0 ∨ (0 ≤ lst ∧ lst = z0 % 65536 % 30) ∨ (0 ≤ lst ∧ lst ≠ z0 % 65536 % 30) by omega) with l1 | ⟨l1, l2⟩ | ⟨l1, l2⟩
          · go_wp2_with fail
            refine (owner_any B t b o 3 30 T _ _ HN.out.tab).mono ?_
            rintro e w' ⟨rfl, rfl⟩
            rw [T1.out, T2.out]
            go_wp2_with fail
            refine (put_any B t b o 3 30 T 1 _ _ HN.out.tab HN.out.good).mono ?_
            rintro e w3 ⟨rfl, hT3, hB3⟩
            rw [T3.out]
            have HN3 := Lib.hid (show Now w w3 B t b o (T.put 1 (z0 % 65536 % 30)) (z0 % 65536 % 30) from ⟨hT3, HG1.out, HA1.out, HA0.out, HN.out.below.trans (hB3.mono hsB)⟩)
            clear hT3 hB3
            go_wp2_with fail
            refine (at_any B t b o 3 30 _ 1 _ HN3.out.tab).mono ?_
            rintro e w' ⟨rfl, rfl⟩
            rw [HV.out, HW.out]
            go_wp2_with fail
            go_roundw
            case rel => exact ⟨k + 1, _, _, by omega, by omega, by go_num, rfl, by omega, HN3.out⟩
            case measure => simp [intOf]; omega
          · have l3 : (lst != z0 % 65536 % 30) = false := by simp [l2]
            clear l2
            go_wp2_with fail
            refine (owner_any B t b o 3 30 T _ _ HN.out.tab).mono ?_
            rintro e w' ⟨rfl, rfl⟩
            rw [T1.out, T2.out]
            go_wp2_with fail
            refine (put_any B t b o 3 30 T 1 _ _ HN.out.tab HN.out.good).mono ?_
            rintro e w3 ⟨rfl, hT3, hB3⟩
            rw [T3.out]
            have HN3 := Lib.hid (show Now w w3 B t b o (T.put 1 (z0 % 65536 % 30)) (z0 % 65536 % 30) from ⟨hT3, HG1.out, HA1.out, HA0.out, HN.out.below.trans (hB3.mono hsB)⟩)
            clear hT3 hB3
            go_wp2_with fail
            refine (at_any B t b o 3 30 _ 1 _ HN3.out.tab).mono ?_
            rintro e w' ⟨rfl, rfl⟩
            rw [HV.out, HW.out]
            go_wp2_with fail
            go_roundw
            case rel => exact ⟨k + 1, _, _, by omega, by omega, by go_num, rfl, by omega, HN3.out⟩
            case measure => simp [intOf]; omega
          · have l3 : (lst != z0 % 65536 % 30) = true := by simp [l2]
            have l4 : lst < 30 := by have h := (HN.out.good.fwd 1 (by rw [HN.out.one]; omega)).2.1; rw [HN.out.one, HN.out.tab.ro.len] at h; omega
            have hfree := HF.out l1 l2
            have HO1 := Lib.hid (show toldB (T.put 1 (z0 % 65536 % 30)).os lst = false by unfold toldB; rw [hfree]; rfl)
            have hl1 := (T.put_len 1 (z0 % 65536 % 30))
            rw [HN.out.tab.rp.len, HN.out.tab.ro.len] at hl1
            have hok2 : (T.put 1 (z0 % 65536 % 30)).ok 2 lst = true := by rw [ok_one _ 2 lst hl1.1 hl1.2 (by omega) (by omega) l1 l4, hfree]; rfl
            have HO2 := Lib.hid hok2
            have HP2 := Lib.hid (put_ps _ 2 lst hok2)
            clear hfree hl1 hok2 l2
            go_wp2_with fail
            refine (owner_any B t b o 3 30 T _ _ HN.out.tab).mono ?_
            rintro e w' ⟨rfl, rfl⟩
            rw [T1.out, T2.out]
            go_wp2_with fail
            refine (put_any B t b o 3 30 T 1 _ _ HN.out.tab HN.out.good).mono ?_
            rintro e w3 ⟨rfl, hT3, hB3⟩
            rw [T3.out]
            have HN3 := Lib.hid (show Now w w3 B t b o (T.put 1 (z0 % 65536 % 30)) (z0 % 65536 % 30) from ⟨hT3, HG1.out, HA1.out, HA0.out, HN.out.below.trans (hB3.mono hsB)⟩)
            clear hT3 hB3
            go_wp2_with fail
            refine (at_any B t b o 3 30 _ 1 _ HN3.out.tab).mono ?_
            rintro e w' ⟨rfl, rfl⟩
            rw [HV.out, HW.out]
            go_wp2_with fail
            refine (owner_any B t b o 3 30 _ lst _ HN3.out.tab).mono ?_
            rintro e w' ⟨rfl, rfl⟩
            rw [HO1.out]
            go_wp2_with fail
            refine (put_any B t b o 3 30 _ 2 lst _ HN3.out.tab HN3.out.good).mono ?_
            rintro e w4 ⟨rfl, hT4, hB4⟩
            rw [HO2.out]
            have HN4 := Lib.hid (show Now w w4 B t b o ((T.put 1 (z0 % 65536 % 30)).put 2 lst) (z0 % 65536 % 30) from ⟨hT4, HN3.out.good.put 2 lst, by rw [HP2.out, if_neg (by decide)]; exact HA1.out, by rw [HP2.out, if_neg (by decide)]; exact HA0.out, HN3.out.below.trans (hB4.mono hsB)⟩)
            clear hT4 hB4
            go_wp2_with fail
            go_roundw
            case rel => exact ⟨k + 1, _, _, by omega, by omega, by go_num, rfl, by omega, HN4.out⟩
            case measure => simp [intOf]; omega
        · have T1 := Lib.hid t1
          have T2 := Lib.hid t2
          have T3 := Lib.hid t3
          have hps := put_ps T 1 (z0 % 65536 % 30) t3
          have HA1 := Lib.hid (show at' (T.put 1 (z0 % 65536 % 30)).ps 1 = z0 % 65536 % 30 by rw [hps, if_pos rfl])
          have HV := Lib.hid (show toldV (T.put 1 (z0 % 65536 % 30)).ps 1 = z0 % 65536 % 30 by unfold toldV; rw [HA1.out, if_neg (by omega)])
          have HW := Lib.hid (show toldB (T.put 1 (z0 % 65536 % 30)).ps 1 = true by unfold toldB; rw [HA1.out, bne_iff_ne]; omega)
          have HA0 := Lib.hid (show at' (T.put 1 (z0 % 65536 % 30)).ps 0 = -1 by rw [hps, if_neg (by decide)]; exact HN.out.zero)
          have HF := Lib.hid (fun h2 h3 => left_free T (z0 % 65536 % 30) lst HN.out.good t3 HN.out.one h2 h3)
          have HG1 := Lib.hid (HN.out.good.put 1 (z0 % 65536 % 30))
          clear t1 t2 t3 hps
          rcases (show lst < 0 ∨ (0 ≤ lst ∧ lst = z0 % 65536 % 30) ∨ (0 ≤ lst ∧ lst ≠ z0 % 65536 % 30) by omega) with l1 | ⟨l1, l2⟩ | ⟨l1, l2⟩
          · go_wp2_with fail
            refine (owner_any B t b o 3 30 T _ _ HN.out.tab).mono ?_
            rintro e w' ⟨rfl, rfl⟩
            rw [T1.out, T2.out]
            go_wp2_with fail
            refine (put_any B t b o 3 30 T 1 _ _ HN.out.tab HN.out.good).mono ?_
            rintro e w3 ⟨rfl, hT3, hB3⟩
            rw [T3.out]
            have HN3 := Lib.hid (show Now w w3 B t b o (T.put 1 (z0 % 65536 % 30)) (z0 % 65536 % 30) from ⟨hT3, HG1.out, HA1.out, HA0.out, HN.out.below.trans (hB3.mono hsB)⟩)
            clear hT3 hB3
            go_wp2_with fail
            refine (at_any B t b o 3 30 _ 1 _ HN3.out.tab).mono ?_
            rintro e w' ⟨rfl, rfl⟩
            rw [HV.out, HW.out]
            go_wp2_with fail
            go_roundw
            case rel => exact ⟨k + 1, _, _, by omega, by omega, by go_num, rfl, by omega, HN3.out⟩
            case measure => simp [intOf]; omega
          · have l3 : (lst != z0 % 65536 % 30) = false := by simp [l2]
            clear l2
            go_wp2_with fail
            refine (owner_any B t b o 3 30 T _ _ HN.out.tab).mono ?_
            rintro e w' ⟨rfl, rfl⟩
            rw [T1.out, T2.out]
            go_wp2_with fail
            refine (put_any B t b o 3 30 T 1 _ _ HN.out.tab HN.out.good).mono ?_
            rintro e w3 ⟨rfl, hT3, hB3⟩
            rw [T3.out]
            have HN3 := Lib.hid (show Now w w3 B t b o (T.put 1 (z0 % 65536 % 30)) (z0 % 65536 % 30) from ⟨hT3, HG1.out, HA1.out, HA0.out, HN.out.below.trans (hB3.mono hsB)⟩)
            clear hT3 hB3
            go_wp2_with fail
            refine (at_any B t b o 3 30 _ 1 _ HN3.out.tab).mono ?_
            rintro e w' ⟨rfl, rfl⟩
            rw [HV.out, HW.out]
            go_wp2_with fail
            go_roundw
            case rel => exact ⟨k + 1, _, _, by omega, by omega, by go_num, rfl, by omega, HN3.out⟩
            case measure => simp [intOf]; omega
          · have l3 : (lst != z0 % 65536 % 30) = true := by simp [l2]
            have l4 : lst < 30 := by have h := (HN.out.good.fwd 1 (by rw [HN.out.one]; omega)).2.1; rw [HN.out.one, HN.out.tab.ro.len] at h; omega
            have hfree := HF.out l1 l2
            have HO1 := Lib.hid (show toldB (T.put 1 (z0 % 65536 % 30)).os lst = false by unfold toldB; rw [hfree]; rfl)
            have hl1 := (T.put_len 1 (z0 % 65536 % 30))
            rw [HN.out.tab.rp.len, HN.out.tab.ro.len] at hl1
            have hok2 : (T.put 1 (z0 % 65536 % 30)).ok 2 lst = true := by rw [ok_one _ 2 lst hl1.1 hl1.2 (by omega) (by omega) l1 l4, hfree]; rfl
            have HO2 := Lib.hid hok2
            have HP2 := Lib.hid (put_ps _ 2 lst hok2)
            clear hfree hl1 hok2 l2
            go_wp2_with fail
            refine (owner_any B t b o 3 30 T _ _ HN.out.tab).mono ?_
            rintro e w' ⟨rfl, rfl⟩
            rw [T1.out, T2.out]
            go_wp2_with fail
            refine (put_any B t b o 3 30 T 1 _ _ HN.out.tab HN.out.good).mono ?_
            rintro e w3 ⟨rfl, hT3, hB3⟩
            rw [T3.out]
            have HN3 := Lib.hid (show Now w w3 B t b o (T.put 1 (z0 % 65536 % 30)) (z0 % 65536 % 30) from ⟨hT3, HG1.out, HA1.out, HA0.out, HN.out.below.trans (hB3.mono hsB)⟩)
            clear hT3 hB3
            go_wp2_with fail
            refine (at_any B t b o 3 30 _ 1 _ HN3.out.tab).mono ?_
            rintro e w' ⟨rfl, rfl⟩
            rw [HV.out, HW.out]
            go_wp2_with fail
            refine (owner_any B t b o 3 30 _ lst _ HN3.out.tab).mono ?_
            rintro e w' ⟨rfl, rfl⟩
            rw [HO1.out]
            go_wp2_with fail
            refine (put_any B t b o 3 30 _ 2 lst _ HN3.out.tab HN3.out.good).mono ?_
            rintro e w4 ⟨rfl, hT4, hB4⟩
            rw [HO2.out]
            have HN4 := Lib.hid (show Now w w4 B t b o ((T.put 1 (z0 % 65536 % 30)).put 2 lst) (z0 % 65536 % 30) from ⟨hT4, HN3.out.good.put 2 lst, by rw [HP2.out, if_neg (by decide)]; exact HA1.out, by rw [HP2.out, if_neg (by decide)]; exact HA0.out, HN3.out.below.trans (hB4.mono hsB)⟩)
            clear hT4 hB4
            go_wp2_with fail
            go_roundw
            case rel => exact ⟨k + 1, _, _, by omega, by omega, by go_num, rfl, by omega, HN4.out⟩
            case measure => simp [intOf]; omega
        · have T1 := Lib.hid t1
          have T2 := Lib.hid t2
          have T3 := Lib.hid t3
          have hput : T.put 1 (z0 % 65536 % 30) = T := by unfold Tab.put; rw [if_neg (by simp [t3])]
          have HP := Lib.hid hput
          clear t1 t2 t3 hput
          go_wp2_with fail
          refine (owner_any B t b o 3 30 T _ _ HN.out.tab).mono ?_
          rintro e w' ⟨rfl, rfl⟩
          rw [T1.out, T2.out]
          go_wp2_with fail
          refine (put_any B t b o 3 30 T 1 _ _ HN.out.tab HN.out.good).mono ?_
          rintro e w3 ⟨rfl, hT3, hB3⟩
          rw [T3.out]
          rw [HP.out] at hT3
          have HN3 := Lib.hid (show Now w w3 B t b o T lst from ⟨hT3, HN.out.good, HN.out.one, HN.out.zero, HN.out.below.trans (hB3.mono hsB)⟩)
          clear hT3 hB3
          go_wp2_with fail
          go_roundw
          case rel => exact ⟨k + 1, T, lst, by omega, by omega, by go_num, rfl, hlst, HN3.out⟩
          case measure => simp [intOf]; omega
      · have HC2 := Lib.hid (And.intro HN.out.good.cp (num_three _ HN.out.tab.rp.len HN.out.zero))
        have q1 : T.cnt ≤ 2 := by have := HC2.out.1; have := HC2.out.2; omega
        go_wp2_with fail
        all_goals
          refine (len_any B t b o 3 30 T _ HN.out.tab).mono ?_
          rintro e w' ⟨rfl, rfl⟩
          go_wp2_with fail
          go_ret
          exact ⟨rfl, HN.out.below⟩

theorem walk (a1 : Option Addr) (len1 cap1 : Nat) (z1 : List Int) (w : World) (w1 : IsRow .i64 w a1 len1 cap1 z1) :
    Calls Try.prog 4 #[.slice a1 len1 cap1] w fun e w' => e = .returned (.bool true) ∧ Below w.heap.size w w' := by
  rcases w1 with ⟨rfl, rfl, rfl, rfl⟩ | ⟨x, rfl, hl, hm, hz, hcell, hwz⟩
  · exact walk_row none 0 0 [] w (by unfold maxLen; omega) (.inl rfl)
  · refine walk_row _ len1 cap1 z1 w (by omega) ?_
    by_cases h0 : len1 = 0
    · exact .inl h0
    · right
      obtain ⟨blk, off, spot⟩ := x
      have hc := hcell 0 (by omega)
      have hspot : spot = none := by simpa [Addr.add] using World.cell?_spot hc
      subst hspot
      refine ⟨blk, off, rfl, World.block_lt_of_cell? w ⟨blk, off, none⟩ (by simpa [Addr.add] using hc), fun i hi => ?_⟩
      have h := hcell i (by omega)
      by_cases e : i = 0
      · subst e; simpa [Addr.add] using h
      · simpa [Addr.add, e] using h
set_option maxRecDepth 100000 in
theorem lifted (os : Os) (started : os.Started) (H : Type) (enc : TypeId × Value → H) :
    ReturnsInHanded {} Try.checked os 4 .any (Rows.tableMovesSpec.pre6 enc Try.prog Try.f4 Rows.tableMovesRow.domain false) (Rows.tableMovesSpec.post enc Try.prog Try.f4 false true false false) := by
  refine returnsInHanded_of_change (C := Try.checked) own started (by kernel_rfl) Try.func4
    (ChangeSpec.witness6 (enc := enc) (C := Try.checked) false ⟨#[], #[.slice none 0 0], []⟩ 8 (by kernel_rfl) (by kernel_rfl) (by kernel_rfl) (by kernel_rfl)) ?_
  intro W base args ds gs before hval0 hW hcnd _
  have hval : ∀ (j : Nat) t v, Try.f4.params[j]? = some t → args[j]? = some v → Value.okWide Try.prog W .any base t v := hval0
  have hW' := hW
  obtain ⟨p, q, hA0, hV, rfl, hfz, hnd⟩ := hW
  have hA : DataW.TrodAll enc Try.prog W 0 (fun _ => true) true Try.f4.params.toList args.toList ds p := hA0
  rw [Try.params4] at hA hval
  obtain ⟨v0, vs0, d0, ds0, p0, q0, hargs, rfl, rfl, h0, r0⟩ := trodAll_cons hA
  obtain ⟨rfl, rfl, rfl⟩ := trodAll_nil r0
  obtain rfl : args = #[v0] := by cases args; simp_all
  obtain ⟨rfl, rfl⟩ := trodVars_none hV
  obtain ⟨a0, len0, cap0, rfl⟩ := okWide_slice Try.underlying31 (hval 0 31 v0 rfl rfl)
  have k0 := h0
  have lt0 : ∀ x ∈ p0, x.block < W.heap.size := by obtain ⟨m, hm⟩ := k0; exact DataW.trod_lt m _ _ _ hm
  obtain ⟨z0, w0⟩ : ∃ zs, IsRow .i64 W a0 len0 cap0 zs := by
    obtain ⟨fuel, hf⟩ := h0
    rcases open_ints Try.underlying31 Try.underlying3 (by kernel_rfl) hf with ⟨hcs, _⟩ | ⟨x, l, c, zs, hcs, _, hl, hm, hz, _, hcell, hwz⟩
    · simp [Value.cells] at hcs
      obtain ⟨rfl, rfl, rfl⟩ := hcs
      exact ⟨[], .inl ⟨rfl, rfl, rfl, rfl⟩⟩
    · simp [Value.cells] at hcs
      obtain ⟨rfl, rfl, rfl⟩ := hcs
      exact ⟨zs, .inr ⟨_, rfl, hl, hm, by simpa using hz, hcell, hwz⟩⟩
  clear hA0 hval0
  refine (walk a0 len0 cap0 z0 W w0).mono fun e W' ⟨he, bel⟩ => ?_
  subst he
  exact ⟨_, rfl, _, _, _, [], _, [], hW', trodAll_mk1 (shut_bool Try.underlying4 _), (trodAll_cons_mk (Below.trod laidOut (by kernel_rfl) (of_decide_eq_true (by kernel_rfl)) k0 bel lt0) trodAll_mk0), rfl, bel.frame _, fun h => by cases h⟩

theorem over : Rows.tableMovesRow.holds Try.pinned (OpenSpec.ofChange Rows.tableMovesSpec) :=
  OpenClaim.holds_of_wide 4 Try.f4 rfl rfl rfl rfl rfl rfl rfl ⟨rfl, rfl, rfl, rfl, rfl⟩ rfl rfl rfl rfl rfl (by kernel_rfl) Try.func4 (by kernel_rfl)
    (of_decide_eq_true (by kernel_rfl)) (by unfold Func.isWrapper; first | (rw [if_pos (by decide +kernel)]; kernel_rfl) | (rw [if_neg (by decide +kernel)]; exact ⟨rfl, rfl⟩))
    (fun os started H enc _ => lifted os started H enc)

/-- THE STATEMENT. -/
theorem proved : Rows.TableMovesSaid := over
#print axioms proved
end Go.Proofs.Ytcgjlbgmjlafnaa.tableMoves
