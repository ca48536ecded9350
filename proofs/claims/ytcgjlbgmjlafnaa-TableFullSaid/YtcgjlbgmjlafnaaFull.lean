/-
  PROVED: harrowlaw07.TableFull returns true at every three ints, and its arguments read behind the call as before (Rows.TableFullSaid). No condition.
-/
import Derived.Test.YtcgjlbgmjlafnaaBase
namespace Go.Proofs.Ytcgjlbgmjlafnaa.tableFull
open Go.ChangeShapes Go.WideShapes Go.ChangeAt Go.RowKit
set_option linter.unusedVariables false

theorem own : ownKnob Try.prog.godebug = none := by kernel_rfl
theorem laidOut : laidOutB Try.prog = true := by kernel_rfl
attribute [local go_sem] and65535

/-- The table behind k puts, each block to the place of its own number. -/
def Full (nb np : Nat) : Nat → Tab
  | 0 => fresh nb np
  | k + 1 => (Full nb np k).put (k : Nat) (k : Nat)
theorem Full_good (nb np k : Nat) : Good (Full nb np k) := by
  induction k with
  | zero => exact fresh_good nb np
  | succ k ih => exact ih.put _ _
theorem Full_len (nb np k : Nat) : (Full nb np k).ps.length = nb ∧ (Full nb np k).os.length = np := by
  induction k with
  | zero => simp [Full, fresh]
  | succ k ih => have := (Full nb np k).put_len (k : Nat) (k : Nat); simp only [Full]; omega
theorem Full_at (nb np k : Nat) (hk : k ≤ nb) : (∀ j : Int, at' (Full nb np k).ps j = if 0 ≤ j ∧ j < k ∧ j < np then j else -1) ∧ (∀ j : Int, at' (Full nb np k).os j = if 0 ≤ j ∧ j < k ∧ j < np then j else -1) ∧ (Full nb np k).cnt = min k np := by
  induction k with
  | zero =>
    refine ⟨fun j => ?_, fun j => ?_, ?_⟩
    · rw [show (Full nb np 0).ps = List.replicate nb (-1) from rfl, at_replicate, if_neg (by omega)]
    · rw [show (Full nb np 0).os = List.replicate np (-1) from rfl, at_replicate, if_neg (by omega)]
    · simp [Full, fresh]
  | succ k ih =>
    obtain ⟨i1, i2, i3⟩ := ih (by omega)
    obtain ⟨l1, l2⟩ := Full_len nb np k
    have hps : at' (Full nb np k).ps (k : Nat) = -1 := by rw [i1, if_neg (by omega)]
    have hos : at' (Full nb np k).os (k : Nat) = -1 := by rw [i2, if_neg (by omega)]
    have hd : (Full nb np k).drop (k : Nat) = Full nb np k := by unfold Tab.drop; rw [if_pos hps]
    by_cases hp : k < np
    · have hok : (Full nb np k).ok (k : Nat) (k : Nat) = true := by simp [Tab.ok, inR, l1, l2, hos]; omega
      have e : Full nb np (k + 1) = ⟨(Full nb np k).ps.set k k, (Full nb np k).os.set k k, (Full nb np k).cnt + 1⟩ := by
        show (Full nb np k).put (k : Nat) (k : Nat) = _
        unfold Tab.put; rw [if_pos hok, hd]; rfl
      rw [e]
      have a1 := at_set (Full nb np k).ps (k : Nat) (k : Nat) (by omega) (by omega)
      have a2 := at_set (Full nb np k).os (k : Nat) (k : Nat) (by omega) (by omega)
      rw [Int.toNat_natCast] at a1 a2
      refine ⟨fun j => ?_, fun j => ?_, ?_⟩
      · simp only; rw [a1, i1]
        by_cases c : j = k
        · subst c; rw [if_pos rfl, if_pos (by omega)]
        · rw [if_neg c]; by_cases d : 0 ≤ j ∧ j < k ∧ j < np
          · rw [if_pos d, if_pos (by omega)]
          · rw [if_neg d, if_neg (by omega)]
      · simp only; rw [a2, i2]
        by_cases c : j = k
        · subst c; rw [if_pos rfl, if_pos (by omega)]
        · rw [if_neg c]; by_cases d : 0 ≤ j ∧ j < k ∧ j < np
          · rw [if_pos d, if_pos (by omega)]
          · rw [if_neg d, if_neg (by omega)]
      · simp only; rw [i3]; omega
    · have hok : (Full nb np k).ok (k : Nat) (k : Nat) = false := by simp [Tab.ok, inR, l1, l2]; omega
      have e : Full nb np (k + 1) = Full nb np k := by
        show (Full nb np k).put (k : Nat) (k : Nat) = _
        unfold Tab.put; rw [if_neg (by simp [hok])]
      rw [e]
      refine ⟨fun j => ?_, fun j => ?_, ?_⟩
      · rw [i1]; by_cases d : 0 ≤ j ∧ j < k ∧ j < np
        · rw [if_pos d, if_pos (by omega)]
        · rw [if_neg d, if_neg (by omega)]
      · rw [i2]; by_cases d : 0 ≤ j ∧ j < k ∧ j < np
        · rw [if_pos d, if_pos (by omega)]
        · rw [if_neg d, if_neg (by omega)]
      · omega
theorem Full_ok (nb np k : Nat) (hk : k < nb) : (Full nb np k).ok (k : Nat) (k : Nat) = decide (k < np) := by
  obtain ⟨i1, i2, i3⟩ := Full_at nb np k (by omega)
  obtain ⟨l1, l2⟩ := Full_len nb np k
  have hos : at' (Full nb np k).os (k : Nat) = -1 := by rw [i2, if_neg (by omega)]
  by_cases hp : k < np
  · simp [Tab.ok, inR, l1, l2, hos, hp]; omega
  · simp [Tab.ok, inR, l1, l2, hos, hp]
theorem Full_told (nb np : Nat) (j : Int) (h : 0 ≤ j) : toldB (Full nb np nb).ps j = decide (j < min (nb : Int) np) := by
  obtain ⟨i1, i2, i3⟩ := Full_at nb np nb (Nat.le_refl _)
  unfold toldB; rw [i1]
  by_cases c : 0 ≤ j ∧ j < nb ∧ j < np
  · rw [if_pos c, decide_eq_true (by omega), bne_iff_ne]; omega
  · rw [if_neg c, decide_eq_false (by omega)]; rfl
theorem drop_cnt (T : Tab) (id : Int) : (T.drop id).cnt = T.cnt - if toldB T.ps id = true then 1 else 0 := by
  unfold Tab.drop toldB
  by_cases c : at' T.ps id = -1 <;> simp [c]
theorem num_take (l : List Int) (k : Nat) (h : k < l.length) : num (l.take (k + 1)) = num (l.take k) + if toldB l k = true then 1 else 0 := by
  have e : at' l (k : Nat) = l[k] := by
    have := at_nat l (k : Nat) (by omega) (by omega)
    rw [← this]; simp [h]
  unfold num
  rw [List.take_succ_eq_append_getElem h, List.countP_append]
  unfold toldB; rw [e]; simp [List.countP_cons]

set_option maxRecDepth 100000 in
set_option maxHeartbeats 4000000 in
theorem walk (a0 a1 a2 : Int) (w0 : (Lit.int .i64 a0).wf = true) (w1 : (Lit.int .i64 a1).wf = true) (w2 : (Lit.int .i64 a2).wf = true) (w : World) :
    Calls Try.prog 5 #[.int .i64 a0, .int .i64 a1, .int .i64 a2] w fun e w' => e = .returned (.bool true) ∧ Below w.heap.size w w' := by
  clear w0 w1 w2
  have p0 : 0 ≤ a0 % 65536 := by omega
  have p1 : 0 ≤ a1 % 65536 := by omega
  have p2 : 0 ≤ a2 % 65536 := by omega
  obtain ⟨nb, hnb⟩ : ∃ n : Nat, (n : Int) = a0 % 65536 % 51 := ⟨(a0 % 65536 % 51).toNat, by omega⟩
  obtain ⟨np, hnp⟩ : ∃ n : Nat, (n : Int) = a1 % 65536 % 51 := ⟨(a1 % 65536 % 51).toNat, by omega⟩
  obtain ⟨by', hby⟩ : ∃ n : Nat, (n : Int) = a2 % 65536 % 51 := ⟨(a2 % 65536 % 51).toNat, by omega⟩
  have b1 : nb ≤ 50 := by omega
  have b2 : np ≤ 50 := by omega
  have b3 : by' ≤ 50 := by omega
  have H1 := Lib.hid hnb
  have H2 := Lib.hid hnp
  have H3 := Lib.hid hby
  clear hnb hnp hby
  go_enter Try.func5, Try.ntmps5
  go_wp2_with fail
  refine (shown_any _).mono ?_
  rintro e u1 ⟨rfl, hB1⟩
  go_wp2_with fail
  rw [← H1.out, ← H2.out]
  refine (new_any _ _ nb np _ (by omega) (by omega)).mono ?_
  rintro e w2 ⟨t, b, o, rfl, h1, hB2⟩
  generalize hBs : u1.heap.size = B at *
  have HB := Lib.hid (hB1.trans (hB2.mono (by rw [← hBs]; exact hB1.size)))
  have hsB : w.heap.size ≤ B := by rw [← hBs]; exact hB1.size
  clear hB1 hB2 hBs
  go_wp2_with fail
  go_loopw [9] (fun i wr => ∃ k : Nat, k ≤ nb ∧ i = .int .i64 k ∧ TableAt wr B t b o nb np (Full nb np k) ∧ Below w.heap.size w wr) (fun i _ => nb - (intOf i).toNat)
  case atStart => exact ⟨0, Nat.zero_le _, rfl, h1, HB.out⟩
  case round =>
    clear h1 HB
    obtain ⟨k, hk, rfl, hT, hB⟩ := hrel
    have HT := Lib.hid hT
    have HB := Lib.hid hB
    clear hT hB
    by_cases hlt : k < nb
    · have hok := Full_ok nb np k hlt
      by_cases hp : k < np
      · rw [decide_eq_true hp] at hok
        go_wp2_with fail
        refine (put_any B t b o nb np _ k k _ HT.out (Full_good nb np k)).mono ?_
        rintro e w3 ⟨rfl, hT3, hB3⟩
        rw [hok]
        have HT3 := Lib.hid (show TableAt w3 B t b o nb np (Full nb np (k + 1)) from hT3)
        have HB3 := Lib.hid (HB.out.trans (hB3.mono hsB))
        clear hT3 hB3 hok
        go_wp2_with fail
        go_roundw
        case rel => exact ⟨k + 1, by omega, by go_num, HT3.out, HB3.out⟩
        case measure => simp [intOf]; omega
      · rw [decide_eq_false hp] at hok
        have hp' : np ≤ k := by omega
        go_wp2_with fail
        refine (put_any B t b o nb np _ k k _ HT.out (Full_good nb np k)).mono ?_
        rintro e w3 ⟨rfl, hT3, hB3⟩
        rw [hok]
        have HT3 := Lib.hid (show TableAt w3 B t b o nb np (Full nb np (k + 1)) from hT3)
        have HB3 := Lib.hid (HB.out.trans (hB3.mono hsB))
        clear hT3 hB3 hok
        go_wp2_with fail
        go_roundw
        case rel => exact ⟨k + 1, by omega, by go_num, HT3.out, HB3.out⟩
        case measure => simp [intOf]; omega
    · obtain rfl : nb = k := by omega
      have hcnt := (Full_at nb np nb (Nat.le_refl _)).2.2
      obtain ⟨m, hm⟩ : ∃ m : Nat, m = min nb np := ⟨_, rfl⟩
      rw [← hm] at hcnt
      have HC := Lib.hid hcnt
      have htold := Full_told nb np by' (by omega)
      have hdc := drop_cnt (Full nb np nb) by'
      have hgd := (Full_good nb np nb).drop by'
      have hlen := ((Full nb np nb).drop_len by').2
      rw [(Full_len nb np nb).2] at hlen
      have hco := hgd.co
      have HG := Lib.hid hgd
      clear hgd
      have m1 : m ≤ nb := by omega
      have m2 : m ≤ np := by omega
      rw [hdc, hcnt] at hco
      have hgone : (toldB (Full nb np nb).ps by' = true ∧ by' < m ∧ (m : Int) - 1 = num ((Full nb np nb).drop by').os) ∨ (toldB (Full nb np nb).ps by' = false ∧ m ≤ by' ∧ (m : Int) = num ((Full nb np nb).drop by').os) := by
        rw [htold] at hco ⊢
        by_cases c : (by' : Int) < min (nb : Int) np
        · left; rw [decide_eq_true c] at hco ⊢; simp at hco ⊢; omega
        · right; rw [decide_eq_false c] at hco ⊢; simp at hco ⊢; omega
      clear htold hco
      have HDC := Lib.hid hdc
      clear hcnt hdc
      rcases (show (nb ≤ np ∧ nb ≤ m) ∨ (np < nb ∧ np ≤ m) by omega) with ⟨c1, c2⟩ | ⟨c1, c2⟩ <;> rcases hgone with ⟨g1, g2, g3⟩ | ⟨g1, g2, g3⟩
      all_goals
        have G3 := Lib.hid g3
        clear g3 hm
        first | (have g4 : by' < nb := by omega) | (have g4 : nb ≤ by' := by omega) | skip
        first | (have g5 : by' < np := by omega) | (have g5 : np ≤ by' := by omega) | skip
        first | (have g6 : decide (by' < nb) = true := by rw [decide_eq_true_eq]; omega) | (have g6 : decide (by' < nb) = false := by rw [decide_eq_false_iff_not]; omega) | skip
        first | (have g7 : decide (by' < np) = true := by rw [decide_eq_true_eq]; omega) | (have g7 : decide (by' < np) = false := by rw [decide_eq_false_iff_not]; omega) | skip
        go_wp2_with fail
        refine (len_any B t b o nb np _ _ HT.out).mono ?_
        rintro e w' ⟨rfl, rfl⟩
        rw [HC.out]
        go_wp2_with fail
        rw [← H3.out]
        refine (drop_any B t b o nb np _ by' _ HT.out (Full_good nb np nb)).mono ?_
        rintro e w3 ⟨rfl, hT3, hB3⟩
        rw [g1]
        have HT3 := Lib.hid hT3
        have HB3 := Lib.hid (HB.out.trans (hB3.mono hsB))
        have hcnt3 : ((Full nb np nb).drop by').cnt = num ((Full nb np nb).drop by').os := HG.out.co
        have HC3 := Lib.hid hcnt3
        clear hT3 hB3 hcnt3
        generalize hTd : (Full nb np nb).drop by' = D at *
        go_wp2_with fail
        go_loop [13, 14] (fun kk ii => ∃ i : Nat, i ≤ np ∧ ii = .int .i64 i ∧ kk = .int .i64 (num (D.os.take i))) (fun _ ii => np - (intOf ii).toNat)
        case atStart => exact ⟨0, Nat.zero_le _, rfl, rfl⟩
        case round =>
          obtain ⟨i, hi, rfl, rfl⟩ := hrel
          by_cases hlt : i < np
          · have hb := num_le (D.os.take i)
            have hb2 : (D.os.take i).length ≤ i := List.length_take_le _ _
            have hnt := num_take D.os i (by omega)
            have HH := Lib.hid hnt
            clear hnt
            by_cases hto : toldB D.os i = true
            · have HT2 := Lib.hid hto
              clear hto
              go_wp2_with fail
              refine (owner_any B t b o nb np D i _ HT3.out).mono ?_
              rintro e w' ⟨rfl, rfl⟩
              rw [HT2.out]
              go_wp2_with fail
              go_round
              case rel => exact ⟨i + 1, by omega, by go_num, by rw [HH.out, HT2.out]; go_num⟩
              case measure => simp [intOf]; omega
            · have HT2 := Lib.hid (show toldB D.os i = false by simpa using hto)
              clear hto
              go_wp2_with fail
              refine (owner_any B t b o nb np D i _ HT3.out).mono ?_
              rintro e w' ⟨rfl, rfl⟩
              rw [HT2.out]
              go_wp2_with fail
              go_round
              case rel => exact ⟨i + 1, by omega, by go_num, by rw [HH.out, HT2.out]; go_num⟩
              case measure => simp [intOf]; omega
          · obtain rfl : np = i := by omega
            have e : D.os.take np = D.os := List.take_of_length_le (by omega)
            rw [e]
            have G4 := G3.out
            generalize num D.os = q at *
            have q1 : (q : Int) ≤ m := by omega
            have q2 : (m : Int) ≤ (q : Int) + 1 := by omega
            have q3 : (by' < m → (q : Int) + 1 ≤ m) ∧ (m ≤ by' → (m : Int) ≤ q) := by omega
            have q4 : (q : Int) ≤ 50 := by omega
            clear G4 e
            have q5 := q3.1
            have q6 := q3.2
            clear q3
            try (have q7 := q5 (by assumption))
            try (have q7 := q6 (by assumption))
            clear q5 q6
            go_wp2_with fail
            refine (len_any B t b o nb np D _ HT3.out).mono ?_
            rintro e w' ⟨rfl, rfl⟩
            rw [HC3.out]
            go_wp2_with fail
            go_ret
            refine ⟨ret_bool ?_, HB3.out⟩
            first | rfl | (rw [beq_iff_eq]; omega)
set_option maxRecDepth 100000 in
theorem lifted (os : Os) (started : os.Started) (H : Type) (enc : TypeId × Value → H) :
    ReturnsInHanded {} Try.checked os 5 .any (Rows.tableFullSpec.pre6 enc Try.prog Try.f5 Rows.tableFullRow.domain false) (Rows.tableFullSpec.post enc Try.prog Try.f5 false true false false) := by
  refine returnsInHanded_of_change (C := Try.checked) own started (by kernel_rfl) Try.func5
    (ChangeSpec.witness6 (enc := enc) (C := Try.checked) false ⟨#[], #[.int .i64 0, .int .i64 0, .int .i64 0], []⟩ 8 (by kernel_rfl) (by kernel_rfl) (by kernel_rfl) (by kernel_rfl)) ?_
  intro W base args ds gs before hval0 hW hcnd _
  have hval : ∀ (j : Nat) t v, Try.f5.params[j]? = some t → args[j]? = some v → Value.okWide Try.prog W .any base t v := hval0
  have hW' := hW
  obtain ⟨p, q, hA0, hV, rfl, hfz, hnd⟩ := hW
  have hA : DataW.TrodAll enc Try.prog W 0 (fun _ => true) true Try.f5.params.toList args.toList ds p := hA0
  rw [Try.params5] at hA hval
  obtain ⟨v0, vs0, d0, ds0, p0, q0, hargs, rfl, rfl, h0, r0⟩ := trodAll_cons hA
  obtain ⟨v1, vs1, d1, ds1, p1, q1, rfl, rfl, rfl, h1, r1⟩ := trodAll_cons r0
  obtain ⟨v2, vs2, d2, ds2, p2, q2, rfl, rfl, rfl, h2, r2⟩ := trodAll_cons r1
  obtain ⟨rfl, rfl, rfl⟩ := trodAll_nil r2
  obtain rfl : args = #[v0, v1, v2] := by cases args; simp_all
  obtain ⟨rfl, rfl⟩ := trodVars_none hV
  obtain ⟨a0, rfl, rfl, rfl, w0⟩ := open_int Try.underlying3 (hval 0 3 v0 rfl rfl) h0
  obtain ⟨a1, rfl, rfl, rfl, w1⟩ := open_int Try.underlying3 (hval 1 3 v1 rfl rfl) h1
  obtain ⟨a2, rfl, rfl, rfl, w2⟩ := open_int Try.underlying3 (hval 2 3 v2 rfl rfl) h2
  clear hA0 hval0
  refine (walk a0 a1 a2 w0 w1 w2 W).mono fun e W' ⟨he, bel⟩ => ?_
  subst he
  exact ⟨_, rfl, _, _, _, [], _, [], hW', trodAll_mk1 (shut_bool Try.underlying4 _), (trodAll_cons_mk (shut_int Try.underlying3 w0) (trodAll_cons_mk (shut_int Try.underlying3 w1) (trodAll_cons_mk (shut_int Try.underlying3 w2) trodAll_mk0))), rfl, bel.frame _, fun h => by cases h⟩

theorem over : Rows.tableFullRow.holds Try.pinned (OpenSpec.ofChange Rows.tableFullSpec) :=
  OpenClaim.holds_of_wide 5 Try.f5 rfl rfl rfl rfl rfl rfl rfl ⟨rfl, rfl, rfl, rfl, rfl⟩ rfl rfl rfl rfl rfl (by kernel_rfl) Try.func5 (by kernel_rfl)
    (of_decide_eq_true (by kernel_rfl)) (by unfold Func.isWrapper; first | (rw [if_pos (by decide +kernel)]; kernel_rfl) | (rw [if_neg (by decide +kernel)]; exact ⟨rfl, rfl⟩))
    (fun os started H enc _ => lifted os started H enc)

/-- THE STATEMENT. -/
theorem proved : Rows.TableFullSaid := over
#print axioms proved
end Go.Proofs.Ytcgjlbgmjlafnaa.tableFull
