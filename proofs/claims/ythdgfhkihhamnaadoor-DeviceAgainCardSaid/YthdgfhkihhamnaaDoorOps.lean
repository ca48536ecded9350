/-
  PROVED HERE: the contracts of begin, Flush, Arm, New.
-/
import Derived.Test.YthdgfhkihhamnaaDoorCrash
namespace Go.Proofs.YthdgfhkihhamnaaDoor
open Go.ChangeShapes Go.WideShapes Go.ChangeAt Go.RowKit

section
variable {w w' : World} {Z : Nat → Prop} {dp sb tm tn : Nat} {wv kv : Value} {ss cs : List Value} {D : Dev}

theorem keep_arg (h : DevMem w Z dp sb tm tn wv kv ss cs D) (hl : D.keep.length ≤ 17592186043904) : ∃ a cap, kv = .slice a D.keep.length cap ∧ KeepArg w a D.keep.length D.keep := by
  have hk := h.rest.krow
  rcases hk.2 with ⟨rfl, hn⟩ | ⟨g, cap, cur, rfl, hb, hh, r1, r2, r3, r4⟩
  · exact ⟨none, 0, by rw [hn], rfl, by omega, .inl hn⟩
  · refine ⟨some ⟨g, 0, none⟩, cap, rfl, rfl, by omega, .inr ⟨g, 0, rfl, fun i hi => ?_⟩⟩
    rw [Nat.zero_add, hk.cellAt i (by omega)]
    simp [hi]

theorem begin_any (h : DevAt w Z dp D) (hw : D.w ≤ 1000000000000) :
    Calls Tryd.prog 20 #[.pointer (some ⟨dp, 0, none⟩)] w fun e w' => e = .returned (.int .i64 D.err) ∧ DevAt w' Z dp D.begin ∧ Out Z w w' := by
  obtain ⟨sb, tm, tn, wv, kv, ss, cs, m, l1, l2, l3, l4⟩ := h
  have c6 : w.cell? ⟨dp, 6, none⟩ = some (.bool D.down) := m.cell 6
  have c7 : w.cell? ⟨dp, 7, none⟩ = some (.bool D.armed) := m.cell 7
  have c8 : w.cell? ⟨dp, 8, none⟩ = some (.int .i64 D.left) := m.cell 8
  have c9 : w.cell? ⟨dp, 9, none⟩ = some kv := m.cell 9
  have f8 := m.free 8
  cases hd : D.down with
  | true =>
    have e1 : D.begin = D := by unfold Dev.begin; simp [hd]
    have e2 : D.err = 2 := by unfold Dev.err; rw [e1, hd]; rfl
    rw [e1, e2]
    rw [hd] at c6
    have H := Lib.hid (show DevAt w Z dp D from ⟨sb, tm, tn, wv, kv, ss, cs, m, l1, l2, l3, l4⟩)
    clear m l1 l2 l3 l4 hw e1 e2 hd
    go_enter Tryd.func20, Tryd.ntmps20
    go_wp2
    go_ret
    exact ⟨rfl, H.out, Out.refl _ _⟩
  | false =>
    cases ha : D.armed with
    | false =>
      have e1 : D.begin = D := by unfold Dev.begin; simp [hd, ha]
      have e2 : D.err = 0 := by unfold Dev.err; rw [e1, hd]; rfl
      rw [e1, e2]
      rw [hd] at c6
      rw [ha] at c7
      have H := Lib.hid (show DevAt w Z dp D from ⟨sb, tm, tn, wv, kv, ss, cs, m, l1, l2, l3, l4⟩)
      clear m l1 l2 l3 l4 hw e1 e2 hd ha
      go_enter Tryd.func20, Tryd.ntmps20
      go_wp2
      go_ret
      exact ⟨rfl, H.out, Out.refl _ _⟩
    | true =>
      rw [hd] at c6
      rw [ha] at c7
      by_cases hz : D.left = 0
      · have e1 : D.begin = D.crash D.keep := by unfold Dev.begin; simp [hd, ha, hz]
        have e2 : D.err = 2 := by unfold Dev.err; rw [e1]; rfl
        rw [e1, e2]
        rw [hz] at c8
        obtain ⟨a, cap, rfl, hk⟩ := keep_arg m l4
        have HK := Lib.hid hk
        have H := Lib.hid (show DevAt w Z dp D from ⟨sb, tm, tn, wv, _, ss, cs, m, l1, l2, l3, l4⟩)
        clear m l1 l2 l3 e1 e2 hd ha hz hk
        go_enter Tryd.func20, Tryd.ntmps20
        go_wp2_with fail
        refine (crash_any H.out a _ cap D.keep HK.out hw).mono ?_
        rintro e w2 ⟨rfl, hD, hO⟩
        have HD := Lib.hid (And.intro hD hO)
        have k6 : w2.cell? ⟨dp, 6, none⟩ = some (.bool true) := by obtain ⟨sb', tm', tn', wv', kv', ss', cs', m', _⟩ := hD; exact m'.cell 6
        clear hD hO
        go_wp2_with fail
        go_ret
        exact ⟨rfl, HD.out.1, HD.out.2⟩
      · have e1 : D.begin = { D with left := D.left - 1 } := by unfold Dev.begin; simp [hd, ha, hz]
        have e2 : D.err = 0 := by unfold Dev.err; rw [e1]; simp [hd]
        rw [e1, e2]
        have z1 : (D.left == 0) = false := by simp [hz]
        have z2 : 1 ≤ D.left := by omega
        have H := Lib.hid (show DevAt (w.setCell ⟨dp, 8, none⟩ (.int .i64 (D.left - 1))) Z dp { D with left := D.left - 1 } from ⟨sb, tm, tn, wv, _, ss, cs, m.store (D' := { D with left := D.left - 1 }) 8 _ rfl rfl rfl rfl rfl rfl, l1, by show 0 ≤ D.left - 1; omega, by show D.left - 1 ≤ _; omega, l4⟩)
        have HZ := Lib.hid m.dZ
        clear m l1 l2 l4 hw e1 e2 hd ha hz
        generalize D.left = left at *
        go_enter Tryd.func20, Tryd.ntmps20
        go_wp2
        go_ret
        exact ⟨rfl, H.out, Out.cell _ _ _ HZ.out⟩

theorem fates_cnt (keep : List Int) : ∀ (l : List (Int × List Int)) (k : Nat) (E : Dev), (Dev.fates keep k E l).w = E.w ∧ (Dev.fates keep k E l).r = E.r ∧ (Dev.fates keep k E l).f = E.f ∧ (Dev.fates keep k E l).n = E.n := by
  intro l
  induction l with
  | nil => intro k E; exact ⟨rfl, rfl, rfl, rfl⟩
  | cons x l ih =>
    intro k E
    rw [Dev.fates]
    obtain ⟨a, b, c, d⟩ := ih (k + 1) (E.fate (keep[k]?.getD 0) x)
    rw [a, b, c, d]
    unfold Dev.fate Dev.done Dev.tear; split <;> (try split) <;> exact ⟨rfl, rfl, rfl, rfl⟩
theorem crash_cnt (D : Dev) (keep : List Int) : (D.crash keep).w = D.w ∧ (D.crash keep).r = D.r ∧ (D.crash keep).f = D.f ∧ (D.crash keep).n = D.n := fates_cnt keep D.wait 0 D
theorem begin_cnt (D : Dev) : D.begin.w = D.w ∧ D.begin.r = D.r ∧ D.begin.f = D.f ∧ D.begin.n = D.n := by
  unfold Dev.begin
  split
  · exact crash_cnt D D.keep
  · split
    · exact ⟨rfl, rfl, rfl, rfl⟩
    · split <;> exact ⟨rfl, rfl, rfl, rfl⟩
theorem err_cases (D : Dev) : D.err = 2 ∨ D.err = 0 := by unfold Dev.err; split; exact .inl rfl; exact .inr rfl

theorem dones_step (D : Dev) (l : List (Int × List Int)) (k : Nat) (x : Int × List Int) (h : l[k]? = some x) : Dev.dones D (l.drop k) = Dev.dones (D.done x.1 x.2) (l.drop (k + 1)) := by
  have hk : k < l.length := by
    by_cases c : k < l.length
    · exact c
    · rw [List.getElem?_eq_none (by omega)] at h; cases h
  rw [List.getElem?_eq_getElem hk] at h
  rw [List.drop_eq_getElem_cons hk, Dev.dones]
  cases h; rfl

theorem dones_cnt : ∀ (l : List (Int × List Int)) (E : Dev), (Dev.dones E l).w = E.w ∧ (Dev.dones E l).left = E.left ∧ (Dev.dones E l).keep = E.keep := by
  intro l
  induction l with
  | nil => intro E; exact ⟨rfl, rfl, rfl⟩
  | cons x l ih => intro E; rw [Dev.dones]; exact ih _

/-- The loop of Flush on its way. -/
structure FWay (w wr : World) (Z : Nat → Prop) (dp sb tm tn : Nat) (wv kv : Value) (cs : List Value) (D : Dev) (k : Nat) (ss : List Value) (E : Dev) : Prop where
  mem : DevMem wr Z dp sb tm tn wv kv ss cs E
  wait : E.wait = D.wait
  rest : Dev.dones E (D.wait.drop k) = Dev.dones D D.wait
  out : Out Z w wr
theorem FWay.step {wr w2 : World} {k : Nat} {E : Dev} {ss2 : List Value} {x : Int × List Int} (h : FWay w wr Z dp sb tm tn wv kv cs D k ss E) (hx : D.wait[k]? = some x)
    (hm : DevMem w2 Z dp sb tm tn wv kv ss2 cs (E.done x.1 x.2)) (ho : Out Z wr w2) : FWay w w2 Z dp sb tm tn wv kv cs D (k + 1) ss2 (E.done x.1 x.2) :=
  ⟨hm, h.wait, by rw [← h.rest, dones_step E D.wait k x hx], h.out.trans ho⟩
/-- All that waited is gone. -/
theorem DevMem.flushed {E : Dev} (h : DevMem w Z dp sb tm tn wv kv ss cs E) : DevMem (w.setCell ⟨dp, 1, none⟩ (.slice none 0 0)) Z dp sb tm tn (.slice none 0 0) kv ss [] { E with wait := [] } := by
  have k1 := heap_setCell_same w dp 1 _ _ (.slice none 0 0) h.head
  have r1 := h.rest.apart (grown_setCell w ⟨dp, 1, none⟩ (.slice none 0 0)) h.head (by simp [tag]) (by simp [tag]) (by simp [tag]) (by simp [tag]) (by simp [tag])
  exact ⟨k1, ⟨r1.row, r1.ssl, r1.sd, World.ownsRow_nil _ 0 55 2, fun i a bs hi => by simp at hi, r1.tr, r1.krow, fun g e => by simp [Value.ownBlock] at e, r1.kZ, r1.sZ, r1.tZ, r1.n1, r1.n2⟩, h.dZ⟩

set_option maxRecDepth 100000 in
set_option maxHeartbeats 4000000 in
theorem flush_any (h : DevAt w Z dp D) (hw : D.w ≤ 1000000000000) (hf0 : 0 ≤ D.f) (hf1 : D.f ≤ 1000000000000) :
    Calls Tryd.prog 12 #[.pointer (some ⟨dp, 0, none⟩)] w fun e w' => e = .returned (.int .i64 D.err) ∧ DevAt w' Z dp D.flush ∧ Out Z w w' := by
  have hcnt := begin_cnt D
  rcases err_cases D with he | he
  · have hD : D.flush = D.begin := by unfold Dev.flush; rw [if_pos he]
    rw [hD]
    have H := Lib.hid h
    have HE := Lib.hid he
    clear h he hD
    go_enter Tryd.func12, Tryd.ntmps12
    go_wp2_with fail
    refine (begin_any H.out hw).mono ?_
    rintro e w2 ⟨rfl, hD, hO⟩
    rw [HE.out]
    go_wp2_with fail
    go_ret
    exact ⟨ret_int HE.out.symm, hD, hO⟩
  · have hD : D.flush = { Dev.dones { D.begin with f := D.begin.f + 1 } D.begin.wait with wait := [] } := by unfold Dev.flush; rw [if_neg (by omega)]
    rw [hD, he]
    have H := Lib.hid h
    have HE := Lib.hid he
    clear h he hD
    generalize hEE : D.begin = E at *
    have HEE := Lib.hid hEE
    clear hEE
    go_enter Tryd.func12, Tryd.ntmps12
    go_wp2_with fail
    refine (begin_any H.out hw).mono ?_
    rintro e w2 ⟨rfl, hD, hO⟩
    rw [HE.out]
    rw [HEE.out] at hD
    obtain ⟨hc1, hc2, hc3, hc4⟩ := hcnt
    obtain ⟨sb, tm, tn, wv, kv, ss, cs, m, l1, l2, l3, l4⟩ := hD
    have g0 : 0 ≤ E.f := by omega
    have g1 : E.f ≤ 1000000000000 := by omega
    have gw : E.w ≤ 1000000000000 := by omega
    have c5 : w2.cell? ⟨dp, 5, none⟩ = some (.int .i64 E.f) := m.cell 5
    have f5 := m.free 5
    have c1 : w2.cell? ⟨dp, 1, none⟩ = some wv := m.cell 1
    have f1 := m.free 1
    have m1 := m.store (D' := { E with f := E.f + 1 }) 5 (.int .i64 (E.f + 1)) rfl rfl rfl rfl rfl rfl
    have HM := Lib.hid (And.intro m1 (And.intro m.dZ (And.intro l1 (And.intro l2 (And.intro l3 (And.intro l4 (And.intro hO m)))))))
    have hwr := m.rest.wrow
    clear m m1 l1 l2 l3 l4 hc1 hc2 hc3 hc4 hO H
    rcases hwr.2 with ⟨rfl, hn⟩ | ⟨wb, wc, cur, hv, _⟩
    · have HN := Lib.hid (List.eq_nil_of_length_eq_zero hn)
      clear hwr hn
      go_wp2
      refine wp_loop_rounds 1 ?_
      rw [rounds_succ]
      go_wp2
      go_ret
      refine ⟨rfl, ⟨sb, tm, tn, .slice none 0 0, kv, ss, [], ?_, ?_, by rw [HN.out]; exact HM.out.2.2.2.1, by rw [HN.out]; exact HM.out.2.2.2.2.1, by rw [HN.out]; exact HM.out.2.2.2.2.2.1⟩, (HM.out.2.2.2.2.2.2.1.trans (Out.cell _ _ _ HM.out.2.1)).trans (Out.cell _ _ _ HM.out.2.1)⟩
      · rw [HN.out]; exact HM.out.1.flushed
      · rw [HN.out]; have := HM.out.2.2.1; rw [HN.out] at this; exact this
    · subst hv
      obtain ⟨m, hm⟩ : ∃ m, m = E.wait.length := ⟨_, rfl⟩
      rw [← hm] at c1
      have HL := Lib.hid hm
      have hsm : m ≤ 1000000000000 := by have := HM.out.2.2.1; have := HL.out; omega
      have HS := Lib.hid (show FWay w (w2.setCell ⟨dp, 5, none⟩ (.int .i64 (E.f + 1))) Z dp sb tm tn (.slice (some ⟨wb, 0, none⟩) E.wait.length wc) kv cs { E with f := E.f + 1 } 0 ss { E with f := E.f + 1 } from ⟨HM.out.1, rfl, rfl, HM.out.2.2.2.2.2.2.1.trans (Out.cell _ _ _ HM.out.2.1)⟩)
      clear hwr hm
      go_wp2
      go_loopw [27] (fun i wr => ∃ (k : Nat) (ss' : List Value) (F : Dev), k ≤ m ∧ i = .int .i64 k ∧ FWay w wr Z dp sb tm tn (.slice (some ⟨wb, 0, none⟩) E.wait.length wc) kv cs { E with f := E.f + 1 } k ss' F) (fun i _ => m - (intOf i).toNat)
      case atStart => exact ⟨0, _, _, Nat.zero_le _, rfl, HS.out⟩
      case round =>
        clear HS c1 c5 f5 f1
        obtain ⟨k, ss', F, hkm, rfl, hW⟩ := hrel
        have HW := Lib.hid hW
        clear hW
        by_cases hlt : k < m
        · obtain ⟨x, hx⟩ : ∃ x, E.wait[k]? = some x := ⟨_, List.getElem?_eq_getElem (by have := HL.out; omega)⟩
          obtain ⟨i, bs⟩ := x
          have hwd := HW.out.mem.rest.wd k i bs (by rw [HW.out.wait]; exact hx)
          obtain ⟨⟨b1, b2⟩, b3, g, b4, b5, b6, b7⟩ := hwd
          have b8 := HW.out.mem.rest.n2
          have hwr := HW.out.mem.rest.wrow
          rw [HW.out.wait] at hwr
          rw [Nat.mul_comm 2 k] at b3 b5
          have e0 := (hwr.cellAt (k * 2) (by have := HL.out; show _ < E.wait.length * 2; omega)).trans b3
          have e1 := (hwr.cellAt (k * 2 + 1) (by have := HL.out; show _ < E.wait.length * 2; omega)).trans b5
          have wlt := (own_lt hwr wb rfl)
          have dlt := (Array.getElem?_eq_some_iff.1 HW.out.mem.head).1
          clear b3 b5 hwr
          unfold dv at e1
          have HX := Lib.hid hx
          have HB := Lib.hid (And.intro b4 (And.intro b6 b7))
          clear hx b4 b6 b7
          go_wp2_with fail
          refine (done_any (HW.out.mem.alloc _) i g bs b1 (by omega) HB.out.1 (HB.out.2.1.kept ((Below.refl _ _).alloc (Nat.le_refl _) _)) HB.out.2.2).mono ?_
          rintro e w3 ⟨rfl, hM, hO⟩
          have hst := HW.out.step HX.out (w2 := w3) hM ((Out.alloc _ _).trans (hO.mono (fun k _ hz => HW.out.mem.rest.two k hz)))
          have HST := Lib.hid hst
          clear hM hO hst
          go_wp2_with fail
          go_roundw
          case rel => exact ⟨k + 1, _, _, by omega, by go_num, HST.out⟩
          case measure => simp [intOf]; omega
        · obtain rfl : m = k := by omega
          have w1 : wr.cell? ⟨dp, 1, none⟩ = some (.slice (some ⟨wb, 0, none⟩) E.wait.length wc) := HW.out.mem.cell 1
          have v1 := HW.out.mem.free 1
          have e : F = Dev.dones { E with f := E.f + 1 } E.wait := by
            have r := HW.out.rest
            rw [HL.out] at r
            rw [show ({ E with f := E.f + 1 } : Dev).wait = E.wait from rfl, List.drop_length] at r
            exact r
          have hfw : F.w = E.w ∧ F.left = E.left ∧ F.keep = E.keep := by
            rw [e]; exact dones_cnt E.wait { E with f := E.f + 1 }
          have HF := Lib.hid (And.intro e hfw)
          clear e hfw
          go_wp2
          go_ret
          refine ⟨rfl, ⟨sb, tm, tn, .slice none 0 0, kv, ss', [], ?_, ?_, ?_, ?_, ?_⟩, HW.out.out.trans (Out.cell _ _ _ HW.out.mem.dZ)⟩
          · rw [← HF.out.1]; exact HW.out.mem.flushed
          · rw [← HF.out.1]; have := HM.out.2.2.1; rw [show ({ F with wait := [] } : Dev).w = F.w from rfl, HF.out.2.1]; show (tn : Int) + 0 ≤ _; omega
          · rw [← HF.out.1]; show 0 ≤ F.left; rw [HF.out.2.2.1]; exact HM.out.2.2.2.1
          · rw [← HF.out.1]; show F.left ≤ _; rw [HF.out.2.2.1]; exact HM.out.2.2.2.2.1
          · rw [← HF.out.1]; show F.keep.length ≤ _; rw [HF.out.2.2.2]; exact HM.out.2.2.2.2.2.1
end
end Go.Proofs.YthdgfhkihhamnaaDoor
