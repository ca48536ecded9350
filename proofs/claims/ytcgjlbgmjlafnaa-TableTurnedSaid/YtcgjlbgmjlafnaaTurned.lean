/-
  TableTurned answers true, whatever the input.
-/
import Derived.Test.YtcgjlbgmjlafnaaStrong
import Derived.Deep.Grids
import Derived.Deep.CutBlock
import Derived.Deep.RegionHeld3
import Derived.Deep.Slices
namespace Go.Proofs.Ytcgjlbgmjlafnaa.tableTurned
open Go.ChangeShapes Go.WideShapes Go.ChangeAt Go.RowKit
open Go.Shelf
set_option linter.unusedVariables false
attribute [local go_sem] Oper.semAt_some

theorem own : ownKnob Try.prog.godebug = none := by kernel_rfl
theorem laidOut : laidOutB Try.prog = true := by kernel_rfl


theorem equalIn_func {P : Program} {ps rs : Array TypeId} {va : Bool} (W : World) (d : Nat) (t : TypeId) (f : Fn) (x y : Array Value) (hu : P.underlying t = some (.func ps rs va)) : (Op.equalIn (d + 1) t (.func f x y) .nilFunc).run P W = .ok false W := by
  unfold Op.equalIn
  simp [run_underlying hu, Sem.run_pure]
theorem func_nil (x y : Array Value) (W : World) : (binOp .eql 38 (.func (.func 18) x y) .nilFunc).run Try.prog W = .ok (.bool false) W := by
  have h : (Op.equal 38 (.func (.func 18) x y) .nilFunc).run Try.prog W = .ok false W := equalIn_func W 9999 38 (.func 18) x y Try.underlying38
  unfold binOp
  simp [h]
theorem cells_kept {X Y : World} {row : Option Nat} {k : Nat} {a : Array Value} {t : TypeId} {fr : Nat × Nat} (h : X.heap[k]? = some (.cells a t fr)) (hg : X.grownBy Y row) (hr : ∀ r, row = some r → ∃ o : Obj, X.heap[r]? = some o ∧ o.isCells = false) : Y.heap[k]? = some (.cells a t fr) :=
  (hg.block k (Array.getElem?_eq_some_iff.1 h).1 (fun e => by obtain ⟨_, ho, hc⟩ := hr k e.symm; rw [h] at ho; cases ho; cases hc)).trans h
/-- The block that came last. -/
def lastId (pre : List (Int × Int)) : Int := (pre.getLast?.map (·.1)).getD (-1)
theorem lastId_snoc (pre : List (Int × Int)) (x : Int × Int) : lastId (pre ++ [x]) = x.1 := by simp [lastId]
theorem lastId_lt {pre : List (Int × Int)} {v : Int} (h0 : 0 ≤ v) (h : ∀ y ∈ pre, y.1 < v) : lastId pre < v := by
  unfold lastId
  cases e : pre.getLast? with
  | none => simp; omega
  | some y => exact h y (List.mem_of_getLast? e)
theorem count_next (l : List Int) (k : Nat) (hk : k < l.length) : num (l.take (k + 1)) = num (l.take k) + (if at' l k = -1 then 0 else 1) := by
  have h1 := pairs_len l (k + 1) hk
  have h2 := pairs_len l k (Nat.le_of_lt hk)
  rw [← h1, ← h2, pairs, List.length_append]
  split <;> rfl

/-- The steps that came in. -/
def StepsIn (w : World) (a : Option Addr) (len : Nat) : Prop :=
  ∀ i, i < len → ∃ (blk off : Nat) (d : Bool) (id pl : Int), a = some ⟨blk, off, none⟩ ∧ blk < w.heap.size ∧ w.cell? ⟨blk, off + i * 3, none⟩ = some (.bool d) ∧ w.cell? ⟨blk, off + i * 3 + 1, none⟩ = some (.int .i64 id) ∧ w.cell? ⟨blk, off + i * 3 + 2, none⟩ = some (.int .i64 pl)

structure TS (w wr : World) (B t b o tb : Nat) (T : Tab) : Prop where
  tab : TableAt wr B t b o 50 50 T
  good : Good T
  box : wr.heap[tb]? = some (.cells #[.pointer (some ⟨t, 0, none⟩)] 23 (0, 0))
  res : wr.heap[w.heap.size]? = some (.cells #[.bool false] 4 (0, 0))
  lt : t < tb
  lb : b < tb
  lo : o < tb
  rB : w.heap.size < B
  bel : Below w.heap.size w wr
section
variable {w wr w' : World} {B t b o tb : Nat} {T T' : Tab}
theorem TS.turn (h : TS w wr B t b o tb T) (hT : TableAt w' B t b o 50 50 T') (hG : Good T') (hS : Turned B t b o wr w') : TS w w' B t b o tb T' := by
  have h1 := h.tab.tB
  have h2 := h.tab.rp.lt.1
  have h3 := h.tab.ro.lt.1
  have h4 := h.rB
  have h5 := h.lt
  have h6 := h.lb
  have h7 := h.lo
  exact ⟨hT, hG, (hS.others tb (by omega) (by omega) (by omega)).trans h.box, (hS.others _ (by omega) (by omega) (by omega)).trans h.res, h.lt, h.lb, h.lo, h.rB, h.bel.trans (hS.below.mono (by omega))⟩
theorem TS.drew (h : TS w wr B t b o tb T) : TS w wr.drew B t b o tb T :=
  ⟨h.tab.same rfl rfl rfl, h.good, h.box, h.res, h.lt, h.lb, h.lo, h.rB, h.bel.drew⟩
theorem TS.below (h : TS w wr B t b o tb T) (hb : Below wr.heap.size wr w') : TS w w' B t b o tb T :=
  ⟨h.tab.same (hb.block t (World.block_lt_of_cell? wr ⟨t, 0, none⟩ h.tab.h0)) (hb.block b h.tab.rp.lt.2) (hb.block o h.tab.ro.lt.2), h.good, (hb.block tb (Array.getElem?_eq_some_iff.1 h.box).1).trans h.box,
    (hb.block _ (Array.getElem?_eq_some_iff.1 h.res).1).trans h.res, h.lt, h.lb, h.lo, h.rB, h.bel.trans (hb.mono h.bel.size)⟩
theorem TS.c (h : TS w wr B t b o tb T) : wr.cell? ⟨tb, 0, none⟩ = some (.pointer (some ⟨t, 0, none⟩)) := by
  have k := h.box
  simp [World.cell?, k]
end
theorem enter_marks {f : FuncId} {fn : Func} {c : Code} {args : Array Value} {w : World} {R : Ending → World → Prop} (hf : Try.prog.funcs[f]? = some fn) (hb : fn.body = some c)
    (h : c.wp Try.prog (bodyPostM Fence.wide 9 Try.prog fn R) { tmps := args ++ Array.replicate (fn.ntmps - args.size) undef, defers := [] } w) : Calls Try.prog f args w R :=
  (callsIn_wide (n := 9)).1 (callsIn_of_wp_marks hf hb trivial (wpIn_wide.2 h) rfl)
theorem ret_marks {fn : Func} {R : Ending → World → Prop} {tmps : Array Value} {D : Nat} {W : World} {v : Value} (hK : W.heap[D]? = some (.deferred (some []))) (hr : (results fn tmps).run Try.prog (W.putObj D (.deferred none)) = .ok v (W.putObj D (.deferred none))) (h : R (.returned v) (W.putObj D (.deferred none))) :
    bodyPostM Fence.wide 9 Try.prog fn R .ret { tmps := tmps, defers := [{ target := .collected D, args := #[] }] } W :=
  ⟨by simp, .inl ⟨_, _, rfl, run_takeDeferred hK, v, hr, h⟩⟩

set_option maxRecDepth 100000 in
set_option maxHeartbeats 8000000 in
theorem walk_row (a0 : Option Addr) (len cap : Nat) (w : World) (hl : len ≤ maxLen) (w0 : StepsIn w a0 len) :
    Calls Try.prog 6 #[.slice a0 len cap] w fun e w' => e = .returned (.bool true) ∧ Below w.heap.size w w' := by
  unfold maxLen at hl
  have A0 := Lib.hid w0
  clear w0
  refine enter_marks Try.func6 rfl ?_
  simp only [Try.ntmps6, List.size_toArray, List.length_cons, List.length_nil, Nat.reduceAdd, Nat.reduceSub, Array.replicate_succ, Array.replicate_zero, List.push_toArray, List.append_toArray, List.nil_append, List.cons_append]
  go_wp2_with fail
  refine (shown_any _).mono ?_
  rintro e wa ⟨rfl, hB0⟩
  have HB0 := Lib.hid (And.intro (((Below.refl w.heap.size w).alloc (Nat.le_refl _) (.cells #[.bool false] 4)).trans (hB0.mono (by simp))) (And.intro ((hB0.block w.heap.size (by simp)).trans (heap_alloc_new w (.cells #[.bool false] 4))) (show w.heap.size < wa.heap.size by have := hB0.size; simp at this; omega)))
  clear hB0
  go_wp2_with fail
  refine (new_any 50 50 50 50 _ (by decide) (by decide)).mono ?_
  rintro e wb ⟨t, b, o, rfl, hT, hB⟩
  have hn := heap_alloc_new wb (.cells #[.pointer (some ⟨t, 0, none⟩)] 23)
  have hB1 : Below wb.heap.size wb (wb.alloc (.cells #[.pointer (some ⟨t, 0, none⟩)] 23)) := (Below.refl _ _).alloc (Nat.le_refl _) _
  have hlt : t < wb.heap.size := World.block_lt_of_cell? wb ⟨t, 0, none⟩ hT.h0
  have hst : TS w (wb.alloc (.cells #[.pointer (some ⟨t, 0, none⟩)] 23)) wa.heap.size t b o wb.heap.size (fresh 50 50) :=
    ⟨hT.same (hB1.block t hlt) (hB1.block b hT.rp.lt.2) (hB1.block o hT.ro.lt.2), fresh_good 50 50, hn, (hB1.block _ (Nat.lt_of_lt_of_le HB0.out.2.2 hB.size)).trans ((hB.block _ HB0.out.2.2).trans HB0.out.2.1), hlt, hT.rp.lt.2, hT.ro.lt.2, HB0.out.2.2, (HB0.out.1.trans (hB.mono (Nat.le_of_lt HB0.out.2.2))).trans (hB1.mono (Nat.le_trans (Nat.le_of_lt HB0.out.2.2) hB.size))⟩
  have cT := hst.c
  have HS := Lib.hid hst
  clear hn hB1 hlt hst hT hB
  go_upto_block 0 with fail
  generalize wb.heap.size = tb at *
  generalize wa.heap.size = B at *
  go_cut [5] from 26 to 59 (fun i wx => ∃ T : Tab, TS w wx B t b o tb T)
  case first =>
    go_wp2_with fail
    go_loopw [5] (fun i wr => ∃ (k : Nat) (T : Tab), k ≤ len ∧ k ≤ 300 ∧ i = .int .i64 k ∧ TS w wr B t b o tb T) (fun i _ => 300 - (intOf i).toNat)
    case atStart => exact ⟨0, _, by omega, by omega, rfl, HS.out⟩
    case round =>
      clear HS cT
      obtain ⟨k, T, hk, hk3, rfl, hW⟩ := hrel
      have HW := Lib.hid hW
      clear hW
      by_cases hlt : k < len ∧ k < 300
      · obtain ⟨hlt, hlt3⟩ := hlt
        obtain ⟨blk, off, d, id, pl, rfl, hblk, h1, h2, h3⟩ := A0.out k hlt
        have c1 : wr.cell? ⟨blk, off + k * 3, none⟩ = some (.bool d) := (HW.out.bel.cell (p := ⟨blk, off + k * 3, none⟩) hblk).trans h1
        have c2 : wr.cell? ⟨blk, off + k * 3 + 1, none⟩ = some (.int .i64 id) := (HW.out.bel.cell (p := ⟨blk, off + k * 3 + 1, none⟩) hblk).trans h2
        have c3 : wr.cell? ⟨blk, off + k * 3 + 2, none⟩ = some (.int .i64 pl) := (HW.out.bel.cell (p := ⟨blk, off + k * 3 + 2, none⟩) hblk).trans h3
        clear h1 h2 h3
        have cT := HW.out.c
        have k0 : (0 : Int) ≤ (k : Int) := by omega
        have k1 : (k : Int) < (len : Int) := by omega
        have HD := Lib.hid (HW.out.drew)
        cases d with
        | true =>
          go_wp2_with fail
          go_region_held3 (fun w' => w'.cell? ⟨tb, 0, none⟩ = some (.pointer (some ⟨t, 0, none⟩)) ∧ w'.cell? ⟨blk, off + k * 3 + 1, none⟩ = some (.int .i64 id)) (first | (constructor <;> assumption) | go_keep) (first | (go_at_call 11; refine (drop_str B t b o 50 50 T id _ HD.out.tab HD.out.good).mono ?_; rintro e we ⟨rfl, hT, hS⟩; have HX := Lib.hid (HD.out.turn hT (HD.out.good.drop id) hS); have cT2 := HX.out.c; have c4 := ((HX.out.bel.cell (p := ⟨blk, off + k * 3 + 1, none⟩) hblk).trans (HW.out.bel.cell (p := ⟨blk, off + k * 3 + 1, none⟩) hblk).symm).trans c2; clear hT hS))
          go_wp2_with fail
          go_roundw
          case rel => exact ⟨k + 1, _, by omega, by omega, by go_num, HX.out⟩
          case measure => simp [intOf]; omega
        | false =>
          go_wp2_with fail
          go_region_held3 (fun w' => w'.cell? ⟨tb, 0, none⟩ = some (.pointer (some ⟨t, 0, none⟩)) ∧ w'.cell? ⟨blk, off + k * 3 + 1, none⟩ = some (.int .i64 id) ∧ w'.cell? ⟨blk, off + k * 3 + 2, none⟩ = some (.int .i64 pl)) (first | (refine ⟨?_, ?_, ?_⟩ <;> assumption) | go_keep) (first | (go_at_call 9; refine (put_str B t b o 50 50 T id pl _ HD.out.tab HD.out.good).mono ?_; rintro e we ⟨rfl, hT, hS⟩; have HX := Lib.hid (HD.out.turn hT (HD.out.good.put id pl) hS); have cT2 := HX.out.c; have c4 := ((HX.out.bel.cell (p := ⟨blk, off + k * 3 + 1, none⟩) hblk).trans (HW.out.bel.cell (p := ⟨blk, off + k * 3 + 1, none⟩) hblk).symm).trans c2; have c5 := ((HX.out.bel.cell (p := ⟨blk, off + k * 3 + 2, none⟩) hblk).trans (HW.out.bel.cell (p := ⟨blk, off + k * 3 + 2, none⟩) hblk).symm).trans c3; clear hT hS))
          go_wp2_with fail
          go_roundw
          case rel => exact ⟨k + 1, _, by omega, by omega, by go_num, HX.out⟩
          case measure => simp [intOf]; omega
      · rcases (show ¬ k < len ∨ (k < len ∧ k = 300) by omega) with h | ⟨h, rfl⟩
        · have d1 : decide ((k : Int) < len) = false := by rw [decide_eq_false_iff_not]; omega
          go_wp2_with fail
          go_meet
          exact ⟨_, HW.out⟩
        · have d1 : decide (((300 : Nat) : Int) < len) = true := by rw [decide_eq_true_iff]; omega
          go_wp2_with fail
          go_meet
          exact ⟨_, HW.out⟩
  case rest =>
    clear HS cT
    obtain ⟨T, hW⟩ := hcut
    have cT := hW.c
    have HW := Lib.hid hW
    clear hW
    go_wp2_with fail
    go_loop [6, 7] (fun n i => ∃ k : Nat, k ≤ 50 ∧ n = .int .i64 (num (T.ps.take k)) ∧ i = .int .i64 k) (fun _ i => 50 - (intOf i).toNat)
    case atStart => exact ⟨0, by omega, by simp [num], rfl⟩
    case round =>
      obtain ⟨k, hk, rfl, rfl⟩ := hrel
      by_cases hlt : k < 50
      · have hN := count_next T.ps k (by rw [HW.out.tab.rp.len]; exact hlt)
        have HN := Lib.hid hN
        clear hN
        have nle : num (T.ps.take k) ≤ 50 := Nat.le_trans (num_le _) (by rw [List.length_take]; omega)
        generalize num (T.ps.take k) = n at *
        obtain ⟨p, hp⟩ : ∃ p, at' T.ps k = p := ⟨_, rfl⟩
        obtain ⟨q, hq⟩ : ∃ q, at' T.os k = q := ⟨_, rfl⟩
        have HP := Lib.hid hp
        have HQ := Lib.hid hq
        clear hp hq
        by_cases c1 : p = -1
        · have e1 : toldB T.ps k = false := by unfold toldB; rw [HP.out, c1]; rfl
          have hN2 : num (T.ps.take (k + 1)) = n := by have := HN.out; rw [HP.out, if_pos c1] at this; omega
          have HN2 := Lib.hid hN2
          clear hN2 c1
          go_wp2_with fail
          refine (at_any B t b o 50 50 T k _ HW.out.tab).mono ?_
          rintro e w' ⟨rfl, rfl⟩
          rw [e1]
          generalize toldV T.ps k = pv at *
          clear e1
          go_wp2_with fail
          refine (owner_any B t b o 50 50 T k _ HW.out.tab).mono ?_
          rintro e w' ⟨rfl, rfl⟩
          by_cases c2 : q = -1
          · have e1 : toldB T.os k = false := by unfold toldB; rw [HQ.out, c2]; rfl
            rw [e1]
            generalize toldV T.os k = qv at *
            clear e1 c2
            go_wp2_with fail
            refine (at_any B t b o 50 50 T _ _ HW.out.tab).mono ?_
            rintro e w' ⟨rfl, rfl⟩
            generalize toldV T.ps qv = rv at *
            generalize toldB T.ps qv = rb at *
            go_wp2_with fail
            all_goals
              go_round
              case rel => exact ⟨k + 1, by omega, by rw [HN2.out] <;> go_num, by go_num⟩
              case measure => simp [intOf]; omega
          · obtain ⟨g1, g2, g3⟩ := HW.out.good.bwd k (by rw [HQ.out]; exact c2)
            rw [HQ.out] at g3
            have e1 : toldB T.os k = true := by unfold toldB; rw [HQ.out]; simpa using c2
            have e2 : toldV T.os k = q := by unfold toldV; rw [HQ.out, if_neg c2]
            have e3 : toldB T.ps q = true := by unfold toldB; rw [g3]; simp
            have e4 : toldV T.ps q = k := by unfold toldV; rw [g3, if_neg (by omega)]
            rw [e1, e2]
            clear e1 e2 g1 g2 g3 c2
            go_wp2_with fail
            refine (at_any B t b o 50 50 T q _ HW.out.tab).mono ?_
            rintro e w' ⟨rfl, rfl⟩
            rw [e3, e4]
            clear e3 e4
            go_wp2_with fail
            all_goals
              go_round
              case rel => exact ⟨k + 1, by omega, by rw [HN2.out] <;> go_num, by go_num⟩
              case measure => simp [intOf]; omega
        · obtain ⟨g1, g2, g3⟩ := HW.out.good.fwd k (by rw [HP.out]; exact c1)
          rw [HP.out] at g3
          have e1 : toldB T.ps k = true := by unfold toldB; rw [HP.out]; simpa using c1
          have e2 : toldV T.ps k = p := by unfold toldV; rw [HP.out, if_neg c1]
          have e3 : toldB T.os p = true := by unfold toldB; rw [g3]; simp
          have e4 : toldV T.os p = k := by unfold toldV; rw [g3, if_neg (by omega)]
          have hN2 : num (T.ps.take (k + 1)) = n + 1 := by have := HN.out; rw [HP.out, if_neg c1] at this; omega
          have HN2 := Lib.hid hN2
          clear hN2 g1 g2 g3 c1
          go_wp2_with fail
          refine (at_any B t b o 50 50 T k _ HW.out.tab).mono ?_
          rintro e w' ⟨rfl, rfl⟩
          rw [e1, e2]
          clear e1 e2
          go_wp2_with fail
          refine (owner_any B t b o 50 50 T p _ HW.out.tab).mono ?_
          rintro e w' ⟨rfl, rfl⟩
          rw [e3, e4]
          clear e3 e4
          go_wp2_with fail
          refine (owner_any B t b o 50 50 T k _ HW.out.tab).mono ?_
          rintro e w' ⟨rfl, rfl⟩
          by_cases c2 : q = -1
          · have e1 : toldB T.os k = false := by unfold toldB; rw [HQ.out, c2]; rfl
            rw [e1]
            generalize toldV T.os k = qv at *
            clear e1 c2
            go_wp2_with fail
            refine (at_any B t b o 50 50 T _ _ HW.out.tab).mono ?_
            rintro e w' ⟨rfl, rfl⟩
            generalize toldV T.ps qv = rv at *
            generalize toldB T.ps qv = rb at *
            go_wp2_with fail
            all_goals
              go_round
              case rel => exact ⟨k + 1, by omega, by rw [HN2.out] <;> go_num, by go_num⟩
              case measure => simp [intOf]; omega
          · obtain ⟨g1, g2, g3⟩ := HW.out.good.bwd k (by rw [HQ.out]; exact c2)
            rw [HQ.out] at g3
            have e1 : toldB T.os k = true := by unfold toldB; rw [HQ.out]; simpa using c2
            have e2 : toldV T.os k = q := by unfold toldV; rw [HQ.out, if_neg c2]
            have e3 : toldB T.ps q = true := by unfold toldB; rw [g3]; simp
            have e4 : toldV T.ps q = k := by unfold toldV; rw [g3, if_neg (by omega)]
            rw [e1, e2]
            clear e1 e2 g1 g2 g3 c2
            go_wp2_with fail
            refine (at_any B t b o 50 50 T q _ HW.out.tab).mono ?_
            rintro e w' ⟨rfl, rfl⟩
            rw [e3, e4]
            clear e3 e4
            go_wp2_with fail
            all_goals
              go_round
              case rel => exact ⟨k + 1, by omega, by rw [HN2.out] <;> go_num, by go_num⟩
              case measure => simp [intOf]; omega
      · obtain rfl : k = 50 := by omega
        have hnum : num (T.ps.take 50) = num T.ps := by rw [List.take_of_length_le (by rw [HW.out.tab.rp.len]; omega)]
        rw [hnum]
        have HNum := Lib.hid HW.out.good.cp
        have nle : num T.ps ≤ 50 := by have h := num_le T.ps; rw [HW.out.tab.rp.len] at h; exact h
        clear hnum
        have HA := Lib.hid (HW.out.below ((Below.refl wc.heap.size wc).alloc (Nat.le_refl _) (.cells #[.pointer (some ⟨t, 0, none⟩)] 23)))
        go_wp2_with fail
        refine (all_any t _).mono ?_
        rintro e w' ⟨rfl, rfl⟩
        have cA := HA.out.c
        have hfn := func_nil #[] #[.pointer (some ⟨wc.heap.size, 0, none⟩)] (wc.alloc (.cells #[.pointer (some ⟨t, 0, none⟩)] 23))
        go_wp2_with fail
        refine (len_any B t b o 50 50 T _ HA.out.tab).mono ?_
        rintro e w' ⟨rfl, rfl⟩
        rw [HNum.out]
        obtain ⟨w1, hw1⟩ : ∃ w1, wc.alloc (.cells #[.pointer (some ⟨t, 0, none⟩)] 23) = w1 := ⟨_, rfl⟩
        rw [hw1] at HA cA ⊢
        clear hw1 cT HW hfn
        have b1 : Below w1.heap.size w1 ((w1.alloc (.cells #[.int .i64 (-1)] 3)).alloc (.cells #[.int .i64 0] 3)) := ((Below.refl w1.heap.size w1).alloc (Nat.le_refl _) _).alloc (by simp) _
        have HC := Lib.hid (HA.out.below b1)
        have cC := HC.out.c
        clear b1
        go_wp2_with fail
        refine (all_any t _).mono ?_
        rintro e w' ⟨rfl, rfl⟩
        go_wp2_with fail
        obtain ⟨W0, hW0⟩ : ∃ W0, ((w1.alloc (.cells #[.int .i64 (-1)] 3)).alloc (.cells #[.int .i64 0] 3)).alloc (.cells #[.pointer (some ⟨t, 0, none⟩)] 23) = W0 := ⟨_, rfl⟩
        have hs0 : W0.heap.size = w1.heap.size + 3 := by rw [← hW0]; simp
        have hx2 : W0.heap[w1.heap.size + 1 + 1]? = some (.cells #[.pointer (some ⟨t, 0, none⟩)] 23 (0, 0)) := by
          rw [← hW0]; have h := heap_alloc_new ((w1.alloc (.cells #[.int .i64 (-1)] 3)).alloc (.cells #[.int .i64 0] 3)) (.cells #[.pointer (some ⟨t, 0, none⟩)] 23); rwa [World.size_alloc, World.size_alloc] at h
        have hx1 : W0.heap[w1.heap.size + 1]? = some (.cells #[.int .i64 0] 3 (0, 0)) := by
          rw [← hW0, Below.heap_alloc _ _ _ (by simp)]; have h := heap_alloc_new (w1.alloc (.cells #[.int .i64 (-1)] 3)) (.cells #[.int .i64 0] 3); rwa [World.size_alloc] at h
        have hx0 : W0.heap[w1.heap.size]? = some (.cells #[.int .i64 (-1)] 3 (0, 0)) := by
          rw [← hW0, Below.heap_alloc _ _ _ (by simp; omega), Below.heap_alloc _ _ _ (by simp)]; exact heap_alloc_new w1 _
        have hB3 : Below w1.heap.size w1 W0 := by rw [← hW0]; exact (((Below.refl w1.heap.size w1).alloc (Nat.le_refl _) _).alloc (by simp) _).alloc (by simp; omega) _
        have hT0 := HA.out.below hB3
        have htb : tb < w1.heap.size := (Array.getElem?_eq_some_iff.1 HA.out.box).1
        have hcell : W0.cell? ⟨w1.heap.size + 1 + 1, 0, none⟩ = some (.pointer (some ⟨t, 0, none⟩)) := by simp [World.cell?, hx2]
        rw [hW0]
        have hlen : (pairs T.ps 50).length = num T.ps := by rw [pairs_len T.ps 50 (by rw [HA.out.tab.rp.len]; omega), List.take_of_length_le (by rw [HA.out.tab.rp.len]; omega)]
        have hlt0 := hT0.lt
        have hlb0 := hT0.lb
        have hlo0 := hT0.lo
        have hrB := hT0.rB
        have htB := hT0.tab.tB
        have hst := all_stops 8 (by omega) (w1.heap.size + 1 + 1) B t b o 50 50 T W0 hcell hT0.tab (by omega) (by omega) (by omega) (by omega)
        have hpp := fun (pre : List (Int × Int)) (x : Int × Int) (h : pre ++ [x] <+: pairs T.ps 50) => pairs_next h
        generalize pairs T.ps 50 = P at *
        have HSt := Lib.hid hst
        have HPP := Lib.hid hpp
        clear hst hpp
        generalize num T.ps = NN at *
        have H0 := Lib.hid (And.intro hT0 (And.intro hlen hx2))
        clear HA HC cA cC hW0 hB3 hT0 hlen HNum
        generalize w1.heap.size = S at *
        generalize wc.heap.size = C at *
        refine (wpIn_wide (n := 9)).1 ?_
        refine wpIn_rangeFunc_ownF rfl (by omega) (gf := 18) (lb := #[.pointer (some ⟨S + 1 + 1, 0, none⟩)]) rfl trivial (enters_of Try.func18 (by kernel_rfl) rfl)
          HSt.out (fun h k => Four.trans h k)
          (fun W l o1 o2 hl _ _ _ => ⟨World.putObj_heap_other (by omega), World.putObj_heap_other (by omega), World.putObj_heap_other (by omega), World.putObj_heap_other (by omega)⟩) (Below.refl _ _) (fun _ => rfl)
          (fun pre W => (W.heap[S]? = some (.cells #[.int .i64 (lastId pre)] 3 (0, 0)) ∧ W.heap[S + 1]? = some (.cells #[.int .i64 (pre.length : Nat)] 3 (0, 0)) ∧ W.heap[S + 1 + 1]? = some (.cells #[.pointer (some ⟨t, 0, none⟩)] 23 (0, 0))) ∧ Below S W0 W)
          (fun c pre W => ¬ pre <+: P)
          (OwnFrom.and (Own.from (fun s A B row hs hg hr => ⟨cells_kept hs.1 hg hr, cells_kept hs.2.1 hg hr, cells_kept hs.2.2 hg hr⟩) _) (ownFrom_below (by omega) (by omega)))
          (fun c => ownFrom_pure _ _)
          ⟨⟨hx0, hx1, hx2⟩, Below.refl _ _⟩
          (fun x => { tmps := #[Value.slice a0 len cap, undef, Value.pointer (some ⟨w.heap.size, 0, none⟩), Value.bool true, Value.pointer (some ⟨tb, 0, none⟩), u5, .int .i64 (NN : Int), Value.int IntKind.i64 50, u8, u9, u10, u11, u12, u13, u14, u15, Value.pointer (some ⟨S, 0, none⟩), Value.pointer (some ⟨S + 1, 0, none⟩), .int .i64 x.1, .int .i64 x.2, undef, undef, Value.bool true, Value.pointer (some ⟨t, 0, none⟩), Value.pointer (some ⟨t, 0, none⟩), Value.bool false, u26, u27, u28, u29, u30, u31, u32, u33, u34, u35, u36, u37, u38, u39, u40, u41, u42, u43, u44, u45, u46, u47, u48, u49, u50, u51, u52, u53, u54, u55, u56, u57, u58, u59, Value.int IntKind.i64 50, Value.bool false, u62, u63, u64, u65, u66, u67, u68, u69, u70, u71, u72, u73, u74, u75, u76, u77, u78, u79, u80, u81, u82, u83, u84, u85, u86, u87, u88, u89, u90, u91, u92, u93, u94, u95, u96, u97, u98, u99, u100, u101, u102, u103, u104, u105, u106, u107, Value.pointer (some ⟨t, 0, none⟩), Value.func (Fn.func 18) #[] #[Value.pointer (some ⟨C, 0, none⟩)], Value.bool false, Value.bool false, Value.pointer (some ⟨t, 0, none⟩), .int .i64 (NN : Int), .int .i64 (NN : Int), Value.bool false, Value.bool false, Value.pointer (some ⟨t, 0, none⟩), Value.func (Fn.func 18) #[] #[Value.pointer (some ⟨S + 1 + 1, 0, none⟩)], .int .i64 x.1, .int .i64 x.2, undef, undef, undef, undef, undef, undef, undef, undef, undef, undef, undef, undef, undef, undef, undef, undef, undef, undef, undef, undef, undef, undef, undef, undef, undef, undef, undef], defers := [] }) ?assign ?body ?done ?stop
        case assign =>
          rintro l ⟨x1, x2⟩ W K hK
          have HK := Lib.hid hK
          clear hK hx0 hx1 hx2 hs0 hcell
          simp only [encP]
          gi_wp2
          exact HK.out
        case body =>
          rintro l pre ⟨x1, x2⟩ W ⟨⟨h16, h17, hBn⟩, hB⟩ hlt
          have hT : TableAt W B t b o 50 50 T := H0.out.1.tab.same (hB.block t (by omega)) (hB.block b (by omega)) (hB.block o (by omega))
          have cT : W.cell? ⟨tb, 0, none⟩ = some (.pointer (some ⟨t, 0, none⟩)) := (hB.cell (p := ⟨tb, 0, none⟩) htb).trans H0.out.1.c
          have hres := (hB.block w.heap.size (by omega)).trans H0.out.1.res
          have cR : W.cell? ⟨w.heap.size, 0, none⟩ = some (.bool false) := by simp [World.cell?, hres]
          have fR : W.frozen? ⟨w.heap.size, 0, none⟩ = false := by simp [World.frozen?, hres]
          have c16 : W.cell? ⟨S, 0, none⟩ = some (.int .i64 (lastId pre)) := by simp [World.cell?, h16]
          have f16 : W.frozen? ⟨S, 0, none⟩ = false := by simp [World.frozen?, h16]
          have c17 : W.cell? ⟨S + 1, 0, none⟩ = some (.int .i64 (pre.length : Nat)) := by simp [World.cell?, h17]
          have f17 : W.frozen? ⟨S + 1, 0, none⟩ = false := by simp [World.frozen?, h17]
          have hm50 : pre.length ≤ 50 := by rw [H0.out.2.1] at hlt; omega
          have HPre := Lib.hid (fun hp : pre ++ [(x1, x2)] <+: P => HPP.out _ _ hp)
          have HLt := Lib.hid (fun hp : pre ++ [(x1, x2)] <+: P => lastId_lt (HPP.out _ _ hp).1 (HPP.out _ _ hp).2.1)
          have HAt := Lib.hid (at_any B t b o 50 50 T x1 W hT)
          have HW := Lib.hid (And.intro h16 (And.intro h17 (And.intro hBn hB)))
          clear hT hres h16 h17 hBn hB hlt hx0 hx1 hx2 hs0 hcell
          dsimp only at HPre HLt
          gi_wp2
          refine ⟨trivial, ?_⟩
          refine (CallsIn.inRound l (callsIn_wide.2 HAt.out)).mono ?_
          rintro e w' ⟨rfl, rfl⟩
          clear HAt
          have HB1 := Lib.hid (fun hp : pre ++ [(x1, x2)] <+: P => show toldB T.ps x1 = true from by
            obtain ⟨_, _, h3, h4⟩ := HPre.out hp
            unfold toldB; rw [h3]; simpa using h4)
          have HV1 := Lib.hid (fun hp : pre ++ [(x1, x2)] <+: P => show toldV T.ps x1 = x2 from by
            obtain ⟨_, _, h3, h4⟩ := HPre.out hp
            unfold toldV; rw [h3]; exact if_neg h4)
          generalize toldB T.ps x1 = tB at *
          generalize toldV T.ps x1 = tV at *
          generalize hla : lastId pre = la at *
          generalize hml : pre.length = m at *
          have HE := Lib.hid (And.intro hla hml)
          clear hla hml HPre
          by_cases d1 : x1 ≤ la
          · have HN := Lib.hid (show ¬ pre ++ [(x1, x2)] <+: P from fun hp => by have := HLt.out hp; omega)
            gi_wp2
            exact ⟨KeepsOthers.setCell _ _ _, HN.out⟩
          · cases tB with
            | false =>
              have HN := Lib.hid (show ¬ pre ++ [(x1, x2)] <+: P from fun hp => Bool.noConfusion (HB1.out hp))
              gi_wp2
              exact ⟨KeepsOthers.setCell _ _ _, HN.out⟩
            | true =>
              by_cases d3 : tV = x2
              · subst d3
                gi_wp2
                refine ⟨(KeepsOthers.setCell _ _ _).trans (KeepsOthers.setCell _ _ _), ⟨?_, ?_, ?_, ?_⟩, ⟨?_, ?_, ?_⟩, ?_⟩
                · rw [Below.heap_setCell _ _ _ _ (by simp only; omega), Below.heap_setCell _ _ _ _ (by simp only; omega)]
                · rw [Below.heap_setCell _ _ _ _ (by simp only; omega), Below.heap_setCell _ _ _ _ (by simp only; omega)]
                · rw [Below.heap_setCell _ _ _ _ (by simp only; omega), Below.heap_setCell _ _ _ _ (by simp only; omega)]
                · rw [Below.heap_setCell _ _ _ _ (by simp only; omega), Below.heap_setCell _ _ _ _ (by simp only; omega)]
                · rw [Below.heap_setCell _ _ _ _ (by simp only; omega), heap_setCell_same _ _ _ _ _ _ HW.out.1, lastId_snoc]; rfl
                · have hk : (W.setCell ⟨S, 0, none⟩ (.int .i64 x1)).heap[S + 1]? = some (.cells #[.int .i64 (m : Nat)] 3 (0, 0)) := by
                    rw [Below.heap_setCell _ _ _ _ (by simp only; omega), HW.out.2.1]
                  rw [heap_setCell_same _ _ _ _ _ _ hk, List.length_append, HE.out.2]; rfl
                · rw [Below.heap_setCell _ _ _ _ (by simp only; omega), Below.heap_setCell _ _ _ _ (by simp only; omega)]; exact HW.out.2.2.1
                · exact (HW.out.2.2.2.setCell (p := ⟨S, 0, none⟩) (Nat.le_refl _) _).setCell (p := ⟨S + 1, 0, none⟩) (by simp only; omega) _
              · have d4 : (tV != x2) = true := by rw [bne_iff_ne]; exact d3
                have d5 : (tV == x2) = false := by rw [beq_eq_false_iff_ne]; exact d3
                have HN := Lib.hid (show ¬ pre ++ [(x1, x2)] <+: P from fun hp => d3 (HV1.out hp))
                clear d3
                gi_wp2
                exact ⟨KeepsOthers.setCell _ _ _, HN.out⟩
        case done =>
          rintro D ys W hD rfl ⟨⟨h16, h17, hBn⟩, hB⟩ hK
          have hres := (hB.block w.heap.size (by omega)).trans H0.out.1.res
          have cR : W.cell? ⟨w.heap.size, 0, none⟩ = some (.bool false) := by simp [World.cell?, hres]
          have fR : W.frozen? ⟨w.heap.size, 0, none⟩ = false := by simp [World.frozen?, hres]
          rw [H0.out.2.1] at h17
          have c17 : W.cell? ⟨S + 1, 0, none⟩ = some (.int .i64 (NN : Nat)) := by simp [World.cell?, h17]
          have HW := Lib.hid (And.intro hK (And.intro hB (And.intro hD hres)))
          clear h16 h17 hBn hB hK hD hres hx0 hx1 hx2 hcell
          have HS0 := Lib.hid hs0
          clear hs0
          go_wp2
          have hlo : W0.heap.size ≤ D := HW.out.2.2.1
          have hs0 := HS0.out
          have hk8 : (W.setCell ⟨w.heap.size, 0, none⟩ (.bool true)).heap[D]? = some (.deferred (some [])) := by
            rw [Below.heap_setCell _ _ _ _ (by simp only; omega)]; exact HW.out.1
          have hr8 : (W.setCell ⟨w.heap.size, 0, none⟩ (.bool true)).heap[w.heap.size]? = some (.cells #[.bool true] 4 (0, 0)) := by
            rw [heap_setCell_same _ _ _ _ _ _ HW.out.2.2.2]; rfl
          have hb8 : Below w.heap.size w (W.setCell ⟨w.heap.size, 0, none⟩ (.bool true)) := (H0.out.1.bel.trans (HW.out.2.1.mono (by omega))).setCell (p := ⟨w.heap.size, 0, none⟩) (Nat.le_refl _) _
          generalize W.setCell ⟨w.heap.size, 0, none⟩ (.bool true) = W8 at *
          have hbt : Below W0.heap.size W8 (W8.putObj D (.deferred none)) := belowK_b (w := W0) (Nat.le_refl _) W8 D _ _ hlo hk8 rfl rfl
          have hgp := grownBy_putObj' W8 D (.deferred none)
          have hcl : ∀ r, some D = some r → ∃ o : Obj, W8.heap[r]? = some o ∧ o.isCells = false := fun r e => by cases e; exact ⟨_, hk8, rfl⟩
          have hx9 := cells_kept hr8 hgp hcl
          have hc9 : (W8.putObj D (.deferred none)).cell? ⟨w.heap.size, 0, none⟩ = some (.bool true) := by simp [World.cell?, hx9]
          have hb9 := hb8.trans (hbt.mono (by omega))
          refine ret_marks hk8 (v := .bool true) ?_ ⟨rfl, hb9⟩
          clear hbt hgp hcl hx9 hb9 hb8 hr8 hk8
          generalize W8.putObj D (.deferred none) = W9 at *
          simp [results, Try.results6, go_sem, hc9]
        case stop =>
          rintro D c pre W hD hpre h hK
          exact (h hpre).elim

theorem sz36 : Try.prog.cellsOf 36 = 3 := by kernel_rfl
theorem sz4 : Try.prog.cellsOf 4 = 1 := by kernel_rfl
theorem sz3 : Try.prog.cellsOf 3 = 1 := by kernel_rfl
theorem spot_at {W : World} {base : Nat} {x : Addr} {cs : List Value} (h1 : W.cells? base (x.add (0 * Try.prog.cellsOf 36)) (Try.prog.cellsOf 36) = some cs) : x.spot = none := by
  rw [sz36] at h1
  obtain ⟨_, hlen, hat⟩ := World.cells?_some h1
  have a0 := hat 0 (by omega)
  rw [List.getElem?_eq_getElem (by omega)] at a0
  have h := World.cell?_spot a0
  simpa [Addr.add] using h
theorem step_at {H : Type} {enc : TypeId × Value → H} {W : World} {base n i : Nat} {spare : Nat → Bool} {held : Bool} {x : Addr} {cs : List Value} {y : DataW H × List MemPlace} (hs : x.spot = none)
    (h1 : W.cells? base (x.add (i * Try.prog.cellsOf 36)) (Try.prog.cellsOf 36) = some cs) (h2 : DataW.trod enc Try.prog W base spare held n 36 cs = some y) :
    ∃ (blk off : Nat) (d : Bool) (id pl : Int), some x = some ⟨blk, off, none⟩ ∧ blk < W.heap.size ∧ W.cell? ⟨blk, off + i * 3, none⟩ = some (.bool d) ∧ W.cell? ⟨blk, off + i * 3 + 1, none⟩ = some (.int .i64 id) ∧ W.cell? ⟨blk, off + i * 3 + 2, none⟩ = some (.int .i64 pl) := by
  rw [sz36] at h1
  obtain ⟨_, hlen, hat⟩ := World.cells?_some h1
  obtain ⟨xs, n', _, _, _, hxl, hf⟩ := DataW.trod_struct Try.underlying36 h2
  match cs, hlen with
  | [c0, c1, c2], _ =>
    have f0 := hf 0 _ rfl
    have f1 := hf 1 _ rfl
    have f2 := hf 2 _ rfl
    match xs, hxl with
    | [y0, y1, y2], _ =>
      simp only [List.getElem?_cons_zero, List.getElem?_cons_succ] at f0 f1 f2
      obtain ⟨d, e0, _⟩ := DataW.trod_bool Try.underlying4 f0
      obtain ⟨id, e1, _⟩ := DataW.trod_int Try.underlying3 f1
      obtain ⟨pl, e2, _⟩ := DataW.trod_int Try.underlying3 f2
      cases e0; cases e1; cases e2
      have a0 := hat 0 (by omega)
      have a1 := hat 1 (by omega)
      have a2 := hat 2 (by omega)
      simp only [List.getElem?_cons_zero, List.getElem?_cons_succ] at a0 a1 a2
      obtain ⟨blk, off, spot⟩ := x
      obtain rfl : spot = none := hs
      have e : ∀ j, ((⟨blk, off, none⟩ : Addr).add (i * 3)).add j = ⟨blk, off + i * 3 + j, none⟩ := by
        intro j; unfold Addr.add; split <;> split <;> simp_all
      rw [e] at a0 a1 a2
      exact ⟨blk, off, d, id, pl, rfl, World.block_lt_of_cell? W _ a1, a0, a1, a2⟩
theorem walk (a0 : Option Addr) (len0 cap0 : Nat) (w : World) (w0 : len0 ≤ maxLen ∧ StepsIn w a0 len0) :
    Calls Try.prog 6 #[.slice a0 len0 cap0] w fun e w' => e = .returned (.bool true) ∧ Below w.heap.size w w' := walk_row a0 len0 cap0 w w0.1 w0.2
set_option maxRecDepth 100000 in
theorem lifted (os : Os) (started : os.Started) (H : Type) (enc : TypeId × Value → H) :
    ReturnsInHanded {} Try.checked os 6 .any (Rows.tableTurnedSpec.pre6 enc Try.prog Try.f6 Rows.tableTurnedRow.domain false) (Rows.tableTurnedSpec.post enc Try.prog Try.f6 false true false false) := by
  refine returnsInHanded_of_change (C := Try.checked) own started (by kernel_rfl) Try.func6
    (ChangeSpec.witness6 (enc := enc) (C := Try.checked) false ⟨#[], #[.slice none 0 0], []⟩ 8 (by kernel_rfl) (by kernel_rfl) (by kernel_rfl) (by kernel_rfl)) ?_
  intro W base args ds gs before hval0 hW hcnd _
  have hval : ∀ (j : Nat) t v, Try.f6.params[j]? = some t → args[j]? = some v → Value.okWide Try.prog W .any base t v := hval0
  have hW' := hW
  obtain ⟨p, q, hA0, hV, rfl, hfz, hnd⟩ := hW
  have hA : DataW.TrodAll enc Try.prog W 0 (fun _ => true) true Try.f6.params.toList args.toList ds p := hA0
  rw [Try.params6] at hA hval
  obtain ⟨v0, vs0, d0, ds0, p0, q0, hargs, rfl, rfl, h0, r0⟩ := trodAll_cons hA
  obtain ⟨rfl, rfl, rfl⟩ := trodAll_nil r0
  obtain rfl : args = #[v0] := by cases args; simp_all
  obtain ⟨rfl, rfl⟩ := trodVars_none hV
  obtain ⟨a0, len0, cap0, rfl⟩ := okWide_slice Try.underlying34 (hval 0 34 v0 rfl rfl)
  have k0 := h0
  have lt0 : ∀ x ∈ p0, x.block < W.heap.size := by obtain ⟨m, hm⟩ := k0; exact DataW.trod_lt m _ _ _ hm
  have w0 : len0 ≤ maxLen ∧ StepsIn W a0 len0 := by
    obtain ⟨fuel, hf⟩ := h0
    rcases Deep.open_slice Try.underlying34 hf with ⟨hcs, _⟩ | ⟨x, l, c, m, n, D, Pl, hcs, hb, hl, hm, hmm, hx, hi⟩
    · simp [Value.cells] at hcs
      obtain ⟨rfl, rfl, rfl⟩ := hcs
      exact ⟨by unfold maxLen; omega, fun i hi => by omega⟩
    · simp [Value.cells] at hcs
      obtain ⟨rfl, rfl, rfl⟩ := hcs
      have hmc : m = cap0 := by simpa using hmm
      refine ⟨by omega, fun i hil => ?_⟩
      obtain ⟨cs', h1, h2⟩ := hi i (by omega)
      obtain ⟨cs0, h3, _⟩ := hi 0 (by omega)
      exact step_at (spot_at h3) h1 h2
  clear hA0 hval0
  refine (walk a0 len0 cap0 W w0).mono fun e W' ⟨he, bel⟩ => ?_
  subst he
  exact ⟨_, rfl, _, _, _, [], _, [], hW', trodAll_mk1 (shut_bool Try.underlying4 _), (trodAll_cons_mk (Below.trod laidOut (by kernel_rfl) (of_decide_eq_true (by kernel_rfl)) k0 bel lt0) trodAll_mk0), rfl, bel.frame _, fun h => by cases h⟩

theorem over : Rows.tableTurnedRow.holds Try.pinned (OpenSpec.ofChange Rows.tableTurnedSpec) :=
  OpenClaim.holds_of_wide 6 Try.f6 rfl rfl rfl rfl rfl rfl rfl ⟨rfl, rfl, rfl, rfl, rfl⟩ rfl rfl rfl rfl rfl (by kernel_rfl) Try.func6 (by kernel_rfl)
    (of_decide_eq_true (by kernel_rfl)) (by unfold Func.isWrapper; first | (rw [if_pos (by decide +kernel)]; kernel_rfl) | (rw [if_neg (by decide +kernel)]; exact ⟨rfl, rfl⟩))
    (fun os started H enc _ => lifted os started H enc)

/-- THE STATEMENT. -/
theorem proved : Rows.TableTurnedSaid := over
#print axioms proved
end Go.Proofs.Ytcgjlbgmjlafnaa.tableTurned
