/-
  PROVED HERE: contracts of package table.
-/
import Derived.Test.YtcgjlbgmjlafnaaRows
import Derived.Test.YtcgjlbgmjlafnaaPure
import Derived.WalkKit
import Derived.ProofKit
import Derived.OpenShut
import Derived.Lib.Hide
import Derived.Handy
import Derived.Deep.QuietTactic
import Derived.BigQuiet
import Derived.BigRegion
import Derived.Deep.DeepCutAuto
namespace Go.Proofs.Ytcgjlbgmjlafnaa
open Go.ChangeShapes Go.WideShapes Go.ChangeAt Go.RowKit

theorem ret_int {k : IntKind} {a b : Int} (h : a = b) : Ending.returned (.int k a) = .returned (.int k b) := by rw [h]
theorem ret_two {a b : Int} {c d : Bool} (h : a = b) (h' : c = d) : Ending.returned (.tuple #[.int .i64 a, .bool c]) = .returned (.tuple #[.int .i64 b, .bool d]) := by rw [h, h']
theorem ret_bool {c d : Bool} (h : c = d) : Ending.returned (.bool c) = .returned (.bool d) := by rw [h]

/-- A list in memory, n places at block b. -/
def ListAt (w : World) (B b n : Nat) (l : List Int) : Prop := w.ownsRow B 3 1 (.slice (some ⟨b, 0, none⟩) n n) n (l.map (.int .i64))
theorem ListAt.len {w : World} {B b n : Nat} {l : List Int} (h : ListAt w B b n l) : l.length = n := by have := h.1; simp at this; omega
theorem ListAt.lt {w : World} {B b n : Nat} {l : List Int} (h : ListAt w B b n l) : B ≤ b ∧ b < w.heap.size := World.ownsRow.lt h b rfl
theorem ListAt.cell {w : World} {B b n : Nat} {l : List Int} (h : ListAt w B b n l) (i : Int) (h0 : 0 ≤ i) (h1 : i < n) : w.cell? ⟨b, i.toNat, none⟩ = some (.int .i64 (at' l i)) := by
  have hl := h.len
  rw [World.ownsRow.cellAt h i.toNat (by omega), ← at_nat l i h0 (by omega)]
  simp [show i.toNat < l.length by omega]
theorem ListAt.free {w : World} {B b n : Nat} {l : List Int} (h : ListAt w B b n l) (j : Nat) : w.frozen? ⟨b, j, none⟩ = false := World.ownsRow.frozenAt h j
theorem ListAt.set {w : World} {B b n : Nat} {l : List Int} (h : ListAt w B b n l) (j : Nat) (u : Int) : ListAt (w.setCell ⟨b, j, none⟩ (.int .i64 u)) B b n (l.set j u) := by
  unfold ListAt; rw [List.map_set]; exact (World.ownsRow.stored h j _).1
theorem ListAt.other {w : World} {B b n : Nat} {l : List Int} (h : ListAt w B b n l) (a : Addr) (ha : b ≠ a.block) (u : Value) : ListAt (w.setCell a u) B b n l :=
  World.ownsRow.kept (row := some a.block) h ⟨rfl, rfl, rfl, by simp [World.setCell], fun k _ hk => Below.heap_setCell w a u k (fun e => hk (by rw [e]))⟩ (.inr (by simp [Value.ownBlock]; exact ha))
theorem ListAt.kept {w w' : World} {B b n : Nat} {l : List Int} (h : ListAt w B b n l) (hb : Below w.heap.size w w') : ListAt w' B b n l :=
  World.ownsRow.kept (row := none) h ⟨hb.os, hb.tape, hb.output, hb.size, fun k hk _ => hb.block k hk⟩ (.inr (by simp [Value.ownBlock]))


theorem Try.info3 : (Try.prog.info? 3).map (fun i => (i.zero, i.size, i.bytes)) = some (some (.int .i64 0), 1, 8) := by kernel_rfl
structure Fill (w wr : World) (b N k : Nat) (l : List Int) : Prop where
  row : ListAt wr w.heap.size b N l
  below : Below w.heap.size w wr
  got : ∀ j, j < k → l[j]? = some (-1)
theorem Fill.start {w w1 : World} {N : Nat} (hown : w1.ownsRow w.heap.size 3 1 (.slice (some ⟨w.heap.size, 0, none⟩) N N) N (madeCells #[.int .i64 0] (N * 1)).toList) (hgr : w.grownBy w1 none) : Fill w w1 w.heap.size N 0 (List.replicate N 0) := by
  refine ⟨?_, (Below.refl _ _).grown hgr (Nat.le_refl _) (fun k e => by cases e), fun j hj => by omega⟩
  unfold ListAt
  have e1 : (madeCells #[.int .i64 0] (N * 1)).toList = (List.replicate N (0 : Int)).map (Value.int .i64) := by rw [Nat.mul_one, toList_madeCells_one]; simp
  rw [e1] at hown; exact hown
theorem Fill.step {w wr : World} {b N k : Nat} {l : List Int} (h : Fill w wr b N k l) (hk : k < N) : Fill w (wr.setCell ⟨b, k, none⟩ (.int .i64 (-1))) b N (k + 1) (l.set k (-1)) := by
  have hl := h.row.len
  refine ⟨h.row.set k (-1), h.below.setCell (p := ⟨b, k, none⟩) h.row.lt.1 _, fun j hj => ?_⟩
  by_cases e : j = k
  · subst e; simp [hl, hk]
  · rw [List.getElem?_set_ne (by omega)]; exact h.got j (by omega)
theorem Fill.done {w wr : World} {b N : Nat} {l : List Int} (h : Fill w wr b N N l) : ListAt wr w.heap.size b N (List.replicate N (-1)) := by
  have hl := h.row.len
  have e : l = List.replicate N (-1) := by
    apply List.ext_getElem?
    intro j
    by_cases hj : j < N
    · rw [h.got j hj]; simp [hj]
    · simp [hj, hl]
  exact e ▸ h.row

/-- A table in memory. -/
structure TableAt (w : World) (B t b o nb np : Nat) (T : Tab) : Prop where
  h0 : w.cell? ⟨t, 0, none⟩ = some (.slice (some ⟨b, 0, none⟩) nb nb)
  h1 : w.cell? ⟨t, 1, none⟩ = some (.slice (some ⟨o, 0, none⟩) np np)
  h2 : w.cell? ⟨t, 2, none⟩ = some (.int .i64 T.cnt)
  hf : ∀ j, w.frozen? ⟨t, j, none⟩ = false
  rp : ListAt w B b nb T.ps
  ro : ListAt w B o np T.os
  ntb : t ≠ b
  nto : t ≠ o
  nbo : b ≠ o
  tB : B ≤ t
  n1 : nb ≤ 1048576
  n2 : np ≤ 1048576

set_option maxHeartbeats 1000000 in
theorem empty_any (n : Int) (N : Nat) (w : World) (hN : (N : Int) = min (max n 0) 1048576) :
    Calls Try.prog 15 #[.int .i64 n] w fun e w' => e = .returned (.slice (some ⟨w.heap.size, 0, none⟩) N N) ∧ ListAt w' w.heap.size w.heap.size N (List.replicate N (-1)) ∧ Below w.heap.size w w' := by
  obtain ⟨i0, hi, hz0, hz1, hz2⟩ := info_parts Try.info3
  have N2 : N ≤ 1048576 := by omega
  have c3 : i0.bytes * N ≤ 281474976710656 := by rw [hz2]; omega
  have c4 : N ≤ maxLen := by unfold maxLen; omega
  have HN := Lib.hid hN; clear hN
  rcases (show n < 0 ∨ 1048576 < n ∨ (0 ≤ n ∧ n ≤ 1048576) by omega) with h1 | h1 | ⟨h1, h2⟩
  all_goals
    go_enter Try.func15, Try.ntmps15
    go_wp2_with (at_make; refine wpList_make_full _ rfl _ _ 31 rfl w.heap.size 3 i0 (.int .i64 0) 1 Try.underlying31 hi hz0 hz1 .i64 .i64 _ _ N rfl rfl (by have := HN.out; omega) (by have := HN.out; omega) c3 c4 (Nat.le_refl _) ?_; intro w1 hown hgr)
    have hF := Fill.start hown hgr
    clear hown hgr
    go_loopw [11] (fun i wr => ∃ (k : Nat) (l : List Int), k ≤ N ∧ i = .int .i64 k ∧ Fill w wr w.heap.size N k l) (fun i _ => N - (intOf i).toNat)
    case atStart => exact ⟨0, _, Nat.zero_le _, rfl, hF⟩
    case round =>
      clear hF
      obtain ⟨k, l, hk, rfl, hF⟩ := hrel
      by_cases hlt : k < N
      · have hc := hF.row.cell k (by omega) (by omega)
        have hfz := hF.row.free k
        have hS := hF.step hlt
        rw [Int.toNat_natCast] at hc
        generalize at' l k = q at *
        go_wp2
        go_roundw
        case rel => exact ⟨k + 1, _, by omega, by go_num, hS⟩
        case measure => simp [intOf]; omega
      · obtain rfl : N = k := by omega
        go_wp2
        go_ret
        exact ⟨rfl, hF.done, hF.below⟩

theorem within_any (a : Option Addr) (len cap : Nat) (i : Int) (w : World) (_hl : len ≤ 1048576) : Calls Try.prog 16 #[.slice a len cap, .int .i64 i] w fun e w' => e = .returned (.bool (decide (0 ≤ i) && decide (i < (len : Int)))) ∧ w = w' := by
  rcases (show i < 0 ∨ (0 ≤ i ∧ i < len) ∨ (0 ≤ i ∧ len ≤ i) by omega) with h1 | ⟨h1, h2⟩ | ⟨h1, h2⟩
  · have HR := Lib.hid (show (decide (0 ≤ i) && decide (i < (len : Int))) = false by simp; omega)
    go_enter Try.func16, Try.ntmps16
    go_wp2
    go_ret
    exact ⟨ret_bool HR.out.symm, rfl⟩
  · have HR := Lib.hid (show (decide (0 ≤ i) && decide (i < (len : Int))) = true by simp; omega)
    go_enter Try.func16, Try.ntmps16
    go_wp2
    go_ret
    exact ⟨ret_bool HR.out.symm, rfl⟩
  · have HR := Lib.hid (show (decide (0 ≤ i) && decide (i < (len : Int))) = false by simp; omega)
    go_enter Try.func16, Try.ntmps16
    go_wp2
    go_ret
    exact ⟨ret_bool (by rw [HR.out]; simp; omega), rfl⟩

theorem told_any (B b n : Nat) (l : List Int) (i : Int) (w : World) (hl : n ≤ 1048576) (h : ListAt w B b n l) :
    Calls Try.prog 17 #[.slice (some ⟨b, 0, none⟩) n n, .int .i64 i] w fun e w' => e = .returned (.tuple #[.int .i64 (toldV l i), .bool (toldB l i)]) ∧ w = w' := by
  have hln := h.len
  by_cases hin : 0 ≤ i ∧ i < n
  · obtain ⟨h0, h1⟩ := hin
    have hc := h.cell i h0 h1
    have hw : (decide (0 ≤ i) && decide (i < (n : Int))) = true := by simp; omega
    by_cases hm : at' l i = -1
    · have HV := Lib.hid (show toldV l i = 0 by simp [toldV, hm])
      have HB := Lib.hid (show toldB l i = false by simp [toldB, hm])
      rw [hm] at hc
      clear hm h
      go_enter Try.func17, Try.ntmps17
      go_wp2_with (go_at_call 16; refine (within_any _ _ _ _ _ hl).mono ?_; rintro e w' ⟨rfl, rfl⟩; rw [hw])
      go_ret2
      exact ⟨ret_two HV.out.symm HB.out.symm, rfl⟩
    · have HV := Lib.hid (show toldV l i = at' l i by simp [toldV, hm])
      have HB := Lib.hid (show toldB l i = true by simp [toldB, hm])
      have hm2 : (at' l i == -1) = false := by simp [hm]
      clear hm h
      generalize at' l i = q at *
      go_enter Try.func17, Try.ntmps17
      go_wp2_with (go_at_call 16; refine (within_any _ _ _ _ _ hl).mono ?_; rintro e w' ⟨rfl, rfl⟩; rw [hw])
      go_ret2
      exact ⟨ret_two HV.out.symm HB.out.symm, rfl⟩
  · have hw : (decide (0 ≤ i) && decide (i < (n : Int))) = false := by simp; omega
    have ho := at_out l i (by omega)
    have HV := Lib.hid (show toldV l i = 0 by simp [toldV, ho])
    have HB := Lib.hid (show toldB l i = false by simp [toldB, ho])
    clear ho h hin
    go_enter Try.func17, Try.ntmps17
    go_wp2_with (go_at_call 16; refine (within_any _ _ _ _ _ hl).mono ?_; rintro e w' ⟨rfl, rfl⟩; rw [hw])
    go_ret2
    exact ⟨ret_two HV.out.symm HB.out.symm, rfl⟩

theorem at_any (B t b o nb np : Nat) (T : Tab) (i : Int) (w : World) (h : TableAt w B t b o nb np T) :
    Calls Try.prog 12 #[.pointer (some ⟨t, 0, none⟩), .int .i64 i] w fun e w' => e = .returned (.tuple #[.int .i64 (toldV T.ps i), .bool (toldB T.ps i)]) ∧ w = w' := by
  have h0 := h.h0
  have H := Lib.hid h; clear h
  go_enter Try.func12, Try.ntmps12
  go_wp2_with (go_at_call 17; refine (told_any B b nb T.ps i _ H.out.n1 H.out.rp).mono ?_; rintro e w' ⟨rfl, rfl⟩)
  go_ret2
  exact ⟨rfl, rfl⟩
theorem owner_any (B t b o nb np : Nat) (T : Tab) (i : Int) (w : World) (h : TableAt w B t b o nb np T) :
    Calls Try.prog 13 #[.pointer (some ⟨t, 0, none⟩), .int .i64 i] w fun e w' => e = .returned (.tuple #[.int .i64 (toldV T.os i), .bool (toldB T.os i)]) ∧ w = w' := by
  have h1 := h.h1
  have H := Lib.hid h; clear h
  go_enter Try.func13, Try.ntmps13
  go_wp2_with (go_at_call 17; refine (told_any B o np T.os i _ H.out.n2 H.out.ro).mono ?_; rintro e w' ⟨rfl, rfl⟩)
  go_ret2
  exact ⟨rfl, rfl⟩
theorem len_any (B t b o nb np : Nat) (T : Tab) (w : World) (h : TableAt w B t b o nb np T) :
    Calls Try.prog 10 #[.pointer (some ⟨t, 0, none⟩)] w fun e w' => e = .returned (.int .i64 T.cnt) ∧ w = w' := by
  have h2 := h.h2
  clear h
  go_enter Try.func10, Try.ntmps10
  go_wp2
  go_ret
  exact ⟨rfl, rfl⟩

set_option maxHeartbeats 1000000 in
theorem new_any (n m : Int) (nb np : Nat) (w : World) (h1 : (nb : Int) = min (max n 0) 1048576) (h2 : (np : Int) = min (max m 0) 1048576) :
    Calls Try.prog 8 #[.int .i64 n, .int .i64 m] w fun e w' => ∃ t b o, e = .returned (.pointer (some ⟨t, 0, none⟩)) ∧ TableAt w' w.heap.size t b o nb np (fresh nb np) ∧ Below w.heap.size w w' := by
  have H1 := Lib.hid h1
  have H2 := Lib.hid h2
  clear h1 h2
  go_enter Try.func8, Try.ntmps8
  go_wp2_with fail
  refine (empty_any n nb _ H1.out).mono ?_
  rintro e w1 ⟨rfl, hL1, hB1⟩
  go_wp2_with fail
  refine (empty_any m np _ H2.out).mono ?_
  rintro e w2 ⟨rfl, hL2, hB2⟩
  have g1 := hL1.lt
  have g2 := hL2.lt
  go_wp2_with fail
  go_ret
  refine ⟨w2.heap.size, w.heap.size, w1.heap.size, rfl, ⟨?_, ?_, ?_, ?_, ?_, ?_, ?_, ?_, ?_, ?_, ?_, ?_⟩, ?_⟩
  · rw [World.cell?_alloc_at _ _ _ _ rfl]; rfl
  · rw [World.cell?_alloc_at _ _ _ _ rfl]; rfl
  · rw [World.cell?_alloc_at _ _ _ _ rfl]; rfl
  · intro j; rw [World.frozen?_alloc_at _ _ _ _ rfl]
  · exact World.ownsRow.alloc (hL1.kept hB2) _
  · obtain ⟨r1, r2⟩ := World.ownsRow.alloc hL2 (.cells #[.slice (some ⟨w.heap.size, 0, none⟩) nb nb, .slice (some ⟨w1.heap.size, 0, none⟩) np np, .int .i64 0] 43)
    refine ⟨r1, ?_⟩
    rcases r2 with r2 | ⟨g', cap, cur, r3, r4, r5⟩
    · exact .inl r2
    · exact .inr ⟨g', cap, cur, r3, by omega, r5⟩
  · omega
  · omega
  · omega
  · omega
  · have := H1.out; omega
  · have := H2.out; omega
  · exact (hB1.trans (hB2.mono hB1.size)).alloc (by omega) _

theorem far {a b i j : Nat} (h : a ≠ b) : (⟨b, i, none⟩ : Addr) ≠ ⟨a, j, none⟩ := fun e => h (Addr.mk.inj e).1.symm
/-- What Drop's two stores and its count leave. -/
theorem TableAt.drop {w : World} {B t b o nb np : Nat} {T : Tab} (h : TableAt w B t b o nb np T) (id : Int) (e : at' T.ps id ≠ -1) :
    TableAt (((w.setCell ⟨b, id.toNat, none⟩ (.int .i64 (-1))).setCell ⟨o, (at' T.ps id).toNat, none⟩ (.int .i64 (-1))).setCell ⟨t, 2, none⟩ (.int .i64 (T.cnt - 1))) B t b o nb np (T.drop id) := by
  have ed : T.drop id = ⟨T.ps.set id.toNat (-1), T.os.set (at' T.ps id).toNat (-1), T.cnt - 1⟩ := by unfold Tab.drop; rw [if_neg e]
  rw [ed]
  have nb1 := h.ntb
  have nb2 := h.nto
  have nb3 := h.nbo
  refine ⟨?_, ?_, ?_, fun j => ?_, ?_, ?_, h.ntb, h.nto, h.nbo, h.tB, h.n1, h.n2⟩
  · rw [World.cell?_setCell_other _ _ _ _ (by simp), World.cell?_setCell_other _ _ _ _ (far nb2), World.cell?_setCell_other _ _ _ _ (far nb1)]; exact h.h0
  · rw [World.cell?_setCell_other _ _ _ _ (by simp), World.cell?_setCell_other _ _ _ _ (far nb2), World.cell?_setCell_other _ _ _ _ (far nb1)]; exact h.h1
  · rw [World.cell?_setCell_same' _ _ _ (by rw [World.cell?_setCell_other _ _ _ _ (far nb2), World.cell?_setCell_other _ _ _ _ (far nb1), h.h2]; rfl)]
  · rw [World.frozen?_setCell, World.frozen?_setCell, World.frozen?_setCell]; exact h.hf j
  · exact ((h.rp.set id.toNat (-1)).other _ nb3 _).other _ (Ne.symm nb1) _
  · exact ((h.ro.other _ (Ne.symm nb3) _).set (at' T.ps id).toNat (-1)).other _ (Ne.symm nb2) _

set_option maxRecDepth 100000 in
set_option maxHeartbeats 2000000 in
theorem drop_any (B t b o nb np : Nat) (T : Tab) (id : Int) (w : World) (h : TableAt w B t b o nb np T) (hG : Good T) :
    Calls Try.prog 11 #[.pointer (some ⟨t, 0, none⟩), .int .i64 id] w fun e w' => e = .returned (.bool (toldB T.ps id)) ∧ TableAt w' B t b o nb np (T.drop id) ∧ Below B w w' := by
  by_cases e : at' T.ps id = -1
  · have ed : T.drop id = T := by unfold Tab.drop; rw [if_pos e]
    have e1 : toldB T.ps id = false := by simp [toldB, e]
    rw [ed, e1]
    have H := Lib.hid h
    clear h ed
    go_enter Try.func11, Try.ntmps11
    go_wp2_with (go_at_call 12; refine (at_any B t b o nb np T id _ H.out).mono ?_; rintro e w' ⟨rfl, rfl⟩; rw [e1])
    go_ret
    exact ⟨rfl, H.out, Below.refl _ _⟩
  · have e1 : toldB T.ps id = true := by simp [toldB, e]
    have e2 : toldV T.ps id = at' T.ps id := by simp [toldV, e]
    rw [e1]
    obtain ⟨a1, a2, a3⟩ := hG.fwd id e
    obtain ⟨b1, b2⟩ := at_in _ _ e
    have hcnt := hG.cp
    have hle := num_le T.ps
    rw [h.rp.len] at hle b2
    rw [h.ro.len] at a2
    have n1 := h.n1
    have n2 := h.n2
    have hD := h.drop id e
    have H := Lib.hid h
    have c1 := h.rp.cell id b1 b2
    have c2 := h.ro.cell (at' T.ps id) a1 a2
    have f1 := h.rp.free id.toNat
    have f2 := h.ro.free (at' T.ps id).toNat
    have c3 := h.h0
    have c4 := h.h1
    have c5 := h.h2
    have f3 := h.hf 2
    have m1 := h.ntb
    have m2 := h.nto
    have m3 := h.nbo
    have q1 : 0 ≤ T.cnt := by omega
    have q2 : T.cnt ≤ 1048576 := by omega
    have HD := Lib.hid hD
    have HB := Lib.hid h.rp.lt.1
    have HO := Lib.hid h.ro.lt.1
    have HT := Lib.hid h.tB
    clear h hD hG hcnt hle a3 e
    generalize at' T.ps id = p at *
    generalize T.cnt = cnt at *
    generalize at' T.os p = q at *
    go_enter Try.func11, Try.ntmps11
    go_wp2_with (go_at_call 12; refine (at_any B t b o nb np T id _ H.out).mono ?_; rintro e w' ⟨rfl, rfl⟩; rw [e1, e2])
    go_region
    go_wp2
    go_ret
    exact ⟨rfl, ⟨HD.out.h0, HD.out.h1, HD.out.h2, HD.out.hf, HD.out.rp, HD.out.ro, HD.out.ntb, HD.out.nto, HD.out.nbo, HD.out.tB, HD.out.n1, HD.out.n2⟩, ((((Below.refl B w).setCell (p := ⟨b, id.toNat, none⟩) HB.out _).setCell (p := ⟨o, p.toNat, none⟩) HO.out _).setCell (p := ⟨t, 2, none⟩) HT.out _).drew⟩

/-- What Put's two stores and its count leave. -/
theorem TableAt.laid {w : World} {B t b o nb np : Nat} {D : Tab} (h : TableAt w B t b o nb np D) (i j : Nat) (id pl : Int) :
    TableAt (((w.setCell ⟨b, i, none⟩ (.int .i64 pl)).setCell ⟨o, j, none⟩ (.int .i64 id)).setCell ⟨t, 2, none⟩ (.int .i64 (D.cnt + 1))) B t b o nb np ⟨D.ps.set i pl, D.os.set j id, D.cnt + 1⟩ := by
  have nb1 := h.ntb
  have nb2 := h.nto
  have nb3 := h.nbo
  refine ⟨?_, ?_, ?_, fun j => ?_, ?_, ?_, h.ntb, h.nto, h.nbo, h.tB, h.n1, h.n2⟩
  · rw [World.cell?_setCell_other _ _ _ _ (by simp), World.cell?_setCell_other _ _ _ _ (far nb2), World.cell?_setCell_other _ _ _ _ (far nb1)]; exact h.h0
  · rw [World.cell?_setCell_other _ _ _ _ (by simp), World.cell?_setCell_other _ _ _ _ (far nb2), World.cell?_setCell_other _ _ _ _ (far nb1)]; exact h.h1
  · rw [World.cell?_setCell_same' _ _ _ (by rw [World.cell?_setCell_other _ _ _ _ (far nb2), World.cell?_setCell_other _ _ _ _ (far nb1), h.h2]; rfl)]
  · rw [World.frozen?_setCell, World.frozen?_setCell, World.frozen?_setCell]; exact h.hf j
  · exact ((h.rp.set i pl).other _ nb3 _).other _ (Ne.symm nb1) _
  · exact ((h.ro.other _ (Ne.symm nb3) _).set j id).other _ (Ne.symm nb2) _

theorem inR_of (l : List Int) (n : Nat) (hl : l.length = n) (i : Int) : inR l i = (decide (0 ≤ i) && decide (i < (n : Int))) := by unfold inR; rw [hl]

set_option maxRecDepth 100000 in
set_option maxHeartbeats 2000000 in
theorem put_any (B t b o nb np : Nat) (T : Tab) (id pl : Int) (w : World) (h : TableAt w B t b o nb np T) (hG : Good T) :
    Calls Try.prog 9 #[.pointer (some ⟨t, 0, none⟩), .int .i64 id, .int .i64 pl] w fun e w' => e = .returned (.bool (T.ok id pl)) ∧ TableAt w' B t b o nb np (T.put id pl) ∧ Below B w w' := by
  have r1 := inR_of T.ps nb h.rp.len id
  have r2 := inR_of T.os np h.ro.len pl
  have n1 := h.n1
  have n2 := h.n2
  have c3 := h.h0
  have c4 := h.h1
  by_cases hok : T.ok id pl = true
  · have hput : T.put id pl = ⟨(T.drop id).ps.set id.toNat pl, (T.drop id).os.set pl.toNat id, (T.drop id).cnt + 1⟩ := by unfold Tab.put; rw [if_pos hok]
    rw [hok, hput]
    simp only [Tab.ok, Bool.and_eq_true, Bool.or_eq_true, beq_iff_eq] at hok
    obtain ⟨k1, k2, k3⟩ := hok
    rw [r1] at k1
    rw [r2] at k2
    have i1 : 0 ≤ id ∧ id < nb := by simpa using k1
    have i2 : 0 ≤ pl ∧ pl < np := by simpa using k2
    obtain ⟨i1, i1'⟩ := i1
    obtain ⟨i2, i2'⟩ := i2
    have c6 := h.ro.cell pl i2 i2'
    have K3 := Lib.hid k3
    have H := Lib.hid h
    clear h hput k3 r1 r2
    have hD := fun w => drop_any B t b o nb np T id w
    have HDr := Lib.hid (fun w h => hD w h hG)
    have HGd := Lib.hid (hG.drop id)
    clear hD hG
    have hq : at' T.os pl = -1 ∨ ((at' T.os pl == -1) = false ∧ Hid (at' T.os pl = id)) := by
      by_cases e : at' T.os pl = -1
      · exact .inl e
      · rcases K3.out with k | k
        · exact absurd k e
        · exact .inr ⟨by simp [e], Lib.hid k⟩
    rcases hq with hq | ⟨hq, hq2⟩
    · rw [hq] at c6
      go_enter Try.func9, Try.ntmps9
      go_wp2_with (go_at_call 16; refine (within_any _ _ _ _ _ (by omega)).mono ?_; rintro e w' ⟨rfl, rfl⟩; first | rw [k1] | rw [k2])
      refine (HDr.out _ H.out).mono ?_
      rintro e w2 ⟨rfl, hT2, hB2⟩
      have hL := hT2.laid id.toNat pl.toNat id pl
      have g1 := hT2.rp.cell id i1 i1'
      have g2 := hT2.ro.cell pl i2 i2'
      have f1 := hT2.rp.free id.toNat
      have f2 := hT2.ro.free pl.toNat
      have g3 := hT2.h0
      have g4 := hT2.h1
      have g5 := hT2.h2
      have f3 := hT2.hf 2
      have m1 := hT2.ntb
      have m2 := hT2.nto
      have m3 := hT2.nbo
      have l1 := HGd.out.cp
      have l2 := num_le (T.drop id).ps
      rw [hT2.rp.len] at l2
      have q1 : 0 ≤ (T.drop id).cnt := by omega
      have q2 : (T.drop id).cnt ≤ 1048576 := by omega
      have HB := Lib.hid (((hB2.setCell (p := ⟨b, id.toNat, none⟩) hT2.rp.lt.1 (.int .i64 pl)).setCell (p := ⟨o, pl.toNat, none⟩) hT2.ro.lt.1 (.int .i64 id)).setCell (p := ⟨t, 2, none⟩) hT2.tB (.int .i64 ((T.drop id).cnt + 1)))
      have HL := Lib.hid hL
      clear l1 l2 hT2 hB2 hL c3 c4 c6 hq
      go_wp2
      go_region
      go_wp2
      go_ret
      exact ⟨rfl, ⟨HL.out.h0, HL.out.h1, HL.out.h2, HL.out.hf, HL.out.rp, HL.out.ro, HL.out.ntb, HL.out.nto, HL.out.nbo, HL.out.tB, HL.out.n1, HL.out.n2⟩, HB.out.drew⟩
    · have hid : (id == -1) = false := by simp; omega
      rw [hq2.out] at c6
      go_enter Try.func9, Try.ntmps9
      go_wp2_with (go_at_call 16; refine (within_any _ _ _ _ _ (by omega)).mono ?_; rintro e w' ⟨rfl, rfl⟩; first | rw [k1] | rw [k2])
      refine (HDr.out _ H.out).mono ?_
      rintro e w2 ⟨rfl, hT2, hB2⟩
      have hL := hT2.laid id.toNat pl.toNat id pl
      have g1 := hT2.rp.cell id i1 i1'
      have g2 := hT2.ro.cell pl i2 i2'
      have f1 := hT2.rp.free id.toNat
      have f2 := hT2.ro.free pl.toNat
      have g3 := hT2.h0
      have g4 := hT2.h1
      have g5 := hT2.h2
      have f3 := hT2.hf 2
      have m1 := hT2.ntb
      have m2 := hT2.nto
      have m3 := hT2.nbo
      have l1 := HGd.out.cp
      have l2 := num_le (T.drop id).ps
      rw [hT2.rp.len] at l2
      have q1 : 0 ≤ (T.drop id).cnt := by omega
      have q2 : (T.drop id).cnt ≤ 1048576 := by omega
      have HB := Lib.hid (((hB2.setCell (p := ⟨b, id.toNat, none⟩) hT2.rp.lt.1 (.int .i64 pl)).setCell (p := ⟨o, pl.toNat, none⟩) hT2.ro.lt.1 (.int .i64 id)).setCell (p := ⟨t, 2, none⟩) hT2.tB (.int .i64 ((T.drop id).cnt + 1)))
      have HL := Lib.hid hL
      clear l1 l2 hT2 hB2 hL c3 c4 c6 hq hid
      go_wp2
      go_region
      go_wp2
      go_ret
      exact ⟨rfl, ⟨HL.out.h0, HL.out.h1, HL.out.h2, HL.out.hf, HL.out.rp, HL.out.ro, HL.out.ntb, HL.out.nto, HL.out.nbo, HL.out.tB, HL.out.n1, HL.out.n2⟩, HB.out.drew⟩
  · have hput : T.put id pl = T := by unfold Tab.put; rw [if_neg hok]
    have hok2 : T.ok id pl = false := by simpa using hok
    rw [hok2, hput]
    have H := Lib.hid h
    by_cases k1 : inR T.ps id = true
    · by_cases k2 : inR T.os pl = true
      · have k3 : (at' T.os pl == -1) = false ∧ (at' T.os pl == id) = false := by simp [Tab.ok, k1, k2] at hok ⊢; exact hok
        obtain ⟨k3, k4⟩ := k3
        rw [r1] at k1
        rw [r2] at k2
        have i2 : 0 ≤ pl ∧ pl < np := by simpa using k2
        obtain ⟨i2, i2'⟩ := i2
        have c6 := h.ro.cell pl i2 i2'
        have k5 : (at' T.os pl != -1) = true := by rw [bne, k3]; rfl
        have k6 : (at' T.os pl != id) = true := by rw [bne, k4]; rfl
        clear h hput hok hok2 r1 r2
        generalize at' T.os pl = q at *
        go_enter Try.func9, Try.ntmps9
        go_wp2_with (go_at_call 16; refine (within_any _ _ _ _ _ (by omega)).mono ?_; rintro e w' ⟨rfl, rfl⟩; first | rw [k1] | rw [k2])
        go_ret
        exact ⟨rfl, H.out, Below.refl _ _⟩
      · rw [r1] at k1
        have k2 : (decide (0 ≤ pl) && decide (pl < (np : Int))) = false := by rw [← r2]; simpa using k2
        clear h hput hok hok2 r1 r2
        go_enter Try.func9, Try.ntmps9
        go_wp2_with (go_at_call 16; refine (within_any _ _ _ _ _ (by omega)).mono ?_; rintro e w' ⟨rfl, rfl⟩; first | rw [k1] | rw [k2])
        go_ret
        exact ⟨rfl, H.out, Below.refl _ _⟩
    · have k1 : (decide (0 ≤ id) && decide (id < (nb : Int))) = false := by rw [← r1]; simpa using k1
      clear h hput hok hok2 r1 r2
      go_enter Try.func9, Try.ntmps9
      go_wp2_with (go_at_call 16; refine (within_any _ _ _ _ _ (by omega)).mono ?_; rintro e w' ⟨rfl, rfl⟩; rw [k1])
      go_ret
      exact ⟨rfl, H.out, Below.refl _ _⟩

theorem and65535 (n : Int) : bits .and .i64 n 65535 = n % 65536 := by
  have h : (BitVec.ofInt 64 65535).toNat = 2 ^ 16 - 1 := by decide
  have key : (BitVec.ofInt 64 n &&& BitVec.ofInt 64 65535).toNat = (n % ((2 ^ 64 : Nat) : Int)).toNat % 2 ^ 16 := by
    rw [BitVec.toNat_and, BitVec.toNat_ofInt, h, Nat.and_two_pow_sub_one_eq_mod]
  show IntKind.i64.wrap ((BitVec.ofInt 64 n &&& BitVec.ofInt 64 65535).toNat : Nat) = n % 65536
  rw [key, IntKind.wrap_i64]
  omega

/-- The table of 'shown', step by step. -/
def S1 : Tab := (fresh 4 9).put 3 7
def S2 : Tab := S1.put 2 7
def S3 : Tab := S2.put 3 8
theorem S1_good : Good S1 := (fresh_good 4 9).put 3 7
theorem S2_good : Good S2 := S1_good.put 2 7

set_option maxHeartbeats 1000000 in
theorem shown_any (w : World) : Calls Try.prog 7 #[] w fun e w' => e = .returned (.bool true) ∧ Below w.heap.size w w' := by
  have e1 : (fresh 4 9).ok 3 7 = true := by decide
  have e2 : S1.ok 2 7 = false := by decide
  have e3 : S2.ok 3 8 = true := by decide
  have e4 : toldV S3.ps 3 = 8 := by decide
  have e5 : toldB S3.ps 3 = true := by decide
  have e6 : toldB S3.os 7 = false := by decide
  have e7 : S3.cnt = 1 := by decide
  have HE := Lib.hid (And.intro e4 (And.intro e5 (And.intro e6 e7)))
  clear e4 e5 e6 e7
  go_enter Try.func7, Try.ntmps7
  go_wp2_with fail
  refine (new_any 4 9 4 9 _ (by decide) (by decide)).mono ?_
  rintro e w1 ⟨t, b, o, rfl, h1, hB1⟩
  go_wp2_with fail
  refine (put_any _ t b o 4 9 _ 3 7 _ h1 (fresh_good 4 9)).mono ?_
  rintro e w2 ⟨rfl, h2, hB2⟩
  rw [e1]
  clear h1
  go_wp2_with fail
  refine (put_any _ t b o 4 9 S1 2 7 _ h2 S1_good).mono ?_
  rintro e w3 ⟨rfl, h3, hB3⟩
  rw [e2]
  clear h2
  go_wp2_with fail
  refine (put_any _ t b o 4 9 S2 3 8 _ h3 S2_good).mono ?_
  rintro e w4 ⟨rfl, h4, hB4⟩
  rw [e3]
  clear h3
  have H4 := Lib.hid (show TableAt w4 w.heap.size t b o 4 9 S3 from h4)
  clear h4
  go_wp2_with fail
  refine (at_any _ t b o 4 9 S3 3 _ H4.out).mono ?_
  rintro e w' ⟨rfl, rfl⟩
  rw [HE.out.1, HE.out.2.1]
  go_wp2_with fail
  refine (owner_any _ t b o 4 9 S3 7 _ H4.out).mono ?_
  rintro e w' ⟨rfl, rfl⟩
  rw [HE.out.2.2.1]
  go_wp2_with fail
  refine (len_any _ t b o 4 9 S3 _ H4.out).mono ?_
  rintro e w' ⟨rfl, rfl⟩
  rw [HE.out.2.2.2]
  go_wp2_with fail
  go_ret
  exact ⟨rfl, ((hB1.trans hB2).trans hB3).trans hB4⟩
end Go.Proofs.Ytcgjlbgmjlafnaa
