/-
  PROVED HERE: the contract of Crash.
-/
import Derived.Test.YthdgfhkihhamnaaDoorBase
namespace Go.Proofs.YthdgfhkihhamnaaDoor
open Go.ChangeShapes Go.WideShapes Go.ChangeAt Go.RowKit

/-! ### Crash -/
/-- A slice of ints that was handed in, or is the device's own. -/
def KeepArg (w : World) (a : Option Addr) (len : Nat) (keep : List Int) : Prop :=
  keep.length = len ∧ len ≤ 9223372036854775807 ∧ (len = 0 ∨ ∃ kb off, a = some ⟨kb, off, none⟩ ∧ ∀ i, i < len → w.cell? ⟨kb, off + i, none⟩ = some (.int .i64 (keep[i]?.getD 0)))
section
variable {w w' : World} {Z : Nat → Prop} {dp sb tm tn : Nat} {wv kv : Value} {ss cs : List Value} {D : Dev}

/-- A cell that holds an int lies in neither of the two blocks that a crash turns. -/
theorem Rest.int_far (h : Rest w Z sb tm tn wv kv ss cs D) {b j : Nat} {q : Int} (hc : w.cell? ⟨b, j, none⟩ = some (.int .i64 q)) : b ≠ sb ∧ b ≠ tm := by
  constructor
  · rintro rfl
    simp only [World.cell?, h.row] at hc
    have hj : ss[j]? = some (.int .i64 q) := by simpa using hc
    have := h.sd j _ hj
    cases hs : D.secs j with
    | none => rw [hs] at this; cases this
    | some bs => rw [hs] at this; obtain ⟨g, _, h2, _⟩ := this; cases h2
  · rintro rfl
    obtain ⟨es, clock, hm⟩ := h.mapAt
    simp [World.cell?, hm] at hc
theorem KeepArg.out {a : Option Addr} {len : Nat} {keep : List Int} (h : KeepArg w a len keep) (hr : Rest w Z sb tm tn wv kv ss cs D) (ho : Out (fun k => k = sb ∨ k = tm) w w') : KeepArg w' a len keep := by
  obtain ⟨h1, h2, h3⟩ := h
  refine ⟨h1, h2, ?_⟩
  rcases h3 with h3 | ⟨kb, off, rfl, h3⟩
  · exact .inl h3
  · refine .inr ⟨kb, off, rfl, fun i hi => ?_⟩
    have k := h3 i hi
    obtain ⟨f1, f2⟩ := hr.int_far k
    rw [World.cell?_of_block (w := w) (ho.block kb (World.block_lt_of_cell? w ⟨kb, off + i, none⟩ k) (by simp [f1, f2]))]
    exact k

theorem fate_other (D : Dev) (q : Int) (x : Int × List Int) (h1 : q ≠ 1) (h2 : q ≠ 2) : D.fate q x = D := by unfold Dev.fate; rw [if_neg h1, if_neg h2]
theorem fate_wait (D : Dev) (q : Int) (x : Int × List Int) : (D.fate q x).wait = D.wait := by unfold Dev.fate Dev.done Dev.tear; split <;> (try split) <;> rfl
theorem fates_step (keep : List Int) (D : Dev) (l : List (Int × List Int)) (k : Nat) (x : Int × List Int) (h : l[k]? = some x) : Dev.fates keep k D (l.drop k) = Dev.fates keep (k + 1) (D.fate (keep[k]?.getD 0) x) (l.drop (k + 1)) := by
  have hk : k < l.length := by
    by_cases c : k < l.length
    · exact c
    · rw [List.getElem?_eq_none (by omega)] at h; cases h
  rw [List.getElem?_eq_getElem hk] at h
  rw [List.drop_eq_getElem_cons hk, Dev.fates]
  cases h; rfl
theorem fates_done (keep : List Int) (D : Dev) (l : List (Int × List Int)) : Dev.fates keep l.length D (l.drop l.length) = D := by rw [List.drop_length]; rfl

/-- A sector is torn: what it leaves in memory. -/
theorem DevMem.torn (h : DevMem w Z dp sb tm tn wv kv ss cs D) (i : Int) (hwf : (Lit.int .i64 i).wf = true) (htn : tn < maxLen) :
    ∃ w', (Instr.mapUpdate 46 (.map (some tm)) (.int .i64 i) (.agg #[])).run Tryd.prog w = .ok () w' ∧ DevMem w' Z dp sb tm (tn + 1) wv kv ss cs (D.tear i) ∧ Out (fun k => k = sb ∨ k = tm) w w' := by
  obtain ⟨T, hown, hT⟩ := h.rest.tr
  obtain ⟨w', hrun, hown', hturn⟩ := hown.store keyed Tryd.underlying46 htn (key_int i hwf) unitElem_mk
  have hg := hturn.grown
  refine ⟨w', hrun, ⟨?_, h.rest.turned (t' := fun j => if j = i then true else D.torn j) hg _ hown' (fun a ha => ?_), h.dZ⟩, Out.of_grown hg (fun k e => by cases e; exact .inr rfl)⟩
  · obtain ⟨es, clock, hm⟩ := h.rest.mapAt
    rw [hg.block dp (Array.getElem?_eq_some_iff.1 h.head).1 (by intro e; cases e; have := h.head; rw [hm] at this; cases this)]
    exact h.head
  · by_cases e : a = i
    · rw [if_pos e, e]; exact Maps.has_put_same hown.isMap (keyed.key (key_int i hwf)) _
    · rw [if_neg e, Maps.has_put_other (by intro c; cases c; exact e rfl)]; exact hT a ha

theorem Rest.two (h : Rest w Z sb tm tn wv kv ss cs D) (k : Nat) (hk : k = sb ∨ k = tm) : Z k := hk.elim (fun e => e ▸ h.sZ) (fun e => e ▸ h.tZ)
theorem Rest.cleared {E : Dev} (h : Rest w Z sb tm tn wv kv ss cs E) : Rest w Z sb tm tn (.slice none 0 0) (.slice none 0 0) ss [] { E with wait := [], down := true, armed := false, left := 0, keep := [] } :=
  ⟨h.row, h.ssl, h.sd, World.ownsRow_nil w 0 55 2, fun i a bs hi => by simp at hi, h.tr, World.ownsRow_nil w 0 3 1, fun g e => by simp [Value.ownBlock] at e, fun g e => by simp [Value.ownBlock] at e, h.sZ, h.tZ, h.n1, h.n2⟩
theorem DevMem.crashed {E : Dev} (h : DevMem w Z dp sb tm tn wv kv ss cs E) :
    DevMem (((((w.setCell ⟨dp, 1, none⟩ (.slice none 0 0)).setCell ⟨dp, 6, none⟩ (.bool true)).setCell ⟨dp, 7, none⟩ (.bool false)).setCell ⟨dp, 8, none⟩ (.int .i64 0)).setCell ⟨dp, 9, none⟩ (.slice none 0 0)) Z dp sb tm tn (.slice none 0 0) (.slice none 0 0) ss [] { E with wait := [], down := true, armed := false, left := 0, keep := [] } := by
  have k1 := heap_setCell_same w dp 1 _ _ (.slice none 0 0) h.head
  have k2 := heap_setCell_same _ dp 6 _ _ (.bool true) k1
  have k3 := heap_setCell_same _ dp 7 _ _ (.bool false) k2
  have k4 := heap_setCell_same _ dp 8 _ _ (.int .i64 0) k3
  have k5 := heap_setCell_same _ dp 9 _ _ (.slice none 0 0) k4
  refine ⟨k5, ?_, h.dZ⟩
  have r1 := h.rest.apart (grown_setCell w ⟨dp, 1, none⟩ (.slice none 0 0)) h.head (by simp [tag]) (by simp [tag]) (by simp [tag]) (by simp [tag]) (by simp [tag])
  have r2 := r1.apart (grown_setCell _ ⟨dp, 6, none⟩ (.bool true)) k1 (by simp [tag]) (by simp [tag]) (by simp [tag]) (by simp [tag]) (by simp [tag])
  have r3 := r2.apart (grown_setCell _ ⟨dp, 7, none⟩ (.bool false)) k2 (by simp [tag]) (by simp [tag]) (by simp [tag]) (by simp [tag]) (by simp [tag])
  have r4 := r3.apart (grown_setCell _ ⟨dp, 8, none⟩ (.int .i64 0)) k3 (by simp [tag]) (by simp [tag]) (by simp [tag]) (by simp [tag]) (by simp [tag])
  have r5 := r4.apart (grown_setCell _ ⟨dp, 9, none⟩ (.slice none 0 0)) k4 (by simp [tag]) (by simp [tag]) (by simp [tag]) (by simp [tag]) (by simp [tag])
  exact r5.cleared
theorem Out.cell (w : World) (a : Addr) (u : Value) (hz : Z a.block) : Out Z w (w.setCell a u) := Out.of_grown (grown_setCell w a u) (fun k e => by cases e; exact hz)
theorem Out.crashed (w : World) (hz : Z dp) : Out Z w (((((w.setCell ⟨dp, 1, none⟩ (.slice none 0 0)).setCell ⟨dp, 6, none⟩ (.bool true)).setCell ⟨dp, 7, none⟩ (.bool false)).setCell ⟨dp, 8, none⟩ (.int .i64 0)).setCell ⟨dp, 9, none⟩ (.slice none 0 0)) :=
  ((((Out.cell _ _ _ hz).trans (Out.cell _ _ _ hz)).trans (Out.cell _ _ _ hz)).trans (Out.cell _ _ _ hz)).trans (Out.cell _ _ _ hz)

/-- The loop of Crash on its way. -/
structure Way (w wr : World) (Z : Nat → Prop) (dp sb tm tn0 : Nat) (wv kv : Value) (cs : List Value) (keep : List Int) (a : Option Addr) (len : Nat) (D : Dev) (k tn : Nat) (ss : List Value) (E : Dev) : Prop where
  mem : DevMem wr Z dp sb tm tn wv kv ss cs E
  wait : E.wait = D.wait
  rest : Dev.fates keep k E (D.wait.drop k) = Dev.fates keep 0 D D.wait
  out : Out (fun k => k = sb ∨ k = tm) w wr
  arg : KeepArg wr a len keep
  num : tn ≤ tn0 + k

theorem Way.step {wr w2 : World} {tn0 k tn tn2 len : Nat} {keep : List Int} {a : Option Addr} {E : Dev} {ss2 : List Value} {x : Int × List Int} (h : Way w wr Z dp sb tm tn0 wv kv cs keep a len D k tn ss E) (hx : D.wait[k]? = some x) (q : Int) (hq : keep[k]?.getD 0 = q)
    (hm : DevMem w2 Z dp sb tm tn2 wv kv ss2 cs (E.fate q x)) (ho : Out (fun k => k = sb ∨ k = tm) wr w2) (ht : tn2 ≤ tn + 1) : Way w w2 Z dp sb tm tn0 wv kv cs keep a len D (k + 1) tn2 ss2 (E.fate q x) :=
  ⟨hm, by rw [fate_wait]; exact h.wait, by rw [← h.rest, fates_step keep E D.wait k x hx, hq], h.out.trans ho, h.arg.out h.mem.rest ho, by have := h.num; omega⟩
theorem Out.alloc (w : World) (o : Obj) : Out Z w (w.alloc o) := Out.of_below ((Below.refl _ _).alloc (Nat.le_refl _) _)
theorem DevMem.alloc (h : DevMem w Z dp sb tm tn wv kv ss cs D) (o : Obj) : DevMem (w.alloc o) Z dp sb tm tn wv kv ss cs D := h.below ((Below.refl _ _).alloc (Nat.le_refl _) _)
theorem DevMem.drew (h : DevMem w Z dp sb tm tn wv kv ss cs D) : DevMem w.drew Z dp sb tm tn wv kv ss cs D := h.below ⟨rfl, rfl, rfl, Nat.le_refl _, fun _ _ => rfl⟩
theorem Out.drew (w : World) : Out Z w w.drew := ⟨rfl, rfl, rfl, Nat.le_refl _, fun _ _ _ => rfl⟩

set_option maxRecDepth 100000 in
set_option maxHeartbeats 4000000 in
theorem crash_row (h : DevMem w Z dp sb tm tn wv kv ss cs D) (a : Option Addr) (len cap : Nat) (keep : List Int) (hk : KeepArg w a len keep) (htn : (tn : Int) + D.wait.length ≤ 1000000000000) (wb wc : Nat) (hwv : wv = .slice (some ⟨wb, 0, none⟩) D.wait.length wc) :
    Calls Tryd.prog 13 #[.pointer (some ⟨dp, 0, none⟩), .slice a len cap] w fun e w' => e = .returned (.tuple #[]) ∧ ∃ tn' ss', tn' ≤ tn + D.wait.length ∧ DevMem w' Z dp sb tm tn' (.slice none 0 0) (.slice none 0 0) ss' [] (D.crash keep) ∧ Out Z w w' := by
  subst hwv
  obtain ⟨m, hm⟩ : ∃ m, m = D.wait.length := ⟨_, rfl⟩
  rw [← hm] at htn ⊢
  have c1 : w.cell? ⟨dp, 1, none⟩ = some (.slice (some ⟨wb, 0, none⟩) m wc) := by rw [hm]; exact h.cell 1
  have hl := hk.2.1
  have HS := Lib.hid (show Way w w Z dp sb tm tn (.slice (some ⟨wb, 0, none⟩) D.wait.length wc) kv cs keep a len D 0 tn ss D from ⟨h, rfl, rfl, Out.refl _ _, hk, Nat.le_refl _⟩)
  have HM := Lib.hid hm
  have hk3 := hk.2.2
  clear h hk hm
  rcases hk3 with hl0 | ⟨kb, off, rfl, hcell⟩
  · go_enter Tryd.func13, Tryd.ntmps13
    go_wp2
    go_loopw [14] (fun i wr => ∃ (k tn' : Nat) (ss' : List Value) (E : Dev), k ≤ m ∧ i = .int .i64 k ∧ Way w wr Z dp sb tm tn (.slice (some ⟨wb, 0, none⟩) D.wait.length wc) kv cs keep a len D k tn' ss' E) (fun i _ => m - (intOf i).toNat)
    case atStart => exact ⟨0, _, _, _, Nat.zero_le _, rfl, HS.out⟩
    case round =>
      clear HS c1
      obtain ⟨k, tn', ss', E, hkm, rfl, hW⟩ := hrel
      have HW := Lib.hid hW
      clear hW
      by_cases hlt : k < m
      · obtain ⟨x, hx⟩ : ∃ x, D.wait[k]? = some x := ⟨_, List.getElem?_eq_getElem (by have := HM.out; omega)⟩
        obtain ⟨i, bs⟩ := x
        have hwd := HW.out.mem.rest.wd k i bs (by rw [HW.out.wait]; exact hx)
        obtain ⟨⟨b1, b2⟩, b3, g, b4, b5, b6, b7⟩ := hwd
        have b8 := HW.out.mem.rest.n2
        have hwr := HW.out.mem.rest.wrow
        rw [HW.out.wait] at hwr
        rw [Nat.mul_comm 2 k] at b3 b5
        have e0 := (hwr.cellAt (k * 2) (by have := HM.out; omega)).trans b3
        have e1 := (hwr.cellAt (k * 2 + 1) (by have := HM.out; omega)).trans b5
        have wlt := (own_lt hwr wb rfl)
        have dlt := (Array.getElem?_eq_some_iff.1 HW.out.mem.head).1
        clear b3 b5 hwr
        unfold dv at e1
        have hwf : (Lit.int .i64 i).wf = true := WalkArith.wf_i64 (by omega)
        have HX := Lib.hid hx
        have HB := Lib.hid (And.intro b4 (And.intro b6 b7))
        clear hx b4 b6 b7
        obtain ⟨q, hq⟩ : ∃ q, keep[k]?.getD 0 = q := ⟨_, rfl⟩
        have hfate : len ≤ k ∧ q = 0 := ⟨by omega, by rw [← hq, List.getElem?_eq_none (by have := HW.out.arg.1; omega)]; rfl⟩
        have HQ := Lib.hid hq
        clear hq
        obtain ⟨c1, c2⟩ := hfate
        have HF := Lib.hid (show q ≠ 1 ∧ q ≠ 2 by omega)
        clear c2
        have hst := HW.out.step HX.out q HQ.out (w2 := wr.alloc (.cells #[.int .i64 i, dv g] 55)) (by rw [fate_other _ _ _ HF.out.1 HF.out.2]; exact HW.out.mem.alloc _) (Out.alloc _ _) (Nat.le_succ _)
        have HST := Lib.hid hst
        clear hst
        go_wp2_with fail
        go_roundw
        case rel => exact ⟨k + 1, _, _, _, by omega, by go_num, HST.out⟩
        case measure => simp [intOf]; omega
      · obtain rfl : m = k := by omega
        have w1 : wr.cell? ⟨dp, 1, none⟩ = some (.slice (some ⟨wb, 0, none⟩) D.wait.length wc) := HW.out.mem.cell 1
        have w6 : wr.cell? ⟨dp, 6, none⟩ = some (.bool E.down) := HW.out.mem.cell 6
        have w7 : wr.cell? ⟨dp, 7, none⟩ = some (.bool E.armed) := HW.out.mem.cell 7
        have w8 : wr.cell? ⟨dp, 8, none⟩ = some (.int .i64 E.left) := HW.out.mem.cell 8
        have w9 : wr.cell? ⟨dp, 9, none⟩ = some kv := HW.out.mem.cell 9
        have f1 := HW.out.mem.free 1
        have f6 := HW.out.mem.free 6
        have f7 := HW.out.mem.free 7
        have f8 := HW.out.mem.free 8
        have f9 := HW.out.mem.free 9
        go_wp2
        go_end0
        refine ⟨rfl, tn', ss', by have := HW.out.num; omega, ?_, ?_⟩
        · have e : D.crash keep = { E with wait := [], down := true, armed := false, left := 0, keep := [] } := by
            have r := HW.out.rest
            rw [HM.out, fates_done] at r
            unfold Dev.crash
            rw [← r]
          rw [e]
          exact HW.out.mem.crashed
        · exact (HW.out.out.mono (fun k _ hz => HW.out.mem.rest.two k hz)).trans (Out.crashed _ HW.out.mem.dZ)
  · clear hcell
    go_enter Tryd.func13, Tryd.ntmps13
    go_wp2
    go_loopw [14] (fun i wr => ∃ (k tn' : Nat) (ss' : List Value) (E : Dev), k ≤ m ∧ i = .int .i64 k ∧ Way w wr Z dp sb tm tn (.slice (some ⟨wb, 0, none⟩) D.wait.length wc) kv cs keep (some ⟨kb, off, none⟩) len D k tn' ss' E) (fun i _ => m - (intOf i).toNat)
    case atStart => exact ⟨0, _, _, _, Nat.zero_le _, rfl, HS.out⟩
    case round =>
      clear HS c1
      obtain ⟨k, tn', ss', E, hkm, rfl, hW⟩ := hrel
      have HW := Lib.hid hW
      clear hW
      by_cases hlt : k < m
      · obtain ⟨x, hx⟩ : ∃ x, D.wait[k]? = some x := ⟨_, List.getElem?_eq_getElem (by have := HM.out; omega)⟩
        obtain ⟨i, bs⟩ := x
        have hwd := HW.out.mem.rest.wd k i bs (by rw [HW.out.wait]; exact hx)
        obtain ⟨⟨b1, b2⟩, b3, g, b4, b5, b6, b7⟩ := hwd
        have b8 := HW.out.mem.rest.n2
        have hwr := HW.out.mem.rest.wrow
        rw [HW.out.wait] at hwr
        rw [Nat.mul_comm 2 k] at b3 b5
        have e0 := (hwr.cellAt (k * 2) (by have := HM.out; omega)).trans b3
        have e1 := (hwr.cellAt (k * 2 + 1) (by have := HM.out; omega)).trans b5
        have wlt := (own_lt hwr wb rfl)
        have dlt := (Array.getElem?_eq_some_iff.1 HW.out.mem.head).1
        clear b3 b5 hwr
        unfold dv at e1
        have hwf : (Lit.int .i64 i).wf = true := WalkArith.wf_i64 (by omega)
        have HX := Lib.hid hx
        have HB := Lib.hid (And.intro b4 (And.intro b6 b7))
        clear hx b4 b6 b7
        obtain ⟨q, hq⟩ : ∃ q, keep[k]?.getD 0 = q := ⟨_, rfl⟩
        have hfate : (k < len ∧ wr.cell? ⟨kb, off + k, none⟩ = some (.int .i64 q)) ∨ (len ≤ k ∧ q = 0) := by
          obtain ⟨r1, r2, r3⟩ := HW.out.arg
          by_cases c : k < len
          · rcases r3 with r3 | ⟨kb', off', r3, r4⟩
            · omega
            · cases r3; exact .inl ⟨c, by rw [← hq]; exact r4 k c⟩
          · exact .inr ⟨by omega, by rw [← hq, List.getElem?_eq_none (by omega)]; rfl⟩
        have HQ := Lib.hid hq
        clear hq
        rcases hfate with ⟨c1, ck⟩ | ⟨c1, c2⟩
        · have klt : kb < wr.heap.size := World.block_lt_of_cell? wr ⟨kb, off + k, none⟩ ck
          rcases (show q = 1 ∨ q = 2 ∨ (q ≠ 1 ∧ q ≠ 2) by omega) with c3 | c3 | ⟨c3, c4⟩
          · have c5 : (q == 1) = true := by simp [c3]
            have HF := Lib.hid c3
            clear c3
            go_wp2_with fail
            refine (done_any (HW.out.mem.alloc _) i g bs b1 (by omega) HB.out.1 (HB.out.2.1.kept ((Below.refl _ _).alloc (Nat.le_refl _) _)) HB.out.2.2).mono ?_
            rintro e w2 ⟨rfl, hM, hO⟩
            have hst := HW.out.step HX.out q HQ.out (w2 := w2) (by rw [HF.out]; exact hM) ((Out.alloc _ _).trans hO) (Nat.le_succ _)
            have HST := Lib.hid hst
            clear hM hO hst
            go_wp2_with fail
            go_roundw
            case rel => exact ⟨k + 1, _, _, _, by omega, by go_num, HST.out⟩
            case measure => simp [intOf]; omega
          · have c5 : (q == 1) = false := by simp [c3]
            have c6 : (q == 2) = true := by simp [c3]
            have HF := Lib.hid c3
            clear c3
            obtain ⟨w2, hrun, hM, hO⟩ := (HW.out.mem.alloc (.cells #[.int .i64 i, .slice (some ⟨g, 0, none⟩) 512 512] 55)).drew.torn i hwf (by have := HW.out.num; unfold maxLen; omega)
            have hst := HW.out.step HX.out q HQ.out (w2 := w2) (by rw [HF.out]; exact hM) (((Out.alloc _ _).trans (Out.drew _)).trans hO) (Nat.le_refl _)
            have HST := Lib.hid hst
            clear hM hO hst
            have v2 : wr.cell? ⟨dp, 2, none⟩ = some (.map (some tm)) := HW.out.mem.cell 2
            go_wp2_with fail
            go_region
            go_wp2_with fail
            go_roundw
            case rel => exact ⟨k + 1, _, _, _, by omega, by go_num, HST.out⟩
            case measure => simp [intOf]; omega
          · have c5 : (q == 1) = false := by simp [c3]
            have c6 : (q == 2) = false := by simp [c4]
            have HF := Lib.hid (And.intro c3 c4)
            clear c3 c4
            have hst := HW.out.step HX.out q HQ.out (w2 := wr.alloc (.cells #[.int .i64 i, dv g] 55)) (by rw [fate_other _ _ _ HF.out.1 HF.out.2]; exact HW.out.mem.alloc _) (Out.alloc _ _) (Nat.le_succ _)
            have HST := Lib.hid hst
            clear hst
            go_wp2_with fail
            go_roundw
            case rel => exact ⟨k + 1, _, _, _, by omega, by go_num, HST.out⟩
            case measure => simp [intOf]; omega
        · have HF := Lib.hid (show q ≠ 1 ∧ q ≠ 2 by omega)
          clear c2
          have hst := HW.out.step HX.out q HQ.out (w2 := wr.alloc (.cells #[.int .i64 i, dv g] 55)) (by rw [fate_other _ _ _ HF.out.1 HF.out.2]; exact HW.out.mem.alloc _) (Out.alloc _ _) (Nat.le_succ _)
          have HST := Lib.hid hst
          clear hst
          go_wp2_with fail
          go_roundw
          case rel => exact ⟨k + 1, _, _, _, by omega, by go_num, HST.out⟩
          case measure => simp [intOf]; omega
      · obtain rfl : m = k := by omega
        have w1 : wr.cell? ⟨dp, 1, none⟩ = some (.slice (some ⟨wb, 0, none⟩) D.wait.length wc) := HW.out.mem.cell 1
        have w6 : wr.cell? ⟨dp, 6, none⟩ = some (.bool E.down) := HW.out.mem.cell 6
        have w7 : wr.cell? ⟨dp, 7, none⟩ = some (.bool E.armed) := HW.out.mem.cell 7
        have w8 : wr.cell? ⟨dp, 8, none⟩ = some (.int .i64 E.left) := HW.out.mem.cell 8
        have w9 : wr.cell? ⟨dp, 9, none⟩ = some kv := HW.out.mem.cell 9
        have f1 := HW.out.mem.free 1
        have f6 := HW.out.mem.free 6
        have f7 := HW.out.mem.free 7
        have f8 := HW.out.mem.free 8
        have f9 := HW.out.mem.free 9
        go_wp2
        go_end0
        refine ⟨rfl, tn', ss', by have := HW.out.num; omega, ?_, ?_⟩
        · have e : D.crash keep = { E with wait := [], down := true, armed := false, left := 0, keep := [] } := by
            have r := HW.out.rest
            rw [HM.out, fates_done] at r
            unfold Dev.crash
            rw [← r]
          rw [e]
          exact HW.out.mem.crashed
        · exact (HW.out.out.mono (fun k _ hz => HW.out.mem.rest.two k hz)).trans (Out.crashed _ HW.out.mem.dZ)

theorem crash_none (h : DevMem w Z dp sb tm tn (.slice none 0 0) kv ss cs D) (a : Option Addr) (len cap : Nat) (keep : List Int) (hn : D.wait = []) :
    Calls Tryd.prog 13 #[.pointer (some ⟨dp, 0, none⟩), .slice a len cap] w fun e w' => e = .returned (.tuple #[]) ∧ DevMem w' Z dp sb tm tn (.slice none 0 0) (.slice none 0 0) ss [] (D.crash keep) ∧ Out Z w w' := by
  have w1 : w.cell? ⟨dp, 1, none⟩ = some (.slice none 0 0) := h.cell 1
  have w6 : w.cell? ⟨dp, 6, none⟩ = some (.bool D.down) := h.cell 6
  have w7 : w.cell? ⟨dp, 7, none⟩ = some (.bool D.armed) := h.cell 7
  have w8 : w.cell? ⟨dp, 8, none⟩ = some (.int .i64 D.left) := h.cell 8
  have w9 : w.cell? ⟨dp, 9, none⟩ = some kv := h.cell 9
  have f1 := h.free 1
  have f6 := h.free 6
  have f7 := h.free 7
  have f8 := h.free 8
  have f9 := h.free 9
  have H := Lib.hid h
  have HN := Lib.hid hn
  clear h hn
  go_enter Tryd.func13, Tryd.ntmps13
  go_wp2
  refine wp_loop_rounds 1 ?_
  rw [rounds_succ]
  go_wp2
  go_end0
  refine ⟨rfl, ?_, Out.crashed _ H.out.dZ⟩
  have e : D.crash keep = { D with wait := [], down := true, armed := false, left := 0, keep := [] } := by unfold Dev.crash; rw [HN.out]; rfl
  rw [e]
  exact H.out.crashed

/-- Crash, whatever waits. -/
theorem crash_any (h : DevAt w Z dp D) (a : Option Addr) (len cap : Nat) (keep : List Int) (hk : KeepArg w a len keep) (hw : D.w ≤ 1000000000000) :
    Calls Tryd.prog 13 #[.pointer (some ⟨dp, 0, none⟩), .slice a len cap] w fun e w' => e = .returned (.tuple #[]) ∧ DevAt w' Z dp (D.crash keep) ∧ Out Z w w' := by
  obtain ⟨sb, tm, tn, wv, kv, ss, cs, m, l, _⟩ := h
  have hcw : (D.crash keep).w = D.w ∧ (D.crash keep).wait = [] := by
    have : ∀ (l : List (Int × List Int)) (k : Nat) (E : Dev), (Dev.fates keep k E l).w = E.w := by
      intro l
      induction l with
      | nil => intro k E; rfl
      | cons x l ih => intro k E; rw [Dev.fates, ih]; unfold Dev.fate Dev.done Dev.tear; split <;> (try split) <;> rfl
    exact ⟨this _ _ _, rfl⟩
  rcases m.rest.wrow.2 with ⟨hv, hn⟩ | ⟨g, wc, cur, hv, _⟩
  · subst hv
    have hnil : D.wait = [] := List.eq_nil_of_length_eq_zero hn
    refine (crash_none m a len cap keep hnil).mono fun e w' ⟨h1, h2, h3⟩ => ⟨h1, ⟨sb, tm, tn, _, _, ss, [], h2, ?_, Int.le_refl 0, (by show (0 : Int) ≤ _; omega), Nat.zero_le _⟩, h3⟩
    rw [hcw.1, hcw.2]; rw [hnil] at l; exact l
  · refine (crash_row m a len cap keep hk (by omega) g wc hv).mono fun e w' ⟨h1, tn', ss', h2, h3, h4⟩ => ⟨h1, ⟨sb, tm, tn', _, _, ss', [], h3, ?_, Int.le_refl 0, (by show (0 : Int) ≤ _; omega), Nat.zero_le _⟩, h4⟩
    rw [hcw.1, hcw.2]; simp; omega
end
end Go.Proofs.YthdgfhkihhamnaaDoor
