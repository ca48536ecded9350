/-
  PROVED HERE: the device as a statement sees it; the small case that each statement begins with.
-/
import Derived.Test.YthdgfhkihhamnaaDoorRead
import Derived.Test.YthdgfhkihhamnaaDoorWrite
namespace Go.Proofs.YthdgfhkihhamnaaDoor
open Go.ChangeShapes Go.WideShapes Go.ChangeAt Go.RowKit

section
variable {B : Nat} {Z Z' Z'' : Nat → Prop} {w w' w'' : World} {dp : Nat} {D : Dev}
/-- A device whose blocks are Z, none below B. -/
structure In (B : Nat) (Z : Nat → Prop) (w : World) (dp : Nat) (D : Dev) : Prop where
  dev : DevAt w Z dp D
  lo : ∀ k, Z k → B ≤ k
  hi : ∀ k, Z k → k < w.heap.size
/-- What a call of one of its methods does to memory. -/
structure Step (Z Z' : Nat → Prop) (w w' : World) : Prop where
  out : Out Z w w'
  new : ∀ k, k < w.heap.size → Z' k → Z k
theorem Step.refl (Z : Nat → Prop) (w : World) : Step Z Z w w := ⟨Out.refl Z w, fun _ _ h => h⟩
theorem Step.of_below (Z : Nat → Prop) (h : Below w.heap.size w w') : Step Z Z w w' := ⟨Out.of_below h, fun _ _ h => h⟩
theorem Step.trans (h : Step Z Z' w w') (k : Step Z' Z'' w' w'') : Step Z Z'' w w'' :=
  ⟨⟨k.out.os.trans h.out.os, k.out.tape.trans h.out.tape, k.out.output.trans h.out.output, Nat.le_trans h.out.size k.out.size,
    fun i hi hz => (k.out.block i (Nat.lt_of_lt_of_le hi h.out.size) (fun e => hz (h.new i hi e))).trans (h.out.block i hi hz)⟩,
   fun i hi hz => h.new i hi (k.new i (Nat.lt_of_lt_of_le hi h.out.size) hz)⟩
theorem Step.below (h : Step Z Z' w w') (hz : ∀ k, Z k → B ≤ k) (hB : B ≤ w.heap.size) : Below B w w' :=
  ⟨h.out.os, h.out.tape, h.out.output, h.out.size, fun k hk => h.out.block k (by omega) (fun e => by have := hz k e; omega)⟩
/-- 512 bytes that are none of the device's. -/
structure Free (Z : Nat → Prop) (w : World) (u : Nat) (bs : List Int) : Prop where
  bytes : Bytes w u bs
  out : ¬ Z u
theorem Free.step {u : Nat} {bs : List Int} (h : Free Z w u bs) (s : Step Z Z' w w') : Free Z' w' u bs :=
  ⟨(s.out.block u h.bytes.lt h.out).trans h.bytes, fun e => h.out (s.new u h.bytes.lt e)⟩
theorem Free.new {bs : List Int} (hb : Bytes w' w.heap.size bs) (hi : ∀ k, Z k → k < w.heap.size) : Free Z w' w.heap.size bs := ⟨hb, fun e => Nat.lt_irrefl _ (hi _ e)⟩
theorem In.below (h : In B Z w dp D) (hb : Below w.heap.size w w') : In B Z w' dp D := ⟨h.dev.below hb, h.lo, fun k hk => Nat.lt_of_lt_of_le (h.hi k hk) hb.size⟩
theorem In.same (h : In B Z w dp D) {D' : Dev} (hd : DevAt w' Z dp D') (ho : Out Z w w') : In B Z w' dp D' := ⟨hd, h.lo, fun k hk => Nat.lt_of_lt_of_le (h.hi k hk) ho.size⟩
/-- Whatever leaves the device's blocks leaves the device. -/
theorem In.apart (h : In B Z w dp D) (hs : w.heap.size ≤ w'.heap.size) (hk : ∀ k, Z k → w'.heap[k]? = w.heap[k]?) : In B Z w' dp D := ⟨h.dev.keep (fun k hz _ => hk k hz), h.lo, fun k hk => Nat.lt_of_lt_of_le (h.hi k hk) hs⟩
theorem In.wider (h : In B Z w dp D) (hB : B ≤ w.heap.size) {D' : Dev} (hd : DevAt w' (fun k => Z k ∨ w.heap.size ≤ k) dp D') : In B (fun k => (Z k ∨ w.heap.size ≤ k) ∧ k < w'.heap.size) w' dp D' :=
  ⟨hd.wide (fun k hk hz => ⟨hz, hk⟩), fun k hk => hk.1.elim (h.lo k) (fun e => by omega), fun k hk => hk.2⟩
theorem Step.wider (ho : Out Z w w') : Step Z (fun k => (Z k ∨ w.heap.size ≤ k) ∧ k < w'.heap.size) w w' := ⟨ho, fun k hk hz => hz.1.elim id (fun e => by omega)⟩

theorem new_in (w : World) (x : Int) (n : Nat) (hx : x = n) (h1 : 1 ≤ n) (h2 : n ≤ 20000) :
    Calls Tryd.prog 5 #[.int .i64 x] w fun e w' => ∃ dp Z, e = .returned (.tuple #[.pointer (some ⟨dp, 0, none⟩), .int .i64 0]) ∧ In w.heap.size Z w' dp (Dev.fresh n) ∧ Below w.heap.size w w' := by
  subst hx
  refine (new_ok n h1 h2).mono ?_
  rintro e w' ⟨dp, rfl, hD, hB⟩
  exact ⟨dp, fun k => w.heap.size ≤ k ∧ k < w'.heap.size, rfl, ⟨hD.wide (fun k hk hz => ⟨hz, hk⟩), fun k hk => hk.1, fun k hk => hk.2⟩, hB⟩
theorem write_in (h : In B Z w dp D) (hB : B ≤ w.heap.size) (i : Int) (hi : D.has i = true) (g : Nat) (bs : List Int) (hf : Free Z w g bs) (hl : bs.length = 512) (hw0 : 0 ≤ D.w) (hw : D.w ≤ 1000000000) :
    Calls Tryd.prog 10 #[.pointer (some ⟨dp, 0, none⟩), .int .i64 i, .slice (some ⟨g, 0, none⟩) 512 512] w fun e w' => ∃ Z', e = .returned (.int .i64 D.err) ∧ In B Z' w' dp (D.write i bs) ∧ Step Z Z' w w' := by
  refine (write_ok h.dev i hi g bs hf.bytes hl hf.out hw0 hw).mono ?_
  rintro e w' ⟨rfl, hD, hO⟩
  exact ⟨_, rfl, h.wider hB hD, Step.wider hO⟩
theorem write_no (h : In B Z w dp D) (i : Int) (a : Option Addr) (len cap : Nat) (hl : len ≤ 1000000) (hb : D.has i = false ∨ len ≠ 512) :
    Calls Tryd.prog 10 #[.pointer (some ⟨dp, 0, none⟩), .int .i64 i, .slice a len cap] w fun e w' => e = .returned (.int .i64 1) ∧ w = w' := by
  obtain ⟨sb, tm, tn, wv, kv, ss, cs, m, l⟩ := h.dev
  exact write_bad m i a len cap hl hb
theorem flush_in (h : In B Z w dp D) (hw : D.w ≤ 1000000000000) (h0 : 0 ≤ D.f) (h1 : D.f ≤ 1000000000000) :
    Calls Tryd.prog 12 #[.pointer (some ⟨dp, 0, none⟩)] w fun e w' => e = .returned (.int .i64 D.err) ∧ In B Z w' dp D.flush ∧ Step Z Z w w' := by
  refine (flush_any h.dev hw h0 h1).mono ?_
  rintro e w' ⟨rfl, hD, hO⟩
  exact ⟨rfl, h.same hD hO, hO, fun _ _ h => h⟩
theorem crash_in (h : In B Z w dp D) (a : Option Addr) (len cap : Nat) (keep : List Int) (hk : KeepArg w a len keep) (hw : D.w ≤ 1000000000000) :
    Calls Tryd.prog 13 #[.pointer (some ⟨dp, 0, none⟩), .slice a len cap] w fun e w' => e = .returned (.tuple #[]) ∧ In B Z w' dp (D.crash keep) ∧ Step Z Z w w' := by
  refine (crash_any h.dev a len cap keep hk hw).mono ?_
  rintro e w' ⟨rfl, hD, hO⟩
  exact ⟨rfl, h.same hD hO, hO, fun _ _ h => h⟩
def Dev.start (D : Dev) : Dev := { D with down := false }
theorem start_in (h : In B Z w dp D) (hd : D.down = true) :
    Calls Tryd.prog 15 #[.pointer (some ⟨dp, 0, none⟩)] w fun e w' => e = .returned (.int .i64 0) ∧ In B Z w' dp D.start ∧ Step Z Z w w' := by
  obtain ⟨sb, tm, tn, wv, kv, ss, cs, m, l⟩ := h.dev
  refine (start_down m hd).mono ?_
  rintro e w' ⟨rfl, hm, hO⟩
  exact ⟨rfl, h.same ⟨sb, tm, tn, wv, kv, ss, cs, hm, l⟩ hO, hO, fun _ _ h => h⟩
theorem start_no (h : In B Z w dp D) (hd : D.down = false) :
    Calls Tryd.prog 15 #[.pointer (some ⟨dp, 0, none⟩)] w fun e w' => e = .returned (.int .i64 12) ∧ w = w' := by
  obtain ⟨sb, tm, tn, wv, kv, ss, cs, m, l⟩ := h.dev
  exact start_up m hd
theorem down_in (h : In B Z w dp D) : Calls Tryd.prog 8 #[.pointer (some ⟨dp, 0, none⟩)] w fun e w' => e = .returned (.bool D.down) ∧ w = w' := by
  obtain ⟨sb, tm, tn, wv, kv, ss, cs, m, l⟩ := h.dev
  exact down_any m
theorem counts_in (h : In B Z w dp D) : Calls Tryd.prog 9 #[.pointer (some ⟨dp, 0, none⟩)] w fun e w' => e = .returned (.agg #[.int .i64 D.r, .int .i64 D.w, .int .i64 D.f]) ∧ Below w.heap.size w w' := by
  obtain ⟨sb, tm, tn, wv, kv, ss, cs, m, l⟩ := h.dev
  exact counts_any m
theorem read_in (h : In B Z w dp D) (i : Int) (hi : D.has i = true) (hr0 : 0 ≤ D.r) (hr : D.r ≤ 1000000000) (hw : D.w ≤ 1000000000) :
    Calls Tryd.prog 14 #[.pointer (some ⟨dp, 0, none⟩), .int .i64 i] w fun e w' => Gives w w' (D.answer i) e ∧ In B Z w' dp D.read ∧ Step Z Z w w' := by
  refine (read_any h.dev i hi hr0 hr hw h.hi).mono ?_
  rintro e w' ⟨hg, hD, hO⟩
  exact ⟨hg, h.same hD hO, hO, fun _ _ h => h⟩
/-- A Read that answers bytes. -/
theorem read_got (h : In B Z w dp D) (i : Int) (bs : List Int) (ha : D.answer i = (0, some bs)) (hi : D.has i = true) (hr0 : 0 ≤ D.r) (hr : D.r ≤ 1000000000) (hw : D.w ≤ 1000000000) :
    Calls Tryd.prog 14 #[.pointer (some ⟨dp, 0, none⟩), .int .i64 i] w fun e w' => ∃ u, e = .returned (.tuple #[.slice (some ⟨u, 0, none⟩) 512 512, .int .i64 0]) ∧ Free Z w' u bs ∧ bs.length = 512 ∧ w.heap.size ≤ u ∧ In B Z w' dp D.read ∧ Step Z Z w w' := by
  refine (read_in h i hi hr0 hr hw).mono ?_
  rintro e w' ⟨hg, hD, hO⟩
  rw [ha] at hg
  obtain ⟨u, h1, rfl, h2, h3⟩ := hg
  exact ⟨u, rfl, ⟨h2, fun e => by have := h.hi u e; omega⟩, h3, h1, hD, hO⟩
/-- One that answers an error. -/
theorem read_not (h : In B Z w dp D) (i : Int) (x : Int) (ha : D.answer i = (x, none)) (hi : D.has i = true) (hr0 : 0 ≤ D.r) (hr : D.r ≤ 1000000000) (hw : D.w ≤ 1000000000) :
    Calls Tryd.prog 14 #[.pointer (some ⟨dp, 0, none⟩), .int .i64 i] w fun e w' => e = .returned (.tuple #[.slice none 0 0, .int .i64 x]) ∧ In B Z w' dp D.read ∧ Step Z Z w w' := by
  refine (read_in h i hi hr0 hr hw).mono ?_
  rintro e w' ⟨hg, hD, hO⟩
  rw [ha] at hg
  exact ⟨hg, hD, hO⟩
theorem same_yes (g h : Nat) (bs : List Int) (w : World) (hg : Bytes w g bs) (hh : Bytes w h bs) (l : bs.length = 512) :
    Calls Tryd.prog 16 #[.slice (some ⟨g, 0, none⟩) 512 512, .slice (some ⟨h, 0, none⟩) 512 512] w fun e w' => e = .returned (.bool true) ∧ w = w' := by
  refine (same_any g h bs bs w hg hh l l).mono ?_
  rintro e w' ⟨rfl, rfl⟩
  exact ⟨ret_bool (by simp), rfl⟩
theorem sector_in (n : Int) (w : World) : Calls Tryd.prog 11 #[.int .i64 n] w fun e w' => e = .returned (.slice (some ⟨w.heap.size, 0, none⟩) 512 512) ∧ Bytes w' w.heap.size (sec n) ∧ Below w.heap.size w w' := sector_any n w
theorem keep21 (w : World) : KeepArg (w.alloc (.cells #[.int .i64 2, .int .i64 1] 3)) (some ⟨w.heap.size, 0, none⟩) 2 [2, 1] := by
  refine ⟨rfl, by omega, .inr ⟨_, _, rfl, fun i hi => ?_⟩⟩
  have hn := heap_alloc_new w (.cells #[.int .i64 2, .int .i64 1] 3)
  generalize w.alloc (.cells #[.int .i64 2, .int .i64 1] 3) = W at *
  generalize w.heap.size = b at *
  rcases (show i = 0 ∨ i = 1 by omega) with rfl | rfl
  · simp [World.cell?, hn]
  · simp [World.cell?, hn]
theorem KeepArg.none (w : World) : KeepArg w .none 0 [] := ⟨rfl, by omega, .inl rfl⟩
end

/-! ### The small case -/
def q0 : Dev := Dev.fresh 2
def q1 : Dev := q0.write 0 (sec 1)
def q2 : Dev := q1.flush
def q3 : Dev := q2.write 0 (sec 2)
def q4 : Dev := q3.write 1 (sec 3)
def q5 : Dev := q4.crash [2, 1]
def q6 : Dev := q5.read
def q7 : Dev := q6.start
def q8 : Dev := q7.read
def q9 : Dev := q8.read
def q10 : Dev := q9.write 0 (sec 4)
def q11 : Dev := q10.read
theorem a5 : q5.answer 0 = (2, none) := rfl
theorem a7 : q7.answer 0 = (3, none) := rfl
theorem a8 : q8.answer 1 = (0, some (sec 3)) := rfl
theorem a10 : q10.answer 0 = (0, some (sec 4)) := rfl
theorem e0 : q0.err = 0 := rfl
theorem e1 : q1.err = 0 := rfl
theorem e2 : q2.err = 0 := rfl
theorem e3 : q3.err = 0 := rfl
theorem e9 : q9.err = 0 := rfl
theorem d5 : q6.down = true := rfl

set_option maxRecDepth 100000 in
set_option maxHeartbeats 8000000 in
theorem shown_any (w : World) : Calls Tryd.prog 4 #[] w fun e w' => e = .returned (.bool true) ∧ Below w.heap.size w w' := by
  go_enter Tryd.func4, Tryd.ntmps4
  go_wp2_with fail
  refine (new_in _ 2 2 rfl (by omega) (by omega)).mono ?_
  rintro e w0 ⟨dp, Z0, rfl, hI0, hB0⟩
  have H0 := Lib.hid (And.intro (show In _ _ _ dp q0 from hI0) (And.intro (hB0.mono (Nat.le_refl _)) hB0.size))
  clear hI0 hB0
  go_wp2_with fail
  refine (new_bad 0 (.inl (by omega))).mono ?_
  rintro e w' ⟨rfl, rfl⟩
  go_wp2_with fail
  refine (sector_in 1 _).mono ?_
  rintro e u0 ⟨rfl, hb, hl⟩
  have hI := H0.out.1.below hl
  have hF := Free.new hb H0.out.1.hi
  have hB := H0.out.2.1.trans (hl.mono H0.out.2.2)
  have HU := Lib.hid (And.intro hI (And.intro hF (And.intro hB (And.intro (Nat.le_trans H0.out.2.2 hl.size) (Step.of_below Z0 hl)))))
  clear hb hl hI hF hB
  go_wp2_with fail
  refine (write_in (D := q0) HU.out.1 HU.out.2.2.2.1 0 rfl _ (sec 1) HU.out.2.1 (sec_len _) (by decide) (by decide)).mono ?_
  rintro e w1 ⟨Z1, rfl, hI, hS⟩
  rw [show (Dev.err _ : Int) = 0 from e0]
  have hB := HU.out.2.2.1.trans (hS.below HU.out.1.lo HU.out.2.2.2.1)
  have H1 := Lib.hid (And.intro (show In _ _ _ dp q1 from hI) (And.intro hB (Nat.le_trans HU.out.2.2.2.1 hS.out.size)))
  clear hI hS hB HU
  go_wp2_with fail
  refine (flush_in (D := q1) H1.out.1 (by decide) (by decide) (by decide)).mono ?_
  rintro e w2 ⟨rfl, hI, hS⟩
  rw [e1]
  have hB := H1.out.2.1.trans (hS.below H1.out.1.lo H1.out.2.2)
  have H2 := Lib.hid (And.intro (show In _ _ _ dp q2 from hI) (And.intro hB (Nat.le_trans H1.out.2.2 hS.out.size)))
  clear hI hS hB
  go_wp2_with fail
  obtain ⟨Z2, hZ2⟩ : ∃ Z2, Z2 = Z1 := ⟨_, rfl⟩
  rw [← hZ2] at H2
  refine (sector_in 2 _).mono ?_
  rintro e u2 ⟨rfl, hb, hl⟩
  have hI := H2.out.1.below hl
  have hF := Free.new hb H2.out.1.hi
  have hB := H2.out.2.1.trans (hl.mono H2.out.2.2)
  have HU := Lib.hid (And.intro hI (And.intro hF (And.intro hB (And.intro (Nat.le_trans H2.out.2.2 hl.size) (Step.of_below Z2 hl)))))
  clear hb hl hI hF hB
  go_wp2_with fail
  refine (write_in (D := q2) HU.out.1 HU.out.2.2.2.1 0 rfl _ (sec 2) HU.out.2.1 (sec_len _) (by decide) (by decide)).mono ?_
  rintro e w3 ⟨Z3, rfl, hI, hS⟩
  rw [show (Dev.err _ : Int) = 0 from e2]
  have hB := HU.out.2.2.1.trans (hS.below HU.out.1.lo HU.out.2.2.2.1)
  have H3 := Lib.hid (And.intro (show In _ _ _ dp q3 from hI) (And.intro hB (Nat.le_trans HU.out.2.2.2.1 hS.out.size)))
  clear hI hS hB HU
  go_wp2_with fail
  refine (sector_in 3 _).mono ?_
  rintro e u3 ⟨rfl, hb, hl⟩
  have hI := H3.out.1.below hl
  have hF := Free.new hb H3.out.1.hi
  have hB := H3.out.2.1.trans (hl.mono H3.out.2.2)
  have HU := Lib.hid (And.intro hI (And.intro hF (And.intro hB (And.intro (Nat.le_trans H3.out.2.2 hl.size) (Step.of_below Z3 hl)))))
  clear hb hl hI hF hB
  go_wp2_with fail
  refine (write_in (D := q3) HU.out.1 HU.out.2.2.2.1 1 rfl _ (sec 3) HU.out.2.1 (sec_len _) (by decide) (by decide)).mono ?_
  rintro e w4 ⟨Z4, rfl, hI, hS⟩
  rw [show (Dev.err _ : Int) = 0 from e3]
  have hB := HU.out.2.2.1.trans (hS.below HU.out.1.lo HU.out.2.2.2.1)
  have H4 := Lib.hid (And.intro (show In _ _ _ dp q4 from hI) (And.intro hB (Nat.le_trans HU.out.2.2.2.1 hS.out.size)))
  clear hI hS hB HU
  go_wp2_with fail
  have ka := keep21 w4
  have hi4 := H4.out.1.below ((Below.refl _ w4).alloc (Nat.le_refl _) (.cells #[.int .i64 2, .int .i64 1] 3))
  have hs4 : Step Z4 Z4 w4 _ := Step.of_below Z4 ((Below.refl _ w4).alloc (Nat.le_refl _) (.cells #[.int .i64 2, .int .i64 1] 3))
  have HC := Lib.hid (And.intro hi4 (And.intro ka hs4))
  clear hi4 ka hs4
  refine (crash_in (D := q4) HC.out.1 _ _ _ _ HC.out.2.1 (by decide)).mono ?_
  rintro e w5 ⟨rfl, hI, hS0⟩
  have hS := HC.out.2.2.trans hS0
  have hB := H4.out.2.1.trans (hS.below H4.out.1.lo H4.out.2.2)
  have H5 := Lib.hid (And.intro (show In _ _ _ dp q5 from hI) (And.intro hB (Nat.le_trans H4.out.2.2 hS.out.size)))
  clear hI hS0 hS hB HC
  go_wp2_with fail
  refine (read_not (D := q5) H5.out.1 0 2 a5 rfl (by decide) (by decide) (by decide)).mono ?_
  rintro e w6 ⟨rfl, hI, hS⟩
  have hB := H5.out.2.1.trans (hS.below H5.out.1.lo H5.out.2.2)
  have H6 := Lib.hid (And.intro (show In _ _ _ dp q6 from hI) (And.intro hB (Nat.le_trans H5.out.2.2 hS.out.size)))
  clear hI hS hB
  go_wp2_with fail
  refine (start_in (D := q6) H6.out.1 d5).mono ?_
  rintro e w7 ⟨rfl, hI, hS⟩
  have hB := H6.out.2.1.trans (hS.below H6.out.1.lo H6.out.2.2)
  have H7 := Lib.hid (And.intro (show In _ _ _ dp q7 from hI) (And.intro hB (Nat.le_trans H6.out.2.2 hS.out.size)))
  clear hI hS hB
  go_wp2_with fail
  refine (read_not (D := q7) H7.out.1 0 3 a7 rfl (by decide) (by decide) (by decide)).mono ?_
  rintro e w8 ⟨rfl, hI, hS⟩
  have hB := H7.out.2.1.trans (hS.below H7.out.1.lo H7.out.2.2)
  have H8 := Lib.hid (And.intro (show In _ _ _ dp q8 from hI) (And.intro hB (Nat.le_trans H7.out.2.2 hS.out.size)))
  clear hI hS hB
  go_wp2_with fail
  refine (read_got (D := q8) H8.out.1 1 _ a8 rfl (by decide) (by decide) (by decide)).mono ?_
  rintro e w9 ⟨ux, rfl, hF, _, _, hI, hS⟩
  have hB := H8.out.2.1.trans (hS.below H8.out.1.lo H8.out.2.2)
  have H9 := Lib.hid (And.intro (show In _ _ _ dp q9 from hI) (And.intro hB (Nat.le_trans H8.out.2.2 hS.out.size)))
  have FX := Lib.hid hF
  clear hF
  clear hI hS hB
  go_wp2_with fail
  obtain ⟨Z9, hZ9⟩ : ∃ Z9, Z9 = Z4 := ⟨_, rfl⟩
  rw [← hZ9] at H9 FX
  refine (sector_in 4 _).mono ?_
  rintro e u9 ⟨rfl, hb, hl⟩
  have hI := H9.out.1.below hl
  have hF := Free.new hb H9.out.1.hi
  have hB := H9.out.2.1.trans (hl.mono H9.out.2.2)
  have HU := Lib.hid (And.intro hI (And.intro hF (And.intro hB (And.intro (Nat.le_trans H9.out.2.2 hl.size) (Step.of_below Z9 hl)))))
  clear hb hl hI hF hB
  go_wp2_with fail
  refine (write_in (D := q9) HU.out.1 HU.out.2.2.2.1 0 rfl _ (sec 4) HU.out.2.1 (sec_len _) (by decide) (by decide)).mono ?_
  rintro e w10 ⟨Z10, rfl, hI, hS⟩
  rw [show (Dev.err _ : Int) = 0 from e9]
  have hB := HU.out.2.2.1.trans (hS.below HU.out.1.lo HU.out.2.2.2.1)
  have H10 := Lib.hid (And.intro (show In _ _ _ dp q10 from hI) (And.intro hB (Nat.le_trans HU.out.2.2.2.1 hS.out.size)))
  have FX := Lib.hid ((FX.out.step HU.out.2.2.2.2).step hS)
  clear hI hS hB HU
  go_wp2_with fail
  refine (read_got (D := q10) H10.out.1 0 _ a10 rfl (by decide) (by decide) (by decide)).mono ?_
  rintro e w11 ⟨uy, rfl, hF, _, _, hI, hS⟩
  have hB := H10.out.2.1.trans (hS.below H10.out.1.lo H10.out.2.2)
  have H11 := Lib.hid (And.intro (show In _ _ _ dp q11 from hI) (And.intro hB (Nat.le_trans H10.out.2.2 hS.out.size)))
  have FY := Lib.hid hF
  clear hF
  have FX := Lib.hid (FX.out.step hS)
  clear hI hS hB
  go_wp2_with fail
  refine (sector_in 4 _).mono ?_
  rintro e u11 ⟨rfl, hb, hl⟩
  have hI := H11.out.1.below hl
  have hS := Step.of_below Z10 hl
  have hB := H11.out.2.1.trans (hS.below H11.out.1.lo H11.out.2.2)
  have H12 := Lib.hid (And.intro (show In _ _ _ dp q11 from hI) (And.intro hB (Nat.le_trans H11.out.2.2 hS.out.size)))
  have FX := Lib.hid (FX.out.step hS)
  have FY := Lib.hid (FY.out.step hS)
  clear hI hS hB hb hl
  go_wp2_with fail
  refine (write_no (D := q11) H12.out.1 2 _ _ _ (by omega) (.inl rfl)).mono ?_
  rintro e w' ⟨rfl, rfl⟩
  go_wp2_with fail
  refine (write_no (D := q11) H12.out.1 0 _ _ _ (by omega) (.inr (by omega))).mono ?_
  rintro e w' ⟨rfl, rfl⟩
  go_wp2_with fail
  refine (counts_in (D := q11) H12.out.1).mono ?_
  rintro e w13 ⟨rfl, hl⟩
  have hS := Step.of_below Z10 hl
  have hB := H12.out.2.1.trans (hl.mono H12.out.2.2)
  have H13 := Lib.hid (And.intro hB (Nat.le_trans H12.out.2.2 hl.size))
  have FX := Lib.hid (FX.out.step hS)
  have FY := Lib.hid (FY.out.step hS)
  clear hS hB hl
  rw [show q11.r = 3 from rfl, show q11.w = 4 from rfl, show q11.f = 1 from rfl]
  go_wp2_with fail
  refine (sector_in 3 _).mono ?_
  rintro e u14 ⟨rfl, hb, hl⟩
  have hl0 := (Below.refl w13.heap.size w13).alloc (Nat.le_refl _) (.cells #[.int .i64 3, .int .i64 4, .int .i64 1] 34)
  have ht := heap_alloc_new w13 (.cells #[.int .i64 3, .int .i64 4, .int .i64 1] 34)
  have ht2 := (hl.block w13.heap.size (by simp)).trans ht
  have hS := (Step.of_below Z10 hl0).trans (Step.of_below Z10 hl)
  have hB := H13.out.1.trans ((hl0.mono H13.out.2).trans (hl.mono (Nat.le_trans H13.out.2 hl0.size)))
  have hsz := Nat.le_trans H13.out.2 (Nat.le_trans hl0.size hl.size)
  have hlt := Nat.lt_of_lt_of_le (show w13.heap.size < (w13.alloc (.cells #[.int .i64 3, .int .i64 4, .int .i64 1] 34)).heap.size by simp) hl.size
  rw [World.size_alloc] at hb
  have H14 := Lib.hid (And.intro hB (And.intro hsz (And.intro hb (And.intro ht2 hlt))))
  have FX := Lib.hid (FX.out.step hS)
  have FY := Lib.hid (FY.out.step hS)
  clear hS hB hl0 hl hb ht ht2 hsz hlt
  go_wp2_with fail
  refine (same_yes _ _ _ _ FX.out.bytes H14.out.2.2.1 (sec_len _)).mono ?_
  rintro e w' ⟨rfl, rfl⟩
  go_wp2_with fail
  refine (sector_in 4 _).mono ?_
  rintro e u15 ⟨rfl, hb, hl⟩
  have ht2 := (hl.block w13.heap.size H14.out.2.2.2.2).trans H14.out.2.2.2.1
  have t0 : u15.cell? ⟨w13.heap.size, 0, none⟩ = some (.int .i64 3) := by simp [World.cell?, ht2]
  have t1 : u15.cell? ⟨w13.heap.size, 1, none⟩ = some (.int .i64 4) := by simp [World.cell?, ht2]
  have t2 : u15.cell? ⟨w13.heap.size, 2, none⟩ = some (.int .i64 1) := by simp [World.cell?, ht2]
  have H15 := Lib.hid (And.intro (H14.out.1.trans (hl.mono H14.out.2.1)) hb)
  have FY := Lib.hid (FY.out.step (Step.of_below Z10 hl))
  clear hl hb ht2
  go_wp2_with fail
  refine (same_yes _ _ _ _ FY.out.bytes H15.out.2 (sec_len _)).mono ?_
  rintro e w' ⟨rfl, rfl⟩
  go_wp2_with fail
  go_ret
  exact ⟨rfl, H15.out.1⟩
end Go.Proofs.YthdgfhkihhamnaaDoor
