/-
  PROVED HERE: what a step of the law does, and tells.
-/
import Derived.Test.YthdgfhkihhamnaaDoorPair
import Derived.Test.YthdgfhkihhamnaaDoorSays
import Derived.Deep.RegionHeld3
import Derived.Deep.Grids
namespace Go.Proofs.YthdgfhkihhamnaaDoor
open Go.ChangeShapes Go.WideShapes Go.ChangeAt Go.RowKit
set_option linter.unusedVariables false

structure St where
  kind : Int
  at' : Int
  data : Int
  keep : List Int
def Dev.go (D : Dev) (s : St) : Dev :=
  if s.kind = 1 ∨ s.kind = 2 then (if D.has s.at' = true then D.read else D)
  else if s.kind = 3 ∨ s.kind = 4 then (if D.has s.at' = true then D.write s.at' (sec s.data) else D)
  else if s.kind = 5 then D.flush
  else if s.kind = 6 then D.crash s.keep
  else if s.kind = 7 then D.arm s.at' s.keep
  else if s.kind = 8 then (if D.down = true then D.start else D)
  else D
def Dev.gives (D : Dev) (s : St) : Int × Option (List Int) :=
  if s.kind = 1 ∨ s.kind = 2 then (if D.has s.at' = true then D.answer s.at' else (1, none))
  else if s.kind = 3 ∨ s.kind = 4 then (if D.has s.at' = true then D.err else 1, none)
  else if s.kind = 5 then (D.err, none)
  else if s.kind = 8 then (if D.down = true then 0 else 12, none)
  else (0, none)
def words (x : Int) : Option (List Int) → ByteArray
  | none => etxt x
  | some bs => txt bs ++ etxt x
def Dev.text (D : Dev) (s : St) : ByteArray := words (D.gives s).1 (D.gives s).2
def Keeps (w : World) (a : Option Addr) (len cap : Nat) (keep : List Int) : Prop := ∀ W, Below w.heap.size w W → KeepArg W a len keep ∧ ArmArg W a len cap keep
theorem conv_zero (p : Option Addr) (c : Nat) (W : World) : (convert 38 9 (.slice p 0 c)).run Tryd.prog W = .ok (.string ByteArray.empty) W := by
  rw [run_convert_bytes_string (P := Tryd.prog) W 38 9 5 p 0 c Tryd.underlying38 Tryd.underlying5 Tryd.underlying9]
  cases p <;> simp [Conv.bytesToString, Sem.run_pure] <;> rfl
theorem conv_full (g : Nat) (bs : List Int) (W : World) (h : Bytes W g bs) (hl : bs.length = 512) : (convert 38 9 (.slice (some ⟨g, 0, none⟩) 512 512)).run Tryd.prog W = .ok (.string (txt bs)) W :=
  (run_convert_bytes_string (P := Tryd.prog) W 38 9 5 (some ⟨g, 0, none⟩) 512 512 Tryd.underlying38 Tryd.underlying5 Tryd.underlying9).trans (run_bytesToString W ⟨g, 0, none⟩ 512 512 bs (loads h hl))
theorem quiet_left {P : Program} {f : FuncId} {args : Array Value} {w : World} {n : Nat} {v : Value}
    (h : Calls P f args (w.drewN n) fun e w' => e = .returned v ∧ w.drewN n = w') : Calls P f args (w.drewN n) fun e w'' => e = .returned v ∧ ∃ m, w'' = w.drewN m :=
  h.mono fun _ _ ⟨he, hm⟩ => ⟨he, n, hm.symm⟩
theorem told0 : Told 0 := .inl rfl
theorem told1 : Told 1 := .inr (.inl rfl)
theorem told12 : Told 12 := .inr (.inr (.inr (.inr rfl)))
theorem push_size (b : ByteArray) (c : UInt8) : (b.push c).size = b.size + 1 := ByteArray.size_push
theorem foldl_size (l : List Int) : ∀ r : ByteArray, (l.foldl (fun r n => r.push (UInt8.ofNat n.toNat)) r).size = r.size + l.length := by
  induction l with
  | nil => intro r; rfl
  | cons x l ih => intro r; rw [List.foldl_cons, ih, push_size, List.length_cons]; omega
theorem txt_size (bs : List Int) : (txt bs).size = bs.length := by unfold txt; rw [foldl_size]; simp
theorem answer_told (D : Dev) (i : Int) : Told (D.answer i).1 := by
  unfold Dev.answer
  split
  · exact .inr (.inr (.inl rfl))
  · split
    · exact .inl rfl
    · split
      · exact .inr (.inr (.inr (.inl rfl)))
      · exact .inl rfl
theorem answer_some (D : Dev) (i : Int) (bs : List Int) (h : (D.answer i).2 = some bs) : D.answer i = (0, some bs) := by
  unfold Dev.answer at h ⊢
  split
  · rename_i c; rw [if_pos c] at h; cases h
  · rename_i c
    rw [if_neg c] at h
    split
    · rename_i e; rw [e] at h; cases h; rfl
    · rename_i e
      rw [e] at h
      by_cases c2 : D.begin.torn i = true
      · rw [if_pos c2] at h; cases h
      · rw [if_neg c2] at h ⊢; dsimp only at h; rw [h]
theorem err_told (D : Dev) : Told D.err := by
  unfold Dev.err
  split
  · exact .inr (.inr (.inl rfl))
  · exact .inl rfl
section
variable {B : Nat} {Z : Nat → Prop} {w : World} {dp : Nat} {D : Dev}
theorem In.drewN (h : In B Z w dp D) (n : Nat) : In B Z (w.drewN n) dp D := h.below ⟨rfl, rfl, rfl, Nat.le_refl _, fun _ _ => rfl⟩
theorem Step.drewN {Z' : Nat → Prop} {w' : World} (h : Step Z Z' w w') (n : Nat) : Step Z Z' w (w'.drewN n) :=
  h.trans (Step.of_below Z' ⟨rfl, rfl, rfl, Nat.le_refl _, fun _ _ => rfl⟩)
/-- The step's box and the empty slice. -/
theorem boxed_in (h : In B Z w dp D) (x y : Obj) : In B Z ((w.alloc x).alloc y) dp D ∧ Step Z Z w ((w.alloc x).alloc y) :=
  have hb := ((Below.refl _ w).alloc (Nat.le_refl _) x).alloc (by simp) y
  ⟨h.below hb, Step.of_below Z hb⟩
theorem sec_made {W1 u : World} {bs : List Int} (h1 : In B Z W1 dp D) (h2 : Step Z Z w W1) (hB : B ≤ w.heap.size) (hs : W1.heap.size = w.heap.size + 2) (hb : Bytes u W1.heap.size bs) (hl : Below W1.heap.size W1.drew u) :
    In B Z u dp D ∧ Free Z u W1.heap.size bs ∧ B ≤ u.heap.size ∧ w.heap.size < u.heap.size ∧ Step Z Z w u ∧ ∀ j, u.cell? ⟨w.heap.size, j, none⟩ = W1.cell? ⟨w.heap.size, j, none⟩ := by
  have hd : Below W1.heap.size W1 W1.drew := (Below.refl _ W1).drew
  have hz : W1.heap.size ≤ u.heap.size := hl.size
  exact ⟨(h1.below hd).below hl, Free.new (w := W1) hb h1.hi, by omega, by omega, (h2.trans (Step.of_below Z hd)).trans (Step.of_below Z hl), fun j => hl.cell (p := ⟨w.heap.size, j, none⟩) (by simp only; omega)⟩
theorem box_keep {u w4 : World} {Z' : Nat → Prop} {j : Nat} {v : Value} (h : In B Z w dp D) (hS : Step Z Z' u w4) (hlt : w.heap.size < u.heap.size) (k : u.cell? ⟨w.heap.size, j, none⟩ = some v) : w4.cell? ⟨w.heap.size, j, none⟩ = some v :=
  (World.cell?_of_block (a := ⟨w.heap.size, j, none⟩) (hS.out.block _ hlt (fun e => Nat.lt_irrefl _ (h.hi _ e)))).trans k
set_option maxHeartbeats 4000000 in
theorem does5 (h : In B Z w dp D) (hB : B ≤ w.heap.size) (a0 b0 c0 : Int) (od : Bool) (ka : Option Addr) (kl kc : Nat) (hw0 : 0 ≤ D.w) (hw : D.w ≤ 1000000) (hr0 : 0 ≤ D.r) (hr : D.r ≤ 1000000) (hf0 : 0 ≤ D.f) (hf : D.f ≤ 1000000) :
    Calls Tryd.prog 6 #[.pointer (some ⟨dp, 0, none⟩), .agg #[.int .i64 5, .int .i64 a0, .int .i64 b0, .int .i64 c0, .bool od, .slice ka kl kc]] w fun e w' => ∃ Z', e = .returned (.string (etxt D.err)) ∧ In B Z' w' dp (D.flush) ∧ Step Z Z' w w' := by
  obtain ⟨h1, h2⟩ := boxed_in h (.cells #[.int .i64 5, .int .i64 a0, .int .i64 b0, .int .i64 c0, .bool od, .slice ka kl kc] 31) (.cells #[] 5)
  have H1 := Lib.hid h1
  have H2 := Lib.hid h2
  have HE := Lib.hid (err_told D)
  have hz := etxt_size (D.err)
  clear h1 h2
  go_enter Tryd.func6, Tryd.ntmps6
  go_wp2_with fail
  refine (flush_in H1.out (by omega) hf0 (by omega)).mono ?_
  rintro e w1 ⟨rfl, hI, hS⟩
  have HI := Lib.hid (And.intro hI (H2.out.trans hS))
  have hcv := fun W => conv_zero (some ⟨w.heap.size + 1, 0, none⟩) 0 W
  clear hI hS H1 H2
  go_wp2_with fail
  go_quiet ((go_at_call 18; exact quiet_left (error_any _ _ HE.out)))
  go_wp2
  go_ret
  exact ⟨_, rfl, HI.out.1.drewN _, HI.out.2.drewN _⟩
set_option maxHeartbeats 4000000 in
theorem does6 (h : In B Z w dp D) (hB : B ≤ w.heap.size) (a0 b0 c0 : Int) (od : Bool) (ka : Option Addr) (kl kc : Nat) (hw0 : 0 ≤ D.w) (hw : D.w ≤ 1000000) (hr0 : 0 ≤ D.r) (hr : D.r ≤ 1000000) (hf0 : 0 ≤ D.f) (hf : D.f ≤ 1000000) (keep : List Int) (hk : Keeps w ka kl kc keep) :
    Calls Tryd.prog 6 #[.pointer (some ⟨dp, 0, none⟩), .agg #[.int .i64 6, .int .i64 a0, .int .i64 b0, .int .i64 c0, .bool od, .slice ka kl kc]] w fun e w' => ∃ Z', e = .returned (.string (etxt 0)) ∧ In B Z' w' dp (D.crash keep) ∧ Step Z Z' w w' := by
  obtain ⟨h1, h2⟩ := boxed_in h (.cells #[.int .i64 6, .int .i64 a0, .int .i64 b0, .int .i64 c0, .bool od, .slice ka kl kc] 31) (.cells #[] 5)
  have H1 := Lib.hid h1
  have H2 := Lib.hid h2
  have HE := Lib.hid (told0)
  have hz := etxt_size (0)
  clear h1 h2
  have HK := Lib.hid hk
  clear hk
  go_enter Tryd.func6, Tryd.ntmps6
  go_wp2_with fail
  refine (crash_in H1.out ka kl kc keep (HK.out _ (((Below.refl _ w).alloc (Nat.le_refl _) _).alloc (by simp) _)).1 (by omega)).mono ?_
  rintro e w1 ⟨rfl, hI, hS⟩
  have HI := Lib.hid (And.intro hI (H2.out.trans hS))
  have hcv := fun W => conv_zero (some ⟨w.heap.size + 1, 0, none⟩) 0 W
  clear hI hS H1 H2
  go_wp2_with fail
  go_quiet ((go_at_call 18; exact quiet_left (error_any _ _ HE.out)))
  go_wp2
  go_ret
  exact ⟨_, rfl, HI.out.1.drewN _, HI.out.2.drewN _⟩
set_option maxHeartbeats 4000000 in
theorem does7 (h : In B Z w dp D) (hB : B ≤ w.heap.size) (a0 b0 c0 : Int) (od : Bool) (ka : Option Addr) (kl kc : Nat) (hw0 : 0 ≤ D.w) (hw : D.w ≤ 1000000) (hr0 : 0 ≤ D.r) (hr : D.r ≤ 1000000) (hf0 : 0 ≤ D.f) (hf : D.f ≤ 1000000) (ha0 : -9223372036854775808 ≤ a0) (ha1 : a0 ≤ 9223372036854775807) (keep : List Int) (hk : Keeps w ka kl kc keep) :
    Calls Tryd.prog 6 #[.pointer (some ⟨dp, 0, none⟩), .agg #[.int .i64 7, .int .i64 a0, .int .i64 b0, .int .i64 c0, .bool od, .slice ka kl kc]] w fun e w' => ∃ Z', e = .returned (.string (etxt 0)) ∧ In B Z' w' dp (D.arm a0 keep) ∧ Step Z Z' w w' := by
  obtain ⟨h1, h2⟩ := boxed_in h (.cells #[.int .i64 7, .int .i64 a0, .int .i64 b0, .int .i64 c0, .bool od, .slice ka kl kc] 31) (.cells #[] 5)
  have H1 := Lib.hid h1
  have H2 := Lib.hid h2
  have HE := Lib.hid (told0)
  have hz := etxt_size (0)
  clear h1 h2
  have HK := Lib.hid hk
  clear hk
  go_enter Tryd.func6, Tryd.ntmps6
  go_wp2_with fail
  refine (arm_in H1.out (by simp; omega) a0 ha0 ha1 ka kl kc keep (HK.out _ (((Below.refl _ w).alloc (Nat.le_refl _) _).alloc (by simp) _)).2).mono ?_
  rintro e w1 ⟨Z', rfl, hI, hS⟩
  have HI := Lib.hid (And.intro hI (H2.out.trans hS))
  have hcv := fun W => conv_zero (some ⟨w.heap.size + 1, 0, none⟩) 0 W
  clear hI hS H1 H2
  go_wp2_with fail
  go_quiet ((go_at_call 18; exact quiet_left (error_any _ _ HE.out)))
  go_wp2
  go_ret
  exact ⟨_, rfl, HI.out.1.drewN _, HI.out.2.drewN _⟩
set_option maxHeartbeats 4000000 in
theorem does8y (h : In B Z w dp D) (hB : B ≤ w.heap.size) (a0 b0 c0 : Int) (od : Bool) (ka : Option Addr) (kl kc : Nat) (hw0 : 0 ≤ D.w) (hw : D.w ≤ 1000000) (hr0 : 0 ≤ D.r) (hr : D.r ≤ 1000000) (hf0 : 0 ≤ D.f) (hf : D.f ≤ 1000000) (hd : D.down = true) :
    Calls Tryd.prog 6 #[.pointer (some ⟨dp, 0, none⟩), .agg #[.int .i64 8, .int .i64 a0, .int .i64 b0, .int .i64 c0, .bool od, .slice ka kl kc]] w fun e w' => ∃ Z', e = .returned (.string (etxt 0)) ∧ In B Z' w' dp (D.start) ∧ Step Z Z' w w' := by
  obtain ⟨h1, h2⟩ := boxed_in h (.cells #[.int .i64 8, .int .i64 a0, .int .i64 b0, .int .i64 c0, .bool od, .slice ka kl kc] 31) (.cells #[] 5)
  have H1 := Lib.hid h1
  have H2 := Lib.hid h2
  have HE := Lib.hid (told0)
  have hz := etxt_size (0)
  clear h1 h2
  have HD := Lib.hid hd
  clear hd
  go_enter Tryd.func6, Tryd.ntmps6
  go_wp2_with fail
  refine (start_in H1.out HD.out).mono ?_
  rintro e w1 ⟨rfl, hI, hS⟩
  have HI := Lib.hid (And.intro hI (H2.out.trans hS))
  have hcv := fun W => conv_zero (some ⟨w.heap.size + 1, 0, none⟩) 0 W
  clear hI hS H1 H2
  go_wp2_with fail
  go_quiet ((go_at_call 18; exact quiet_left (error_any _ _ HE.out)))
  go_wp2
  go_ret
  exact ⟨_, rfl, HI.out.1.drewN _, HI.out.2.drewN _⟩
set_option maxHeartbeats 4000000 in
theorem does8n (h : In B Z w dp D) (hB : B ≤ w.heap.size) (a0 b0 c0 : Int) (od : Bool) (ka : Option Addr) (kl kc : Nat) (hw0 : 0 ≤ D.w) (hw : D.w ≤ 1000000) (hr0 : 0 ≤ D.r) (hr : D.r ≤ 1000000) (hf0 : 0 ≤ D.f) (hf : D.f ≤ 1000000) (hd : D.down = false) :
    Calls Tryd.prog 6 #[.pointer (some ⟨dp, 0, none⟩), .agg #[.int .i64 8, .int .i64 a0, .int .i64 b0, .int .i64 c0, .bool od, .slice ka kl kc]] w fun e w' => ∃ Z', e = .returned (.string (etxt 12)) ∧ In B Z' w' dp (D) ∧ Step Z Z' w w' := by
  obtain ⟨h1, h2⟩ := boxed_in h (.cells #[.int .i64 8, .int .i64 a0, .int .i64 b0, .int .i64 c0, .bool od, .slice ka kl kc] 31) (.cells #[] 5)
  have H1 := Lib.hid h1
  have H2 := Lib.hid h2
  have HE := Lib.hid (told12)
  have hz := etxt_size (12)
  clear h1 h2
  have HD := Lib.hid hd
  clear hd
  go_enter Tryd.func6, Tryd.ntmps6
  go_wp2_with fail
  refine (start_no H1.out HD.out).mono ?_
  rintro e w1 ⟨rfl, rfl⟩
  have HI := Lib.hid (And.intro H1.out H2.out)
  have hcv := fun W => conv_zero (some ⟨w.heap.size + 1, 0, none⟩) 0 W
  clear H1 H2
  go_wp2_with fail
  go_quiet ((go_at_call 18; exact quiet_left (error_any _ _ HE.out)))
  go_wp2
  go_ret
  exact ⟨_, rfl, HI.out.1.drewN _, HI.out.2.drewN _⟩
set_option maxHeartbeats 4000000 in
theorem does0 (h : In B Z w dp D) (hB : B ≤ w.heap.size) (k a0 b0 c0 : Int) (od : Bool) (ka : Option Addr) (kl kc : Nat) (hw0 : 0 ≤ D.w) (hw : D.w ≤ 1000000) (hr0 : 0 ≤ D.r) (hr : D.r ≤ 1000000) (hf0 : 0 ≤ D.f) (hf : D.f ≤ 1000000) (hk : k < 1 ∨ 8 < k) :
    Calls Tryd.prog 6 #[.pointer (some ⟨dp, 0, none⟩), .agg #[.int .i64 k, .int .i64 a0, .int .i64 b0, .int .i64 c0, .bool od, .slice ka kl kc]] w fun e w' => ∃ Z', e = .returned (.string (etxt 0)) ∧ In B Z' w' dp (D) ∧ Step Z Z' w w' := by
  obtain ⟨h1, h2⟩ := boxed_in h (.cells #[.int .i64 k, .int .i64 a0, .int .i64 b0, .int .i64 c0, .bool od, .slice ka kl kc] 31) (.cells #[] 5)
  have H1 := Lib.hid h1
  have H2 := Lib.hid h2
  have HE := Lib.hid (told0)
  have hz := etxt_size (0)
  clear h1 h2
  have e1 : (k == 1) = false := by rw [beq_eq_false_iff_ne]; omega
  have e2 : (k == 2) = false := by rw [beq_eq_false_iff_ne]; omega
  have e3 : (k == 3) = false := by rw [beq_eq_false_iff_ne]; omega
  have e4 : (k == 4) = false := by rw [beq_eq_false_iff_ne]; omega
  have e5 : (k == 5) = false := by rw [beq_eq_false_iff_ne]; omega
  have e6 : (k == 6) = false := by rw [beq_eq_false_iff_ne]; omega
  have e7 : (k == 7) = false := by rw [beq_eq_false_iff_ne]; omega
  have e8 : (k == 8) = false := by rw [beq_eq_false_iff_ne]; omega
  clear hk
  go_enter Tryd.func6, Tryd.ntmps6
  go_wp2_with fail
  have HI := Lib.hid (And.intro H1.out H2.out)
  have hcv := fun W => conv_zero (some ⟨w.heap.size + 1, 0, none⟩) 0 W
  clear H1 H2
  go_wp2_with fail
  go_quiet ((go_at_call 18; exact quiet_left (error_any _ _ HE.out)))
  go_wp2
  go_ret
  exact ⟨_, rfl, HI.out.1.drewN _, HI.out.2.drewN _⟩
set_option maxHeartbeats 4000000 in
theorem does1n (h : In B Z w dp D) (hB : B ≤ w.heap.size) (a0 b0 c0 : Int) (od : Bool) (ka : Option Addr) (kl kc : Nat) (hw0 : 0 ≤ D.w) (hw : D.w ≤ 1000000) (hr0 : 0 ≤ D.r) (hr : D.r ≤ 1000000) (hf0 : 0 ≤ D.f) (hf : D.f ≤ 1000000) (hh : D.has a0 = true) (x : Int) (hx : Told x) (ha : D.answer a0 = (x, none)) :
    Calls Tryd.prog 6 #[.pointer (some ⟨dp, 0, none⟩), .agg #[.int .i64 1, .int .i64 a0, .int .i64 b0, .int .i64 c0, .bool od, .slice ka kl kc]] w fun e w' => ∃ Z', e = .returned (.string (etxt x)) ∧ In B Z' w' dp (D.read) ∧ Step Z Z' w w' := by
  obtain ⟨h1, h2⟩ := boxed_in h (.cells #[.int .i64 1, .int .i64 a0, .int .i64 b0, .int .i64 c0, .bool od, .slice ka kl kc] 31) (.cells #[] 5)
  have H1 := Lib.hid h1
  have H2 := Lib.hid h2
  have HE := Lib.hid hx
  have hz := etxt_size (x)
  clear h1 h2
  have HA := Lib.hid (And.intro hh ha)
  clear hh ha hx
  go_enter Tryd.func6, Tryd.ntmps6
  go_wp2_with fail
  refine (read_not H1.out a0 x HA.out.2 HA.out.1 hr0 (by omega) (by omega)).mono ?_
  rintro e w1 ⟨rfl, hI, hS⟩
  have HI := Lib.hid (And.intro hI (H2.out.trans hS))
  have hcv := fun W => conv_zero none 0 W
  clear hI hS H1 H2
  go_wp2_with fail
  go_quiet ((go_at_call 18; exact quiet_left (error_any _ _ HE.out)))
  go_wp2
  go_ret
  exact ⟨_, rfl, HI.out.1.drewN _, HI.out.2.drewN _⟩
set_option maxHeartbeats 4000000 in
theorem does1b (h : In B Z w dp D) (hB : B ≤ w.heap.size) (a0 b0 c0 : Int) (od : Bool) (ka : Option Addr) (kl kc : Nat) (hw0 : 0 ≤ D.w) (hw : D.w ≤ 1000000) (hr0 : 0 ≤ D.r) (hr : D.r ≤ 1000000) (hf0 : 0 ≤ D.f) (hf : D.f ≤ 1000000) (hh : D.has a0 = false) :
    Calls Tryd.prog 6 #[.pointer (some ⟨dp, 0, none⟩), .agg #[.int .i64 1, .int .i64 a0, .int .i64 b0, .int .i64 c0, .bool od, .slice ka kl kc]] w fun e w' => ∃ Z', e = .returned (.string (etxt 1)) ∧ In B Z' w' dp (D) ∧ Step Z Z' w w' := by
  obtain ⟨h1, h2⟩ := boxed_in h (.cells #[.int .i64 1, .int .i64 a0, .int .i64 b0, .int .i64 c0, .bool od, .slice ka kl kc] 31) (.cells #[] 5)
  have H1 := Lib.hid h1
  have H2 := Lib.hid h2
  have HE := Lib.hid (told1)
  have hz := etxt_size (1)
  clear h1 h2
  have HA := Lib.hid hh
  clear hh
  go_enter Tryd.func6, Tryd.ntmps6
  go_wp2_with fail
  refine (read_bad H1.out.dev a0 HA.out).mono ?_
  rintro e w1 ⟨rfl, hb⟩
  have HI := Lib.hid (And.intro (H1.out.below hb) (H2.out.trans (Step.of_below Z hb)))
  have hcv := fun W => conv_zero none 0 W
  clear hb H1 H2
  go_wp2_with fail
  go_quiet ((go_at_call 18; exact quiet_left (error_any _ _ HE.out)))
  go_wp2
  go_ret
  exact ⟨_, rfl, HI.out.1.drewN _, HI.out.2.drewN _⟩
set_option maxHeartbeats 4000000 in
theorem does1s (h : In B Z w dp D) (hB : B ≤ w.heap.size) (a0 b0 c0 : Int) (od : Bool) (ka : Option Addr) (kl kc : Nat) (hw0 : 0 ≤ D.w) (hw : D.w ≤ 1000000) (hr0 : 0 ≤ D.r) (hr : D.r ≤ 1000000) (hf0 : 0 ≤ D.f) (hf : D.f ≤ 1000000) (hh : D.has a0 = true) (bs : List Int) (ha : D.answer a0 = (0, some bs)) :
    Calls Tryd.prog 6 #[.pointer (some ⟨dp, 0, none⟩), .agg #[.int .i64 1, .int .i64 a0, .int .i64 b0, .int .i64 c0, .bool od, .slice ka kl kc]] w fun e w' => ∃ Z', e = .returned (.string (txt bs ++ etxt 0)) ∧ In B Z' w' dp (D.read) ∧ Step Z Z' w w' := by
  obtain ⟨h1, h2⟩ := boxed_in h (.cells #[.int .i64 1, .int .i64 a0, .int .i64 b0, .int .i64 c0, .bool od, .slice ka kl kc] 31) (.cells #[] 5)
  have H1 := Lib.hid h1
  have H2 := Lib.hid h2
  have HE := Lib.hid (told0)
  have hz := etxt_size (0)
  clear h1 h2
  have HA := Lib.hid (And.intro hh ha)
  clear hh ha
  go_enter Tryd.func6, Tryd.ntmps6
  go_wp2_with fail
  refine (read_got H1.out a0 bs HA.out.2 HA.out.1 hr0 (by omega) (by omega)).mono ?_
  rintro e w1 ⟨u, rfl, hF, hl, _, hI, hS⟩
  have HI := Lib.hid (And.intro hI (H2.out.trans hS))
  have hcv : ∀ n, (convert 38 9 (.slice (some ⟨u, 0, none⟩) 512 512)).run Tryd.prog (w1.drewN n) = .ok (.string (txt bs)) (w1.drewN n) := fun n => conv_full u bs _ hF.bytes hl
  have hcv0 := conv_full u bs w1 hF.bytes hl
  have hts := txt_size bs
  rw [hl] at hts
  have hts2 : (txt bs).size ≤ 512 := by omega
  clear hI hS H1 H2 hF hl hts
  go_wp2_with fail
  go_quiet ((go_at_call 18; exact quiet_left (error_any _ _ HE.out)))
  go_wp2
  go_ret
  exact ⟨_, rfl, HI.out.1.drewN _, HI.out.2.drewN _⟩
set_option maxHeartbeats 4000000 in
theorem does2n (h : In B Z w dp D) (hB : B ≤ w.heap.size) (a0 b0 c0 : Int) (od : Bool) (ka : Option Addr) (kl kc : Nat) (hw0 : 0 ≤ D.w) (hw : D.w ≤ 1000000) (hr0 : 0 ≤ D.r) (hr : D.r ≤ 1000000) (hf0 : 0 ≤ D.f) (hf : D.f ≤ 1000000) (hh : D.has a0 = true) (x : Int) (hx : Told x) (ha : D.answer a0 = (x, none)) :
    Calls Tryd.prog 6 #[.pointer (some ⟨dp, 0, none⟩), .agg #[.int .i64 2, .int .i64 a0, .int .i64 b0, .int .i64 c0, .bool od, .slice ka kl kc]] w fun e w' => ∃ Z', e = .returned (.string (etxt x)) ∧ In B Z' w' dp (D.read) ∧ Step Z Z' w w' := by
  obtain ⟨h1, h2⟩ := boxed_in h (.cells #[.int .i64 2, .int .i64 a0, .int .i64 b0, .int .i64 c0, .bool od, .slice ka kl kc] 31) (.cells #[] 5)
  have H1 := Lib.hid h1
  have H2 := Lib.hid h2
  have HE := Lib.hid hx
  have hz := etxt_size (x)
  clear h1 h2
  have HA := Lib.hid (And.intro hh ha)
  clear hh ha hx
  go_enter Tryd.func6, Tryd.ntmps6
  go_wp2_with fail
  refine (read_not H1.out a0 x HA.out.2 HA.out.1 hr0 (by omega) (by omega)).mono ?_
  rintro e w1 ⟨rfl, hI, hS⟩
  have HI := Lib.hid (And.intro hI (H2.out.trans hS))
  have hcv := fun W => conv_zero none 0 W
  clear hI hS H1 H2
  go_wp2_with fail
  go_quiet ((go_at_call 18; exact quiet_left (error_any _ _ HE.out)))
  go_wp2
  go_ret
  exact ⟨_, rfl, HI.out.1.drewN _, HI.out.2.drewN _⟩
set_option maxHeartbeats 4000000 in
theorem does2b (h : In B Z w dp D) (hB : B ≤ w.heap.size) (a0 b0 c0 : Int) (od : Bool) (ka : Option Addr) (kl kc : Nat) (hw0 : 0 ≤ D.w) (hw : D.w ≤ 1000000) (hr0 : 0 ≤ D.r) (hr : D.r ≤ 1000000) (hf0 : 0 ≤ D.f) (hf : D.f ≤ 1000000) (hh : D.has a0 = false) :
    Calls Tryd.prog 6 #[.pointer (some ⟨dp, 0, none⟩), .agg #[.int .i64 2, .int .i64 a0, .int .i64 b0, .int .i64 c0, .bool od, .slice ka kl kc]] w fun e w' => ∃ Z', e = .returned (.string (etxt 1)) ∧ In B Z' w' dp (D) ∧ Step Z Z' w w' := by
  obtain ⟨h1, h2⟩ := boxed_in h (.cells #[.int .i64 2, .int .i64 a0, .int .i64 b0, .int .i64 c0, .bool od, .slice ka kl kc] 31) (.cells #[] 5)
  have H1 := Lib.hid h1
  have H2 := Lib.hid h2
  have HE := Lib.hid (told1)
  have hz := etxt_size (1)
  clear h1 h2
  have HA := Lib.hid hh
  clear hh
  go_enter Tryd.func6, Tryd.ntmps6
  go_wp2_with fail
  refine (read_bad H1.out.dev a0 HA.out).mono ?_
  rintro e w1 ⟨rfl, hb⟩
  have HI := Lib.hid (And.intro (H1.out.below hb) (H2.out.trans (Step.of_below Z hb)))
  have hcv := fun W => conv_zero none 0 W
  clear hb H1 H2
  go_wp2_with fail
  go_quiet ((go_at_call 18; exact quiet_left (error_any _ _ HE.out)))
  go_wp2
  go_ret
  exact ⟨_, rfl, HI.out.1.drewN _, HI.out.2.drewN _⟩
set_option maxHeartbeats 4000000 in
theorem does2s (h : In B Z w dp D) (hB : B ≤ w.heap.size) (a0 b0 c0 : Int) (od : Bool) (ka : Option Addr) (kl kc : Nat) (hw0 : 0 ≤ D.w) (hw : D.w ≤ 1000000) (hr0 : 0 ≤ D.r) (hr : D.r ≤ 1000000) (hf0 : 0 ≤ D.f) (hf : D.f ≤ 1000000) (hh : D.has a0 = true) (bs : List Int) (ha : D.answer a0 = (0, some bs)) :
    Calls Tryd.prog 6 #[.pointer (some ⟨dp, 0, none⟩), .agg #[.int .i64 2, .int .i64 a0, .int .i64 b0, .int .i64 c0, .bool od, .slice ka kl kc]] w fun e w' => ∃ Z', e = .returned (.string (txt bs ++ etxt 0)) ∧ In B Z' w' dp (D.read) ∧ Step Z Z' w w' := by
  obtain ⟨h1, h2⟩ := boxed_in h (.cells #[.int .i64 2, .int .i64 a0, .int .i64 b0, .int .i64 c0, .bool od, .slice ka kl kc] 31) (.cells #[] 5)
  have H1 := Lib.hid h1
  have H2 := Lib.hid h2
  have HE := Lib.hid (told0)
  have hz := etxt_size (0)
  clear h1 h2
  have HA := Lib.hid (And.intro hh ha)
  clear hh ha
  go_enter Tryd.func6, Tryd.ntmps6
  go_wp2_with fail
  refine (read_got H1.out a0 bs HA.out.2 HA.out.1 hr0 (by omega) (by omega)).mono ?_
  rintro e w1 ⟨u, rfl, hF, hl, _, hI, hS⟩
  have HI := Lib.hid (And.intro hI (H2.out.trans hS))
  have hcv : ∀ n, (convert 38 9 (.slice (some ⟨u, 0, none⟩) 512 512)).run Tryd.prog (w1.drewN n) = .ok (.string (txt bs)) (w1.drewN n) := fun n => conv_full u bs _ hF.bytes hl
  have hcv0 := conv_full u bs w1 hF.bytes hl
  have hts := txt_size bs
  rw [hl] at hts
  have hts2 : (txt bs).size ≤ 512 := by omega
  clear hI hS H1 H2 hF hl hts
  go_wp2_with fail
  go_quiet ((go_at_call 18; exact quiet_left (error_any _ _ HE.out)))
  go_wp2
  go_ret
  exact ⟨_, rfl, HI.out.1.drewN _, HI.out.2.drewN _⟩
set_option maxHeartbeats 4000000 in
theorem does3y (h : In B Z w dp D) (hB : B ≤ w.heap.size) (a0 b0 c0 : Int) (od : Bool) (ka : Option Addr) (kl kc : Nat) (hw0 : 0 ≤ D.w) (hw : D.w ≤ 1000000) (hr0 : 0 ≤ D.r) (hr : D.r ≤ 1000000) (hf0 : 0 ≤ D.f) (hf : D.f ≤ 1000000) (hh : D.has a0 = true) :
    Calls Tryd.prog 6 #[.pointer (some ⟨dp, 0, none⟩), .agg #[.int .i64 3, .int .i64 a0, .int .i64 b0, .int .i64 c0, .bool od, .slice ka kl kc]] w fun e w' => ∃ Z', e = .returned (.string (etxt D.err)) ∧ In B Z' w' dp (D.write a0 (sec b0)) ∧ Step Z Z' w w' := by
  obtain ⟨h1, h2⟩ := boxed_in h (.cells #[.int .i64 3, .int .i64 a0, .int .i64 b0, .int .i64 c0, .bool od, .slice ka kl kc] 31) (.cells #[] 5)
  have H1 := Lib.hid h1
  have H2 := Lib.hid h2
  have HE := Lib.hid (err_told D)
  have hz := etxt_size (D.err)
  clear h1 h2
  have HA := Lib.hid hh
  clear hh
  go_enter Tryd.func6, Tryd.ntmps6
  go_wp2_with fail
  have hb0 := ((Below.refl _ w).alloc (Nat.le_refl _) (.cells #[.int .i64 3, .int .i64 a0, .int .i64 b0, .int .i64 c0, .bool od, .slice ka kl kc] 31)).alloc (by simp) (.cells #[] 5)
  have hx := (Below.heap_alloc (w.alloc (.cells #[.int .i64 3, .int .i64 a0, .int .i64 b0, .int .i64 c0, .bool od, .slice ka kl kc] 31)) (.cells #[] 5) w.heap.size (by simp)).trans (heap_alloc_new w (.cells #[.int .i64 3, .int .i64 a0, .int .i64 b0, .int .i64 c0, .bool od, .slice ka kl kc] 31))
  obtain ⟨W1, hW1⟩ : ∃ W1, (w.alloc (.cells #[.int .i64 3, .int .i64 a0, .int .i64 b0, .int .i64 c0, .bool od, .slice ka kl kc] 31)).alloc (.cells #[] 5) = W1 := ⟨_, rfl⟩
  have hs1 : W1.heap.size = w.heap.size + 2 := by rw [← hW1]; simp
  rw [hW1] at hx hb0 H1 H2 ⊢
  clear hW1 hb0
  have g1 : W1.cell? ⟨w.heap.size, 1, none⟩ = some (.int .i64 a0) := by simp [World.cell?, hx]
  have g2 : W1.cell? ⟨w.heap.size, 2, none⟩ = some (.int .i64 b0) := by simp [World.cell?, hx]
  have HS1 := Lib.hid hs1
  clear hx hs1
  go_region_held3 (fun w' => w'.cell? ⟨w.heap.size, 1, none⟩ = some (.int .i64 a0) ∧ w'.cell? ⟨w.heap.size, 2, none⟩ = some (.int .i64 b0)) (first | (constructor <;> assumption) | go_keep) (first | (go_at_call 11; refine (sector_in b0 _).mono ?_; rintro e u ⟨rfl, hb, hl⟩; have HU := Lib.hid (sec_made H1.out H2.out hB HS1.out hb hl); have k1 := (HU.out.2.2.2.2.2 1).trans g1; have k2 := (HU.out.2.2.2.2.2 2).trans g2; clear hb hl) | (go_at_call 10; refine (write_in HU.out.1 HU.out.2.2.1 a0 HA.out _ (sec b0) HU.out.2.1 (sec_len _) hw0 (by omega)).mono ?_; rintro e w4 ⟨Z', rfl, hI, hS⟩; have k3 := box_keep h hS HU.out.2.2.2.1 k1; have k4 := box_keep h hS HU.out.2.2.2.1 k2; have HI := Lib.hid (And.intro hI (HU.out.2.2.2.2.1.trans hS)); clear hI hS))
  clear HU k1 k2 k3 k4 g1 g2 H1 H2
  have hcv := fun W => conv_zero (some ⟨w.heap.size + 1, 0, none⟩) 0 W
  go_wp2_with fail
  go_quiet ((go_at_call 18; exact quiet_left (error_any _ _ HE.out)))
  go_wp2
  go_ret
  exact ⟨_, rfl, HI.out.1.drewN _, HI.out.2.drewN _⟩
set_option maxHeartbeats 4000000 in
theorem does4y (h : In B Z w dp D) (hB : B ≤ w.heap.size) (a0 b0 c0 : Int) (od : Bool) (ka : Option Addr) (kl kc : Nat) (hw0 : 0 ≤ D.w) (hw : D.w ≤ 1000000) (hr0 : 0 ≤ D.r) (hr : D.r ≤ 1000000) (hf0 : 0 ≤ D.f) (hf : D.f ≤ 1000000) (hh : D.has a0 = true) :
    Calls Tryd.prog 6 #[.pointer (some ⟨dp, 0, none⟩), .agg #[.int .i64 4, .int .i64 a0, .int .i64 b0, .int .i64 c0, .bool od, .slice ka kl kc]] w fun e w' => ∃ Z', e = .returned (.string (etxt D.err)) ∧ In B Z' w' dp (D.write a0 (sec b0)) ∧ Step Z Z' w w' := by
  obtain ⟨h1, h2⟩ := boxed_in h (.cells #[.int .i64 4, .int .i64 a0, .int .i64 b0, .int .i64 c0, .bool od, .slice ka kl kc] 31) (.cells #[] 5)
  have H1 := Lib.hid h1
  have H2 := Lib.hid h2
  have HE := Lib.hid (err_told D)
  have hz := etxt_size (D.err)
  clear h1 h2
  have HA := Lib.hid hh
  clear hh
  go_enter Tryd.func6, Tryd.ntmps6
  go_wp2_with fail
  have hb0 := ((Below.refl _ w).alloc (Nat.le_refl _) (.cells #[.int .i64 4, .int .i64 a0, .int .i64 b0, .int .i64 c0, .bool od, .slice ka kl kc] 31)).alloc (by simp) (.cells #[] 5)
  have hx := (Below.heap_alloc (w.alloc (.cells #[.int .i64 4, .int .i64 a0, .int .i64 b0, .int .i64 c0, .bool od, .slice ka kl kc] 31)) (.cells #[] 5) w.heap.size (by simp)).trans (heap_alloc_new w (.cells #[.int .i64 4, .int .i64 a0, .int .i64 b0, .int .i64 c0, .bool od, .slice ka kl kc] 31))
  obtain ⟨W1, hW1⟩ : ∃ W1, (w.alloc (.cells #[.int .i64 4, .int .i64 a0, .int .i64 b0, .int .i64 c0, .bool od, .slice ka kl kc] 31)).alloc (.cells #[] 5) = W1 := ⟨_, rfl⟩
  have hs1 : W1.heap.size = w.heap.size + 2 := by rw [← hW1]; simp
  rw [hW1] at hx hb0 H1 H2 ⊢
  clear hW1 hb0
  have g1 : W1.cell? ⟨w.heap.size, 1, none⟩ = some (.int .i64 a0) := by simp [World.cell?, hx]
  have g2 : W1.cell? ⟨w.heap.size, 2, none⟩ = some (.int .i64 b0) := by simp [World.cell?, hx]
  have HS1 := Lib.hid hs1
  clear hx hs1
  go_region_held3 (fun w' => w'.cell? ⟨w.heap.size, 1, none⟩ = some (.int .i64 a0) ∧ w'.cell? ⟨w.heap.size, 2, none⟩ = some (.int .i64 b0)) (first | (constructor <;> assumption) | go_keep) (first | (go_at_call 11; refine (sector_in b0 _).mono ?_; rintro e u ⟨rfl, hb, hl⟩; have HU := Lib.hid (sec_made H1.out H2.out hB HS1.out hb hl); have k1 := (HU.out.2.2.2.2.2 1).trans g1; have k2 := (HU.out.2.2.2.2.2 2).trans g2; clear hb hl) | (go_at_call 10; refine (write_in HU.out.1 HU.out.2.2.1 a0 HA.out _ (sec b0) HU.out.2.1 (sec_len _) hw0 (by omega)).mono ?_; rintro e w4 ⟨Z', rfl, hI, hS⟩; have k3 := box_keep h hS HU.out.2.2.2.1 k1; have k4 := box_keep h hS HU.out.2.2.2.1 k2; have HI := Lib.hid (And.intro hI (HU.out.2.2.2.2.1.trans hS)); clear hI hS))
  clear HU k1 k2 k3 k4 g1 g2 H1 H2
  have hcv := fun W => conv_zero (some ⟨w.heap.size + 1, 0, none⟩) 0 W
  go_wp2_with fail
  go_quiet ((go_at_call 18; exact quiet_left (error_any _ _ HE.out)))
  go_wp2
  go_ret
  exact ⟨_, rfl, HI.out.1.drewN _, HI.out.2.drewN _⟩
set_option maxHeartbeats 4000000 in
theorem does3n (h : In B Z w dp D) (hB : B ≤ w.heap.size) (a0 b0 c0 : Int) (od : Bool) (ka : Option Addr) (kl kc : Nat) (hw0 : 0 ≤ D.w) (hw : D.w ≤ 1000000) (hr0 : 0 ≤ D.r) (hr : D.r ≤ 1000000) (hf0 : 0 ≤ D.f) (hf : D.f ≤ 1000000) (hh : D.has a0 = false) :
    Calls Tryd.prog 6 #[.pointer (some ⟨dp, 0, none⟩), .agg #[.int .i64 3, .int .i64 a0, .int .i64 b0, .int .i64 c0, .bool od, .slice ka kl kc]] w fun e w' => ∃ Z', e = .returned (.string (etxt 1)) ∧ In B Z' w' dp (D) ∧ Step Z Z' w w' := by
  obtain ⟨h1, h2⟩ := boxed_in h (.cells #[.int .i64 3, .int .i64 a0, .int .i64 b0, .int .i64 c0, .bool od, .slice ka kl kc] 31) (.cells #[] 5)
  have H1 := Lib.hid h1
  have H2 := Lib.hid h2
  have HE := Lib.hid (told1)
  have hz := etxt_size (1)
  clear h1 h2
  have HA := Lib.hid hh
  clear hh
  go_enter Tryd.func6, Tryd.ntmps6
  go_wp2_with fail
  have hb0 := ((Below.refl _ w).alloc (Nat.le_refl _) (.cells #[.int .i64 3, .int .i64 a0, .int .i64 b0, .int .i64 c0, .bool od, .slice ka kl kc] 31)).alloc (by simp) (.cells #[] 5)
  have hx := (Below.heap_alloc (w.alloc (.cells #[.int .i64 3, .int .i64 a0, .int .i64 b0, .int .i64 c0, .bool od, .slice ka kl kc] 31)) (.cells #[] 5) w.heap.size (by simp)).trans (heap_alloc_new w (.cells #[.int .i64 3, .int .i64 a0, .int .i64 b0, .int .i64 c0, .bool od, .slice ka kl kc] 31))
  obtain ⟨W1, hW1⟩ : ∃ W1, (w.alloc (.cells #[.int .i64 3, .int .i64 a0, .int .i64 b0, .int .i64 c0, .bool od, .slice ka kl kc] 31)).alloc (.cells #[] 5) = W1 := ⟨_, rfl⟩
  have hs1 : W1.heap.size = w.heap.size + 2 := by rw [← hW1]; simp
  rw [hW1] at hx hb0 H1 H2 ⊢
  clear hW1 hb0
  have g1 : W1.cell? ⟨w.heap.size, 1, none⟩ = some (.int .i64 a0) := by simp [World.cell?, hx]
  have g2 : W1.cell? ⟨w.heap.size, 2, none⟩ = some (.int .i64 b0) := by simp [World.cell?, hx]
  have HS1 := Lib.hid hs1
  clear hx hs1
  go_region_held3 (fun w' => w'.cell? ⟨w.heap.size, 1, none⟩ = some (.int .i64 a0) ∧ w'.cell? ⟨w.heap.size, 2, none⟩ = some (.int .i64 b0)) (first | (constructor <;> assumption) | go_keep) (first | (go_at_call 11; refine (sector_in b0 _).mono ?_; rintro e u ⟨rfl, hb, hl⟩; have HU := Lib.hid (sec_made H1.out H2.out hB HS1.out hb hl); have k1 := (HU.out.2.2.2.2.2 1).trans g1; have k2 := (HU.out.2.2.2.2.2 2).trans g2; clear hb hl) | (go_at_call 10; refine (write_no HU.out.1 a0 _ 512 512 (by omega) (.inl HA.out)).mono ?_; rintro e w4 ⟨rfl, rfl⟩; have HI := Lib.hid (And.intro HU.out.1 HU.out.2.2.2.2.1)))
  clear HU k1 k2 g1 g2 H1 H2
  have hcv := fun W => conv_zero (some ⟨w.heap.size + 1, 0, none⟩) 0 W
  go_wp2_with fail
  go_quiet ((go_at_call 18; exact quiet_left (error_any _ _ HE.out)))
  go_wp2
  go_ret
  exact ⟨_, rfl, HI.out.1.drewN _, HI.out.2.drewN _⟩
set_option maxHeartbeats 4000000 in
theorem does4n (h : In B Z w dp D) (hB : B ≤ w.heap.size) (a0 b0 c0 : Int) (od : Bool) (ka : Option Addr) (kl kc : Nat) (hw0 : 0 ≤ D.w) (hw : D.w ≤ 1000000) (hr0 : 0 ≤ D.r) (hr : D.r ≤ 1000000) (hf0 : 0 ≤ D.f) (hf : D.f ≤ 1000000) (hh : D.has a0 = false) :
    Calls Tryd.prog 6 #[.pointer (some ⟨dp, 0, none⟩), .agg #[.int .i64 4, .int .i64 a0, .int .i64 b0, .int .i64 c0, .bool od, .slice ka kl kc]] w fun e w' => ∃ Z', e = .returned (.string (etxt 1)) ∧ In B Z' w' dp (D) ∧ Step Z Z' w w' := by
  obtain ⟨h1, h2⟩ := boxed_in h (.cells #[.int .i64 4, .int .i64 a0, .int .i64 b0, .int .i64 c0, .bool od, .slice ka kl kc] 31) (.cells #[] 5)
  have H1 := Lib.hid h1
  have H2 := Lib.hid h2
  have HE := Lib.hid (told1)
  have hz := etxt_size (1)
  clear h1 h2
  have HA := Lib.hid hh
  clear hh
  go_enter Tryd.func6, Tryd.ntmps6
  go_wp2_with fail
  have hb0 := ((Below.refl _ w).alloc (Nat.le_refl _) (.cells #[.int .i64 4, .int .i64 a0, .int .i64 b0, .int .i64 c0, .bool od, .slice ka kl kc] 31)).alloc (by simp) (.cells #[] 5)
  have hx := (Below.heap_alloc (w.alloc (.cells #[.int .i64 4, .int .i64 a0, .int .i64 b0, .int .i64 c0, .bool od, .slice ka kl kc] 31)) (.cells #[] 5) w.heap.size (by simp)).trans (heap_alloc_new w (.cells #[.int .i64 4, .int .i64 a0, .int .i64 b0, .int .i64 c0, .bool od, .slice ka kl kc] 31))
  obtain ⟨W1, hW1⟩ : ∃ W1, (w.alloc (.cells #[.int .i64 4, .int .i64 a0, .int .i64 b0, .int .i64 c0, .bool od, .slice ka kl kc] 31)).alloc (.cells #[] 5) = W1 := ⟨_, rfl⟩
  have hs1 : W1.heap.size = w.heap.size + 2 := by rw [← hW1]; simp
  rw [hW1] at hx hb0 H1 H2 ⊢
  clear hW1 hb0
  have g1 : W1.cell? ⟨w.heap.size, 1, none⟩ = some (.int .i64 a0) := by simp [World.cell?, hx]
  have g2 : W1.cell? ⟨w.heap.size, 2, none⟩ = some (.int .i64 b0) := by simp [World.cell?, hx]
  have HS1 := Lib.hid hs1
  clear hx hs1
  go_region_held3 (fun w' => w'.cell? ⟨w.heap.size, 1, none⟩ = some (.int .i64 a0) ∧ w'.cell? ⟨w.heap.size, 2, none⟩ = some (.int .i64 b0)) (first | (constructor <;> assumption) | go_keep) (first | (go_at_call 11; refine (sector_in b0 _).mono ?_; rintro e u ⟨rfl, hb, hl⟩; have HU := Lib.hid (sec_made H1.out H2.out hB HS1.out hb hl); have k1 := (HU.out.2.2.2.2.2 1).trans g1; have k2 := (HU.out.2.2.2.2.2 2).trans g2; clear hb hl) | (go_at_call 10; refine (write_no HU.out.1 a0 _ 512 512 (by omega) (.inl HA.out)).mono ?_; rintro e w4 ⟨rfl, rfl⟩; have HI := Lib.hid (And.intro HU.out.1 HU.out.2.2.2.2.1)))
  clear HU k1 k2 g1 g2 H1 H2
  have hcv := fun W => conv_zero (some ⟨w.heap.size + 1, 0, none⟩) 0 W
  go_wp2_with fail
  go_quiet ((go_at_call 18; exact quiet_left (error_any _ _ HE.out)))
  go_wp2
  go_ret
  exact ⟨_, rfl, HI.out.1.drewN _, HI.out.2.drewN _⟩
theorem does_any (h : In B Z w dp D) (hB : B ≤ w.heap.size) (k a0 b0 c0 : Int) (od : Bool) (ka : Option Addr) (kl kc : Nat) (hw0 : 0 ≤ D.w) (hw : D.w ≤ 1000000) (hr0 : 0 ≤ D.r) (hr : D.r ≤ 1000000) (hf0 : 0 ≤ D.f) (hf : D.f ≤ 1000000) (ha0 : -9223372036854775808 ≤ a0) (ha1 : a0 ≤ 9223372036854775807) (keep : List Int) (hk : Keeps w ka kl kc keep) :
    Calls Tryd.prog 6 #[.pointer (some ⟨dp, 0, none⟩), .agg #[.int .i64 k, .int .i64 a0, .int .i64 b0, .int .i64 c0, .bool od, .slice ka kl kc]] w fun e w' => ∃ Z', e = .returned (.string (D.text ⟨k, a0, b0, keep⟩)) ∧ In B Z' w' dp (D.go ⟨k, a0, b0, keep⟩) ∧ Step Z Z' w w' := by
  unfold Dev.text Dev.go Dev.gives
  dsimp only
  by_cases c1 : k = 1 ∨ k = 2
  · rw [if_pos c1, if_pos c1]
    cases hh : D.has a0 with
    | false =>
      rw [if_neg (by simp), if_neg (by simp)]
      rcases c1 with rfl | rfl
      · exact does1b h hB a0 b0 c0 od ka kl kc hw0 hw hr0 hr hf0 hf hh
      · exact does2b h hB a0 b0 c0 od ka kl kc hw0 hw hr0 hr hf0 hf hh
    | true =>
      rw [if_pos rfl, if_pos rfl]
      cases ha : (D.answer a0).2 with
      | none =>
        obtain ⟨x, hx⟩ : ∃ x, D.answer a0 = (x, none) := ⟨(D.answer a0).1, by rw [← ha]⟩
        have ht := answer_told D a0
        rw [hx] at ht ⊢
        rcases c1 with rfl | rfl
        · exact does1n h hB a0 b0 c0 od ka kl kc hw0 hw hr0 hr hf0 hf hh x ht hx
        · exact does2n h hB a0 b0 c0 od ka kl kc hw0 hw hr0 hr hf0 hf hh x ht hx
      | some bs =>
        have hx := answer_some D a0 bs ha
        rw [hx]
        rcases c1 with rfl | rfl
        · exact does1s h hB a0 b0 c0 od ka kl kc hw0 hw hr0 hr hf0 hf hh bs hx
        · exact does2s h hB a0 b0 c0 od ka kl kc hw0 hw hr0 hr hf0 hf hh bs hx
  rw [if_neg c1, if_neg c1]
  by_cases c2 : k = 3 ∨ k = 4
  · rw [if_pos c2, if_pos c2]
    cases hh : D.has a0 with
    | false =>
      rw [if_neg (by simp), if_neg (by simp)]
      rcases c2 with rfl | rfl
      · exact does3n h hB a0 b0 c0 od ka kl kc hw0 hw hr0 hr hf0 hf hh
      · exact does4n h hB a0 b0 c0 od ka kl kc hw0 hw hr0 hr hf0 hf hh
    | true =>
      rw [if_pos rfl, if_pos rfl]
      rcases c2 with rfl | rfl
      · exact does3y h hB a0 b0 c0 od ka kl kc hw0 hw hr0 hr hf0 hf hh
      · exact does4y h hB a0 b0 c0 od ka kl kc hw0 hw hr0 hr hf0 hf hh
  rw [if_neg c2, if_neg c2]
  by_cases c5 : k = 5
  · subst c5
    rw [if_pos rfl, if_pos rfl]
    exact does5 h hB a0 b0 c0 od ka kl kc hw0 hw hr0 hr hf0 hf
  rw [if_neg c5, if_neg c5]
  by_cases c6 : k = 6
  · subst c6
    rw [if_neg (by omega), if_pos rfl]
    exact does6 h hB a0 b0 c0 od ka kl kc hw0 hw hr0 hr hf0 hf keep hk
  rw [if_neg c6]
  by_cases c7 : k = 7
  · subst c7
    rw [if_neg (by omega), if_pos rfl]
    exact does7 h hB a0 b0 c0 od ka kl kc hw0 hw hr0 hr hf0 hf ha0 ha1 keep hk
  rw [if_neg c7]
  by_cases c8 : k = 8
  · subst c8
    rw [if_pos rfl, if_pos rfl]
    cases hd : D.down with
    | true =>
      rw [if_pos rfl, if_pos rfl]
      exact does8y h hB a0 b0 c0 od ka kl kc hw0 hw hr0 hr hf0 hf hd
    | false =>
      rw [if_neg (by simp), if_neg (by simp)]
      exact does8n h hB a0 b0 c0 od ka kl kc hw0 hw hr0 hr hf0 hf hd
  rw [if_neg c8, if_neg c8]
  exact does0 h hB k a0 b0 c0 od ka kl kc hw0 hw hr0 hr hf0 hf (by omega)
end
end Go.Proofs.YthdgfhkihhamnaaDoor
