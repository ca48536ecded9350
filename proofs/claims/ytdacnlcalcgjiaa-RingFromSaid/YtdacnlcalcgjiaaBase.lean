/-
  PROVED HERE: contracts of package ring at its three instances.
-/
import Derived.Test.YtdacnlcalcgjiaaRows
import Derived.WalkKit
import Derived.ProofKit
import Derived.OpenShut
import Derived.Lib.Hide
import Derived.Handy
import Derived.Deep.QuietTactic
import Derived.BigQuiet
import Derived.StillTailTactics
import Derived.Deep.DeepCutAuto
namespace Go.Proofs.Ytdacnlcalcgjiaa
open Go.ChangeShapes Go.WideShapes Go.ChangeAt Go.RowKit

theorem ret_int {k : IntKind} {a b : Int} (h : a = b) : Ending.returned (.int k a) = .returned (.int k b) := by rw [h]

theorem tmod_neg (a n : Int) (hn : 0 < n) (h : a < 0) : a.tmod n ≤ 0 ∧ -n < a.tmod n ∧ (a.tmod n < 0 → a % n = a.tmod n + n) ∧ (0 ≤ a.tmod n → a % n = a.tmod n) := by
  have h1 := Int.emod_nonneg a (by omega : n ≠ 0)
  have h2 := Int.emod_lt_of_pos a hn
  have e := Int.tmod_eq_emod (a := a) (b := n)
  rw [e]
  split
  · rename_i h3
    rcases h3 with h3 | h3
    · omega
    · have := Int.emod_eq_zero_of_dvd h3
      omega
  · have : (n.natAbs : Int) = n := by omega
    omega

theorem quiet_left {P : Program} {f : FuncId} {args : Array Value} {w : World} {n : Nat} {v : Value}
    (h : Calls P f args (w.drewN n) fun e w' => e = .returned v ∧ w.drewN n = w') : Calls P f args (w.drewN n) fun e w'' => e = .returned v ∧ ∃ m, w'' = w.drewN m :=
  h.mono fun _ _ ⟨he, hm⟩ => ⟨he, n, hm.symm⟩

theorem still_left {P : Program} {f : FuncId} {args : Array Value} {w : World} {v : Value}
    (h : Calls P f args w fun e w' => e = .returned v ∧ w = w') : Calls P f args w fun e w'' => e = .returned v ∧ w'' = w :=
  h.mono fun _ _ ⟨he, hm⟩ => ⟨he, hm.symm⟩

/-- A ring in memory: its header's cell at block p, its places at block b, n of them, the values xs; both blocks at or beyond B. -/
structure RingAt (w : World) (B : Nat) (E : TypeId) (p b n : Nat) (xs : List Value) : Prop where
  hd : w.cell? ⟨p, 0, none⟩ = some (.slice (some ⟨b, 0, none⟩) n n)
  row : w.ownsRow B E 1 (.slice (some ⟨b, 0, none⟩) n n) n xs
  ne : p ≠ b
  pB : B ≤ p
  n1 : 1 ≤ n
  n2 : n ≤ 1048576

theorem RingAt.len {w : World} {B : Nat} {E : TypeId} {p b n : Nat} {xs : List Value} (h : RingAt w B E p b n xs) : xs.length = n := by have := h.row.1; omega
theorem RingAt.lt {w : World} {B : Nat} {E : TypeId} {p b n : Nat} {xs : List Value} (h : RingAt w B E p b n xs) : B ≤ b ∧ b < w.heap.size := h.row.lt b rfl
theorem RingAt.ltp {w : World} {B : Nat} {E : TypeId} {p b n : Nat} {xs : List Value} (h : RingAt w B E p b n xs) : p < w.heap.size := by
  have h1 := h.hd
  simp only [World.cell?] at h1
  by_cases hp : p < w.heap.size
  · exact hp
  · simp [hp] at h1
theorem RingAt.cell {w : World} {B : Nat} {E : TypeId} {p b n : Nat} {xs : List Value} (h : RingAt w B E p b n xs) (j : Nat) (hj : j < n) : w.cell? ⟨b, j, none⟩ = some (xs[j]?.getD undef) := by
  rw [h.row.cellAt j (by omega)]
  have : j < xs.length := by rw [h.len]; exact hj
  simp [this]
theorem RingAt.free {w : World} {B : Nat} {E : TypeId} {p b n : Nat} {xs : List Value} (h : RingAt w B E p b n xs) (j : Nat) : w.frozen? ⟨b, j, none⟩ = false := h.row.frozenAt j
theorem RingAt.drewN {w : World} {B : Nat} {E : TypeId} {p b n : Nat} {xs : List Value} (h : RingAt w B E p b n xs) (k : Nat) : RingAt (w.drewN k) B E p b n xs :=
  ⟨h.hd, h.row, h.ne, h.pB, h.n1, h.n2⟩
theorem RingAt.set {w : World} {B : Nat} {E : TypeId} {p b n : Nat} {xs : List Value} (h : RingAt w B E p b n xs) (j : Nat) (u : Value) : RingAt (w.setCell ⟨b, j, none⟩ u) B E p b n (xs.set j u) :=
  ⟨by rw [World.cell?_of_block (w := w) (Below.heap_setCell w ⟨b, j, none⟩ u p h.ne)]; exact h.hd, (h.row.stored j u).1, h.ne, h.pB, h.n1, h.n2⟩
/-- The loop of New on its way: k places hold v. -/
structure Fill (w wr : World) (E : TypeId) (p b N k : Nat) (v : Value) (xs : List Value) : Prop where
  hd : wr.cell? ⟨p, 0, none⟩ = some (.slice (some ⟨b, 0, none⟩) N N)
  row : wr.ownsRow w.heap.size E 1 (.slice (some ⟨b, 0, none⟩) N N) N xs
  ne : p ≠ b
  pB : w.heap.size ≤ p
  below : Below w.heap.size w wr
  got : ∀ j, j < k → xs[j]? = some v
theorem Fill.start {w w1 : World} {E RT : TypeId} {N : Nat} (v : Value) {xs : List Value} (hown : w1.ownsRow w.heap.size E 1 (.slice (some ⟨w.heap.size, 0, none⟩) N N) N xs) (hgr : w.grownBy w1 none) :
    Fill w (w1.alloc (.cells #[.slice (some ⟨w.heap.size, 0, none⟩) N N] RT)) E w1.heap.size w.heap.size N 0 v xs := by
  have hlt := (hown.lt w.heap.size rfl).2
  have hb : Below w.heap.size w w1 := (Below.refl _ _).grown hgr (Nat.le_refl _) (fun k e => by cases e)
  exact ⟨by rw [World.cell?_alloc_at _ _ _ _ rfl]; rfl, hown.alloc _, by omega, by omega, hb.alloc (by omega) _, fun j hj => by omega⟩
theorem Fill.cell {w wr : World} {E : TypeId} {p b N k : Nat} {v : Value} {xs : List Value} (h : Fill w wr E p b N k v xs) (j : Nat) (hj : j < N) : wr.cell? ⟨b, j, none⟩ = some (xs[j]?.getD undef) := by
  rw [h.row.cellAt j (by omega)]
  have : j < xs.length := by have := h.row.1; omega
  simp [this]
theorem Fill.step {w wr : World} {E : TypeId} {p b N k : Nat} {v : Value} {xs : List Value} (h : Fill w wr E p b N k v xs) (hk : k < N) : Fill w (wr.setCell ⟨b, k, none⟩ v) E p b N (k + 1) v (xs.set k v) := by
  have hl : xs.length = N := by have := h.row.1; omega
  have hb := (h.row.lt b rfl).1
  refine ⟨by rw [World.cell?_of_block (w := wr) (Below.heap_setCell wr ⟨b, k, none⟩ v p h.ne)]; exact h.hd, (h.row.stored k v).1, h.ne, h.pB, h.below.setCell hb v, fun j hj => ?_⟩
  by_cases e : j = k
  · subst e; simp [hl, hk]
  · rw [List.getElem?_set_ne (by omega)]; exact h.got j (by omega)
theorem Fill.done {w wr : World} {E : TypeId} {p b N : Nat} {v : Value} {xs : List Value} (h : Fill w wr E p b N N v xs) (n1 : 1 ≤ N) (n2 : N ≤ 1048576) : RingAt wr w.heap.size E p b N (List.replicate N v) := by
  have hl : xs.length = N := by have := h.row.1; omega
  have e : xs = List.replicate N v := by
    apply List.ext_getElem?
    intro j
    by_cases hj : j < N
    · rw [h.got j hj]; simp [hj]
    · simp [hj, hl]
  exact ⟨h.hd, e ▸ h.row, h.ne, h.pB, n1, n2⟩
/-- It lies beyond what a caller's frame speaks of: a world that turns blocks from the heap's end on alone keeps it. -/
theorem RingAt.kept {w w' : World} {B : Nat} {E : TypeId} {p b n : Nat} {xs : List Value} (h : RingAt w B E p b n xs) (hb : Below w.heap.size w w') : RingAt w' B E p b n xs := by
  refine ⟨by rw [hb.cell (p := ⟨p, 0, none⟩) h.ltp]; exact h.hd, ?_, h.ne, h.pB, h.n1, h.n2⟩
  obtain ⟨h1, h2⟩ := h.row
  refine ⟨h1, ?_⟩
  rcases h2 with h2 | ⟨g, cap, cur, hv, hg, hh, r⟩
  · exact Or.inl h2
  · have hg2 : g < w.heap.size := by
      have := hh; by_cases hp : g < w.heap.size
      · exact hp
      · simp [hp] at this
    exact Or.inr ⟨g, cap, cur, hv, hg, (hb.block g hg2).trans hh, r⟩

/-! ### Ring[int] -/
theorem placeI_any (p b n : Nat) (a : Int) (w : World) (hd : w.cell? ⟨p, 0, none⟩ = some (.slice (some ⟨b, 0, none⟩) n n)) (n1 : 1 ≤ n) (n2 : n ≤ 1048576) (wa : -9223372036854775808 ≤ a) (wb : a ≤ 9223372036854775807) :
    Calls Try.prog 26 #[.pointer (some ⟨p, 0, none⟩), .int .i64 a] w fun e w' => e = .returned (.int .i64 (a % n)) ∧ w = w' := by
  by_cases h : 0 ≤ a
  · have m0 := Int.emod_nonneg a (by omega : (n : Int) ≠ 0)
    have m1 := Int.emod_lt_of_pos a (by omega : 0 < (n : Int))
    go_enter Try.func26, Try.ntmps26
    go_wp2
    go_ret
    exact ⟨rfl, rfl⟩
  · obtain ⟨t1, t2, t3, t4⟩ := tmod_neg a n (by omega) (by omega)
    by_cases h2 : a.tmod n < 0
    · have HR := Lib.hid (t3 h2)
      clear t3 t4
      go_enter Try.func26, Try.ntmps26
      go_wp2
      go_ret
      exact ⟨ret_int HR.out.symm, rfl⟩
    · have HR := Lib.hid (t4 (by omega))
      clear t3 t4
      go_enter Try.func26, Try.ntmps26
      go_wp2
      go_ret
      exact ⟨ret_int HR.out.symm, rfl⟩

theorem goI_any (p b n : Nat) (a c : Int) (w : World) (hd : w.cell? ⟨p, 0, none⟩ = some (.slice (some ⟨b, 0, none⟩) n n)) (n1 : 1 ≤ n) (n2 : n ≤ 1048576) (wa : -9223372036854775808 ≤ a) (wb : a ≤ 9223372036854775807) (wc : -9223372036854775808 ≤ c) (wd : c ≤ 9223372036854775807) :
    Calls Try.prog 21 #[.pointer (some ⟨p, 0, none⟩), .int .i64 a, .int .i64 c] w fun e w' => e = .returned (.int .i64 ((a + c) % n)) ∧ w = w' := by
  have m0 := Int.emod_nonneg a (by omega : (n : Int) ≠ 0)
  have m1 := Int.emod_lt_of_pos a (by omega : 0 < (n : Int))
  have k0 := Int.emod_nonneg c (by omega : (n : Int) ≠ 0)
  have k1 := Int.emod_lt_of_pos c (by omega : 0 < (n : Int))
  go_enter Try.func21, Try.ntmps21
  go_wp2_with (go_at_call 26; refine (placeI_any p b n _ _ hd n1 n2 (by omega) (by omega)).mono ?_; rintro e w' ⟨rfl, rfl⟩)
  go_ret
  exact ⟨rfl, rfl⟩

theorem farI_any (p b n : Nat) (a c : Int) (w : World) (hd : w.cell? ⟨p, 0, none⟩ = some (.slice (some ⟨b, 0, none⟩) n n)) (n1 : 1 ≤ n) (n2 : n ≤ 1048576) (wa : -9223372036854775808 ≤ a) (wb : a ≤ 9223372036854775807) (wc : -9223372036854775808 ≤ c) (wd : c ≤ 9223372036854775807) :
    Calls Try.prog 22 #[.pointer (some ⟨p, 0, none⟩), .int .i64 a, .int .i64 c] w fun e w' => e = .returned (.int .i64 ((c - a) % n)) ∧ w = w' := by
  have m0 := Int.emod_nonneg a (by omega : (n : Int) ≠ 0)
  have m1 := Int.emod_lt_of_pos a (by omega : 0 < (n : Int))
  have k0 := Int.emod_nonneg c (by omega : (n : Int) ≠ 0)
  have k1 := Int.emod_lt_of_pos c (by omega : 0 < (n : Int))
  go_enter Try.func22, Try.ntmps22
  go_wp2_with (go_at_call 26; refine (placeI_any p b n _ _ hd n1 n2 (by omega) (by omega)).mono ?_; rintro e w' ⟨rfl, rfl⟩)
  go_ret
  exact ⟨rfl, rfl⟩

theorem Try.info3 : (Try.prog.info? 3).map (fun i => (i.zero, i.size, i.bytes)) = some (some (.int .i64 0), 1, 8) := by kernel_rfl

set_option maxHeartbeats 1000000 in
theorem newI_any (n : Int) (v : Int) (N : Nat) (w : World) (hN : (N : Int) = min (max n 1) 1048576) :
    Calls Try.prog 13 #[.int .i64 n, .int .i64 v] w fun e w' => ∃ p b, e = .returned (.pointer (some ⟨p, 0, none⟩)) ∧ RingAt w' w.heap.size 3 p b N (List.replicate N (.int .i64 v)) ∧ Below w.heap.size w w' := by
  obtain ⟨i0, hi, hz0, hz1, hz2⟩ := info_parts Try.info3
  have N1 : 1 ≤ N := by omega
  have N2 : N ≤ 1048576 := by omega
  have c3 : i0.bytes * N ≤ 281474976710656 := by rw [hz2]; omega
  have c4 : N ≤ maxLen := by unfold maxLen; omega
  have HN := Lib.hid hN; clear hN
  rcases (show n < 1 ∨ 1048576 < n ∨ (1 ≤ n ∧ n ≤ 1048576) by omega) with h1 | h1 | ⟨h1, h2⟩
  all_goals
    go_enter Try.func13, Try.ntmps13
    go_wp2_with (at_make; refine wpList_make_full _ rfl _ _ 28 rfl w.heap.size 3 i0 (.int .i64 0) 1 Try.underlying28 hi hz0 hz1 .i64 .i64 _ _ N rfl rfl (by have := HN.out; omega) (by have := HN.out; omega) c3 c4 (Nat.le_refl _) ?_; intro w1 hown hgr)
    have hF := Fill.start (RT := 46) (.int .i64 v) hown hgr
    clear hown hgr
    go_loopw [18] (fun i wr => ∃ (k : Nat) (xs : List Value), k ≤ N ∧ i = .int .i64 k ∧ Fill w wr 3 w1.heap.size w.heap.size N k (.int .i64 v) xs) (fun i _ => N - (intOf i).toNat)
    case atStart => exact ⟨0, _, Nat.zero_le _, rfl, hF⟩
    case round =>
      clear hF
      obtain ⟨k, xs, hk, rfl, hF⟩ := hrel
      have hd := hF.hd
      by_cases hlt : k < N
      · have hc := hF.cell k hlt
        have hfz := hF.row.frozenAt k
        have hS := hF.step hlt
        go_wp2
        go_roundw
        case rel => exact ⟨k + 1, _, by omega, by go_num, hS⟩
        case measure => simp [intOf]; omega
      · obtain rfl : k = N := by omega
        go_wp2
        go_ret
        exact ⟨_, _, rfl, hF.done N1 N2, hF.below⟩

theorem lenI_any (p b n : Nat) (w : World) (hd : w.cell? ⟨p, 0, none⟩ = some (.slice (some ⟨b, 0, none⟩) n n)) :
    Calls Try.prog 24 #[.pointer (some ⟨p, 0, none⟩)] w fun e w' => e = .returned (.int .i64 n) ∧ w = w' := by
  go_enter Try.func24, Try.ntmps24
  go_wp2
  go_ret
  exact ⟨rfl, rfl⟩


theorem getI_any (B p b n : Nat) (xs : List Value) (a : Int) (w : World) (hR : RingAt w B 3 p b n xs) (wa : -9223372036854775808 ≤ a) (wb : a ≤ 9223372036854775807) :
    Calls Try.prog 15 #[.pointer (some ⟨p, 0, none⟩), .int .i64 a] w fun e w' => e = .returned (xs[(a % n).toNat]?.getD undef) ∧ ∃ m, w' = w.drewN m := by
  have hd := hR.hd
  have n1 := hR.n1
  have n2 := hR.n2
  have m0 := Int.emod_nonneg a (by omega : (n : Int) ≠ 0)
  have m1 := Int.emod_lt_of_pos a (by omega : 0 < (n : Int))
  have hc := hR.cell (a % n).toNat (by omega)
  generalize hv : xs[(a % n).toNat]?.getD undef = v at hc ⊢
  clear hv
  go_enter Try.func15, Try.ntmps15
  go_wp2
  go_quiet ((go_at_call 26; exact quiet_left (placeI_any p b n _ _ hd n1 n2 (by omega) (by omega))))
  go_wp2
  go_ret
  exact ⟨rfl, _, rfl⟩

theorem getsI_any (B p b n : Nat) (xs : List Value) (a : Int) (w : World) (hR : RingAt w B 3 p b n xs) (wa : -9223372036854775808 ≤ a) (wb : a ≤ 9223372036854775807) :
    Calls Try.prog 15 #[.pointer (some ⟨p, 0, none⟩), .int .i64 a] w fun e w' => e = .returned (xs[(a % n).toNat]?.getD undef) ∧ RingAt w' B 3 p b n xs ∧ ∀ B', Below B' w w' :=
  (getI_any B p b n xs a w hR wa wb).mono fun _ _ ⟨he, m, hm⟩ => ⟨he, hm ▸ hR.drewN m, fun _ => hm ▸ ⟨rfl, rfl, rfl, Nat.le_refl _, fun _ _ => rfl⟩⟩


theorem setI_any (B p b n : Nat) (xs : List Value) (a : Int) (v : Int) (w : World) (hR : RingAt w B 3 p b n xs) (wa : -9223372036854775808 ≤ a) (wb : a ≤ 9223372036854775807) :
    Calls Try.prog 14 #[.pointer (some ⟨p, 0, none⟩), .int .i64 a, .int .i64 v] w fun e w' => e = .returned (.tuple #[]) ∧ RingAt w' B 3 p b n (xs.set (a % n).toNat (.int .i64 v)) ∧ Below B w w' := by
  have hS := hR.set (a % n).toNat (.int .i64 v)
  have hW := (Below.refl B w).setCell (p := ⟨b, (a % n).toNat, none⟩) hR.lt.1 (.int .i64 v)
  have HH := Lib.hid (And.intro hS hW)
  clear hS hW
  have hd := hR.hd
  have n1 := hR.n1
  have n2 := hR.n2
  have m0 := Int.emod_nonneg a (by omega : (n : Int) ≠ 0)
  have m1 := Int.emod_lt_of_pos a (by omega : 0 < (n : Int))
  have hc := hR.cell (a % n).toNat (by omega)
  have hfz := hR.free (a % n).toNat
  go_enter Try.func14, Try.ntmps14
  go_still_tail 9, (by kernel_rfl)
  still_call (still_left (placeI_any p b n _ _ hd n1 n2 (by omega) (by omega)))
  repeat still_step
  refine wpStill_nil ?_
  change wpList _ _ _ _ _ w.drew
  go_wp2
  go_end0
  exact ⟨rfl, HH.out.1.drewN 1, HH.out.2.drew⟩

/-! ### Ring[string] -/
theorem placeS_any (p b n : Nat) (a : Int) (w : World) (hd : w.cell? ⟨p, 0, none⟩ = some (.slice (some ⟨b, 0, none⟩) n n)) (n1 : 1 ≤ n) (n2 : n ≤ 1048576) (wa : -9223372036854775808 ≤ a) (wb : a ≤ 9223372036854775807) :
    Calls Try.prog 25 #[.pointer (some ⟨p, 0, none⟩), .int .i64 a] w fun e w' => e = .returned (.int .i64 (a % n)) ∧ w = w' := by
  by_cases h : 0 ≤ a
  · have m0 := Int.emod_nonneg a (by omega : (n : Int) ≠ 0)
    have m1 := Int.emod_lt_of_pos a (by omega : 0 < (n : Int))
    go_enter Try.func25, Try.ntmps25
    go_wp2
    go_ret
    exact ⟨rfl, rfl⟩
  · obtain ⟨t1, t2, t3, t4⟩ := tmod_neg a n (by omega) (by omega)
    by_cases h2 : a.tmod n < 0
    · have HR := Lib.hid (t3 h2)
      clear t3 t4
      go_enter Try.func25, Try.ntmps25
      go_wp2
      go_ret
      exact ⟨ret_int HR.out.symm, rfl⟩
    · have HR := Lib.hid (t4 (by omega))
      clear t3 t4
      go_enter Try.func25, Try.ntmps25
      go_wp2
      go_ret
      exact ⟨ret_int HR.out.symm, rfl⟩

theorem goS_any (p b n : Nat) (a c : Int) (w : World) (hd : w.cell? ⟨p, 0, none⟩ = some (.slice (some ⟨b, 0, none⟩) n n)) (n1 : 1 ≤ n) (n2 : n ≤ 1048576) (wa : -9223372036854775808 ≤ a) (wb : a ≤ 9223372036854775807) (wc : -9223372036854775808 ≤ c) (wd : c ≤ 9223372036854775807) :
    Calls Try.prog 12 #[.pointer (some ⟨p, 0, none⟩), .int .i64 a, .int .i64 c] w fun e w' => e = .returned (.int .i64 ((a + c) % n)) ∧ w = w' := by
  have m0 := Int.emod_nonneg a (by omega : (n : Int) ≠ 0)
  have m1 := Int.emod_lt_of_pos a (by omega : 0 < (n : Int))
  have k0 := Int.emod_nonneg c (by omega : (n : Int) ≠ 0)
  have k1 := Int.emod_lt_of_pos c (by omega : 0 < (n : Int))
  go_enter Try.func12, Try.ntmps12
  go_wp2_with (go_at_call 25; refine (placeS_any p b n _ _ hd n1 n2 (by omega) (by omega)).mono ?_; rintro e w' ⟨rfl, rfl⟩)
  go_ret
  exact ⟨rfl, rfl⟩

theorem farS_any (p b n : Nat) (a c : Int) (w : World) (hd : w.cell? ⟨p, 0, none⟩ = some (.slice (some ⟨b, 0, none⟩) n n)) (n1 : 1 ≤ n) (n2 : n ≤ 1048576) (wa : -9223372036854775808 ≤ a) (wb : a ≤ 9223372036854775807) (wc : -9223372036854775808 ≤ c) (wd : c ≤ 9223372036854775807) :
    Calls Try.prog 11 #[.pointer (some ⟨p, 0, none⟩), .int .i64 a, .int .i64 c] w fun e w' => e = .returned (.int .i64 ((c - a) % n)) ∧ w = w' := by
  have m0 := Int.emod_nonneg a (by omega : (n : Int) ≠ 0)
  have m1 := Int.emod_lt_of_pos a (by omega : 0 < (n : Int))
  have k0 := Int.emod_nonneg c (by omega : (n : Int) ≠ 0)
  have k1 := Int.emod_lt_of_pos c (by omega : 0 < (n : Int))
  go_enter Try.func11, Try.ntmps11
  go_wp2_with (go_at_call 25; refine (placeS_any p b n _ _ hd n1 n2 (by omega) (by omega)).mono ?_; rintro e w' ⟨rfl, rfl⟩)
  go_ret
  exact ⟨rfl, rfl⟩

theorem Try.info9 : (Try.prog.info? 9).map (fun i => (i.zero, i.size, i.bytes)) = some (some (.string ByteArray.empty), 1, 16) := by kernel_rfl

set_option maxHeartbeats 1000000 in
theorem newS_any (n : Int) (v : ByteArray) (N : Nat) (w : World) (hN : (N : Int) = min (max n 1) 1048576) :
    Calls Try.prog 10 #[.int .i64 n, .string v] w fun e w' => ∃ p b, e = .returned (.pointer (some ⟨p, 0, none⟩)) ∧ RingAt w' w.heap.size 9 p b N (List.replicate N (.string v)) ∧ Below w.heap.size w w' := by
  obtain ⟨i0, hi, hz0, hz1, hz2⟩ := info_parts Try.info9
  have N1 : 1 ≤ N := by omega
  have N2 : N ≤ 1048576 := by omega
  have c3 : i0.bytes * N ≤ 281474976710656 := by rw [hz2]; omega
  have c4 : N ≤ maxLen := by unfold maxLen; omega
  have HN := Lib.hid hN; clear hN
  rcases (show n < 1 ∨ 1048576 < n ∨ (1 ≤ n ∧ n ≤ 1048576) by omega) with h1 | h1 | ⟨h1, h2⟩
  all_goals
    go_enter Try.func10, Try.ntmps10
    go_wp2_with (at_make; refine wpList_make_full _ rfl _ _ 42 rfl w.heap.size 9 i0 (.string ByteArray.empty) 1 Try.underlying42 hi hz0 hz1 .i64 .i64 _ _ N rfl rfl (by have := HN.out; omega) (by have := HN.out; omega) c3 c4 (Nat.le_refl _) ?_; intro w1 hown hgr)
    have hF := Fill.start (RT := 44) (.string v) hown hgr
    clear hown hgr
    go_loopw [18] (fun i wr => ∃ (k : Nat) (xs : List Value), k ≤ N ∧ i = .int .i64 k ∧ Fill w wr 9 w1.heap.size w.heap.size N k (.string v) xs) (fun i _ => N - (intOf i).toNat)
    case atStart => exact ⟨0, _, Nat.zero_le _, rfl, hF⟩
    case round =>
      clear hF
      obtain ⟨k, xs, hk, rfl, hF⟩ := hrel
      have hd := hF.hd
      by_cases hlt : k < N
      · have hc := hF.cell k hlt
        have hfz := hF.row.frozenAt k
        have hS := hF.step hlt
        go_wp2
        go_roundw
        case rel => exact ⟨k + 1, _, by omega, by go_num, hS⟩
        case measure => simp [intOf]; omega
      · obtain rfl : k = N := by omega
        go_wp2
        go_ret
        exact ⟨_, _, rfl, hF.done N1 N2, hF.below⟩

/-! ### Ring[byte] -/
theorem placeB_any (p b n : Nat) (a : Int) (w : World) (hd : w.cell? ⟨p, 0, none⟩ = some (.slice (some ⟨b, 0, none⟩) n n)) (n1 : 1 ≤ n) (n2 : n ≤ 1048576) (wa : -9223372036854775808 ≤ a) (wb : a ≤ 9223372036854775807) :
    Calls Try.prog 27 #[.pointer (some ⟨p, 0, none⟩), .int .i64 a] w fun e w' => e = .returned (.int .i64 (a % n)) ∧ w = w' := by
  by_cases h : 0 ≤ a
  · have m0 := Int.emod_nonneg a (by omega : (n : Int) ≠ 0)
    have m1 := Int.emod_lt_of_pos a (by omega : 0 < (n : Int))
    go_enter Try.func27, Try.ntmps27
    go_wp2
    go_ret
    exact ⟨rfl, rfl⟩
  · obtain ⟨t1, t2, t3, t4⟩ := tmod_neg a n (by omega) (by omega)
    by_cases h2 : a.tmod n < 0
    · have HR := Lib.hid (t3 h2)
      clear t3 t4
      go_enter Try.func27, Try.ntmps27
      go_wp2
      go_ret
      exact ⟨ret_int HR.out.symm, rfl⟩
    · have HR := Lib.hid (t4 (by omega))
      clear t3 t4
      go_enter Try.func27, Try.ntmps27
      go_wp2
      go_ret
      exact ⟨ret_int HR.out.symm, rfl⟩

theorem goB_any (p b n : Nat) (a c : Int) (w : World) (hd : w.cell? ⟨p, 0, none⟩ = some (.slice (some ⟨b, 0, none⟩) n n)) (n1 : 1 ≤ n) (n2 : n ≤ 1048576) (wa : -9223372036854775808 ≤ a) (wb : a ≤ 9223372036854775807) (wc : -9223372036854775808 ≤ c) (wd : c ≤ 9223372036854775807) :
    Calls Try.prog 20 #[.pointer (some ⟨p, 0, none⟩), .int .i64 a, .int .i64 c] w fun e w' => e = .returned (.int .i64 ((a + c) % n)) ∧ w = w' := by
  have m0 := Int.emod_nonneg a (by omega : (n : Int) ≠ 0)
  have m1 := Int.emod_lt_of_pos a (by omega : 0 < (n : Int))
  have k0 := Int.emod_nonneg c (by omega : (n : Int) ≠ 0)
  have k1 := Int.emod_lt_of_pos c (by omega : 0 < (n : Int))
  go_enter Try.func20, Try.ntmps20
  go_wp2_with (go_at_call 27; refine (placeB_any p b n _ _ hd n1 n2 (by omega) (by omega)).mono ?_; rintro e w' ⟨rfl, rfl⟩)
  go_ret
  exact ⟨rfl, rfl⟩

theorem farB_any (p b n : Nat) (a c : Int) (w : World) (hd : w.cell? ⟨p, 0, none⟩ = some (.slice (some ⟨b, 0, none⟩) n n)) (n1 : 1 ≤ n) (n2 : n ≤ 1048576) (wa : -9223372036854775808 ≤ a) (wb : a ≤ 9223372036854775807) (wc : -9223372036854775808 ≤ c) (wd : c ≤ 9223372036854775807) :
    Calls Try.prog 19 #[.pointer (some ⟨p, 0, none⟩), .int .i64 a, .int .i64 c] w fun e w' => e = .returned (.int .i64 ((c - a) % n)) ∧ w = w' := by
  have m0 := Int.emod_nonneg a (by omega : (n : Int) ≠ 0)
  have m1 := Int.emod_lt_of_pos a (by omega : 0 < (n : Int))
  have k0 := Int.emod_nonneg c (by omega : (n : Int) ≠ 0)
  have k1 := Int.emod_lt_of_pos c (by omega : 0 < (n : Int))
  go_enter Try.func19, Try.ntmps19
  go_wp2_with (go_at_call 27; refine (placeB_any p b n _ _ hd n1 n2 (by omega) (by omega)).mono ?_; rintro e w' ⟨rfl, rfl⟩)
  go_ret
  exact ⟨rfl, rfl⟩

theorem Try.info5 : (Try.prog.info? 5).map (fun i => (i.zero, i.size, i.bytes)) = some (some (.int .u8 0), 1, 1) := by kernel_rfl

set_option maxHeartbeats 1000000 in
theorem newB_any (n : Int) (v : Int) (N : Nat) (w : World) (hN : (N : Int) = min (max n 1) 1048576) :
    Calls Try.prog 16 #[.int .i64 n, .int .u8 v] w fun e w' => ∃ p b, e = .returned (.pointer (some ⟨p, 0, none⟩)) ∧ RingAt w' w.heap.size 5 p b N (List.replicate N (.int .u8 v)) ∧ Below w.heap.size w w' := by
  obtain ⟨i0, hi, hz0, hz1, hz2⟩ := info_parts Try.info5
  have N1 : 1 ≤ N := by omega
  have N2 : N ≤ 1048576 := by omega
  have c3 : i0.bytes * N ≤ 281474976710656 := by rw [hz2]; omega
  have c4 : N ≤ maxLen := by unfold maxLen; omega
  have HN := Lib.hid hN; clear hN
  rcases (show n < 1 ∨ 1048576 < n ∨ (1 ≤ n ∧ n ≤ 1048576) by omega) with h1 | h1 | ⟨h1, h2⟩
  all_goals
    go_enter Try.func16, Try.ntmps16
    go_wp2_with (at_make; refine wpList_make_full _ rfl _ _ 47 rfl w.heap.size 5 i0 (.int .u8 0) 1 Try.underlying47 hi hz0 hz1 .i64 .i64 _ _ N rfl rfl (by have := HN.out; omega) (by have := HN.out; omega) c3 c4 (Nat.le_refl _) ?_; intro w1 hown hgr)
    have hF := Fill.start (RT := 49) (.int .u8 v) hown hgr
    clear hown hgr
    go_loopw [18] (fun i wr => ∃ (k : Nat) (xs : List Value), k ≤ N ∧ i = .int .i64 k ∧ Fill w wr 5 w1.heap.size w.heap.size N k (.int .u8 v) xs) (fun i _ => N - (intOf i).toNat)
    case atStart => exact ⟨0, _, Nat.zero_le _, rfl, hF⟩
    case round =>
      clear hF
      obtain ⟨k, xs, hk, rfl, hF⟩ := hrel
      have hd := hF.hd
      by_cases hlt : k < N
      · have hc := hF.cell k hlt
        have hfz := hF.row.frozenAt k
        have hS := hF.step hlt
        go_wp2
        go_roundw
        case rel => exact ⟨k + 1, _, by omega, by go_num, hS⟩
        case measure => simp [intOf]; omega
      · obtain rfl : k = N := by omega
        go_wp2
        go_ret
        exact ⟨_, _, rfl, hF.done N1 N2, hF.below⟩

theorem lenB_any (p b n : Nat) (w : World) (hd : w.cell? ⟨p, 0, none⟩ = some (.slice (some ⟨b, 0, none⟩) n n)) :
    Calls Try.prog 17 #[.pointer (some ⟨p, 0, none⟩)] w fun e w' => e = .returned (.int .i64 n) ∧ w = w' := by
  go_enter Try.func17, Try.ntmps17
  go_wp2
  go_ret
  exact ⟨rfl, rfl⟩


theorem getB_any (B p b n : Nat) (xs : List Value) (a : Int) (w : World) (hR : RingAt w B 5 p b n xs) (wa : -9223372036854775808 ≤ a) (wb : a ≤ 9223372036854775807) :
    Calls Try.prog 18 #[.pointer (some ⟨p, 0, none⟩), .int .i64 a] w fun e w' => e = .returned (xs[(a % n).toNat]?.getD undef) ∧ ∃ m, w' = w.drewN m := by
  have hd := hR.hd
  have n1 := hR.n1
  have n2 := hR.n2
  have m0 := Int.emod_nonneg a (by omega : (n : Int) ≠ 0)
  have m1 := Int.emod_lt_of_pos a (by omega : 0 < (n : Int))
  have hc := hR.cell (a % n).toNat (by omega)
  generalize hv : xs[(a % n).toNat]?.getD undef = v at hc ⊢
  clear hv
  go_enter Try.func18, Try.ntmps18
  go_wp2
  go_quiet ((go_at_call 27; exact quiet_left (placeB_any p b n _ _ hd n1 n2 (by omega) (by omega))))
  go_wp2
  go_ret
  exact ⟨rfl, _, rfl⟩

theorem getsB_any (B p b n : Nat) (xs : List Value) (a : Int) (w : World) (hR : RingAt w B 5 p b n xs) (wa : -9223372036854775808 ≤ a) (wb : a ≤ 9223372036854775807) :
    Calls Try.prog 18 #[.pointer (some ⟨p, 0, none⟩), .int .i64 a] w fun e w' => e = .returned (xs[(a % n).toNat]?.getD undef) ∧ RingAt w' B 5 p b n xs ∧ ∀ B', Below B' w w' :=
  (getB_any B p b n xs a w hR wa wb).mono fun _ _ ⟨he, m, hm⟩ => ⟨he, hm ▸ hR.drewN m, fun _ => hm ▸ ⟨rfl, rfl, rfl, Nat.le_refl _, fun _ _ => rfl⟩⟩


theorem and65535 (n : Int) : bits .and .i64 n 65535 = n % 65536 := by
  have h : (BitVec.ofInt 64 65535).toNat = 2 ^ 16 - 1 := by decide
  have key : (BitVec.ofInt 64 n &&& BitVec.ofInt 64 65535).toNat = (n % ((2 ^ 64 : Nat) : Int)).toNat % 2 ^ 16 := by
    rw [BitVec.toNat_and, BitVec.toNat_ofInt, h, Nat.and_two_pow_sub_one_eq_mod]
  show IntKind.i64.wrap ((BitVec.ofInt 64 n &&& BitVec.ofInt 64 65535).toNat : Nat) = n % 65536
  rw [key, IntKind.wrap_i64]
  omega
attribute [local go_sem] and65535

theorem few_any (n : Int) (w : World) : Calls Try.prog 9 #[.int .i64 n] w fun e w' => e = .returned (.int .i64 (1 + n % 65536 % 300)) ∧ w = w' := by
  have r0 : 0 ≤ n % 65536 := by omega
  go_enter Try.func9, Try.ntmps9
  go_wp2
  go_ret
  exact ⟨rfl, rfl⟩

set_option maxHeartbeats 1000000 in
theorem shown_any (w : World) : Calls Try.prog 8 #[] w fun e w' => e = .returned (.bool true) ∧ Below w.heap.size w w' := by
  go_enter Try.func8, Try.ntmps8
  go_wp2_with fail
  refine (newI_any 5 7 5 _ (by decide)).mono ?_
  rintro e w1 ⟨p, b, rfl, hR, hB⟩
  have hd := hR.hd
  have H := Lib.hid hR
  clear hR
  go_wp2_with (first | (go_at_call 21; refine (goI_any p b 5 _ _ _ hd (by omega) (by omega) (by omega) (by omega) (by omega) (by omega)).mono ?_; rintro e w' ⟨rfl, rfl⟩) | (go_at_call 22; refine (farI_any p b 5 _ _ _ hd (by omega) (by omega) (by omega) (by omega) (by omega) (by omega)).mono ?_; rintro e w' ⟨rfl, rfl⟩))
  refine (setI_any _ p b 5 _ (-1) 9 _ H.out (by omega) (by omega)).mono ?_
  rintro e w2 ⟨rfl, hR2, hB2⟩
  have hd2 := hR2.hd
  have H2 := Lib.hid hR2
  clear hR2
  go_wp2_with (first | (go_at_call 24; refine (lenI_any p b 5 _ hd2).mono ?_; rintro e w' ⟨rfl, rfl⟩))
  refine (getsI_any _ p b 5 _ 4 _ H2.out (by omega) (by omega)).mono ?_
  rintro e w3 ⟨rfl, hR3, hB3⟩
  have H3 := Lib.hid hR3
  clear hR3
  go_wp2_with fail
  refine (getsI_any _ p b 5 _ 0 _ H3.out (by omega) (by omega)).mono ?_
  rintro e w4 ⟨rfl, hR4, hB4⟩
  go_wp2_with fail
  go_ret
  exact ⟨rfl, ((hB.trans hB2).trans (hB3 _)).trans (hB4 _)⟩
end Go.Proofs.Ytdacnlcalcgjiaa
