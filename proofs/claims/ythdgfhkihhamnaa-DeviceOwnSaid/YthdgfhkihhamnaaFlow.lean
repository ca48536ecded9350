/-
  PROVED HERE: plain facts of the model: what a crash does with what waits; the state of a law's loops.
-/
import Derived.Test.YthdgfhkihhamnaaCalm
namespace Go.Proofs.Ythdgfhkihhamnaa
open Go.ChangeShapes Go.WideShapes Go.ChangeAt Go.RowKit

/-! ### What a crash does -/
theorem fates_torn (keep : List Int) : ∀ (l : List (Int × List Int)) (k : Nat) (E : Dev) (i : Int), (Dev.fates keep k E l).torn i = true → E.torn i = true ∨ ∃ x, x ∈ l ∧ x.1 = i := by
  intro l
  induction l with
  | nil => intro k E i h; exact .inl h
  | cons x l ih =>
    intro k E i h
    rw [Dev.fates] at h
    rcases ih _ _ i h with h1 | ⟨y, h1, h2⟩
    · by_cases c : x.1 = i
      · exact .inr ⟨x, List.mem_cons_self, c⟩
      · refine .inl ?_
        unfold Dev.fate at h1
        split at h1
        · simpa [Dev.done, Ne.symm c] using h1
        · split at h1
          · simpa [Dev.tear, Ne.symm c] using h1
          · exact h1
    · exact .inr ⟨y, List.mem_cons_of_mem _ h1, h2⟩
theorem fates_secs (keep : List Int) : ∀ (l : List (Int × List Int)) (k : Nat) (E : Dev) (i : Int), (Dev.fates keep k E l).secs i = E.secs i ∨ ∃ x, x ∈ l ∧ x.1 = i ∧ (Dev.fates keep k E l).secs i = some x.2 := by
  intro l
  induction l with
  | nil => intro k E i; exact .inl rfl
  | cons x l ih =>
    intro k E i
    rw [Dev.fates]
    rcases ih (k + 1) (E.fate (keep[k]?.getD 0) x) i with h1 | ⟨y, h1, h2, h3⟩
    · rw [h1]
      unfold Dev.fate
      split
      · by_cases c : x.1 = i
        · exact .inr ⟨x, List.mem_cons_self, c, by simp [Dev.done, c]⟩
        · exact .inl (by simp [Dev.done, Ne.symm c])
      · split
        · exact .inl rfl
        · exact .inl rfl
    · exact .inr ⟨y, List.mem_cons_of_mem _ h1, h2, h3⟩
/-- A device of n sectors, up, behind k writes, with m waiting over what F has for good. -/
structure Waits (F D : Dev) (m : List (Int × List Int)) (k : Int) : Prop where
  calm : Calm D
  size : D.n = F.n
  secs : D.secs = F.secs
  torn : ∀ i, D.torn i = false
  wait : D.wait = m
  w : D.w = k
section
variable {F D : Dev} {m : List (Int × List Int)} {k : Int}
theorem Waits.write (h : Waits F D m k) (i : Int) (bs : List Int) : Waits F (D.write i bs) (m ++ [(i, bs)]) (k + 1) ∧ (D.write i bs).r = D.r ∧ (D.write i bs).f = D.f := by
  have hw := h.calm.write i bs
  rw [hw]
  exact ⟨⟨⟨h.calm.down, h.calm.armed⟩, h.size, h.secs, h.torn, congrArg (· ++ [(i, bs)]) h.wait, congrArg (· + 1) h.w⟩, rfl, rfl⟩
theorem Tells.waits {n : Nat} {ys : List Int} (h : Tells D n ys k) : Waits D.flush D.flush [] k := by
  have t := h.flush.1
  exact ⟨t.calm, rfl, rfl, t.torn, by rw [h.calm.flush], t.w⟩
/-- A device that came up again: nothing waits. -/
structure Up (n : Nat) (S : Int → Option (List Int)) (T : Int → Bool) (D : Dev) : Prop where
  calm : Calm D
  size : D.n = n
  secs : D.secs = S
  torn : D.torn = T
  wait : D.wait = []
theorem crash_up (D : Dev) (keep : List Int) : Up D.n (D.crash keep).secs (D.crash keep).torn (D.crash keep).start ∧ (D.crash keep).down = true ∧ (D.crash keep).start.r = D.r ∧ (D.crash keep).start.w = D.w ∧ (D.crash keep).start.f = D.f := by
  obtain ⟨c1, c2, c3, c4⟩ := crash_cnt D keep
  exact ⟨⟨⟨rfl, rfl⟩, c4, rfl, rfl, rfl⟩, rfl, c2, c1, c3⟩
variable {n : Nat} {S : Int → Option (List Int)} {T : Int → Bool}
theorem Up.read (h : Up n S T D) : Up n S T D.read ∧ D.read.r = D.r + 1 ∧ D.read.w = D.w := by
  rw [h.calm.read]
  exact ⟨⟨⟨h.calm.down, h.calm.armed⟩, h.size, h.secs, h.torn, h.wait⟩, rfl, rfl⟩
theorem Up.answer (h : Up n S T D) (i : Int) (hT : T i = false) : D.answer i = (0, some ((S i).getD noughts)) := by
  rw [h.calm.answer i (by rw [h.torn]; exact hT)]
  unfold Dev.val
  rw [h.wait, h.secs]; rfl
theorem Up.answer_torn (h : Up n S T D) (i : Int) (hT : T i = true) : D.answer i = (3, none) :=
  h.calm.answer_torn i (by rw [h.torn]; exact hT) (by rw [h.wait]; rfl)
theorem Up.has (h : Up n S T D) (i : Nat) (hi : i < n) : D.has i = true := by
  unfold Dev.has; rw [h.size]; simp; omega
/-- What a sector is behind a crash: as it was, or one of those that waited, or torn. -/
theorem Waits.crash (h : Waits F D m k) (keep : List Int) (i : Int) :
    ((D.crash keep).torn i = true ∧ ∃ x, x ∈ m ∧ x.1 = i) ∨ ((D.crash keep).torn i = false ∧ ((D.crash keep).secs i = F.secs i ∨ ∃ x, x ∈ m ∧ x.1 = i ∧ (D.crash keep).secs i = some x.2)) := by
  have h1 := fates_torn keep D.wait 0 D i
  have h2 := fates_secs keep D.wait 0 D i
  have ht : (D.crash keep).torn i = (Dev.fates keep 0 D D.wait).torn i := rfl
  have hs : (D.crash keep).secs i = (Dev.fates keep 0 D D.wait).secs i := rfl
  rw [ht, hs]
  rw [h.wait] at h1 h2 ⊢
  cases c : (Dev.fates keep 0 D m).torn i with
  | true =>
    rcases h1 c with h3 | h3
    · rw [h.torn] at h3; cases h3
    · exact .inl ⟨rfl, h3⟩
  | false => rw [h.secs] at h2; exact .inr ⟨rfl, h2⟩
end

/-! ### The state of a law's loops: a device, and a slice of ints of the law's own -/
structure LG (w wr : World) (B dp lb : Nat) (Z : Nat → Prop) (ys : List Int) (D : Dev) : Prop where
  dev : In B Z wr dp D
  row : IntsAt wr lb ys
  nz : ¬ Z lb
  lo : w.heap.size ≤ lb
  bel : Below w.heap.size w wr
  wB : w.heap.size ≤ B
  BW : B ≤ wr.heap.size
section
variable {w wr w' u : World} {B dp lb : Nat} {Z Z' : Nat → Prop} {D D' : Dev} {ys : List Int}
theorem LG.below (h : LG w wr B dp lb Z ys D) (hb : Below wr.heap.size wr w') : LG w w' B dp lb Z ys D :=
  ⟨h.dev.below hb, h.row.below hb, h.nz, h.lo, h.bel.trans (hb.mono h.bel.size), h.wB, Nat.le_trans h.BW hb.size⟩
theorem LG.step (h : LG w wr B dp lb Z ys D) (hI : In B Z' w' dp D') (hS : Step Z Z' wr w') : LG w w' B dp lb Z' ys D' :=
  ⟨hI, h.row.step h.nz hS, fun e => h.nz (hS.new lb h.row.lt e), h.lo, h.bel.trans (hS.below (fun k hk => Nat.le_trans h.wB (h.dev.lo k hk)) h.bel.size), h.wB, Nat.le_trans h.BW hS.out.size⟩
theorem LG.set (h : LG w wr B dp lb Z ys D) (j : Nat) (v : Int) : LG w (wr.setCell ⟨lb, j, none⟩ (.int .i64 v)) B dp lb Z (ys.set j v) D :=
  ⟨h.dev.apart (by rw [World.size_setCell]; exact Nat.le_refl _) (fun k hk => Below.heap_setCell wr ⟨lb, j, none⟩ _ k (fun e => h.nz (by have e2 : lb = k := e.symm; rw [e2]; exact hk))),
   h.row.set j v, h.nz, h.lo, h.bel.setCell (p := ⟨lb, j, none⟩) h.lo _, h.wB, by rw [World.size_setCell]; exact h.BW⟩
end

theorem made_ints {w w1 : World} {B n : Nat} (hown : w1.ownsRow B 3 1 (.slice (some ⟨w.heap.size, 0, none⟩) n n) n (madeCells #[.int .i64 0] (n * 1)).toList) : IntsAt w1 w.heap.size (List.replicate n 0) := by
  obtain ⟨h1, h2⟩ := hown
  rcases h2 with ⟨h2, _⟩ | ⟨g, cap, cur, hv, hb, hh, hn, hc, hs, ht⟩
  · simp at h2
  · simp only [Value.slice.injEq, Option.some.injEq, Addr.mk.injEq, and_true, true_and] at hv
    obtain ⟨rfl, rfl⟩ := hv
    unfold IntsAt
    rw [hh]
    have e : cur.toList = (List.replicate n (0 : Int)).map (Value.int .i64) := by
      rw [Nat.mul_one, toList_madeCells_one] at ht
      rw [List.take_of_length_le (by rw [Array.length_toList]; omega)] at ht
      rw [ht]; simp
    rw [← e]

/-! ### What came in -/
/-- The numbers of a slice that came in, as far as it goes. -/
def InRow (w : World) (a : Option Addr) (len : Nat) (z : List Int) : Prop :=
  ∀ i, i < len → ∃ blk off, a = some ⟨blk, off, none⟩ ∧ blk < w.heap.size ∧ ∀ j, j < len → w.cell? ⟨blk, off + j, none⟩ = some (.int .i64 (z[j]?.getD 0))
theorem InRow.keep {w w' : World} {a : Option Addr} {len : Nat} {z : List Int} (h : InRow w a len z) (hb : Below w.heap.size w w') (hl : len ≤ 9223372036854775807) : KeepArg w' a len ((List.range len).map fun i => z[i]?.getD 0) := by
  refine ⟨by simp, hl, ?_⟩
  by_cases c : len = 0
  · exact .inl c
  · obtain ⟨blk, off, h1, h2, h3⟩ := h 0 (by omega)
    refine .inr ⟨blk, off, h1, fun i hi => ?_⟩
    rw [hb.cell (p := ⟨blk, off + i, none⟩) h2, h3 i hi]
    simp [hi]
/-- Which sectors are written to, and what. -/
def mores (n : Int) (x : Int) (z : List Int) (k : Nat) : List (Int × List Int) := (List.range k).map fun i => ((z[i]?.getD 0) % 65536 % n, sec (x + (i : Nat)))
theorem mores_succ (n x : Int) (z : List Int) (k : Nat) : mores n x z (k + 1) = mores n x z k ++ [((z[k]?.getD 0) % 65536 % n, sec (x + (k : Nat)))] := by
  unfold mores; rw [List.range_succ, List.map_append]; rfl
theorem mores_mem {n x : Int} {z : List Int} {k : Nat} {y : Int × List Int} (h : y ∈ mores n x z k) : ∃ i, i < k ∧ y.1 = (z[i]?.getD 0) % 65536 % n ∧ y.2 = sec (x + (i : Nat)) := by
  obtain ⟨i, h1, h2⟩ := List.mem_map.1 h
  exact ⟨i, List.mem_range.1 h1, by rw [← h2], by rw [← h2]⟩
end Go.Proofs.Ythdgfhkihhamnaa
