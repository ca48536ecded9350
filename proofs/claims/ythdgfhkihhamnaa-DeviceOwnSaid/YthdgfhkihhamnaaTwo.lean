/-
  PROVED HERE: two devices side by side; a slice of ints beside them; what a crash does with one write to each sector.
-/
import Derived.Test.YthdgfhkihhamnaaFlow
namespace Go.Proofs.Ythdgfhkihhamnaa
open Go.ChangeShapes Go.WideShapes Go.ChangeAt Go.RowKit

/-! ### A slice of ints that is none of the devices' -/
def Held (w : World) (Z : Nat → Prop) (a : Option Addr) (len : Nat) (kl : List Int) : Prop :=
  kl.length = len ∧ len ≤ 9223372036854775807 ∧ (len = 0 ∨ ∃ kb off, a = some ⟨kb, off, none⟩ ∧ ¬ Z kb ∧ ∀ i, i < len → w.cell? ⟨kb, off + i, none⟩ = some (.int .i64 (kl[i]?.getD 0)))
def nums (z : List Int) (k : Nat) : List Int := (List.range k).map fun i => z[i]?.getD 0
theorem nums_len (z : List Int) (k : Nat) : (nums z k).length = k := by unfold nums; simp
theorem nums_get (z : List Int) (k i : Nat) : (nums z k)[i]?.getD 0 = if i < k then z[i]?.getD 0 else 0 := by
  unfold nums
  by_cases h : i < k <;> simp [h]
section
variable {w w' : World} {Z Z' : Nat → Prop} {a : Option Addr} {len : Nat} {kl : List Int}
theorem Held.arg (h : Held w Z a len kl) : KeepArg w a len kl := by
  obtain ⟨h1, h2, h3⟩ := h
  refine ⟨h1, h2, ?_⟩
  rcases h3 with h3 | ⟨kb, off, r, _, h3⟩
  · exact .inl h3
  · exact .inr ⟨kb, off, r, h3⟩
theorem Held.step (h : Held w Z a len kl) (hk : ∀ k, k < w.heap.size → ¬ Z k → w'.heap[k]? = w.heap[k]?) (hz : ∀ k, k < w.heap.size → Z' k → Z k) : Held w' Z' a len kl := by
  obtain ⟨h1, h2, h3⟩ := h
  refine ⟨h1, h2, ?_⟩
  rcases h3 with h3 | ⟨kb, off, r, h4, h3⟩
  · exact .inl h3
  · by_cases c : len = 0
    · exact .inl c
    · have hl : kb < w.heap.size := World.block_lt_of_cell? w ⟨kb, off + 0, none⟩ (h3 0 (by omega))
      refine .inr ⟨kb, off, r, fun e => h4 (hz kb hl e), fun i hi => ?_⟩
      rw [World.cell?_of_block (w := w) (hk kb hl h4)]
      exact h3 i hi
theorem Held.below (h : Held w Z a len kl) (hb : Below w.heap.size w w') : Held w' Z a len kl := h.step (fun k hk _ => hb.block k hk) (fun _ _ h => h)
theorem Held.cell {kb off : Nat} (h : Held w Z (some ⟨kb, off, none⟩) len kl) (i : Nat) (hi : i < len) : w.cell? ⟨kb, off + i, none⟩ = some (.int .i64 (kl[i]?.getD 0)) := by
  rcases h.2.2 with h3 | ⟨kb', off', r, _, h3⟩
  · omega
  · cases r; exact h3 i hi
theorem Held.form (h : Held w Z a len kl) (hl : 0 < len) : ∃ kb off, a = some ⟨kb, off, none⟩ := by
  rcases h.2.2 with h3 | ⟨kb', off', r, _, _⟩
  · omega
  · exact ⟨_, _, r⟩
theorem InRow.held {z : List Int} {w0 : World} (h : InRow w0 a len z) (hb : Below w0.heap.size w0 w) (K : Nat) (hK : K ≤ len) (hl : len ≤ 9223372036854775807) (hz : ∀ k, Z k → w0.heap.size ≤ k) : Held w Z a K (nums z K) := by
  refine ⟨nums_len _ _, by omega, ?_⟩
  by_cases c : K = 0
  · exact .inl c
  · obtain ⟨blk, off, h1, h2, h3⟩ := h 0 (by omega)
    refine .inr ⟨blk, off, h1, fun e => by have := hz blk e; omega, fun i hi => ?_⟩
    rw [hb.cell (p := ⟨blk, off + i, none⟩) h2, h3 i (by omega), nums_get, if_pos hi]
/-- A row that an append made. -/
theorem own_held {base n : Nat} {v : Value} (h : w.ownsRow base 3 1 v n (kl.map (Value.int .i64))) (hz : ∀ k, Z k → k < base) (hn : n ≤ 9223372036854775807) : ∃ a c, v = .slice a n c ∧ Held w Z a n kl := by
  obtain ⟨h1, h2⟩ := h
  have hl : kl.length = n := by simpa using h1
  rcases h2 with ⟨rfl, rfl⟩ | ⟨g, cap, cur, rfl, hg, hh, h3, h4, h5, h6⟩
  · exact ⟨none, 0, rfl, hl, hn, .inl rfl⟩
  · refine ⟨_, _, rfl, hl, hn, .inr ⟨g, 0, rfl, fun e => by have := hz g e; omega, fun i hi => ?_⟩⟩
    rw [Nat.zero_add, Nat.mul_one] at *
    have e : cur[i]? = some (.int .i64 (kl[i]?.getD 0)) := by
      have h7 : (cur.toList.take n)[i]? = (kl.map (Value.int .i64))[i]? := by rw [h6]
      rw [List.getElem?_take_of_lt hi, List.getElem?_map, List.getElem?_eq_getElem (by omega : i < kl.length)] at h7
      rw [← Array.getElem?_toList, h7, List.getElem?_eq_getElem (by omega : i < kl.length)]; rfl
    simp [World.cell?, hh, e]
theorem held_news {kb off : Nat} (h : Held w Z (some ⟨kb, off, none⟩) len kl) : ∀ j u, (kl.map (Value.int .i64))[j]? = some u → w.cell? ((⟨kb, off, none⟩ : Addr).add j) = some u := by
  intro j u hu
  have hj : j < len := by
    by_cases c : j < len
    · exact c
    · rw [List.getElem?_eq_none (by rw [List.length_map, h.1]; omega)] at hu; cases hu
  have e : (⟨kb, off, none⟩ : Addr).add j = ⟨kb, off + j, none⟩ := by unfold Addr.add; split <;> simp_all
  rw [e, h.cell j hj]
  rw [List.getElem?_map, List.getElem?_eq_getElem (by rw [h.1]; omega)] at hu
  rw [List.getElem?_eq_getElem (by rw [h.1]; omega)]
  exact hu
theorem InRow.news {z : List Int} {w0 : World} {p : Addr} (h : InRow w0 (some p) len z) (hb : Below w0.heap.size w0 w) (hl : len ≤ 9223372036854775807) : ∀ j u, ((nums z len).map (Value.int .i64))[j]? = some u → w.cell? (p.add j) = some u := by
  by_cases c0 : len = 0
  · subst c0
    intro j u hu
    simp [nums] at hu
  · have hh := h.held (Z := fun _ => False) hb len (Nat.le_refl _) hl (fun k hk => hk.elim)
    obtain ⟨kb2, off2, e2⟩ := hh.form (by omega)
    cases e2
    exact held_news hh
theorem ints_one (l : List Int) : ∀ u ∈ l.map (Value.int .i64), u.oneCell' = true := by
  intro u hu; obtain ⟨x, _, rfl⟩ := List.mem_map.1 hu; rfl
end

theorem first_made {w wx : World} {Z : Nat → Prop} {K : Nat} {v : Value} {kl : List Int} (hown : wx.ownsRow w.heap.size 3 1 v (0 + K) ([] ++ kl.map (Value.int .i64)))
    (hg : (w.alloc (.cells #[] 3)).grownBy wx (Value.slice (some ⟨w.heap.size, 0, none⟩) 0 0).ownBlock) (hZ : ∀ k, Z k → k < w.heap.size) (hK : K ≤ 9223372036854775807) :
    ∃ a c, v = .slice a K c ∧ Held wx Z a K kl ∧ Below w.heap.size w wx ∧ wx.ownsRow w.heap.size 3 1 (.slice a K c) K (kl.map (Value.int .i64)) := by
  have hown1 : wx.ownsRow w.heap.size 3 1 v K (kl.map (Value.int .i64)) := by rwa [List.nil_append, Nat.zero_add] at hown
  have hbel1 : Below w.heap.size w wx := ((Below.refl w.heap.size w).alloc (Nat.le_refl _) (.cells #[] 3)).grown hg (by simp) (fun k e => by cases e; exact Nat.le_refl _)
  obtain ⟨a, c, rfl, hh1⟩ := own_held hown1 hZ hK
  exact ⟨a, c, rfl, hh1, hbel1, hown1⟩
theorem second_made {w wx wy : World} {Z : Nat → Prop} {K m : Nat} {v v' : Value} {kl ml : List Int} (hbel : Below w.heap.size w wx) (hown : wx.ownsRow w.heap.size 3 1 v K (kl.map (Value.int .i64)))
    (hown2 : wy.ownsRow w.heap.size 3 1 v' (K + m) (kl.map (Value.int .i64) ++ ml.map (Value.int .i64))) (hg : wx.grownBy wy v.ownBlock) (hZ : ∀ k, Z k → k < w.heap.size) (hK : K + m ≤ 9223372036854775807) :
    ∃ a c, v' = .slice a (K + m) c ∧ Held wy Z a (K + m) (kl ++ ml) ∧ Below w.heap.size w wy := by
  rw [← List.map_append] at hown2
  have hbel2 : Below w.heap.size w wy := hbel.grown hg hbel.size (fun k e => (hown.lt k e).1)
  obtain ⟨a, c, rfl, hh1⟩ := own_held hown2 hZ hK
  exact ⟨a, c, rfl, hh1, hbel2⟩

/-! ### Two devices -/
structure LK (w wr : World) (B da db : Nat) (Za Zb : Nat → Prop) (Da Db : Dev) : Prop where
  a : In B Za wr da Da
  b : In B Zb wr db Db
  dis : ∀ k, Za k → ¬ Zb k
  bel : Below w.heap.size w wr
  wB : w.heap.size ≤ B
  BW : B ≤ wr.heap.size
section
variable {w wr w' : World} {B da db : Nat} {Za Zb Z' : Nat → Prop} {Da Db D' : Dev} {a : Option Addr} {len : Nat} {kl : List Int}
theorem LK.below (h : LK w wr B da db Za Zb Da Db) (hb : Below wr.heap.size wr w') : LK w w' B da db Za Zb Da Db :=
  ⟨h.a.below hb, h.b.below hb, h.dis, h.bel.trans (hb.mono h.bel.size), h.wB, Nat.le_trans h.BW hb.size⟩
theorem LK.stepA (h : LK w wr B da db Za Zb Da Db) (hI : In B Z' w' da D') (hS : Step Za Z' wr w') : LK w w' B da db Z' Zb D' Db :=
  ⟨hI, h.b.apart hS.out.size (fun k hk => hS.out.block k (h.b.hi k hk) (fun e => h.dis k e hk)), fun k hk hz => h.dis k (hS.new k (h.b.hi k hz) hk) hz,
    h.bel.trans (hS.below (fun k hk => Nat.le_trans h.wB (h.a.lo k hk)) h.bel.size), h.wB, Nat.le_trans h.BW hS.out.size⟩
theorem LK.stepB (h : LK w wr B da db Za Zb Da Db) (hI : In B Z' w' db D') (hS : Step Zb Z' wr w') : LK w w' B da db Za Z' Da D' :=
  ⟨h.a.apart hS.out.size (fun k hk => hS.out.block k (h.a.hi k hk) (fun e => h.dis k hk e)), hI, fun k hk hz => h.dis k hk (hS.new k (h.a.hi k hk) hz),
    h.bel.trans (hS.below (fun k hk => Nat.le_trans h.wB (h.b.lo k hk)) h.bel.size), h.wB, Nat.le_trans h.BW hS.out.size⟩
theorem Held.stepA (h : Held wr (fun k => Za k ∨ Zb k) a len kl) (hS : Step Za Z' wr w') : Held w' (fun k => Z' k ∨ Zb k) a len kl :=
  h.step (fun k hk hz => hS.out.block k hk (fun e => hz (.inl e))) (fun k hk hz => hz.elim (fun e => .inl (hS.new k hk e)) .inr)
theorem Held.stepB (h : Held wr (fun k => Za k ∨ Zb k) a len kl) (hS : Step Zb Z' wr w') : Held w' (fun k => Za k ∨ Z' k) a len kl :=
  h.step (fun k hk hz => hS.out.block k hk (fun e => hz (.inr e))) (fun k hk hz => hz.elim .inl (fun e => .inr (hS.new k hk e)))
end
theorem same_nil (w : World) : Calls Try.prog 16 #[.slice none 0 0, .slice none 0 0] w fun e w' => e = .returned (.bool true) ∧ w = w' := by
  have k1 : (convert 29 9 (.slice none 0 0)).run Try.prog w = .ok (.string ByteArray.empty) w := by
    rw [run_convert_bytes_string (P := Try.prog) w 29 9 5 none 0 0 Try.underlying29 Try.underlying5 Try.underlying9]
    simp [Conv.bytesToString, Sem.run_pure]
  go_enter Try.func16, Try.ntmps16
  go_wp2
  go_ret
  exact ⟨rfl, rfl⟩

/-! ### One write to each sector -/
def ones (k m : Nat) : List (Int × List Int) := (List.range' k m).map fun (i : Nat) => ((i : Int), sec ((i : Int) + 1))
theorem ones_snoc (m : Nat) : ones 0 (m + 1) = ones 0 m ++ [((m : Int), sec ((m : Int) + 1))] := by
  unfold ones; rw [List.range'_concat]; simp
theorem ones_cons (k m : Nat) : ones k (m + 1) = ((k : Int), sec ((k : Int) + 1)) :: ones (k + 1) m := by
  unfold ones; rw [List.range'_succ]; rfl
theorem fates_ones (keep : List Int) : ∀ (m k : Nat) (E : Dev) (i : Nat),
    (Dev.fates keep k E (ones k m)).torn i = (if k ≤ i ∧ i < k + m then (if keep[i]?.getD 0 = 1 then false else if keep[i]?.getD 0 = 2 then true else E.torn i) else E.torn i) ∧
    (Dev.fates keep k E (ones k m)).secs i = (if k ≤ i ∧ i < k + m then (if keep[i]?.getD 0 = 1 then some (sec ((i : Int) + 1)) else E.secs i) else E.secs i) := by
  intro m
  induction m with
  | zero =>
    intro k E i
    rw [if_neg (by omega), if_neg (by omega)]
    exact ⟨rfl, rfl⟩
  | succ m ih =>
    intro k E i
    rw [ones_cons, Dev.fates]
    obtain ⟨h1, h2⟩ := ih (k + 1) (E.fate (keep[k]?.getD 0) ((k : Int), sec ((k : Int) + 1))) i
    rw [h1, h2]
    have A : ∀ {α : Type} (p : Prop) [Decidable p] (x y : α), p → (if p then x else y) = x := fun p _ x y h => if_pos h
    have B : ∀ {α : Type} (p : Prop) [Decidable p] (x y : α), ¬ p → (if p then x else y) = y := fun p _ x y h => if_neg h
    by_cases c : i = k
    · subst c
      rw [B (i + 1 ≤ i ∧ i < i + 1 + m) _ _ (by omega), B (i + 1 ≤ i ∧ i < i + 1 + m) _ _ (by omega), A (i ≤ i ∧ i < i + (m + 1)) _ _ (by omega), A (i ≤ i ∧ i < i + (m + 1)) _ _ (by omega)]
      unfold Dev.fate
      split
      · simp [Dev.done]
      · split <;> simp [Dev.tear]
    · have e : ¬ (i : Int) = (k : Int) := by omega
      have ht : (E.fate (keep[k]?.getD 0) ((k : Int), sec ((k : Int) + 1))).torn i = E.torn i := by
        unfold Dev.fate
        split
        · show (if (i : Int) = (k : Int) then false else E.torn i) = _
          rw [B _ _ _ e]
        · split
          · show (if (i : Int) = (k : Int) then true else E.torn i) = _
            rw [B _ _ _ e]
          · rfl
      have hs : (E.fate (keep[k]?.getD 0) ((k : Int), sec ((k : Int) + 1))).secs i = E.secs i := by
        unfold Dev.fate
        split
        · show (if (i : Int) = (k : Int) then some (sec ((k : Int) + 1)) else E.secs i) = _
          rw [B _ _ _ e]
        · split <;> rfl
      rw [ht, hs]
      by_cases d : k + 1 ≤ i ∧ i < k + 1 + m
      · rw [A _ _ _ d, A _ _ _ d, A (k ≤ i ∧ i < k + (m + 1)) _ _ (by omega), A (k ≤ i ∧ i < k + (m + 1)) _ _ (by omega)]
        exact ⟨rfl, rfl⟩
      · rw [B _ _ _ d, B _ _ _ d, B (k ≤ i ∧ i < k + (m + 1)) _ _ (by omega), B (k ≤ i ∧ i < k + (m + 1)) _ _ (by omega)]
        exact ⟨rfl, rfl⟩
/-- A device behind such a crash, up again, after m Reads. -/
structure Al (n : Nat) (q : Nat → Int) (m : Nat) (E : Dev) : Prop where
  up : ∃ S T, Up n S T E ∧ ∀ i : Nat, i < n → T i = decide (q i = 2) ∧ S i = if q i = 1 then some (sec ((i : Int) + 1)) else none
  w0 : 0 ≤ E.w
  w1 : E.w ≤ 100
  r : E.r = m
section
variable {n m : Nat} {q : Nat → Int} {E D : Dev}
theorem Al.read (h : Al n q m E) : Al n q (m + 1) E.read := by
  obtain ⟨⟨S, T, h1, h2⟩, h3, h4, h5⟩ := h
  obtain ⟨t1, t2, t3⟩ := h1.read
  exact ⟨⟨S, T, t1, h2⟩, by omega, by omega, by omega⟩
theorem Al.congr {q' : Nat → Int} (h : Al n q m E) (hq : ∀ i, i < n → q' i = q i) : Al n q' m E := by
  obtain ⟨⟨S, T, h1, h2⟩, h3, h4, h5⟩ := h
  exact ⟨⟨S, T, h1, fun i hi => by rw [hq i hi]; exact h2 i hi⟩, h3, h4, h5⟩
theorem Al.has (h : Al n q m E) (i : Nat) (hi : i < n) : E.has i = true := by
  obtain ⟨⟨S, T, h1, h2⟩, h3, h4, h5⟩ := h
  exact h1.has i hi
theorem Al.torn (h : Al n q m E) (i : Nat) (hi : i < n) (hq : q i = 2) : E.answer i = (3, none) := by
  obtain ⟨⟨S, T, h1, h2⟩, h3, h4, h5⟩ := h
  obtain ⟨t1, t2⟩ := h2 i hi
  exact h1.answer_torn i (by rw [t1, hq]; rfl)
theorem Al.done (h : Al n q m E) (i : Nat) (hi : i < n) (hq : q i = 1) : E.answer i = (0, some (sec ((i : Int) + 1))) := by
  obtain ⟨⟨S, T, h1, h2⟩, h3, h4, h5⟩ := h
  obtain ⟨t1, t2⟩ := h2 i hi
  rw [h1.answer i (by rw [t1, hq]; rfl), t2, if_pos hq]; rfl
theorem Al.lost (h : Al n q m E) (i : Nat) (hi : i < n) (h1 : q i ≠ 1) (h2 : q i ≠ 2) : E.answer i = (0, some noughts) := by
  obtain ⟨⟨S, T, g1, g2⟩, h3, h4, h5⟩ := h
  obtain ⟨t1, t2⟩ := g2 i hi
  rw [g1.answer i (by rw [t1]; simp [h2]), t2, if_neg h1]; rfl
theorem ones_crash (h : Waits (Dev.fresh n) D (ones 0 n) n) (hr : D.r = 0) (hn : n ≤ 100) (keep : List Int) : Al n (fun i => keep[i]?.getD 0) 0 (D.crash keep).start ∧ (D.crash keep).down = true := by
  obtain ⟨c1, c2, c3, c4, c5⟩ := crash_up D keep
  have hw := h.w
  have hs : D.n = n := h.size
  rw [hs] at c1
  refine ⟨⟨⟨_, _, c1, fun i hi => ?_⟩, by omega, by omega, by omega⟩, c2⟩
  obtain ⟨t1, t2⟩ := fates_ones keep n 0 D i
  rw [if_pos ⟨by omega, by omega⟩] at t1 t2
  have e1 : (D.crash keep).torn i = (Dev.fates keep 0 D D.wait).torn i := rfl
  have e2 : (D.crash keep).secs i = (Dev.fates keep 0 D D.wait).secs i := rfl
  rw [e1, e2, h.wait, t1, t2, h.torn, h.secs]
  refine ⟨?_, rfl⟩
  by_cases a1 : keep[i]?.getD 0 = 1
  · simp [a1]
  · by_cases a2 : keep[i]?.getD 0 = 2 <;> simp [a1, a2]
end
end Go.Proofs.Ythdgfhkihhamnaa
