/-
  PROVED HERE: Arm with any slice of ints; a device alone beside the law's own blocks.
-/
import Derived.Test.YthdgfhkihhamnaaTwo
namespace Go.Proofs.Ythdgfhkihhamnaa
open Go.ChangeShapes Go.WideShapes Go.ChangeAt Go.RowKit

section
variable {w : World} {Z : Nat → Prop} {dp : Nat} {D : Dev}
set_option maxHeartbeats 1000000 in
theorem arm_row (h : DevAt w Z dp D) (n : Int) (hn : 0 ≤ n) (hn2 : n ≤ 9223372036854775807) (ad : Addr) (len cap : Nat) (keep : List Int) (hl : keep.length = len) (hlen : len ≤ 17592186043904) (hc : ∀ j u, (keep.map (Value.int .i64))[j]? = some u → w.cell? (ad.add j) = some u) :
    Calls Try.prog 19 #[.pointer (some ⟨dp, 0, none⟩), .int .i64 n, .slice (some ad) len cap] w fun e w' => e = .returned (.tuple #[]) ∧ DevAt w' (fun k => Z k ∨ w.heap.size ≤ k) dp (D.arm n keep) ∧ Out Z w w' := by
  obtain ⟨sb, tm, tn, wv, kv, ss, cs, m, l1, l2, l3, l4⟩ := h
  obtain ⟨i0, hi, hz0, hz1, hz2⟩ := info_parts Try.info3
  have e : D.arm n keep = { D with armed := true, left := n, keep := keep } := by unfold Dev.arm; rw [if_neg (by omega)]
  rw [e]
  have HM := Lib.hid (And.intro m (And.intro l1 hn2))
  have HC := Lib.hid hc
  have k1 : 0 + len ≤ maxLen := by unfold maxLen; omega
  have k2 : (0 + len) * 8 ≤ 140737488355328 := by omega
  clear m l1 l2 l3 l4 e hn2 hc
  go_enter Try.func19, Try.ntmps19
  go_wp2_with (at_builtin; refine wpList_append_own _ rfl _ _ 36 rfl w.heap.size 3 i0 (.int .i64 0) 1 8 Try.underlying36 hi hz0 hz1 hz2 rfl (by decide) _ 0 [] rfl (World.ownsRow_nil w w.heap.size 3 1) ad len cap (keep.map (Value.int .i64)) rfl ?c1 ?c2 ?c3 k1 k2 (Nat.le_refl _) ?_)
  case c1 => simp [hl]
  case c2 => exact HC.out
  case c3 => exact ints_one _
  intro v' w1 hown hgr _
  have m1 := HM.out.1.below ((Below.refl _ _).grown hgr (Nat.le_refl _) (fun k e => by simp [Value.ownBlock] at e))
  have w7 : w1.cell? ⟨dp, 7, none⟩ = some (.bool D.armed) := m1.cell 7
  have w8 : w1.cell? ⟨dp, 8, none⟩ = some (.int .i64 D.left) := m1.cell 8
  have w9 : w1.cell? ⟨dp, 9, none⟩ = some kv := m1.cell 9
  have f7 := m1.free 7
  have f8 := m1.free 8
  have f9 := m1.free 9
  have hown0 : w1.ownsRow 0 3 1 v' keep.length (keep.map (Value.int .i64)) := by
    rw [hl]
    obtain ⟨r1, r2⟩ := hown
    try simp only [List.nil_append, Nat.zero_add] at r1 r2
    refine ⟨r1, ?_⟩
    rcases r2 with r2 | ⟨g, cap', cur, r3, r4, r5⟩
    · exact .inl r2
    · exact .inr ⟨g, cap', cur, r3, Nat.zero_le _, r5⟩
  have hz : ∀ g, v'.ownBlock = some g → w.heap.size ≤ g := fun g e => (hown.lt g e).1
  have HX := Lib.hid (And.intro m1 (And.intro hown0 (And.intro hz (Out.of_grown (Z := Z) hgr (fun k e => by simp [Value.ownBlock] at e)))))
  clear m1 hown0 hz hown hgr
  obtain ⟨a', n', c', rfl⟩ : ∃ a n c, v' = .slice a n c := by
    rcases HX.out.2.1.2 with ⟨rfl, _⟩ | ⟨g, cap', cur, rfl, _⟩
    · exact ⟨_, _, _, rfl⟩
    · exact ⟨_, _, _, rfl⟩
  go_wp2
  go_end0
  exact ⟨rfl, ⟨sb, tm, tn, wv, _, ss, cs, HX.out.1.armed (keep := keep) (fun k => .inl) HX.out.2.1 (fun g e => .inr (HX.out.2.2.1 g e)), HM.out.2.1, hn, HM.out.2.2, by show keep.length ≤ _; omega⟩, HX.out.2.2.2.trans (Out.armed _ HM.out.1.dZ _ _ _)⟩
/-- What Arm is handed: nil, or ints somewhere. -/
def ArmArg (w : World) (a : Option Addr) (len cap : Nat) (keep : List Int) : Prop :=
  keep.length = len ∧ len ≤ 17592186043904 ∧ ((a = none ∧ len = 0 ∧ cap = 0) ∨ ∃ ad, a = some ad ∧ ∀ j u, (keep.map (Value.int .i64))[j]? = some u → w.cell? (ad.add j) = some u)
theorem arm_in {B : Nat} (h : In B Z w dp D) (hB : B ≤ w.heap.size) (n : Int) (hn0 : -9223372036854775808 ≤ n) (hn2 : n ≤ 9223372036854775807) (a : Option Addr) (len cap : Nat) (keep : List Int) (hk : ArmArg w a len cap keep) :
    Calls Try.prog 19 #[.pointer (some ⟨dp, 0, none⟩), .int .i64 n, .slice a len cap] w fun e w' => ∃ Z', e = .returned (.tuple #[]) ∧ In B Z' w' dp (D.arm n keep) ∧ Step Z Z' w w' := by
  by_cases hn : n < 0
  · refine (arm_off h.dev n hn keep a len cap).mono ?_
    rintro e w' ⟨rfl, hD, hO⟩
    exact ⟨_, rfl, h.wider hB hD, Step.wider hO⟩
  · obtain ⟨h1, h2, ⟨rfl, rfl, rfl⟩ | ⟨ad, rfl, h3⟩⟩ := hk
    · have e : keep = [] := List.length_eq_zero_iff.1 h1
      subst e
      refine (arm_none h.dev n (by omega) hn2).mono ?_
      rintro e w' ⟨rfl, hD, hO⟩
      exact ⟨_, rfl, h.wider hB hD, Step.wider hO⟩
    · refine (arm_row h.dev n (by omega) hn2 ad len cap keep h1 h2 h3).mono ?_
      rintro e w' ⟨rfl, hD, hO⟩
      exact ⟨_, rfl, h.wider hB hD, Step.wider hO⟩
end

/-! ### A device alone -/
structure LD (w wr : World) (B dp : Nat) (Z : Nat → Prop) (D : Dev) : Prop where
  dev : In B Z wr dp D
  bel : Below w.heap.size w wr
  wB : w.heap.size ≤ B
  BW : B ≤ wr.heap.size
section
variable {w wr w' : World} {B dp g : Nat} {Z Z' : Nat → Prop} {D D' : Dev} {bs : List Int}
theorem LD.below (h : LD w wr B dp Z D) (hb : Below wr.heap.size wr w') : LD w w' B dp Z D :=
  ⟨h.dev.below hb, h.bel.trans (hb.mono h.bel.size), h.wB, Nat.le_trans h.BW hb.size⟩
theorem LD.step (h : LD w wr B dp Z D) (hI : In B Z' w' dp D') (hS : Step Z Z' wr w') : LD w w' B dp Z' D' :=
  ⟨hI, h.bel.trans (hS.below (fun k hk => Nat.le_trans h.wB (h.dev.lo k hk)) h.bel.size), h.wB, Nat.le_trans h.BW hS.out.size⟩
theorem LD.set (h : LD w wr B dp Z D) (hz : ¬ Z g) (lo : w.heap.size ≤ g) (j : Nat) (v : Value) : LD w (wr.setCell ⟨g, j, none⟩ v) B dp Z D :=
  ⟨h.dev.apart (by rw [World.size_setCell]; exact Nat.le_refl _) (fun k hk => Below.heap_setCell wr ⟨g, j, none⟩ _ k (fun e => hz (by have e2 : g = k := e.symm; rw [e2]; exact hk))),
   h.bel.setCell (p := ⟨g, j, none⟩) lo _, h.wB, by rw [World.size_setCell]; exact h.BW⟩
theorem Free.set (h : Free Z wr g bs) (j : Nat) (v : Int) : Free Z (wr.setCell ⟨g, j, none⟩ (.int .u8 v)) g (bs.set j v) := ⟨h.bytes.set j v, h.out⟩
theorem Free.below (h : Free Z wr g bs) (hb : Below wr.heap.size wr w') : Free Z w' g bs := ⟨h.bytes.kept hb, h.out⟩
/-- Ints in a block of the law's own. -/
def Ints (w : World) (g len : Nat) : Prop := ∃ cur : Array Value, w.heap[g]? = some (.cells cur 3 (0, 0)) ∧ ∀ i, i < len → ∃ v : Int, cur[i]? = some (.int .i64 v)
variable {len : Nat}
theorem Ints.lt (h : Ints wr g len) : g < wr.heap.size := by obtain ⟨cur, h1, _⟩ := h; exact (Array.getElem?_eq_some_iff.1 h1).1
theorem Ints.kept (h : Ints wr g len) (hb : w'.heap[g]? = wr.heap[g]?) : Ints w' g len := by obtain ⟨cur, h1, h2⟩ := h; exact ⟨cur, hb.trans h1, h2⟩
theorem Ints.cell (h : Ints wr g len) (i : Nat) (hi : i < len) : ∃ v : Int, wr.cell? ⟨g, i, none⟩ = some (.int .i64 v) := by
  obtain ⟨cur, h1, h2⟩ := h
  obtain ⟨v, hv⟩ := h2 i hi
  exact ⟨v, by simp [World.cell?, h1, hv]⟩
theorem Ints.free (h : Ints wr g len) (i : Nat) : wr.frozen? ⟨g, i, none⟩ = false := by
  obtain ⟨cur, h1, h2⟩ := h
  simp [World.frozen?, h1]
theorem Ints.set (h : Ints wr g len) (j : Nat) (v : Int) : Ints (wr.setCell ⟨g, j, none⟩ (.int .i64 v)) g len := by
  obtain ⟨cur, h1, h2⟩ := h
  refine ⟨cur.setIfInBounds j (.int .i64 v), heap_setCell_same wr g j _ _ _ h1, fun i hi => ?_⟩
  by_cases e : j = i
  · subst e
    obtain ⟨u, hu⟩ := h2 j hi
    exact ⟨v, by simp [Array.getElem?_setIfInBounds]; exact (Array.getElem?_eq_some_iff.1 hu).1⟩
  · obtain ⟨u, hu⟩ := h2 i hi
    exact ⟨u, by rw [Array.getElem?_setIfInBounds_ne e]; exact hu⟩
theorem own_ints {base n : Nat} {v : Value} {kl : List Int} (h : wr.ownsRow base 3 1 v n (kl.map (Value.int .i64))) (hn : 0 < n) : ∃ g c, v = .slice (some ⟨g, 0, none⟩) n c ∧ base ≤ g ∧ Ints wr g n := by
  obtain ⟨h1, h2⟩ := h
  have hl : kl.length = n := by simpa using h1
  rcases h2 with ⟨rfl, rfl⟩ | ⟨g, cap, cur, rfl, hg, hh, h3, h4, h5, h6⟩
  · omega
  · refine ⟨g, cap, rfl, hg, cur, hh, fun i hi => ⟨kl[i]?.getD 0, ?_⟩⟩
    rw [Nat.mul_one] at *
    have h7 : (cur.toList.take n)[i]? = (kl.map (Value.int .i64))[i]? := by rw [h6]
    rw [List.getElem?_take_of_lt hi, List.getElem?_map, List.getElem?_eq_getElem (by omega : i < kl.length)] at h7
    rw [← Array.getElem?_toList, h7, List.getElem?_eq_getElem (by omega : i < kl.length)]; rfl
/-- What an append to an empty slice has made. -/
theorem armed_made {base n : Nat} {v : Value} {kl : List Int} (h : wr.ownsRow base 3 1 v n (kl.map (Value.int .i64))) (hn : n ≤ 17592186043904) : ∃ a c, v = .slice a n c ∧ ArmArg wr a n c kl ∧ (n = 0 ∨ ∃ g, a = some ⟨g, 0, none⟩ ∧ base ≤ g ∧ Ints wr g n) := by
  have h0 := h
  obtain ⟨h1, h2⟩ := h
  have hl : kl.length = n := by simpa using h1
  by_cases c0 : n = 0
  · subst c0
    have e : kl = [] := List.length_eq_zero_iff.1 hl
    subst e
    rcases h2 with ⟨rfl, _⟩ | ⟨g, cap, cur, rfl, _⟩
    · exact ⟨none, 0, rfl, ⟨rfl, by omega, .inl ⟨rfl, rfl, rfl⟩⟩, .inl rfl⟩
    · exact ⟨_, _, rfl, ⟨rfl, by omega, .inr ⟨_, rfl, fun j u hu => by simp at hu⟩⟩, .inl rfl⟩
  · obtain ⟨g, c, rfl, hg, hI⟩ := own_ints h0 (by omega)
    obtain ⟨a', c', e, hH⟩ := own_held (Z := fun _ => False) h0 (fun _ h => h.elim) (by omega)
    cases e
    exact ⟨_, _, rfl, ⟨hl, hn, .inr ⟨_, rfl, held_news hH⟩⟩, .inr ⟨g, rfl, hg, hI⟩⟩
end
end Go.Proofs.Ythdgfhkihhamnaa
