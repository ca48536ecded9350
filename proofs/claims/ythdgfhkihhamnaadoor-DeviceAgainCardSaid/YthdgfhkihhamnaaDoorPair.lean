/-
  PROVED HERE: two devices side by side; Arm with any slice of ints.
-/
import Derived.Test.YthdgfhkihhamnaaDoorLaw
namespace Go.Proofs.YthdgfhkihhamnaaDoor
open Go.ChangeShapes Go.WideShapes Go.ChangeAt Go.RowKit

theorem ints_one (l : List Int) : ∀ u ∈ l.map (Value.int .i64), u.oneCell' = true := by
  intro u hu; obtain ⟨x, _, rfl⟩ := List.mem_map.1 hu; rfl
structure LK (w wr : World) (B da db : Nat) (Za Zb : Nat → Prop) (Da Db : Dev) : Prop where
  a : In B Za wr da Da
  b : In B Zb wr db Db
  dis : ∀ k, Za k → ¬ Zb k
  bel : Below w.heap.size w wr
  wB : w.heap.size ≤ B
  BW : B ≤ wr.heap.size
section
variable {w wr w' : World} {B da db : Nat} {Za Zb Z' : Nat → Prop} {Da Db D' : Dev} {a : Option Addr} {len : Nat} {kl : List Int}
theorem LK.below (h : LK w wr B da db Za Zb Da Db) (hb : Below wr.heap.size wr w') : LK w w' B da db Za Zb Da Db :=
  ⟨h.a.below hb, h.b.below hb, h.dis, h.bel.trans (hb.mono h.bel.size), h.wB, Nat.le_trans h.BW hb.size⟩
theorem LK.stepA (h : LK w wr B da db Za Zb Da Db) (hI : In B Z' w' da D') (hS : Step Za Z' wr w') : LK w w' B da db Z' Zb D' Db :=
  ⟨hI, h.b.apart hS.out.size (fun k hk => hS.out.block k (h.b.hi k hk) (fun e => h.dis k e hk)), fun k hk hz => h.dis k (hS.new k (h.b.hi k hz) hk) hz,
    h.bel.trans (hS.below (fun k hk => Nat.le_trans h.wB (h.a.lo k hk)) h.bel.size), h.wB, Nat.le_trans h.BW hS.out.size⟩
theorem LK.stepB (h : LK w wr B da db Za Zb Da Db) (hI : In B Z' w' db D') (hS : Step Zb Z' wr w') : LK w w' B da db Za Z' Da D' :=
  ⟨h.a.apart hS.out.size (fun k hk => hS.out.block k (h.a.hi k hk) (fun e => h.dis k hk e)), hI, fun k hk hz => h.dis k hk (hS.new k (h.a.hi k hk) hz),
    h.bel.trans (hS.below (fun k hk => Nat.le_trans h.wB (h.b.lo k hk)) h.bel.size), h.wB, Nat.le_trans h.BW hS.out.size⟩
end
section
variable {w : World} {Z : Nat → Prop} {dp : Nat} {D : Dev}
set_option maxHeartbeats 1000000 in
theorem arm_row (h : DevAt w Z dp D) (n : Int) (hn : 0 ≤ n) (hn2 : n ≤ 9223372036854775807) (ad : Addr) (len cap : Nat) (keep : List Int) (hl : keep.length = len) (hlen : len ≤ 17592186043904) (hc : ∀ j u, (keep.map (Value.int .i64))[j]? = some u → w.cell? (ad.add j) = some u) :
    Calls Tryd.prog 17 #[.pointer (some ⟨dp, 0, none⟩), .int .i64 n, .slice (some ad) len cap] w fun e w' => e = .returned (.tuple #[]) ∧ DevAt w' (fun k => Z k ∨ w.heap.size ≤ k) dp (D.arm n keep) ∧ Out Z w w' := by
  obtain ⟨sb, tm, tn, wv, kv, ss, cs, m, l1, l2, l3, l4⟩ := h
  obtain ⟨i0, hi, hz0, hz1, hz2⟩ := info_parts Tryd.info3
  have e : D.arm n keep = { D with armed := true, left := n, keep := keep } := by unfold Dev.arm; rw [if_neg (by omega)]
  rw [e]
  have HM := Lib.hid (And.intro m (And.intro l1 hn2))
  have HC := Lib.hid hc
  have k1 : 0 + len ≤ maxLen := by unfold maxLen; omega
  have k2 : (0 + len) * 8 ≤ 140737488355328 := by omega
  clear m l1 l2 l3 l4 e hn2 hc
  go_enter Tryd.func17, Tryd.ntmps17
  go_wp2_with (at_builtin; refine wpList_append_own _ rfl _ _ 29 rfl w.heap.size 3 i0 (.int .i64 0) 1 8 Tryd.underlying29 hi hz0 hz1 hz2 rfl (by decide) _ 0 [] rfl (World.ownsRow_nil w w.heap.size 3 1) ad len cap (keep.map (Value.int .i64)) rfl ?c1 ?c2 ?c3 k1 k2 (Nat.le_refl _) ?_)
  case c1 => simp [hl]
  case c2 => exact HC.out
  case c3 => exact ints_one _
  intro v' w1 hown hgr _
  have m1 := HM.out.1.below ((Below.refl _ _).grown hgr (Nat.le_refl _) (fun k e => by simp [Value.ownBlock] at e))
  have w7 : w1.cell? ⟨dp, 7, none⟩ = some (.bool D.armed) := m1.cell 7
  have w8 : w1.cell? ⟨dp, 8, none⟩ = some (.int .i64 D.left) := m1.cell 8
  have w9 : w1.cell? ⟨dp, 9, none⟩ = some kv := m1.cell 9
  have f7 := m1.free 7
  have f8 := m1.free 8
  have f9 := m1.free 9
  have hown0 : w1.ownsRow 0 3 1 v' keep.length (keep.map (Value.int .i64)) := by
    rw [hl]
    obtain ⟨r1, r2⟩ := hown
    try simp only [List.nil_append, Nat.zero_add] at r1 r2
    refine ⟨r1, ?_⟩
    rcases r2 with r2 | ⟨g, cap', cur, r3, r4, r5⟩
    · exact .inl r2
    · exact .inr ⟨g, cap', cur, r3, Nat.zero_le _, r5⟩
  have hz : ∀ g, v'.ownBlock = some g → w.heap.size ≤ g := fun g e => (hown.lt g e).1
  have HX := Lib.hid (And.intro m1 (And.intro hown0 (And.intro hz (Out.of_grown (Z := Z) hgr (fun k e => by simp [Value.ownBlock] at e)))))
  clear m1 hown0 hz hown hgr
  obtain ⟨a', n', c', rfl⟩ : ∃ a n c, v' = .slice a n c := by
    rcases HX.out.2.1.2 with ⟨rfl, _⟩ | ⟨g, cap', cur, rfl, _⟩
    · exact ⟨_, _, _, rfl⟩
    · exact ⟨_, _, _, rfl⟩
  go_wp2
  go_end0
  exact ⟨rfl, ⟨sb, tm, tn, wv, _, ss, cs, HX.out.1.armed (keep := keep) (fun k => .inl) HX.out.2.1 (fun g e => .inr (HX.out.2.2.1 g e)), HM.out.2.1, hn, HM.out.2.2, by show keep.length ≤ _; omega⟩, HX.out.2.2.2.trans (Out.armed _ HM.out.1.dZ _ _ _)⟩
/-- What Arm is handed: nil, or ints somewhere. -/
def ArmArg (w : World) (a : Option Addr) (len cap : Nat) (keep : List Int) : Prop :=
  keep.length = len ∧ len ≤ 17592186043904 ∧ ((a = none ∧ len = 0 ∧ cap = 0) ∨ ∃ ad, a = some ad ∧ ∀ j u, (keep.map (Value.int .i64))[j]? = some u → w.cell? (ad.add j) = some u)
theorem arm_in {B : Nat} (h : In B Z w dp D) (hB : B ≤ w.heap.size) (n : Int) (hn0 : -9223372036854775808 ≤ n) (hn2 : n ≤ 9223372036854775807) (a : Option Addr) (len cap : Nat) (keep : List Int) (hk : ArmArg w a len cap keep) :
    Calls Tryd.prog 17 #[.pointer (some ⟨dp, 0, none⟩), .int .i64 n, .slice a len cap] w fun e w' => ∃ Z', e = .returned (.tuple #[]) ∧ In B Z' w' dp (D.arm n keep) ∧ Step Z Z' w w' := by
  by_cases hn : n < 0
  · refine (arm_off h.dev n hn keep a len cap).mono ?_
    rintro e w' ⟨rfl, hD, hO⟩
    exact ⟨_, rfl, h.wider hB hD, Step.wider hO⟩
  · obtain ⟨h1, h2, ⟨rfl, rfl, rfl⟩ | ⟨ad, rfl, h3⟩⟩ := hk
    · have e : keep = [] := List.length_eq_zero_iff.1 h1
      subst e
      refine (arm_none h.dev n (by omega) hn2).mono ?_
      rintro e w' ⟨rfl, hD, hO⟩
      exact ⟨_, rfl, h.wider hB hD, Step.wider hO⟩
    · refine (arm_row h.dev n (by omega) hn2 ad len cap keep h1 h2 h3).mono ?_
      rintro e w' ⟨rfl, hD, hO⟩
      exact ⟨_, rfl, h.wider hB hD, Step.wider hO⟩
end

end Go.Proofs.YthdgfhkihhamnaaDoor
