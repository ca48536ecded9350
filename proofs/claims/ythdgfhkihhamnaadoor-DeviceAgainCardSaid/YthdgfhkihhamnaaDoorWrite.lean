/-
  PROVED HERE: the contracts of New, Arm, Write.
-/
import Derived.Test.YthdgfhkihhamnaaDoorOps
import Derived.Deep.RegionLaw
import Derived.Deep.AppendLies
import Derived.Laws.AppendOwnNone
namespace Go.Proofs.YthdgfhkihhamnaaDoor
open Go.ChangeShapes Go.WideShapes Go.ChangeAt Go.RowKit

theorem Tryd.info38 : (Tryd.prog.info? 38).map (fun i => (i.zero, i.size, i.bytes)) = some (some (.slice none 0 0), 1, 24) := by kernel_rfl
theorem Tryd.info3 : (Tryd.prog.info? 3).map (fun i => (i.zero, i.size, i.bytes)) = some (some (.int .i64 0), 1, 8) := by kernel_rfl
theorem Tryd.info55 : (Tryd.prog.info? 55).map (fun i => (i.zero, i.size, i.bytes)) = some (some (.agg #[.int .i64 0, .slice none 0 0]), 2, 32) := by kernel_rfl
section
variable {w w' : World} {Z : Nat → Prop} {dp sb tm tn : Nat} {wv kv : Value} {ss cs : List Value} {D : Dev}

theorem new_bad (n : Int) (h : n < 1 ∨ 20000 < n) : Calls Tryd.prog 5 #[.int .i64 n] w fun e w' => e = .returned (.tuple #[.pointer none, .int .i64 1]) ∧ w = w' := by
  rcases h with h | h
  · go_enter Tryd.func5, Tryd.ntmps5
    go_wp2
    go_ret2
    exact ⟨rfl, rfl⟩
  · go_enter Tryd.func5, Tryd.ntmps5
    go_wp2
    go_ret2
    exact ⟨rfl, rfl⟩

theorem made_row {w1 : World} {n : Nat} (hown : w1.ownsRow w.heap.size 38 1 (.slice (some ⟨w.heap.size, 0, none⟩) n n) n (madeCells #[.slice none 0 0] (n * 1)).toList) :
    w1.heap[w.heap.size]? = some (.cells (List.replicate n (Value.slice none 0 0)).toArray 38 (0, 0)) := by
  obtain ⟨h1, h2⟩ := hown
  rcases h2 with ⟨h2, _⟩ | ⟨g, cap, cur, hv, hb, hh, hn, hc, hs, ht⟩
  · simp at h2
  · simp only [Value.slice.injEq, Option.some.injEq, Addr.mk.injEq, and_true, true_and] at hv
    obtain ⟨rfl, rfl⟩ := hv
    rw [hh]
    have e : cur.toList = List.replicate n (Value.slice none 0 0) := by
      rw [Nat.mul_one, toList_madeCells_one] at ht
      rw [List.take_of_length_le (by rw [Array.length_toList]; omega)] at ht
      exact ht
    rw [← e]

set_option maxHeartbeats 1000000 in
theorem new_ok (n : Nat) (h1 : 1 ≤ n) (h2 : n ≤ 20000) : Calls Tryd.prog 5 #[.int .i64 n] w fun e w' => ∃ dp, e = .returned (.tuple #[.pointer (some ⟨dp, 0, none⟩), .int .i64 0]) ∧ DevAt w' (fun k => w.heap.size ≤ k) dp (Dev.fresh n) ∧ Below w.heap.size w w' := by
  obtain ⟨i0, hi, hz0, hz1, hz2⟩ := info_parts Tryd.info38
  have hmm := @run_makeMap Tryd.prog
  have c3 : i0.bytes * n ≤ 281474976710656 := by rw [hz2]; omega
  have c4 : n ≤ maxLen := by unfold maxLen; omega
  go_enter Tryd.func5, Tryd.ntmps5
  go_wp2_with (at_make; refine wpList_make_full _ rfl _ _ 45 rfl w.heap.size 38 i0 (.slice none 0 0) 1 Tryd.underlying45 hi hz0 hz1 .i64 .i64 _ _ n rfl rfl rfl rfl c3 c4 (Nat.le_refl _) ?_; intro w1 hown hgr; have HR := Lib.hid (And.intro (made_row hown) ((Below.refl _ _).grown hgr (Nat.le_refl _) (fun k e => by cases e))); have hlt := (hown.lt w.heap.size rfl).2; clear hown hgr)
  go_ret2
  obtain ⟨r1, r2⟩ := HR.out
  refine ⟨w1.heap.size + 1, rfl, ⟨w.heap.size, w1.heap.size, 0, .slice none 0 0, .slice none 0 0, List.replicate n (.slice none 0 0), [], ⟨?_, ⟨?_, List.length_replicate, fun i v hv => ?_, World.ownsRow_nil _ 0 55 2, fun i a bs hi => by simp [Dev.fresh] at hi, ⟨.map [], ?_, fun a _ => rfl⟩, World.ownsRow_nil _ 0 3 1, fun g e => by simp [Value.ownBlock] at e, fun g e => by simp [Value.ownBlock] at e, Nat.le_refl _, Nat.le_of_lt hlt, h1, h2⟩, by omega⟩, by simp [Dev.fresh], Int.le_refl 0, by show (0 : Int) ≤ _; omega, Nat.zero_le _⟩, ?_⟩
  · have := heap_alloc_new (w1.alloc (.map #[] 0)) (.cells (cellsOf (Dev.fresh n) w.heap.size w1.heap.size (.slice none 0 0) (.slice none 0 0)) 49)
    rw [World.size_alloc] at this
    exact this
  · rw [Below.heap_alloc _ _ _ (by simp; omega), Below.heap_alloc _ _ _ hlt]; exact r1
  · have : v = .slice none 0 0 := by
      rw [List.getElem?_replicate] at hv
      split at hv
      · cases hv; rfl
      · cases hv
    exact this
  · exact (World.ownsMap_made w1 Tryd.prog 3 unitElem).alloc _
  · exact (r2.alloc (by omega) _).alloc (by simp; omega) _

/-- The three cells that Arm writes. -/
theorem DevMem.armed {kv' : Value} {keep : List Int} {Z' : Nat → Prop} {x : Bool} {n : Int} (h : DevMem w Z dp sb tm tn wv kv ss cs D) (hz : ∀ k, Z k → Z' k) (hk : w.ownsRow 0 3 1 kv' keep.length (keep.map (Value.int .i64))) (hkz : ∀ g, kv'.ownBlock = some g → Z' g) :
    DevMem (((w.setCell ⟨dp, 7, none⟩ (.bool x)).setCell ⟨dp, 8, none⟩ (.int .i64 n)).setCell ⟨dp, 9, none⟩ kv') Z' dp sb tm tn wv kv' ss cs { D with armed := x, left := n, keep := keep } := by
  have k3 := heap_setCell_same _ dp 7 _ _ (.bool x) h.head
  have k4 := heap_setCell_same _ dp 8 _ _ (.int .i64 n) k3
  have k5 := heap_setCell_same _ dp 9 _ _ kv' k4
  have r0 : Rest w Z' sb tm tn wv kv' ss cs { D with armed := x, left := n, keep := keep } := by
    have r := h.rest.wide (fun k _ => hz k)
    exact ⟨r.row, r.ssl, r.sd, r.wrow, r.wd, r.tr, hk, r.wZ, hkz, r.sZ, r.tZ, r.n1, r.n2⟩
  have r3 := r0.apart (grown_setCell w ⟨dp, 7, none⟩ (.bool x)) h.head (by simp [tag]) (by simp [tag]) (by simp [tag]) (by simp [tag]) (by simp [tag])
  have r4 := r3.apart (grown_setCell _ ⟨dp, 8, none⟩ (.int .i64 n)) k3 (by simp [tag]) (by simp [tag]) (by simp [tag]) (by simp [tag]) (by simp [tag])
  have r5 := r4.apart (grown_setCell _ ⟨dp, 9, none⟩ kv') k4 (by simp [tag]) (by simp [tag]) (by simp [tag]) (by simp [tag]) (by simp [tag])
  exact ⟨k5, r5, hz _ h.dZ⟩
theorem Out.armed (w : World) (hz : Z dp) (u v x : Value) : Out Z w (((w.setCell ⟨dp, 7, none⟩ u).setCell ⟨dp, 8, none⟩ v).setCell ⟨dp, 9, none⟩ x) :=
  ((Out.cell _ _ _ hz).trans (Out.cell _ _ _ hz)).trans (Out.cell _ _ _ hz)

set_option maxHeartbeats 1000000 in
theorem arm_off (h : DevAt w Z dp D) (n : Int) (hn : n < 0) (keep : List Int) (a : Option Addr) (len cap : Nat) :
    Calls Tryd.prog 17 #[.pointer (some ⟨dp, 0, none⟩), .int .i64 n, .slice a len cap] w fun e w' => e = .returned (.tuple #[]) ∧ DevAt w' (fun k => Z k ∨ w.heap.size ≤ k) dp (D.arm n keep) ∧ Out Z w w' := by
  obtain ⟨sb, tm, tn, wv, kv, ss, cs, m, l1, l2, l3, l4⟩ := h
  have w7 : w.cell? ⟨dp, 7, none⟩ = some (.bool D.armed) := m.cell 7
  have w8 : w.cell? ⟨dp, 8, none⟩ = some (.int .i64 D.left) := m.cell 8
  have w9 : w.cell? ⟨dp, 9, none⟩ = some kv := m.cell 9
  have f7 := m.free 7
  have f8 := m.free 8
  have f9 := m.free 9
  have e : D.arm n keep = { D with armed := false, left := 0, keep := [] } := by unfold Dev.arm; rw [if_pos hn]
  rw [e]
  have HM := Lib.hid (And.intro m l1)
  clear m l1 l2 l3 l4 e
  go_enter Tryd.func17, Tryd.ntmps17
  go_wp2
  refine bodyPost_ret (results_none rfl _ _ _) rfl ?_
  exact ⟨rfl, ⟨sb, tm, tn, wv, .slice none 0 0, ss, cs, HM.out.1.armed (keep := []) (fun k => .inl) (World.ownsRow_nil w 0 3 1) (fun g e => by simp [Value.ownBlock] at e), HM.out.2, Int.le_refl 0, by show (0 : Int) ≤ _; omega, Nat.zero_le _⟩, Out.armed _ HM.out.1.dZ _ _ _⟩

set_option maxHeartbeats 1000000 in
theorem arm_none (h : DevAt w Z dp D) (n : Int) (hn : 0 ≤ n) (hn2 : n ≤ 9223372036854775807) :
    Calls Tryd.prog 17 #[.pointer (some ⟨dp, 0, none⟩), .int .i64 n, .slice none 0 0] w fun e w' => e = .returned (.tuple #[]) ∧ DevAt w' (fun k => Z k ∨ w.heap.size ≤ k) dp (D.arm n []) ∧ Out Z w w' := by
  obtain ⟨sb, tm, tn, wv, kv, ss, cs, m, l1, l2, l3, l4⟩ := h
  obtain ⟨i0, hi, hz0, hz1, hz2⟩ := info_parts Tryd.info3
  have w7 : w.cell? ⟨dp, 7, none⟩ = some (.bool D.armed) := m.cell 7
  have w8 : w.cell? ⟨dp, 8, none⟩ = some (.int .i64 D.left) := m.cell 8
  have w9 : w.cell? ⟨dp, 9, none⟩ = some kv := m.cell 9
  have f7 := m.free 7
  have f8 := m.free 8
  have f9 := m.free 9
  have e : D.arm n [] = { D with armed := true, left := n, keep := [] } := by unfold Dev.arm; rw [if_neg (by omega)]
  rw [e]
  have HM := Lib.hid (And.intro m (And.intro l1 hn2))
  clear m l1 l2 l3 l4 e hn2
  go_enter Tryd.func17, Tryd.ntmps17
  go_wp2_with (at_builtin; refine wpList_append_own_none rfl _ _ 29 rfl 0 3 i0 1 Tryd.underlying29 hi _ 0 [] rfl (World.ownsRow_nil w 0 3 1) rfl ?_)
  go_end0
  exact ⟨rfl, ⟨sb, tm, tn, wv, .slice none 0 0, ss, cs, HM.out.1.armed (keep := []) (fun k => .inl) (World.ownsRow_nil w 0 3 1) (fun g e => by simp [Value.ownBlock] at e), HM.out.2.1, hn, HM.out.2.2, Nat.zero_le _⟩, Out.armed _ HM.out.1.dZ _ _ _⟩

set_option maxHeartbeats 1000000 in
theorem arm_some (h : DevAt w Z dp D) (n : Int) (hn : 0 ≤ n) (hn2 : n ≤ 9223372036854775807) (kb off len cap : Nat) (keep : List Int) (hl : keep.length = len) (hlen : len ≤ 17592186043904) (hc : ∀ i, i < len → w.cell? ⟨kb, off + i, none⟩ = some (.int .i64 (keep[i]?.getD 0))) :
    Calls Tryd.prog 17 #[.pointer (some ⟨dp, 0, none⟩), .int .i64 n, .slice (some ⟨kb, off, none⟩) len cap] w fun e w' => e = .returned (.tuple #[]) ∧ DevAt w' (fun k => Z k ∨ w.heap.size ≤ k) dp (D.arm n keep) ∧ Out Z w w' := by
  obtain ⟨sb, tm, tn, wv, kv, ss, cs, m, l1, l2, l3, l4⟩ := h
  obtain ⟨i0, hi, hz0, hz1, hz2⟩ := info_parts Tryd.info3
  have hdl := (Array.getElem?_eq_some_iff.1 m.head).1
  have e : D.arm n keep = { D with armed := true, left := n, keep := keep } := by unfold Dev.arm; rw [if_neg (by omega)]
  rw [e]
  have HM := Lib.hid (And.intro m (And.intro l1 hn2))
  have HC := Lib.hid hc
  have k1 : 0 + len ≤ maxLen := by unfold maxLen; omega
  have k2 : (0 + len) * 8 ≤ 140737488355328 := by omega
  clear m l1 l2 l3 l4 e hn2 hc
  go_enter Tryd.func17, Tryd.ntmps17
  go_wp2_with (at_builtin; refine wpList_append_own _ rfl _ _ 29 rfl w.heap.size 3 i0 (.int .i64 0) 1 8 Tryd.underlying29 hi hz0 hz1 hz2 rfl (by decide) _ 0 [] rfl (World.ownsRow_nil w w.heap.size 3 1) ⟨kb, off, none⟩ len cap (keep.map (Value.int .i64)) rfl ?c1 ?c2 ?c3 k1 k2 (Nat.le_refl _) ?_)
  case c1 => simp [hl]
  case c2 =>
    intro j u hu
    have hj : j < len := by
      by_cases c : j < len
      · exact c
      · rw [List.getElem?_eq_none (by simp; omega)] at hu; cases hu
    have h1 := HC.out j hj
    have e : (⟨kb, off, none⟩ : Addr).add j = ⟨kb, off + j, none⟩ := by unfold Addr.add; split <;> simp_all
    rw [e, h1]
    rw [List.getElem?_map, List.getElem?_eq_getElem (by omega)] at hu
    rw [List.getElem?_eq_getElem (by omega)]
    exact hu
  case c3 => intro u hu; obtain ⟨x, _, rfl⟩ := List.mem_map.1 hu; rfl
  intro v' w1 hown hgr _
  have m1 := HM.out.1.below ((Below.refl _ _).grown hgr (Nat.le_refl _) (fun k e => by simp [Value.ownBlock] at e))
  have w7 : w1.cell? ⟨dp, 7, none⟩ = some (.bool D.armed) := m1.cell 7
  have w8 : w1.cell? ⟨dp, 8, none⟩ = some (.int .i64 D.left) := m1.cell 8
  have w9 : w1.cell? ⟨dp, 9, none⟩ = some kv := m1.cell 9
  have f7 := m1.free 7
  have f8 := m1.free 8
  have f9 := m1.free 9
  have hown0 : w1.ownsRow 0 3 1 v' keep.length (keep.map (Value.int .i64)) := by
    rw [hl]
    obtain ⟨r1, r2⟩ := hown
    try simp only [List.nil_append, Nat.zero_add] at r1 r2
    refine ⟨r1, ?_⟩
    rcases r2 with r2 | ⟨g, cap', cur, r3, r4, r5⟩
    · exact .inl r2
    · exact .inr ⟨g, cap', cur, r3, Nat.zero_le _, r5⟩
  have hz : ∀ g, v'.ownBlock = some g → w.heap.size ≤ g := fun g e => (hown.lt g e).1
  have HX := Lib.hid (And.intro m1 (And.intro hown0 (And.intro hz (Out.of_grown (Z := Z) hgr (fun k e => by simp [Value.ownBlock] at e)))))
  clear m1 hown0 hz hown hgr
  obtain ⟨a', n', c', rfl⟩ : ∃ a n c, v' = .slice a n c := by
    rcases HX.out.2.1.2 with ⟨rfl, _⟩ | ⟨g, cap', cur, rfl, _⟩
    · exact ⟨_, _, _, rfl⟩
    · exact ⟨_, _, _, rfl⟩
  go_wp2
  go_end0
  exact ⟨rfl, ⟨sb, tm, tn, wv, _, ss, cs, HX.out.1.armed (keep := keep) (fun k => .inl) HX.out.2.1 (fun g e => .inr (HX.out.2.2.1 g e)), HM.out.2.1, hn, HM.out.2.2, by show keep.length ≤ _; omega⟩, HX.out.2.2.2.trans (Out.armed _ HM.out.1.dZ _ _ _)⟩

theorem write_bad (h : DevMem w Z dp sb tm tn wv kv ss cs D) (i : Int) (a : Option Addr) (len cap : Nat) (_hl : len ≤ 1000000) (hb : D.has i = false ∨ len ≠ 512) :
    Calls Tryd.prog 10 #[.pointer (some ⟨dp, 0, none⟩), .int .i64 i, .slice a len cap] w fun e w' => e = .returned (.int .i64 1) ∧ w = w' := by
  have H := Lib.hid h
  clear h
  cases hh : D.has i with
  | false =>
    go_enter Tryd.func10, Tryd.ntmps10
    go_wp2_with (go_at_call 19; refine (has_any H.out i).mono ?_; rintro e w' ⟨rfl, rfl⟩; rw [hh])
    go_ret
    exact ⟨rfl, rfl⟩
  | true =>
    have hne : len ≠ 512 := by rcases hb with hb | hb; rw [hh] at hb; cases hb; exact hb
    have h1 : ((len : Int) != 512) = true := by rw [bne_iff_ne]; omega
    have h2 : ((len : Int) == 512) = false := by rw [beq_eq_false_iff_ne]; omega
    go_enter Tryd.func10, Tryd.ntmps10
    go_wp2_with (go_at_call 19; refine (has_any H.out i).mono ?_; rintro e w' ⟨rfl, rfl⟩; rw [hh])
    go_ret
    exact ⟨rfl, rfl⟩

theorem own_sym {v : Value} {r : Nat} (h : v.ownBlock = none ∨ v.ownBlock ≠ some r) : some r ≠ v.ownBlock := by
  rcases h with h | h
  · rw [h]; exact fun e => by cases e
  · exact Ne.symm h
/-- One more write waits: what it leaves in memory. -/
theorem DevMem.waits {w6 : World} {Z' : Nat → Prop} {o : Obj} {gg cap : Nat} (h : DevMem w Z dp sb tm tn wv kv ss cs D) (hz : ∀ k, Z k → Z' k) (g' : Nat) (bs : List Int) (i : Int) (hb : Bytes w g' bs) (hlb : bs.length = 512) (hg' : Z' g') (h0 : 0 ≤ i) (h1 : i < D.n)
    (hown : w6.ownsRow 0 55 2 (.slice (some ⟨gg, 0, none⟩) (D.wait.length + 1) cap) (D.wait.length + 1) (cs ++ [.int .i64 i, .slice (some ⟨g', 0, none⟩) 512 512])) (hg : (w.alloc o).grownBy w6 wv.ownBlock) (hgg : Z' gg)
    (hd : w6.heap[dp]? = some (.cells (cellsOf D sb tm wv kv) 49 (0, 0))) :
    DevMem (w6.setCell ⟨dp, 1, none⟩ (.slice (some ⟨gg, 0, none⟩) (D.wait.length + 1) cap)) Z' dp sb tm tn (.slice (some ⟨gg, 0, none⟩) (D.wait.length + 1) cap) kv ss (cs ++ [.int .i64 i, .slice (some ⟨g', 0, none⟩) 512 512]) { D with wait := D.wait ++ [(i, bs)] } := by
  have hk : ∀ r x, w.heap[r]? = some x → tag x ≠ 56 → w6.heap[r]? = some x := fun r x hx ht => by
    have hr := (Array.getElem?_eq_some_iff.1 hx).1
    exact ((hg.block r (by rw [World.size_alloc]; omega) (own_sym (own_ne h.rest.wrow hx ht))).trans (Below.heap_alloc w o r hr)).trans hx
  have hbs : ∀ g bs, Bytes w g bs → Bytes w6 g bs := fun g bs hB => hk g _ hB (by simp [tag])
  have hlen : cs.length = D.wait.length * 2 := h.rest.wrow.1
  have k1 := heap_setCell_same w6 dp 1 _ _ (.slice (some ⟨gg, 0, none⟩) (D.wait.length + 1) cap) hd
  have r : Rest w6 Z' sb tm tn (.slice (some ⟨gg, 0, none⟩) (D.wait.length + 1) cap) kv ss (cs ++ [.int .i64 i, .slice (some ⟨g', 0, none⟩) 512 512]) { D with wait := D.wait ++ [(i, bs)] } := by
    refine ⟨hk sb _ h.rest.row (by simp [tag]), h.rest.ssl, fun j v hv => ?_, ?_, fun j a' bs' (hj : (D.wait ++ [(i, bs)])[j]? = some (a', bs')) => ?_, ?_, ?_, fun g e => by simp [Value.ownBlock] at e; subst e; exact hgg, fun g e => hz g (h.rest.kZ g e), hz sb h.rest.sZ, hz tm h.rest.tZ, h.rest.n1, h.rest.n2⟩
    · have := h.rest.sd j v hv
      show SecIs w6 Z' v (D.secs j)
      cases hs : D.secs j with
      | none => rw [hs] at this; exact this
      | some b => rw [hs] at this; obtain ⟨g, q1, q2, q3, q4⟩ := this; exact ⟨g, hz g q1, q2, hbs g b q3, q4⟩
    · show w6.ownsRow 0 55 2 _ (D.wait ++ [(i, bs)]).length _
      rw [List.length_append]; exact hown
    · by_cases c : j < D.wait.length
      · rw [List.getElem?_append_left c] at hj
        obtain ⟨q1, q2, g, q3, q4, q5, q6⟩ := h.rest.wd j a' bs' hj
        exact ⟨q1, by rw [List.getElem?_append_left (by omega)]; exact q2, g, hz g q3, by rw [List.getElem?_append_left (by omega)]; exact q4, hbs g bs' q5, q6⟩
      · have hj2 : j = D.wait.length := by
          by_cases d : j < (D.wait ++ [(i, bs)]).length
          · rw [List.length_append] at d; simp at d; omega
          · rw [List.getElem?_eq_none (by omega)] at hj; cases hj
        subst hj2
        rw [List.getElem?_append_right (Nat.le_refl _), Nat.sub_self] at hj
        cases hj
        refine ⟨⟨h0, h1⟩, ?_, g', hg', ?_, hbs g' _ hb, hlb⟩
        · rw [List.getElem?_append_right (by omega), show 2 * D.wait.length - cs.length = 0 by omega]; rfl
        · rw [List.getElem?_append_right (by omega), show 2 * D.wait.length + 1 - cs.length = 1 by omega]; rfl
    · obtain ⟨T, ⟨es, clock, m1, m2⟩, m3⟩ := h.rest.tr
      exact ⟨T, ⟨es, clock, hk tm _ m1 (by simp [tag]), m2⟩, m3⟩
    · obtain ⟨p1, p2⟩ := h.rest.krow
      refine ⟨p1, ?_⟩
      rcases p2 with p2 | ⟨kg, kcap, cur, p3, p4, p5, p6⟩
      · exact .inl p2
      · exact .inr ⟨kg, kcap, cur, p3, p4, hk kg _ p5 (by simp [tag]), p6⟩
  exact ⟨k1, r.apart (grown_setCell w6 ⟨dp, 1, none⟩ _) hd (by simp [tag]) (by simp [tag]) (by simp [tag]) (by simp [tag]) (by simp [tag]), hz _ h.dZ⟩
theorem append_news (w5 : World) (i : Int) (g' : Nat) :
    (∀ j u, ([Value.int .i64 i, .slice (some ⟨g', 0, none⟩) 512 512] : List Value)[j]? = some u → (w5.alloc (.cells #[.int .i64 i, .slice (some ⟨g', 0, none⟩) 512 512] 55)).cell? ((⟨w5.heap.size, 0, none⟩ : Addr).add j) = some u) ∧
    (∀ u ∈ ([Value.int .i64 i, .slice (some ⟨g', 0, none⟩) 512 512] : List Value), u.oneCell' = true) ∧ (w5.alloc (.cells #[.int .i64 i, .slice (some ⟨g', 0, none⟩) 512 512] 55)).heap.size = w5.heap.size + 1 :=
  ⟨World.news_of_block (cs := #[.int .i64 i, .slice (some ⟨g', 0, none⟩) 512 512]) (t := 55) (fr := (0, 0)) (heap_alloc_new w5 _), by simp [Value.oneCell'], World.size_alloc _ _⟩
theorem DevMem.head6 {w6 : World} {o : Obj} (h : DevMem w Z dp sb tm tn wv kv ss cs D) (hg : (w.alloc o).grownBy w6 wv.ownBlock) (hne : some dp ≠ wv.ownBlock) : w6.heap[dp]? = some (.cells (cellsOf D sb tm wv kv) 49 (0, 0)) := by
  have hl := (Array.getElem?_eq_some_iff.1 h.head).1
  exact ((hg.block dp (by rw [World.size_alloc]; omega) hne).trans (Below.heap_alloc w o dp hl)).trans h.head
theorem cell_alloc' {a : Addr} {v : Value} (o : Obj) (h : w.cell? a = some v) : (w.alloc o).cell? a = some v :=
  (World.cell?_of_block (Below.heap_alloc w o a.block (World.block_lt_of_cell? w a h))).trans h

set_option maxRecDepth 100000 in
set_option maxHeartbeats 4000000 in
/-- The write that waits: the region of the append. -/
theorem write_ok (h : DevAt w Z dp D) (i : Int) (hi : D.has i = true) (g : Nat) (bs : List Int) (hb : Bytes w g bs) (hlb : bs.length = 512) (hg : ¬ Z g) (hw0 : 0 ≤ D.w) (hw : D.w ≤ 1000000000) :
    Calls Tryd.prog 10 #[.pointer (some ⟨dp, 0, none⟩), .int .i64 i, dv g] w fun e w' => e = .returned (.int .i64 D.err) ∧ DevAt w' (fun k => Z k ∨ w.heap.size ≤ k) dp (D.write i bs) ∧ Out Z w w' := by
  have hcnt := begin_cnt D
  have hhas : D.begin.has i = D.has i := by unfold Dev.has; rw [hcnt.2.2.2]
  obtain ⟨i0, hi0, hz0, hz1, hz2⟩ := info_parts Tryd.info55
  unfold dv
  have hgl := hb.lt
  have HB := Lib.hid hb
  have HH := Lib.hid (And.intro hi hhas)
  rcases err_cases D with he | he
  · have hD : D.write i bs = D.begin := by unfold Dev.write; rw [if_pos he]
    rw [hD]
    have H := Lib.hid h
    have HE := Lib.hid he
    have hm : Calls Tryd.prog 19 #[.pointer (some ⟨dp, 0, none⟩), .int .i64 i] w fun e w' => e = .returned (.bool true) ∧ w = w' := by
      obtain ⟨sb, tm, tn, wv, kv, ss, cs, m, _⟩ := h
      have := has_any m i; rw [hi] at this; exact this
    have HMM := Lib.hid hm
    clear h he hD hb hi hhas hm
    go_enter Tryd.func10, Tryd.ntmps10
    go_wp2_with (go_at_call 19; refine HMM.out.mono ?_; rintro e w' ⟨rfl, rfl⟩)
    refine (begin_any H.out (by omega)).mono ?_
    rintro e w2 ⟨rfl, hD, hO⟩
    rw [HE.out]
    go_wp2_with fail
    go_ret
    exact ⟨ret_int HE.out.symm, hD.wide (fun k _ hk => .inl hk), hO⟩
  · have hD : D.write i bs = { D.begin with w := D.begin.w + 1, wait := D.begin.wait ++ [(i, bs)] } := by unfold Dev.write; rw [if_neg (by omega)]
    rw [hD, he]
    have H := Lib.hid h
    have HE := Lib.hid he
    have hm : Calls Tryd.prog 19 #[.pointer (some ⟨dp, 0, none⟩), .int .i64 i] w fun e w' => e = .returned (.bool true) ∧ w = w' := by
      obtain ⟨sb, tm, tn, wv, kv, ss, cs, m, _⟩ := h
      have := has_any m i; rw [hi] at this; exact this
    have HMM := Lib.hid hm
    clear h he hD hb hi hhas hm
    generalize hEE : D.begin = E at *
    have HEE := Lib.hid hEE
    clear hEE
    go_enter Tryd.func10, Tryd.ntmps10
    go_wp2_with (go_at_call 19; refine HMM.out.mono ?_; rintro e w' ⟨rfl, rfl⟩)
    refine (begin_any H.out (by omega)).mono ?_
    rintro e w2 ⟨rfl, hD, hO⟩
    rw [HE.out]
    rw [HEE.out] at hD
    obtain ⟨hc1, hc2, hc3, hc4⟩ := hcnt
    obtain ⟨sb, tm, tn, wv, kv, ss, cs, m, l1, l2, l3, l4⟩ := hD
    have g0 : 0 ≤ E.w := by omega
    have g1 : E.w ≤ 1000000000 := by omega
    have c4 : w2.cell? ⟨dp, 4, none⟩ = some (.int .i64 E.w) := m.cell 4
    have f4 := m.free 4
    have m1 := m.store (D' := { E with w := E.w + 1 }) 4 (.int .i64 (E.w + 1)) rfl rfl rfl rfl rfl rfl
    have hb2 : Bytes w2 g bs := (hO.block g hgl hg).trans HB.out
    have hb3 : Bytes (w2.setCell ⟨dp, 4, none⟩ (.int .i64 (E.w + 1))) g bs := hb2.grown (grown_setCell _ _ _) (bytes_ne hb2 m.head (by simp [tag]))
    have hO2 : Out Z w (w2.setCell ⟨dp, 4, none⟩ (.int .i64 (E.w + 1))) := hO.trans (Out.cell _ _ _ m.dZ)
    have HM := Lib.hid (And.intro m1 (And.intro hb3 (And.intro hO2 (And.intro l1 (And.intro l2 (And.intro l3 l4))))))
    clear m m1 l1 l2 l3 l4 hc1 hc2 hc3 hc4 hO H hb2 hb3 hO2
    go_wp2_with fail
    generalize hW : w2.setCell ⟨dp, 4, none⟩ (.int .i64 (E.w + 1)) = W at *
    clear c4 f4 hW
    have v1 : W.cell? ⟨dp, 1, none⟩ = some wv := HM.out.1.cell 1
    have hdl : dp < W.heap.size := (Array.getElem?_eq_some_iff.1 HM.out.1.head).1
    have HCP := Lib.hid (copied_data g bs W.drew (HM.out.2.1.kept ⟨rfl, rfl, rfl, Nat.le_refl _, fun _ _ => rfl⟩) hlb)
    have hlen : E.wait.length + 1 ≤ maxLen := by have := HM.out.2.2.2.1; unfold maxLen; omega
    have hbyt : (E.wait.length + 1) * 32 ≤ 140737488355328 := by have := HM.out.2.2.2.1; omega
    have hen : wv.ownBlock = none ∨ wv.ownBlock ≠ some dp := own_ne HM.out.1.rest.wrow HM.out.1.head (by simp [tag])
    have HCP : Hid (Calls Tryd.prog 21 #[.slice (some ⟨g, 0, none⟩) 512 512] W.drew fun e w' => e = .returned (.slice (some ⟨W.heap.size, 0, none⟩) 512 512) ∧ Bytes w' W.heap.size bs ∧ Below W.heap.size W.drew w') := HCP
    go_region_law
      (first
        | (refine step_append_lies _ rfl _ _ _ rfl 0 55 i0 (.agg #[.int .i64 0, .slice none 0 0]) 2 32 Tryd.underlying47 hi0 hz0 hz1 hz2 rfl (Nat.zero_lt_succ _) wv E.wait.length cs rfl (hown5.alloc _) ⟨w5.heap.size, 0, none⟩ 1 1 [.int .i64 i, .slice (some ⟨W.heap.size, 0, none⟩) 512 512] rfl rfl (HN5.out.1) (HN5.out.2.1) Nat.zero_lt_one hlen hbyt (Nat.zero_le _) (w5.heap.size + 1) (HN5.out.2.2) ?_; intro gg cap w6 hown6 hgrow hat hlt; have hd6 := H5.out.2.2.1.head6 hgrow H5.out.2.2.2; have v6 : w6.cell? ⟨dp, 1, none⟩ = some wv := by simp [World.cell?, hd6, cellsOf]
           have f6 : w6.frozen? ⟨dp, 1, none⟩ = false := by simp [World.frozen?, hd6]
           have H6 := Lib.hid (And.intro hown6 (And.intro hgrow (And.intro hat (And.intro hlt hd6)))); clear hown6 hgrow hat hlt hd6)
        | (go_simp; go_at_call 21; refine (HCP.out).mono ?_; rintro e w5 ⟨rfl, hb5, hl5⟩; have d5 : dp < w5.heap.size := Nat.lt_of_lt_of_le hdl hl5.size; have v5 : w5.cell? ⟨dp, 1, none⟩ = some wv := (hl5.cell (p := ⟨dp, 1, none⟩) hdl).trans v1; have m5 := (HM.out.1.drew.below hl5); have hown5 : w5.ownsRow 0 55 2 wv E.wait.length cs := m5.rest.wrow; have H5 := Lib.hid (And.intro hb5 (And.intro hl5 (And.intro m5 (own_sym hen)))); have HN5 := Lib.hid (append_news w5 i W.heap.size); clear hb5 hl5 m5))
    all_goals
      go_wp2
      go_ret
      have hi2 : 0 ≤ i ∧ i < E.n := by have h1 := HH.out.1; have h2 := HH.out.2; rw [h1] at h2; simpa [Dev.has] using h2
      have hs0 := HM.out.2.2.1.size
      have hs1 : W.heap.size ≤ w5.heap.size := H5.out.2.1.size
      have hmem := H5.out.2.2.1.waits (Z' := fun k => Z k ∨ w.heap.size ≤ k) (fun k => .inl) W.heap.size bs i H5.out.1 hlb (.inr hs0) hi2.1 hi2.2 H6.out.1 H6.out.2.1 (by rcases H6.out.2.2.1 with e | e; exact .inl (H5.out.2.2.1.rest.wZ gg e); exact .inr (by omega)) H6.out.2.2.2.2
      refine ⟨rfl, ⟨sb, tm, tn, _, kv, ss, _, hmem, ?_, HM.out.2.2.2.2.1, HM.out.2.2.2.2.2.1, HM.out.2.2.2.2.2.2⟩, ?_⟩
      · have := HM.out.2.2.2.1
        show (tn : Int) + ((E.wait ++ [(i, bs)]).length : Nat) ≤ E.w + 1
        rw [List.length_append]; simp; omega
      · exact ((((HM.out.2.2.1.trans (Out.drew _)).trans (Out.of_below H5.out.2.1)).trans (Out.alloc _ _)).trans (Out.of_grown H6.out.2.1 (fun k e => H5.out.2.2.1.rest.wZ k e))).trans (Out.cell _ _ _ HM.out.1.dZ)
end
end Go.Proofs.YthdgfhkihhamnaaDoor
