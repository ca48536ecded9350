/-
  PROVED: harrowlaw01.DeviceAgain returns true at every int and every list of steps, and its arguments read behind the call as before, as a card tied to the program's text (Rows.DeviceAgainCardSaid). No condition.
-/
import Derived.Test.YthdgfhkihhamnaaDoorDoes
import Derived.Test.YthdgfhkihhamnaaDoorTie
import Derived.Test.YthdgfhkihhamnaaDoorCards
import Derived.Deep.Slices
import Derived.ChangeSame
import Derived.ChangeVars
import Derived.JoinedOf
import Derived.LaidLaws
import Derived.LaidMore
import Derived.SevenTiedAt
import Derived.SizedLaws
import Derived.Stop.Joined
import Derived.LoopTactic
namespace Go.Proofs.YthdgfhkihhamnaaDoor.deviceAgain
open Go.ChangeShapes Go.WideShapes Go.ChangeAt Go.RowKit
set_option linter.unusedVariables false

theorem own : ownKnob Tryd.prog.godebug = none := by kernel_rfl
theorem laidOut : laidOutB Tryd.prog = true := by kernel_rfl
theorem and65535 (n : Int) : bits .and .i64 n 65535 = n % 65536 := by
  have h : (BitVec.ofInt 64 65535).toNat = 2 ^ 16 - 1 := by decide
  have key : (BitVec.ofInt 64 n &&& BitVec.ofInt 64 65535).toNat = (n % ((2 ^ 64 : Nat) : Int)).toNat % 2 ^ 16 := by
    rw [BitVec.toNat_and, BitVec.toNat_ofInt, h, Nat.and_two_pow_sub_one_eq_mod]
  show IntKind.i64.wrap ((BitVec.ofInt 64 n &&& BitVec.ofInt 64 65535).toNat : Nat) = n % 65536
  rw [key, IntKind.wrap_i64]
  omega
attribute [local go_sem] and65535

/-- A device of n sectors that has seen m steps at most. -/
structure Cnt (D : Dev) (m n : Nat) : Prop where
  size : D.n = n
  r0 : 0 ≤ D.r
  r1 : D.r ≤ m
  w0 : 0 ≤ D.w
  w1 : D.w ≤ m
  f0 : 0 ≤ D.f
  f1 : D.f ≤ m
theorem Cnt.same {D E : Dev} {m n : Nat} (h : Cnt D m n) (hn : E.n = D.n) (hr : E.r = D.r ∨ E.r = D.r + 1) (hw : E.w = D.w ∨ E.w = D.w + 1) (hf : E.f = D.f ∨ E.f = D.f + 1) : Cnt E (m + 1) n := by
  obtain ⟨h1, h2, h3, h4, h5, h6, h7⟩ := h
  exact ⟨by omega, by omega, by omega, by omega, by omega, by omega, by omega⟩
theorem dones_rf : ∀ (l : List (Int × List Int)) (E : Dev), (Dev.dones E l).r = E.r ∧ (Dev.dones E l).f = E.f ∧ (Dev.dones E l).n = E.n
  | [], _ => ⟨rfl, rfl, rfl⟩
  | x :: l, E => dones_rf l (E.done x.1 x.2)
theorem Cnt.go {D : Dev} {m n : Nat} (h : Cnt D m n) (s : St) : Cnt (D.go s) (m + 1) n := by
  obtain ⟨b1, b2, b3, b4⟩ := begin_cnt D
  unfold Dev.go
  split
  · split
    · unfold Dev.read
      split
      · exact h.same b4 (.inl b2) (.inl b1) (.inl b3)
      · exact h.same b4 (.inr (by show D.begin.r + 1 = _; rw [b2])) (.inl b1) (.inl b3)
    · exact h.same rfl (.inl rfl) (.inl rfl) (.inl rfl)
  · split
    · split
      · unfold Dev.write
        split
        · exact h.same b4 (.inl b2) (.inl b1) (.inl b3)
        · exact h.same b4 (.inl b2) (.inr (by show D.begin.w + 1 = _; rw [b1])) (.inl b3)
      · exact h.same rfl (.inl rfl) (.inl rfl) (.inl rfl)
    · split
      · unfold Dev.flush
        split
        · exact h.same b4 (.inl b2) (.inl b1) (.inl b3)
        · obtain ⟨d1, d2, d3⟩ := dones_rf D.begin.wait { D.begin with f := D.begin.f + 1 }
          obtain ⟨d4, _, _⟩ := dones_cnt D.begin.wait { D.begin with f := D.begin.f + 1 }
          exact h.same (d3.trans b4) (.inl (d1.trans b2)) (.inl (d4.trans b1)) (.inr (by show (Dev.dones _ _).f = _; rw [d2]; show D.begin.f + 1 = _; rw [b3]))
      · split
        · obtain ⟨c1, c2, c3, c4⟩ := crash_cnt D s.keep
          exact h.same c4 (.inl c2) (.inl c1) (.inl c3)
        · split
          · unfold Dev.arm
            split <;> exact h.same rfl (.inl rfl) (.inl rfl) (.inl rfl)
          · split
            · split <;> exact h.same rfl (.inl rfl) (.inl rfl) (.inl rfl)
            · exact h.same rfl (.inl rfl) (.inl rfl) (.inl rfl)

/-- The steps that came in. -/
structure StepAt (w : World) (blk off : Nat) (k a d sz : Int) (od : Bool) (ka : Option Addr) (kl kc : Nat) (zs : List Int) : Prop where
  c0 : w.cell? ⟨blk, off, none⟩ = some (.int .i64 k)
  c1 : w.cell? ⟨blk, off + 1, none⟩ = some (.int .i64 a)
  c2 : w.cell? ⟨blk, off + 2, none⟩ = some (.int .i64 d)
  c3 : w.cell? ⟨blk, off + 3, none⟩ = some (.int .i64 sz)
  c4 : w.cell? ⟨blk, off + 4, none⟩ = some (.bool od)
  c5 : w.cell? ⟨blk, off + 5, none⟩ = some (.slice ka kl kc)
  lt : blk < w.heap.size
  a0 : -9223372036854775808 ≤ a
  a1 : a ≤ 9223372036854775807
  keeps : Keeps w ka kl kc zs
def StepsIn (w : World) (ad : Option Addr) (len : Nat) : Prop :=
  ∀ i, i < len → ∃ (blk off : Nat) (k a d sz : Int) (od : Bool) (ka : Option Addr) (kl kc : Nat) (zs : List Int), ad = some ⟨blk, off, none⟩ ∧ StepAt w blk (off + i * 6) k a d sz od ka kl kc zs
theorem StepAt.below {w w' : World} {blk off kl kc : Nat} {k a d sz : Int} {od : Bool} {ka : Option Addr} {zs : List Int} (h : StepAt w blk off k a d sz od ka kl kc zs) (hb : Below w.heap.size w w') : StepAt w' blk off k a d sz od ka kl kc zs :=
  ⟨(hb.cell (p := ⟨blk, off, none⟩) h.lt).trans h.c0, (hb.cell (p := ⟨blk, off + 1, none⟩) h.lt).trans h.c1, (hb.cell (p := ⟨blk, off + 2, none⟩) h.lt).trans h.c2, (hb.cell (p := ⟨blk, off + 3, none⟩) h.lt).trans h.c3,
   (hb.cell (p := ⟨blk, off + 4, none⟩) h.lt).trans h.c4, (hb.cell (p := ⟨blk, off + 5, none⟩) h.lt).trans h.c5, Nat.lt_of_lt_of_le h.lt hb.size, h.a0, h.a1, fun W hW => h.keeps W (hb.trans (hW.mono hb.size))⟩
theorem sectors_in {B dp : Nat} {Z : Nat → Prop} {w : World} {D : Dev} (h : In B Z w dp D) : Calls Tryd.prog 7 #[.pointer (some ⟨dp, 0, none⟩)] w fun e w' => e = .returned (.int .i64 D.n) ∧ w = w' := by
  obtain ⟨sb, tm, tn, wv, kv, ss, cs, m, l⟩ := h.dev
  exact sectors_any m
set_option maxRecDepth 100000 in
set_option maxHeartbeats 8000000 in
theorem walk_row (a0 : Int) (ad : Option Addr) (len cap : Nat) (w : World) (hl : len ≤ maxLen) (w0 : StepsIn w ad len) :
    Calls Tryd.prog 3 #[.int .i64 a0, .slice ad len cap] w fun e w' => e = .returned (.bool true) ∧ Below w.heap.size w w' := by
  unfold maxLen at hl
  have A0 := Lib.hid w0
  clear w0
  obtain ⟨n, hn⟩ : ∃ n : Nat, (n : Int) = 1 + a0 % 65536 % 40 := ⟨(1 + a0 % 65536 % 40).toNat, by omega⟩
  have n1 : 1 ≤ n := by omega
  have n2 : n ≤ 40 := by omega
  have m1 : 0 ≤ a0 % 65536 := by omega
  have HN := Lib.hid hn
  clear hn
  go_enter Tryd.func3, Tryd.ntmps3
  go_wp2_with fail
  refine (shown_any _).mono ?_
  rintro e wa ⟨rfl, hB0⟩
  go_wp2_with fail
  rw [← HN.out]
  refine (new_in _ _ n rfl n1 (by omega)).mono ?_
  rintro e wb ⟨da, Za, rfl, hIa, hBa⟩
  go_wp2_with fail
  refine (new_in _ _ n rfl n1 (by omega)).mono ?_
  rintro e wc ⟨db, Zb, rfl, hIb, hBb⟩
  have hL : LK w wc wa.heap.size da db Za Zb (Dev.fresh n) (Dev.fresh n) :=
    ⟨hIa.below hBb, ⟨hIb.dev, fun k hk => Nat.le_trans hBa.size (hIb.lo k hk), hIb.hi⟩, fun k h1 h2 => by have e1 := hIa.hi k h1; have e2 := hIb.lo k h2; omega,
      (hB0.trans (hBa.mono hB0.size)).trans (hBb.mono (Nat.le_trans hB0.size hBa.size)), hB0.size, Nat.le_trans hBa.size hBb.size⟩
  have hC : Cnt (Dev.fresh n) 0 n := ⟨rfl, Int.le_refl _, Int.le_refl _, Int.le_refl _, Int.le_refl _, Int.le_refl _, Int.le_refl _⟩
  have HL := Lib.hid (And.intro hL hC)
  clear hL hC hIa hIb hBa hBb hB0
  generalize Dev.fresh n = D0 at *
  go_wp2_with fail
  generalize wa.heap.size = B at *
  go_loopw [10] (fun i wr => ∃ (k : Nat) (Za Zb : Nat → Prop) (D : Dev), k ≤ len ∧ k ≤ 100 ∧ i = .int .i64 k ∧ LK w wr B da db Za Zb D D ∧ Cnt D k n) (fun i _ => 100 - (intOf i).toNat)
  case atStart => exact ⟨0, _, _, _, by omega, by omega, rfl, HL.out.1, HL.out.2⟩
  case round =>
    clear HL
    obtain ⟨k, Za, Zb, D, hk, hk3, rfl, hL, hC⟩ := hrel
    by_cases hlt : k < len ∧ k < 100
    · obtain ⟨hlt, hlt3⟩ := hlt
      obtain ⟨blk, off, ki, ai, di, si, od, ka, kl, kc, zs, rfl, hs⟩ := A0.out k hlt
      have h1 := hs.below hL.bel
      have c0 := h1.c0
      have c1 := h1.c1
      have c2 := h1.c2
      have c3 := h1.c3
      have c4 := h1.c4
      have c5 := h1.c5
      have HH := Lib.hid (And.intro hL (And.intro hC (And.intro hs h1)))
      clear hL hC hs h1
      go_wp2_with fail
      refine (does_any HH.out.1.a HH.out.1.BW ki ai di si od ka kl kc HH.out.2.1.w0 (by have := HH.out.2.1.w1; omega) HH.out.2.1.r0 (by have := HH.out.2.1.r1; omega) HH.out.2.1.f0 (by have := HH.out.2.1.f1; omega) HH.out.2.2.1.a0 HH.out.2.2.1.a1 zs HH.out.2.2.2.keeps).mono ?_
      rintro e w1 ⟨Za1, rfl, hI, hS⟩
      have hL1 := HH.out.1.stepA hI hS
      have h1 := HH.out.2.2.1.below hL1.bel
      have c0 := h1.c0
      have c1 := h1.c1
      have c2 := h1.c2
      have c3 := h1.c3
      have c4 := h1.c4
      have c5 := h1.c5
      have HJ := Lib.hid (And.intro hL1 h1)
      clear hL1 h1 hI hS
      go_wp2_with fail
      refine (does_any HJ.out.1.b HJ.out.1.BW ki ai di si od ka kl kc HH.out.2.1.w0 (by have := HH.out.2.1.w1; omega) HH.out.2.1.r0 (by have := HH.out.2.1.r1; omega) HH.out.2.1.f0 (by have := HH.out.2.1.f1; omega) HH.out.2.2.1.a0 HH.out.2.2.1.a1 zs HJ.out.2.keeps).mono ?_
      rintro e w2 ⟨Zb1, rfl, hI, hS⟩
      have hL2 := HJ.out.1.stepB hI hS
      have hC2 := HH.out.2.1.go ⟨ki, ai, di, zs⟩
      generalize D.text ⟨ki, ai, di, zs⟩ = T at *
      generalize D.go ⟨ki, ai, di, zs⟩ = E at *
      have HK := Lib.hid (And.intro hL2 hC2)
      clear hL2 hC2 hI hS c0 c1 c2 c3 c4 c5 HJ
      go_wp2_with fail
      refine (sectors_in HK.out.1.b).mono ?_
      rintro e w' ⟨rfl, rfl⟩
      rw [HK.out.2.size]
      go_wp2_with fail
      refine (down_in HK.out.1.a).mono ?_
      rintro e w' ⟨rfl, rfl⟩
      go_wp2_with fail
      refine (down_in HK.out.1.b).mono ?_
      rintro e w' ⟨rfl, rfl⟩
      generalize E.down = ed at *
      go_wp2_with fail
      refine (counts_in HK.out.1.a).mono ?_
      rintro e w3 ⟨rfl, hb3⟩
      have hL3 := HK.out.1.below hb3
      go_wp2_with fail
      refine (counts_in hL3.b).mono ?_
      rintro e w4 ⟨rfl, hb4⟩
      have HM := Lib.hid (And.intro (hL3.below hb4) HK.out.2)
      clear hL3 hb3 hb4
      generalize E.r = er at *
      generalize E.w = ew at *
      generalize E.f = ef at *
      go_wp2_with fail
      exact ⟨⟨k + 1, _, _, _, by omega, by omega, by go_num, HM.out.1, HM.out.2⟩, by simp [intOf]; omega⟩
    · have HB := Lib.hid hL.bel
      clear hL hC
      rcases (show ¬ k < len ∨ (k < len ∧ k = 100) by omega) with h | ⟨h, rfl⟩
      · have d1 : decide ((k : Int) < len) = false := by rw [decide_eq_false_iff_not]; omega
        go_wp2_with fail
        go_ret
        exact ⟨rfl, HB.out⟩
      · have d1 : decide (((100 : Nat) : Int) < len) = true := by rw [decide_eq_true_iff]; omega
        go_wp2_with fail
        go_ret
        exact ⟨rfl, HB.out⟩
theorem walk (a0 : Int) (a1 : Option Addr) (len1 cap1 : Nat) (w : World) (w1 : len1 ≤ maxLen ∧ StepsIn w a1 len1) :
    Calls Tryd.prog 3 #[.int .i64 a0, .slice a1 len1 cap1] w fun e w' => e = .returned (.bool true) ∧ Below w.heap.size w w' := walk_row a0 a1 len1 cap1 w w1.1 w1.2

theorem sz31 : Tryd.prog.cellsOf 31 = 6 := by kernel_rfl
theorem weights_all {H : Type} {P : Program} {e : TypeId} {n : Nat} {d : DataW H} : ∀ (l : List (DataW H)), d ∈ l → n ∈ d.weights P e → n ∈ DataW.weightsAll P e l
  | x :: l, h, hn => by
    simp only [DataW.weightsAll, List.mem_append]
    rcases List.mem_cons.1 h with rfl | h
    · exact .inl hn
    · exact .inr (weights_all l h hn)
theorem weights_elem {H : Type} {P : Program} {t e : TypeId} {n : Nat} {d : DataW H} {elems spare : List (DataW H)} (hu : P.underlying t = some (.slice e)) (hd : d ∈ elems) (hn : n ∈ d.weights P e) : n ∈ (DataW.slice elems spare).weights P t := by
  simp only [DataW.weights, hu, List.mem_cons, List.mem_append]
  exact .inr (.inl (weights_all elems hd hn))
theorem keep_row {W : World} {zs : List Int} {x : Addr} {len cap : Nat} (hlc : len ≤ cap) (hz : zs.length = cap) (hb : cap * 8 ≤ reachBytes) (hcell : ∀ i, i < zs.length → W.cell? (x.add i) = some (.int .i64 (zs.getD i 0))) : Keeps W (some x) len cap (zs.take len) := by
  intro W' hW
  unfold reachBytes at hb
  have hl : (zs.take len).length = len := by rw [List.length_take]; omega
  have hg : ∀ i, i < len → (zs.take len)[i]?.getD 0 = zs.getD i 0 := fun i hi => by rw [List.getElem?_take_of_lt hi]; simp
  have hc : ∀ i, i < len → W'.cell? (x.add i) = some (.int .i64 ((zs.take len)[i]?.getD 0)) := fun i hi => by
    have h := hcell i (by omega)
    rw [hg i hi, ← h]
    exact hW.cell (p := x.add i) (World.block_lt_of_cell? W _ h)
  constructor
  · refine ⟨hl, by omega, ?_⟩
    by_cases h0 : len = 0
    · exact .inl h0
    · right
      obtain ⟨blk, off, spot⟩ := x
      have hspot : spot = none := by simpa [Addr.add] using World.cell?_spot (hc 0 (by omega))
      subst hspot
      refine ⟨blk, off, rfl, fun i hi => ?_⟩
      have h := hc i hi
      have e : (⟨blk, off, none⟩ : Addr).add i = ⟨blk, off + i, none⟩ := by unfold Addr.add; split <;> simp_all
      rwa [e] at h
  · refine ⟨hl, by omega, .inr ⟨x, rfl, fun j u hu => ?_⟩⟩
    have hj : j < len := by
      by_cases c : j < len
      · exact c
      · rw [List.getElem?_eq_none (by rw [List.length_map, hl]; omega)] at hu; cases hu
    rw [hc j hj]
    rw [List.getElem?_map, List.getElem?_eq_getElem (by rw [hl]; omega)] at hu
    rw [List.getElem?_eq_getElem (by rw [hl]; omega)]
    exact hu
theorem keep_nil (W : World) : Keeps W none 0 0 [] := fun W' _ => ⟨⟨rfl, by omega, .inl rfl⟩, ⟨rfl, by omega, .inl ⟨rfl, rfl, rfl⟩⟩⟩
theorem spot_at {W : World} {base : Nat} {x : Addr} {cs : List Value} (h1 : W.cells? base (x.add (0 * Tryd.prog.cellsOf 31)) (Tryd.prog.cellsOf 31) = some cs) : x.spot = none := by
  rw [sz31] at h1
  obtain ⟨_, hlen, hat⟩ := World.cells?_some h1
  have a0 := hat 0 (by omega)
  rw [List.getElem?_eq_getElem (by omega)] at a0
  have h := World.cell?_spot a0
  simpa [Addr.add] using h
theorem step_at {H : Type} {enc : TypeId × Value → H} {W : World} {base n i : Nat} {held : Bool} {x : Addr} {cs : List Value} {y : DataW H × List MemPlace} (hs : x.spot = none)
    (h1 : W.cells? base (x.add (i * Tryd.prog.cellsOf 31)) (Tryd.prog.cellsOf 31) = some cs) (h2 : DataW.trod enc Tryd.prog W base (fun _ => true) held n 31 cs = some y) (hwt : ∀ k ∈ y.1.weights Tryd.prog 31, k ≤ reachBytes) :
    ∃ (blk off : Nat) (k a d sz : Int) (od : Bool) (ka : Option Addr) (kl kc : Nat) (zs : List Int), some x = some ⟨blk, off, none⟩ ∧ StepAt W blk (off + i * 6) k a d sz od ka kl kc zs := by
  rw [sz31] at h1
  obtain ⟨_, hlen, hat⟩ := World.cells?_some h1
  obtain ⟨xs, n', _, hy, _, hxl, hf⟩ := DataW.trod_struct Tryd.underlying31 h2
  match cs, hlen with
  | [c0, c1, c2, c3, c4, c5], _ =>
    have f0 := hf 0 _ rfl
    have f1 := hf 1 _ rfl
    have f2 := hf 2 _ rfl
    have f3 := hf 3 _ rfl
    have f4 := hf 4 _ rfl
    have f5 := hf 5 _ rfl
    match xs, hxl with
    | [y0, y1, y2, y3, y4, y5], _ =>
      simp only [List.getElem?_cons_zero, List.getElem?_cons_succ] at f0 f1 f2 f3 f4 f5
      obtain ⟨k, e0, _⟩ := DataW.trod_int Tryd.underlying3 f0
      obtain ⟨a, e1, _, wa⟩ := DataW.trod_int Tryd.underlying3 f1
      obtain ⟨d, e2, _⟩ := DataW.trod_int Tryd.underlying3 f2
      obtain ⟨sz, e3, _⟩ := DataW.trod_int Tryd.underlying3 f3
      obtain ⟨od, e4, _⟩ := DataW.trod_bool Tryd.underlying4 f4
      cases e0; cases e1; cases e2; cases e3; cases e4
      have wb := bounds_i64 wa
      have hw5 : ∀ m ∈ y5.1.weights Tryd.prog 29, m ≤ reachBytes := fun m hm => hwt m (by
        rw [hy]
        simp only [DataW.weights, Tryd.underlying31]
        exact DataW.weights_mem_each (j := 5) (t := 29) (d := y5.1) rfl rfl m hm)
      obtain ⟨ka, kl, kc, zs, e5, hk⟩ : ∃ ka kl kc zs, c5 = .slice ka kl kc ∧ Keeps W ka kl kc zs := by
        rcases open_ints Tryd.underlying29 Tryd.underlying3 (by kernel_rfl) f5 with ⟨hcs, _⟩ | ⟨x, l, c, zs, hcs, _, hl, hm, hz, hx, hcell, hwz⟩
        · cases hcs
          exact ⟨_, _, _, _, rfl, keep_nil W⟩
        · cases hcs
          have hz2 : zs.length = c := by simpa using hz
          refine ⟨_, _, _, _, rfl, keep_row hl hz2 ?_ hcell⟩
          have := hw5 (c * 8) (by
            rw [hx]
            simp only [DataW.weights, Tryd.underlying29, List.mem_cons]
            left
            rw [show Tryd.prog.bytesOf 3 = 8 from by kernel_rfl]
            simp only [lits, List.length_map, List.length_take, List.length_drop, hz2]
            congr 1; omega)
          exact this
      subst e5
      have a0 := hat 0 (by omega)
      have a1 := hat 1 (by omega)
      have a2 := hat 2 (by omega)
      have a3 := hat 3 (by omega)
      have a4 := hat 4 (by omega)
      have a5 := hat 5 (by omega)
      simp only [List.getElem?_cons_zero, List.getElem?_cons_succ] at a0 a1 a2 a3 a4 a5
      obtain ⟨blk, off, spot⟩ := x
      obtain rfl : spot = none := hs
      have e : ∀ j, ((⟨blk, off, none⟩ : Addr).add (i * 6)).add j = ⟨blk, off + i * 6 + j, none⟩ := by
        intro j; unfold Addr.add; split <;> split <;> simp_all
      rw [e] at a0 a1 a2 a3 a4 a5
      exact ⟨blk, off, k, a, d, sz, od, ka, kl, kc, zs, rfl, a0, a1, a2, a3, a4, a5, World.block_lt_of_cell? W _ a1, wb.1, wb.2, hk⟩
theorem door_met (os : Os) (args : Array Value) : laidMetH Tryd.prog Rows.deviceAgainRow.laid ((World.doorLaid Tryd.prog 24 os).forCall (fun _ _ => 0) ⟨#[], args, []⟩).memory :=
  laidMetH_of_parts3 (fuel := 8) (laidMet_of_run' 8 (by kernel_rfl) (by kernel_rfl)) (by kernel_rfl) (by kernel_rfl)
set_option maxRecDepth 100000 in
theorem lifted (os : Os) (started : os.Started) (H : Type) (enc : TypeId × Value → H) :
    ReturnsInHanded {} Tryd.checked os 3 .any (fun w args => (Rows.deviceAgainSpec.pre enc Tryd.prog Tryd.f3 Rows.deviceAgainRow.domain false w args ∧ laidMetH Tryd.prog Rows.deviceAgainRow.laid w) ∧ sizedMet enc Tryd.prog Tryd.f3 (OpenSpec.ofChange Rows.deviceAgainSpec) false w args)
      (Rows.deviceAgainSpec.post enc Tryd.prog Tryd.f3 false true false false) := by
  refine returnsInHanded_of_change_and (C := Tryd.checked) (X := fun w _ => laidMetH Tryd.prog Rows.deviceAgainRow.laid w) (fun _ _ _ hh h => h.of_heap hh) own started (by kernel_rfl) Tryd.func3
    (ChangeSpec.witness_shaped (enc := enc) (C := Tryd.checked) (os := os) (X := fun w _ => laidMetH Tryd.prog Rows.deviceAgainRow.laid w) false (World.doorLaid Tryd.prog 24 os) #[.int .i64 0, .slice none 0 0] 8 rfl (World.shaped_of_RefB (by kernel_rfl) (by kernel_rfl)) (by kernel_rfl) (by kernel_rfl) (by kernel_rfl) (door_met os _)) ?_
  intro W base args ds gs before hval0 hW _ hwt _ _
  have hval : ∀ (j : Nat) t v, Tryd.f3.params[j]? = some t → args[j]? = some v → Value.okWide Tryd.prog W .any base t v := hval0
  have hW' := hW
  obtain ⟨p, q, hA0, hV, rfl, hfz, hnd⟩ := hW
  have hA : DataW.TrodAll enc Tryd.prog W 0 (fun _ => true) true Tryd.f3.params.toList args.toList ds p := hA0
  rw [Tryd.params3] at hA hval
  obtain ⟨v0, vs0, d0, ds0, p0, q0, hargs, rfl, rfl, h0, r0⟩ := trodAll_cons hA
  obtain ⟨v1, vs1, d1, ds1, p1, q1, rfl, rfl, rfl, h1, r1⟩ := trodAll_cons r0
  obtain ⟨rfl, rfl, rfl⟩ := trodAll_nil r1
  obtain rfl : args = #[v0, v1] := by cases args; simp_all
  obtain ⟨rfl, rfl⟩ := trodVars_none hV
  obtain ⟨a0, rfl, rfl, rfl, w0⟩ := open_int Tryd.underlying3 (hval 0 3 v0 rfl rfl) h0
  obtain ⟨a1, len1, cap1, rfl⟩ := okWide_slice Tryd.underlying22 (hval 1 22 v1 rfl rfl)
  have k1 := h1
  have lt1 : ∀ x ∈ p1, x.block < W.heap.size := by obtain ⟨m, hm⟩ := k1; exact DataW.trod_lt m _ _ _ hm
  have hall : ∀ k ∈ d1.weights Tryd.prog 22, k ≤ reachBytes := fun k hk => by
    have := List.all_eq_true.1 hwt k (DataW.weights_mem_each (j := 1) (t := 22) (d := d1) rfl rfl k hk)
    simpa using this
  have w1 : len1 ≤ maxLen ∧ StepsIn W a1 len1 := by
    obtain ⟨fuel, hf⟩ := h1
    rcases Deep.open_slice Tryd.underlying22 hf with ⟨hcs, _⟩ | ⟨x, l, c, m, n, D, Pl, hcs, hb, hl, hm, hmm, hx, hi⟩
    · simp [Value.cells] at hcs
      obtain ⟨rfl, rfl, rfl⟩ := hcs
      exact ⟨by unfold maxLen; omega, fun i hi => by omega⟩
    · simp [Value.cells] at hcs
      obtain ⟨rfl, rfl, rfl⟩ := hcs
      have hmc : m = cap1 := by simpa using hmm
      have hx1 := (Prod.mk.inj hx).1
      refine ⟨by omega, fun i hil => ?_⟩
      obtain ⟨cs', h1, h2⟩ := hi i (by omega)
      obtain ⟨cs0, h3, _⟩ := hi 0 (by omega)
      exact step_at (spot_at h3) h1 h2 (fun k hk => hall k (by rw [hx1]; exact weights_elem Tryd.underlying22 (List.mem_map.2 ⟨i, List.mem_range.2 hil, rfl⟩) hk))
  clear hA0 hval0
  refine (walk a0 a1 len1 cap1 W w1).mono fun e W' ⟨he, bel⟩ => ?_
  subst he
  exact ⟨_, rfl, _, _, _, [], _, [], hW', trodAll_mk1 (shut_bool Tryd.underlying4 _), (trodAll_cons_mk (shut_int Tryd.underlying3 w0) (trodAll_cons_mk (Below.trod laidOut (by kernel_rfl) (of_decide_eq_true (by kernel_rfl)) k1 bel lt1) trodAll_mk0)), rfl, bel.frame _, fun h => by cases h⟩

theorem over : Rows.deviceAgainRow.holds Tryd.pinned (OpenSpec.ofChange Rows.deviceAgainSpec) :=
  OpenClaim.holds_of_wide 3 Tryd.f3 rfl rfl rfl rfl rfl rfl rfl ⟨rfl, rfl, rfl, rfl, rfl⟩ rfl rfl rfl rfl rfl (by kernel_rfl) Tryd.func3 (by kernel_rfl)
    (of_decide_eq_true (by kernel_rfl)) (by unfold Func.isWrapper; first | (rw [if_pos (by decide +kernel)]; kernel_rfl) | (rw [if_neg (by decide +kernel)]; exact ⟨rfl, rfl⟩))
    (fun os started H enc _ => lifted os started H enc)
theorem card : Claim7.holds Tryd.pinned (.plain (OpenSpec.ofChange Rows.deviceAgainSpec)) Rows.deviceAgainCard :=
  Claim7.holds_tied_plain_at .later [] [.data, .data, .data] true (true, "39a4a9c07adb2854db245564f486879dc83493ed199322e46c67718c7a6c8f45") false
    over (fun _ h => by cases h) (by kernel_rfl) (fun _ h => by cases h) deviceAgain_row_tie rfl ⟨rfl, rfl⟩ (by kernel_rfl) rfl
    (fun f fn hf hfn => by
      obtain rfl : f = 3 := Option.some.inj ((show Tryd.prog.funcNamed Rows.deviceAgainRow.func = some 3 by kernel_rfl).symm.trans hf) |>.symm
      obtain rfl : fn = Tryd.f3 := (Option.some.inj (Tryd.func3.symm.trans hfn)).symm
      exact ⟨by kernel_rfl, fun j t ht => by
        rw [Tryd.params3] at ht
        have hm : t ∈ [3, 22] := by simpa using Array.mem_of_getElem? ht
        have hall : ([3, 22].all fun u => !Tryd.prog.wantsStandIn u) = true := by kernel_rfl
        exact (show Tryd.prog.wantsStandIn t = false by simpa using List.all_eq_true.1 hall t hm)⟩)
    (by kernel_rfl)

/-- THE STATEMENT. -/
theorem proved : Rows.DeviceAgainCardSaid := card
#print axioms proved
end Go.Proofs.YthdgfhkihhamnaaDoor.deviceAgain
