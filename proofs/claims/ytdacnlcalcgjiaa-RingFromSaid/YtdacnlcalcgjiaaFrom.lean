/-
  PROVED: harrowlaw06.RingFrom returns true at every four ints, and its arguments read behind the call as before (Rows.RingFromSaid). No condition.
-/
import Derived.Test.YtdacnlcalcgjiaaSeq
import Derived.Deep.Grids
import Derived.Deep.CutBlock
namespace Go.Proofs.Ytdacnlcalcgjiaa.ringFrom
open Go.ChangeShapes Go.WideShapes Go.ChangeAt Go.RowKit
open Go.Shelf
set_option linter.unusedVariables false
attribute [local go_sem] Oper.semAt_some and65535

theorem own : ownKnob Try.prog.godebug = none := by kernel_rfl
theorem laidOut : laidOutB Try.prog = true := by kernel_rfl


theorem enter_marks {f : FuncId} {fn : Func} {c : Code} {args : Array Value} {w : World} {R : Ending → World → Prop} (hf : Try.prog.funcs[f]? = some fn) (hb : fn.body = some c)
    (h : c.wp Try.prog (bodyPostM Fence.wide 9 Try.prog fn R) { tmps := args ++ Array.replicate (fn.ntmps - args.size) undef, defers := [] } w) : Calls Try.prog f args w R :=
  (callsIn_wide (n := 9)).1 (callsIn_of_wp_marks hf hb trivial (wpIn_wide.2 h) rfl)
/-- The law's four boxes: n, at, stop, the result. -/
structure BX (w : World) (g : Nat) (n a s : Int) : Prop where
  h0 : w.heap[g]? = some (.cells #[.int .i64 n] 3 (0, 0))
  h1 : w.heap[g + 1]? = some (.cells #[.int .i64 a] 3 (0, 0))
  h2 : w.heap[g + 1 + 1]? = some (.cells #[.int .i64 s] 3 (0, 0))
  h3 : w.heap[g + 1 + 1 + 1]? = some (.cells #[.bool false] 4 (0, 0))
section
variable {w w' : World} {g : Nat} {n a s v : Int}
theorem BX.c0 (h : BX w g n a s) : w.cell? ⟨g, 0, none⟩ = some (.int .i64 n) := by simp [World.cell?, h.h0]
theorem BX.c1 (h : BX w g n a s) : w.cell? ⟨g + 1, 0, none⟩ = some (.int .i64 a) := by simp [World.cell?, h.h1]
theorem BX.c2 (h : BX w g n a s) : w.cell? ⟨g + 1 + 1, 0, none⟩ = some (.int .i64 s) := by simp [World.cell?, h.h2]
theorem BX.f0 (h : BX w g n a s) : w.frozen? ⟨g, 0, none⟩ = false := by simp [World.frozen?, h.h0]
theorem BX.f1 (h : BX w g n a s) : w.frozen? ⟨g + 1, 0, none⟩ = false := by simp [World.frozen?, h.h1]
theorem BX.f2 (h : BX w g n a s) : w.frozen? ⟨g + 1 + 1, 0, none⟩ = false := by simp [World.frozen?, h.h2]
theorem BX.keep (h : BX w g n a s) (hk : ∀ k, k < g + 4 → w'.heap[k]? = w.heap[k]?) : BX w' g n a s :=
  ⟨(hk _ (by omega)).trans h.h0, (hk _ (by omega)).trans h.h1, (hk _ (by omega)).trans h.h2, (hk _ (by omega)).trans h.h3⟩
theorem BX.set0 (h : BX w g n a s) : BX (w.setCell ⟨g, 0, none⟩ (.int .i64 v)) g v a s :=
  ⟨by rw [heap_setCell_same _ _ _ _ _ _ h.h0]; rfl, by rw [Below.heap_setCell _ _ _ _ (by simp only; omega)]; exact h.h1, by rw [Below.heap_setCell _ _ _ _ (by simp only; omega)]; exact h.h2, by rw [Below.heap_setCell _ _ _ _ (by simp only; omega)]; exact h.h3⟩
theorem BX.set1 (h : BX w g n a s) : BX (w.setCell ⟨g + 1, 0, none⟩ (.int .i64 v)) g n v s :=
  ⟨by rw [Below.heap_setCell _ _ _ _ (by simp only; omega)]; exact h.h0, by rw [heap_setCell_same _ _ _ _ _ _ h.h1]; rfl, by rw [Below.heap_setCell _ _ _ _ (by simp only; omega)]; exact h.h2, by rw [Below.heap_setCell _ _ _ _ (by simp only; omega)]; exact h.h3⟩
theorem BX.set2 (h : BX w g n a s) : BX (w.setCell ⟨g + 1 + 1, 0, none⟩ (.int .i64 v)) g n a v :=
  ⟨by rw [Below.heap_setCell _ _ _ _ (by simp only; omega)]; exact h.h0, by rw [Below.heap_setCell _ _ _ _ (by simp only; omega)]; exact h.h1, by rw [heap_setCell_same _ _ _ _ _ _ h.h2]; rfl, by rw [Below.heap_setCell _ _ _ _ (by simp only; omega)]; exact h.h3⟩
end
theorem BX.new (w : World) (n a s : Int) : BX ((((w.alloc (.cells #[.int .i64 n] 3)).alloc (.cells #[.int .i64 a] 3)).alloc (.cells #[.int .i64 s] 3)).alloc (.cells #[.bool false] 4)) w.heap.size n a s := by
  have h0 := heap_alloc_new w (.cells #[.int .i64 n] 3)
  have h1 := heap_alloc_new (w.alloc (.cells #[.int .i64 n] 3)) (.cells #[.int .i64 a] 3)
  have h2 := heap_alloc_new ((w.alloc (.cells #[.int .i64 n] 3)).alloc (.cells #[.int .i64 a] 3)) (.cells #[.int .i64 s] 3)
  have h3 := heap_alloc_new (((w.alloc (.cells #[.int .i64 n] 3)).alloc (.cells #[.int .i64 a] 3)).alloc (.cells #[.int .i64 s] 3)) (.cells #[.bool false] 4)
  simp only [World.size_alloc] at h1 h2 h3
  refine ⟨?_, ?_, ?_, h3⟩
  · rw [Below.heap_alloc _ _ _ (by simp only [World.size_alloc]; omega), Below.heap_alloc _ _ _ (by simp only [World.size_alloc]; omega), Below.heap_alloc _ _ _ (by simp only [World.size_alloc]; omega)]; exact h0
  · rw [Below.heap_alloc _ _ _ (by simp only [World.size_alloc]; omega), Below.heap_alloc _ _ _ (by simp only [World.size_alloc]; omega)]; exact h1
  · rw [Below.heap_alloc _ _ _ (by simp only [World.size_alloc]; omega)]; exact h2
/-- Ahead of the loop over From: the boxes, the ring's box, the ring. -/
structure RS (w W : World) (B rb p b n : Nat) (a s : Int) (k : Nat) (zs : List Int) : Prop where
  bx : BX W w.heap.size n a s
  bel : Below w.heap.size w W
  ring : RingAt W B 3 p b n (zs.map (Value.int .i64))
  box : W.heap[rb]? = some (.cells #[.pointer (some ⟨p, 0, none⟩)] 29 (0, 0))
  lB : w.heap.size + 4 ≤ B
  lp : p < rb
  lb : b < rb
  got : ∀ j : Nat, j < k → zs[j]? = some (3 * (j : Int))
section
variable {w W W' : World} {B rb p b n k : Nat} {a s : Int} {zs : List Int}
theorem RS.c (h : RS w W B rb p b n a s k zs) : W.cell? ⟨rb, 0, none⟩ = some (.pointer (some ⟨p, 0, none⟩)) := by
  have e := h.box
  simp [World.cell?, e]
theorem RS.set (h : RS w W B rb p b n a s k zs) (hk : k < n) (hR : RingAt W' B 3 p b n ((zs.map (Value.int .i64)).set k (.int .i64 (3 * (k : Int))))) (hg : W.grownBy W' (some b)) : RS w W' B rb p b n a s (k + 1) (zs.set k (3 * (k : Int))) := by
  have h1 := h.lB
  have h2 := h.ring.lt
  have h3 := h.lb
  have hl := h.ring.len
  simp only [List.length_map] at hl
  have hsz := (Array.getElem?_eq_some_iff.1 h.box).1
  refine ⟨h.bx.keep (fun j hj => hg.block j (by omega) (by simp; omega)), h.bel.grown hg h.bel.size (fun j e => by cases e; omega), by rw [List.map_set]; exact hR, (hg.block rb hsz (by simp; omega)).trans h.box, h.lB, h.lp, h.lb, fun j hj => ?_⟩
  by_cases e : j = k
  · subst e; rw [List.getElem?_set_self (by omega)]
  · rw [List.getElem?_set_ne (by omega)]; exact h.got j (by omega)
theorem RS.below (h : RS w W B rb p b n a s k zs) (hb : Below W.heap.size W W') : RS w W' B rb p b n a s k zs := by
  have h1 := h.lB
  have h2 := h.ring.lt
  exact ⟨h.bx.keep (fun j hj => hb.block j (by omega)), h.bel.trans (hb.mono h.bel.size), h.ring.kept hb, (hb.block rb (Array.getElem?_eq_some_iff.1 h.box).1).trans h.box, h.lB, h.lp, h.lb, h.got⟩
theorem RS.set2 (h : RS w W B rb p b n a s k zs) (v : Int) : RS w (W.setCell ⟨w.heap.size + 1 + 1, 0, none⟩ (.int .i64 v)) B rb p b n a v k zs := by
  have h1 := h.lB
  have h2 := h.ring.lt
  have h3 := h.ring.pB
  have h4 := h.lb
  have hlt := h.ring.ltp
  have hg : W.grownBy (W.setCell ⟨w.heap.size + 1 + 1, 0, none⟩ (.int .i64 v)) (some (w.heap.size + 1 + 1)) := ⟨rfl, rfl, rfl, by rw [World.size_setCell]; exact Nat.le_refl _, fun j hj hne => Below.heap_setCell _ _ _ _ (fun e => hne (by rw [e]))⟩
  refine ⟨h.bx.set2, h.bel.setCell (p := ⟨w.heap.size + 1 + 1, 0, none⟩) (by simp only; omega) _, ⟨(World.cell?_of_block (a := ⟨p, 0, none⟩) (hg.block p hlt (by simp; omega))).trans h.ring.hd, h.ring.row.kept hg (.inr (by simp [Value.ownBlock]; omega)), h.ring.ne, h.ring.pB, h.ring.n1, h.ring.n2⟩, (hg.block rb (Array.getElem?_eq_some_iff.1 h.box).1 (by simp; omega)).trans h.box, h.lB, h.lp, h.lb, h.got⟩
end
theorem set_strong (B p b n : Nat) (xs : List Value) (a : Int) (v : Int) (w : World) (hR : RingAt w B 3 p b n xs) (wa : -9223372036854775808 ≤ a) (wb : a ≤ 9223372036854775807) :
    Calls Try.prog 14 #[.pointer (some ⟨p, 0, none⟩), .int .i64 a, .int .i64 v] w fun e w' => e = .returned (.tuple #[]) ∧ RingAt w' B 3 p b n (xs.set (a % n).toNat (.int .i64 v)) ∧ w.grownBy w' (some b) := by
  have hS := hR.set (a % n).toNat (.int .i64 v)
  have hW := (hR.row.stored (a % n).toNat (.int .i64 v)).2
  have HH := Lib.hid (And.intro hS hW)
  clear hS hW
  have hd := hR.hd
  have n1 := hR.n1
  have n2 := hR.n2
  have m0 := Int.emod_nonneg a (by omega : (n : Int) ≠ 0)
  have m1 := Int.emod_lt_of_pos a (by omega : 0 < (n : Int))
  have hc := hR.cell (a % n).toNat (by omega)
  have hfz := hR.free (a % n).toNat
  go_enter Try.func14, Try.ntmps14
  go_still_tail 9, (by kernel_rfl)
  still_call (still_left (placeI_any p b n _ _ hd n1 n2 (by omega) (by omega)))
  repeat still_step
  refine wpStill_nil ?_
  change wpList _ _ _ _ _ w.drew
  go_wp2
  go_end0
  exact ⟨rfl, HH.out.1.drewN 1, ⟨HH.out.2.os, HH.out.2.tape, HH.out.2.output, HH.out.2.size, HH.out.2.block⟩⟩
theorem tmod_in (a : Int) : -1000000 < a.tmod 1000000 ∧ a.tmod 1000000 < 1000000 := by
  have := Int.tmod_eq_emod (a := a) (b := 1000000)
  rw [this]; split <;> omega
theorem equalIn_func {P : Program} {ps rs : Array TypeId} {va : Bool} (W : World) (d : Nat) (t : TypeId) (f : Fn) (x y : Array Value) (hu : P.underlying t = some (.func ps rs va)) : (Op.equalIn (d + 1) t (.func f x y) .nilFunc).run P W = .ok false W := by
  unfold Op.equalIn
  simp [run_underlying hu, Sem.run_pure]
theorem func_nil (x y : Array Value) (W : World) : (binOp .eql 40 (.func (.func 28) x y) .nilFunc).run Try.prog W = .ok (.bool false) W := by
  have h : (Op.equal 40 (.func (.func 28) x y) .nilFunc).run Try.prog W = .ok false W := equalIn_func W 9999 40 (.func 28) x y Try.underlying40
  unfold binOp
  simp [h]
theorem cells_kept {X Y : World} {row : Option Nat} {k : Nat} {a : Array Value} {t : TypeId} {fr : Nat × Nat} (h : X.heap[k]? = some (.cells a t fr)) (hg : X.grownBy Y row) (hr : ∀ r, row = some r → ∃ o : Obj, X.heap[r]? = some o ∧ o.isCells = false) : Y.heap[k]? = some (.cells a t fr) :=
  (hg.block k (Array.getElem?_eq_some_iff.1 h).1 (fun e => by obtain ⟨_, ho, hc⟩ := hr k e.symm; rw [h] at ho; cases ho; cases hc)).trans h
theorem ret_marks {fn : Func} {R : Ending → World → Prop} {tmps : Array Value} {D : Nat} {W : World} {v : Value} (hK : W.heap[D]? = some (.deferred (some []))) (hr : (results fn tmps).run Try.prog (W.putObj D (.deferred none)) = .ok v (W.putObj D (.deferred none))) (h : R (.returned v) (W.putObj D (.deferred none))) :
    bodyPostM Fence.wide 9 Try.prog fn R .ret { tmps := tmps, defers := [{ target := .collected D, args := #[] }] } W :=
  ⟨by simp, .inl ⟨_, _, rfl, run_takeDeferred hK, v, hr, h⟩⟩
theorem and255 (n : Int) : bits .and .i64 n 255 = n % 256 := by
  have h : (BitVec.ofInt 64 255).toNat = 2 ^ 8 - 1 := by decide
  have key : (BitVec.ofInt 64 n &&& BitVec.ofInt 64 255).toNat = (n % ((2 ^ 64 : Nat) : Int)).toNat % 2 ^ 8 := by
    rw [BitVec.toNat_and, BitVec.toNat_ofInt, h, Nat.and_two_pow_sub_one_eq_mod]
  show IntKind.i64.wrap ((BitVec.ofInt 64 n &&& BitVec.ofInt 64 255).toNat : Nat) = n % 256
  rw [key, IntKind.wrap_i64]
  omega
attribute [local go_sem] and255
/-- How a round leaves. -/
def LX (kb S : Nat) (P : List (Int × Int)) (W0 : World) (c : Code) (pre : List (Int × Int)) (W : World) : Prop :=
  ¬ pre <+: P ∨ (c = .exit 2 ∧ pre.length = S ∧ W.heap[kb]? = some (.cells #[.int .i64 (pre.length : Nat)] 3 (0, 0)) ∧ Below kb W0 W)
theorem lx_own {kb S B : Nat} {P : List (Int × Int)} {W0 : World} (h0 : kb ≤ W0.heap.size) (hB : kb ≤ B) (c : Code) : OwnFrom B (LX kb S P W0 c) := fun s X Y row hs hg hr =>
  hs.elim .inl (fun ⟨h1, h2, h3, h4⟩ => .inr ⟨h1, h2, cells_kept h3 hg (fun r e => (hr r e).2), ownFrom_below (β := Unit) h0 hB () X Y row h4 hg hr⟩)
theorem RS.tri {w W : World} {B rb p b n : Nat} {a s f : Int} {zs : List Int} {g : Nat} {N : Int} (h : RS w W B rb p b n a s n zs) (hC : Caps W g p N f) : Tri W g p b n f :=
  ⟨hC.c0, hC.c2, h.ring.hd, fun j hj => by
    rw [h.ring.cell j hj, List.getElem?_map, h.got j hj]; rfl⟩
theorem go_mod (a k n : Int) : (a % n + k) % n = (a + k) % n := Int.emod_add_emod a n k
theorem fin {w W W0 : World} {D kb : Nat} (hb : Below w.heap.size w W0) (hB : Below kb W0 W) (hk : w.heap.size + 4 ≤ kb) (hk0 : kb ≤ W0.heap.size) (hD : W0.heap.size ≤ D) (hK : W.heap[D]? = some (.deferred (some []))) (hres : W.heap[w.heap.size + 1 + 1 + 1]? = some (.cells #[.bool false] 4 (0, 0))) :
    (W.setCell ⟨w.heap.size + 1 + 1 + 1, 0, none⟩ (.bool true)).heap[D]? = some (.deferred (some [])) ∧ ((W.setCell ⟨w.heap.size + 1 + 1 + 1, 0, none⟩ (.bool true)).putObj D (.deferred none)).cell? ⟨w.heap.size + 1 + 1 + 1, 0, none⟩ = some (.bool true) ∧ Below w.heap.size w ((W.setCell ⟨w.heap.size + 1 + 1 + 1, 0, none⟩ (.bool true)).putObj D (.deferred none)) := by
  have hk8 : (W.setCell ⟨w.heap.size + 1 + 1 + 1, 0, none⟩ (.bool true)).heap[D]? = some (.deferred (some [])) := by
    rw [Below.heap_setCell _ _ _ _ (by simp only; omega)]; exact hK
  have hr8 : (W.setCell ⟨w.heap.size + 1 + 1 + 1, 0, none⟩ (.bool true)).heap[w.heap.size + 1 + 1 + 1]? = some (.cells #[.bool true] 4 (0, 0)) := by
    rw [heap_setCell_same _ _ _ _ _ _ hres]; rfl
  have hb8 : Below w.heap.size w (W.setCell ⟨w.heap.size + 1 + 1 + 1, 0, none⟩ (.bool true)) := (hb.trans (hB.mono (by omega))).setCell (p := ⟨w.heap.size + 1 + 1 + 1, 0, none⟩) (by simp only; omega) _
  generalize W.setCell ⟨w.heap.size + 1 + 1 + 1, 0, none⟩ (.bool true) = W8 at *
  have hbt : Below W0.heap.size W8 (W8.putObj D (.deferred none)) := belowK_b (w := W0) (Nat.le_refl _) W8 D _ _ hD hk8 rfl rfl
  have hx9 := cells_kept hr8 (grownBy_putObj' W8 D (.deferred none)) (fun r e => by cases e; exact ⟨_, hk8, rfl⟩)
  exact ⟨hk8, by simp [World.cell?, hx9], hb8.trans (hbt.mono (by omega))⟩
set_option maxRecDepth 100000 in
set_option maxHeartbeats 8000000 in
theorem walk_row (x0 x1 x2 x3 : Int) (w : World) (hx0 : -9223372036854775808 ≤ x0 ∧ x0 ≤ 9223372036854775807) (hx1 : -9223372036854775808 ≤ x1 ∧ x1 ≤ 9223372036854775807) (hx2 : -9223372036854775808 ≤ x2 ∧ x2 ≤ 9223372036854775807) (hx3 : -9223372036854775808 ≤ x3 ∧ x3 ≤ 9223372036854775807) :
    Calls Try.prog 7 #[.int .i64 x0, .int .i64 x1, .int .i64 x2, .int .i64 x3] w fun e w' => e = .returned (.bool true) ∧ Below w.heap.size w w' := by
  obtain ⟨n, hn⟩ : ∃ n : Nat, (n : Int) = 1 + x0 % 65536 % 300 := ⟨(1 + x0 % 65536 % 300).toNat, by omega⟩
  have n1 : 1 ≤ n := by omega
  have n2 : n ≤ 300 := by omega
  have HN := Lib.hid hn
  clear hn
  refine enter_marks Try.func7 rfl ?_
  simp only [Try.ntmps7, List.size_toArray, List.length_cons, List.length_nil, Nat.reduceAdd, Nat.reduceSub, Array.replicate_succ, Array.replicate_zero, List.push_toArray, List.append_toArray, List.nil_append, List.cons_append]
  go_wp2_with fail
  refine (shown_any _).mono ?_
  rintro e wa ⟨rfl, hB0⟩
  have hbx := (BX.new w x0 x1 x3).keep (w' := wa) (fun k hk => hB0.block k (by simp; omega))
  have hbel : Below w.heap.size w wa := (((((Below.refl _ w).alloc (Nat.le_refl _) _).alloc (by simp) _).alloc (by simp; omega) _).alloc (by simp; omega) _).trans (hB0.mono (by simp; omega))
  have hsz : w.heap.size + 4 ≤ wa.heap.size := by have := hB0.size; simp at this; omega
  have c0 := hbx.c0
  have f0 := hbx.f0
  have HA := Lib.hid (And.intro hbx hbel)
  clear hbx hbel hB0
  go_wp2_with fail
  refine (few_any _ _).mono ?_
  rintro e w' ⟨rfl, rfl⟩
  rw [← HN.out]
  have hb1 := (HA.out.1.set0 (v := (n : Int)))
  have hb2 := hb1.set1 (v := x1.tmod 1000000)
  have c1 := hb1.c1
  have f1 := hb1.f1
  have c2 := hb2.c0
  have HB := Lib.hid (And.intro hb2 ((HA.out.2.setCell (p := ⟨w.heap.size, 0, none⟩) (Nat.le_refl _) (.int .i64 (n : Int))).setCell (p := ⟨w.heap.size + 1, 0, none⟩) (by simp only; omega) (.int .i64 (x1.tmod 1000000))))
  clear hb1 hb2
  obtain ⟨t1, t2⟩ := tmod_in x1
  go_wp2_with fail
  refine (newI_any _ _ n _ (by omega)).mono ?_
  rintro e wb ⟨p, b, rfl, hR, hB⟩
  have hn := heap_alloc_new wb (.cells #[.pointer (some ⟨p, 0, none⟩)] 29)
  have hB1 : Below wb.heap.size wb (wb.alloc (.cells #[.pointer (some ⟨p, 0, none⟩)] 29)) := (Below.refl _ _).alloc (Nat.le_refl _) _
  have hs1 := hB.size
  simp only [World.size_setCell] at hs1
  simp only [World.size_setCell] at hR hB
  have hst : RS w (wb.alloc (.cells #[.pointer (some ⟨p, 0, none⟩)] 29)) wa.heap.size wb.heap.size p b n (x1.tmod 1000000) x3 0 (List.replicate n 0) :=
    ⟨HB.out.1.keep (fun j hj => (hB1.block j (by omega)).trans (hB.block j (by omega))), (HB.out.2.trans (hB.mono (by omega))).trans (hB1.mono (by omega)), by rw [List.map_replicate]; exact hR.kept hB1, hn, hsz, hR.ltp, hR.lt.2, fun j hj => by omega⟩
  have cR := hst.c
  have HS := Lib.hid hst
  clear hst hn hB1 hs1 hR hB c0 f0 c1 f1 c2 HB HA
  go_wp2_with fail
  generalize wb.heap.size = rb at *
  generalize wa.heap.size = B at *
  generalize x1.tmod 1000000 = a at *
  go_loopw [11] (fun i wr => ∃ (k : Nat) (zs : List Int), k ≤ n ∧ i = .int .i64 k ∧ RS w wr B rb p b n a x3 k zs) (fun i _ => n - (intOf i).toNat)
  case atStart => exact ⟨0, _, Nat.zero_le _, rfl, HS.out⟩
  case round =>
    clear HS cR
    obtain ⟨k, zs, hk, rfl, hF⟩ := hrel
    have cR := hF.c
    have c0 := hF.bx.c0
    have HF := Lib.hid hF
    clear hF
    by_cases hlt : k < n
    · have hmod : (k : Int) % n = k := Int.emod_eq_of_lt (by omega) (by omega)
      have HM := Lib.hid hmod
      clear hmod
      go_wp2_with fail
      refine (set_strong B p b n _ k (3 * (k : Int)) _ HF.out.ring (by omega) (by omega)).mono ?_
      rintro e w4 ⟨rfl, hR4, hg4⟩
      rw [HM.out, Int.toNat_natCast] at hR4
      have HS := Lib.hid (HF.out.set hlt hR4 hg4)
      clear hR4 hg4
      go_wp2_with fail
      go_roundw
      case rel => exact ⟨k + 1, _, by omega, by go_num, HS.out⟩
      case measure => simp [intOf]; omega
    · obtain rfl : n = k := by omega
      have c1 := HF.out.bx.c1
      go_wp2_with fail
      obtain ⟨NN, hNN⟩ : ∃ N : Nat, (N : Int) = min (max x2 0) n := ⟨(min (max x2 0) (n : Int)).toNat, by omega⟩
      have hNN2 : NN ≤ n := by omega
      have HNN := Lib.hid hNN
      clear hNN
      refine (from_any p b n a x2 NN _ HF.out.ring.hd n1 (by omega) (by omega) (by omega) HNN.out).mono ?_
      rintro e wc ⟨rfl, hBc, hsc, hCc⟩
      have hfn := func_nil #[] #[.pointer (some ⟨wr.heap.size + 1, 0, none⟩), .pointer (some ⟨wr.heap.size, 0, none⟩), .pointer (some ⟨wr.heap.size + 1 + 1, 0, none⟩)] wc
      have hst := HF.out.below hBc
      have s2 := hst.bx.c2
      have f2 := hst.bx.f2
      have HC := Lib.hid hst
      clear hst hCc hsc hBc cR c0 c1
      have h2 := (HC.out.set2 (1 + x3 % 256)).below ((Below.refl _ _).alloc (Nat.le_refl _) (.cells #[.int .i64 0] 3))
      have c3 := h2.c
      have c4 := h2.bx.c1
      have HD := Lib.hid h2
      have m1 : 0 ≤ x3 % 256 := by omega
      have m2 : x3 % 256 ≤ 255 := by omega
      clear h2
      go_wp2_with fail
      obtain ⟨W1, hW1⟩ : ∃ W1, (wc.setCell ⟨w.heap.size + 1 + 1, 0, none⟩ (.int .i64 (1 + x3 % 256))).alloc (.cells #[.int .i64 0] 3) = W1 := ⟨_, rfl⟩
      have hk0 : W1.heap[wc.heap.size]? = some (.cells #[.int .i64 0] 3 (0, 0)) := by
        rw [← hW1]; have h := heap_alloc_new (wc.setCell ⟨w.heap.size + 1 + 1, 0, none⟩ (.int .i64 (1 + x3 % 256))) (.cells #[.int .i64 0] 3); rwa [World.size_setCell] at h
      have hks : W1.heap.size = wc.heap.size + 1 := by rw [← hW1]; simp
      have hkr : rb < wc.heap.size := (Array.getElem?_eq_some_iff.1 HC.out.box).1
      rw [hW1] at HD c3 c4 ⊢
      clear hW1 s2 f2 hfn HC m1 m2
      obtain ⟨S, hS⟩ : ∃ S : Nat, (S : Int) = 1 + x3 % 256 := ⟨(1 + x3 % 256).toNat, by omega⟩
      have hS1 : 1 ≤ S := by omega
      rw [← hS] at HD
      try rw [← hS]
      clear hS
      refine (from_any p b n a x2 NN _ HD.out.ring.hd n1 (by omega) (by omega) (by omega) HNN.out).mono ?_
      rintro e W0 ⟨rfl, hB0, hs0, hC0⟩
      rw [hks] at hs0 hC0
      have hst := HD.out.below hB0
      have hx0 := (hB0.block wc.heap.size (by omega)).trans hk0
      have H0 := Lib.hid (And.intro hst (And.intro hx0 hC0))
      clear hst hx0 hC0 c3 c4 HD hB0 hk0
      rw [hks]
      generalize wc.heap.size = kb at *
      clear hks
      go_wp2_with fail
      have f0 := Int.emod_nonneg a (by omega : (n : Int) ≠ 0)
      have f1 := Int.emod_lt_of_pos a (by omega : 0 < (n : Int))
      have hlt0 := H0.out.1.ring.lt
      have hlp0 := H0.out.1.lp
      have hlb0 := H0.out.1.lb
      have hlB := H0.out.1.lB
      have hst := from_stops 8 (by omega) (kb + 1) p b n NN (a % n) f0 f1 n1 (by omega) hNN2 W0 H0.out.2.2.c1 (H0.out.1.tri H0.out.2.2) (by omega) (by omega) (by omega)
      have hnext := fun (pre : List (Int × Int)) (x : Int × Int) (h : pre ++ [x] <+: told n (a % n) NN) => told_next h
      have hlen := told_len n (a % n) NN
      generalize told n (a % n) NN = P at *
      have HSt := Lib.hid hst
      have HNext := Lib.hid hnext
      have HLen := Lib.hid hlen
      clear hst hnext hlen f0 f1
      generalize wr.heap.size = C at *
      refine (wpIn_wide (n := 9)).1 ?_
      refine wpIn_rangeFunc_ownF rfl (by omega) (gf := 28) (lb := #[.pointer (some ⟨kb + 1 + 1, 0, none⟩), .pointer (some ⟨kb + 1, 0, none⟩), .pointer (some ⟨kb + 1 + 1 + 1, 0, none⟩)]) rfl trivial (enters_of Try.func28 (by kernel_rfl) rfl)
        HSt.out (fun h k => Four.trans h k)
        (fun W l o1 o2 hl _ _ _ => ⟨World.putObj_heap_other (by omega), World.putObj_heap_other (by omega), World.putObj_heap_other (by omega), World.putObj_heap_other (by omega)⟩) (Below.refl _ _) (fun _ => rfl)
        (fun pre W => (W.heap[kb]? = some (.cells #[.int .i64 (pre.length : Nat)] 3 (0, 0)) ∧ pre.length < S) ∧ Below kb W0 W)
        (LX kb S P W0)
        (OwnFrom.and (Own.from (fun s A B row hs hg hr => ⟨cells_kept hs.1 hg hr, hs.2⟩) _) (ownFrom_below (by omega) (by omega)))
        (lx_own (by omega) (by omega))
        ⟨⟨H0.out.2.1, hS1⟩, Below.refl _ _⟩
        (fun x => { tmps := #[Value.int IntKind.i64 x0, Value.int IntKind.i64 x1, Value.int IntKind.i64 x2, Value.int IntKind.i64 x3, Value.pointer (some ⟨w.heap.size, 0, none⟩), Value.pointer (some ⟨w.heap.size + 1, 0, none⟩), undef, Value.pointer (some ⟨w.heap.size + 1 + 1, 0, none⟩), Value.pointer (some ⟨w.heap.size + 1 + 1 + 1, 0, none⟩), Value.bool true, Value.pointer (some ⟨rb, 0, none⟩), Value.int IntKind.i64 n, Value.pointer (some ⟨kb, 0, none⟩), .int .i64 x.1, .int .i64 x.2, Value.bool true, Value.int IntKind.i64 x0, Value.int IntKind.i64 n, Value.int IntKind.i64 x1, Value.int IntKind.i64 a, Value.int IntKind.i64 n, Value.pointer (some ⟨p, 0, none⟩), Value.pointer (some ⟨p, 0, none⟩), Value.bool false, Value.int IntKind.i64 n, Value.int IntKind.i64 n, Value.bool false, u27, u28, u29, u30, u31, u32, u33, Value.pointer (some ⟨p, 0, none⟩), Value.int IntKind.i64 a, Value.int IntKind.i64 x2, Value.func (Fn.func 28) #[] #[Value.pointer (some ⟨C + 1, 0, none⟩), Value.pointer (some ⟨C, 0, none⟩), Value.pointer (some ⟨C + 1 + 1, 0, none⟩)], Value.bool false, Value.int IntKind.i64 x3, Value.int IntKind.i64 (x3 % 256), Value.int IntKind.i64 S, Value.pointer (some ⟨p, 0, none⟩), Value.int IntKind.i64 a, Value.int IntKind.i64 x2, Value.func (Fn.func 28) #[] #[Value.pointer (some ⟨kb + 1 + 1, 0, none⟩), Value.pointer (some ⟨kb + 1, 0, none⟩), Value.pointer (some ⟨kb + 1 + 1 + 1, 0, none⟩)], .int .i64 x.1, .int .i64 x.2, undef, undef, undef, undef, undef, undef, undef, undef, undef, undef, undef, undef, undef, undef, undef, undef, undef, undef, undef, undef, undef, undef, undef, undef, undef, undef, undef, undef, undef, undef, undef, undef, undef], defers := [] }) ?assign ?body ?done ?stop
      case assign =>
        rintro l ⟨y1, y2⟩ W K hK
        have HK := Lib.hid hK
        clear hK
        simp only [encP]
        gi_wp2
        exact HK.out
      case body =>
        rintro l pre ⟨y1, y2⟩ W ⟨⟨hkb, hpS⟩, hB⟩ hlt2
        have e0 := H0.out.1.bx.keep (w' := W) (fun j hj => hB.block j (by omega))
        have eR : W.cell? ⟨rb, 0, none⟩ = some (.pointer (some ⟨p, 0, none⟩)) := (hB.cell (p := ⟨rb, 0, none⟩) (by simp only; omega)).trans H0.out.1.c
        have ep : W.cell? ⟨p, 0, none⟩ = some (.slice (some ⟨b, 0, none⟩) n n) := (hB.cell (p := ⟨p, 0, none⟩) (by simp only; omega)).trans H0.out.1.ring.hd
        have c0 := e0.c0
        have c1 := e0.c1
        have c2 := e0.c2
        have hres := e0.h3
        have cR : W.cell? ⟨w.heap.size + 1 + 1 + 1, 0, none⟩ = some (.bool false) := by simp [World.cell?, hres]
        have fR : W.frozen? ⟨w.heap.size + 1 + 1 + 1, 0, none⟩ = false := by simp [World.frozen?, hres]
        have ck : W.cell? ⟨kb, 0, none⟩ = some (.int .i64 (pre.length : Nat)) := by simp [World.cell?, hkb]
        have fk : W.frozen? ⟨kb, 0, none⟩ = false := by simp [World.frozen?, hkb]
        have hm := Int.emod_nonneg (a + pre.length) (by omega : (n : Int) ≠ 0)
        have hm2 := Int.emod_lt_of_pos (a + pre.length) (by omega : 0 < (n : Int))
        have HG := Lib.hid (goI_any p b n a pre.length W ep n1 (by omega) (by omega) (by omega) (by omega) (by omega))
        have HNx := Lib.hid (fun hp : pre ++ [(y1, y2)] <+: P => HNext.out _ _ hp)
        rw [go_mod] at HNx
        have HW := Lib.hid (And.intro hkb hB)
        clear hkb hB e0 hres ep
        dsimp only at HNx
        generalize (a + (pre.length : Int)) % n = q at *
        generalize hml : pre.length = m at *
        have HE := Lib.hid hml
        clear hml
        gi_wp2
        refine ⟨trivial, ?_⟩
        refine (CallsIn.inRound l (callsIn_wide.2 HG.out)).mono ?_
        rintro e w' ⟨rfl, rfl⟩
        clear HG
        have set_kb : Below kb W0 (W.setCell ⟨kb, 0, none⟩ (.int .i64 ((m + 1 : Nat) : Int))) := HW.out.2.setCell (p := ⟨kb, 0, none⟩) (Nat.le_refl _) _
        have set_at : (W.setCell ⟨kb, 0, none⟩ (.int .i64 ((m + 1 : Nat) : Int))).heap[kb]? = some (.cells #[.int .i64 ((pre ++ [(y1, y2)]).length : Nat)] 3 (0, 0)) := by
          rw [heap_setCell_same _ _ _ _ _ _ HW.out.1, List.length_append, HE.out]; rfl
        have set_four : Four (kb + 1) p b W (W.setCell ⟨kb, 0, none⟩ (.int .i64 ((m + 1 : Nat) : Int))) :=
          ⟨Below.heap_setCell _ _ _ _ (by simp only; omega), Below.heap_setCell _ _ _ _ (by simp only; omega), Below.heap_setCell _ _ _ _ (by simp only; omega), Below.heap_setCell _ _ _ _ (by simp only; omega)⟩
        have HK := Lib.hid (And.intro set_kb (And.intro set_at set_four))
        clear set_kb set_at set_four
        by_cases d1 : y1 = q
        · subst d1
          have e1 : (y1 != y1) = false := by simp
          by_cases d2 : y2 = 3 * y1
          · subst d2
            have e2 : (3 * y1 != 3 * y1) = false := by simp
            by_cases d3 : m + 1 = S
            · have HL := Lib.hid (show (pre ++ [(y1, 3 * y1)]).length = S from by rw [List.length_append, HE.out]; exact d3)
              subst d3
              gi_wp2
              exact ⟨KeepsOthers.setCell _ _ _, .inr ⟨rfl, HL.out, HK.out.2.1, HK.out.1⟩⟩
            · have HL := Lib.hid (show (pre ++ [(y1, 3 * y1)]).length < S from by rw [List.length_append, HE.out]; simp; omega)
              gi_wp2
              exact ⟨KeepsOthers.setCell _ _ _, HK.out.2.2, ⟨HK.out.2.1, HL.out⟩, HK.out.1⟩
          · have e2 : (y2 != 3 * y1) = true := by rw [bne_iff_ne]; exact d2
            have HN := Lib.hid (show ¬ pre ++ [(y1, y2)] <+: P from fun hp => d2 (HNx.out hp).2)
            clear d2
            gi_wp2
            exact ⟨KeepsOthers.setCell _ _ _, .inl HN.out⟩
        · have e1 : (y1 != q) = true := by rw [bne_iff_ne]; exact d1
          have HN := Lib.hid (show ¬ pre ++ [(y1, y2)] <+: P from fun hp => d1 (HNx.out hp).1)
          clear d1
          gi_wp2
          exact ⟨KeepsOthers.setCell _ _ _, .inl HN.out⟩
      case done =>
        rintro D ys W hD rfl ⟨⟨hkb, hpS⟩, hB⟩ hK
        rw [HLen.out] at hkb hpS
        have e0 := H0.out.1.bx.keep (w' := W) (fun j hj => hB.block j (by omega))
        have c0 := e0.c0
        have c2 := e0.c2
        have hres := e0.h3
        have cR : W.cell? ⟨w.heap.size + 1 + 1 + 1, 0, none⟩ = some (.bool false) := by simp [World.cell?, hres]
        have fR : W.frozen? ⟨w.heap.size + 1 + 1 + 1, 0, none⟩ = false := by simp [World.frozen?, hres]
        have ck : W.cell? ⟨kb, 0, none⟩ = some (.int .i64 (NN : Nat)) := by simp [World.cell?, hkb]
        have HW := Lib.hid (And.intro hK (And.intro hB (And.intro hD hres)))
        clear hkb hB hK hD hres e0
        have HS0 := Lib.hid hs0
        clear hs0
        obtain ⟨k1, k2, k3⟩ := fin H0.out.1.bel HW.out.2.1 (by omega) (by have := HS0.out; omega) HW.out.2.2.1 HW.out.1 HW.out.2.2.2
        have HF9 := Lib.hid (And.intro k1 (And.intro k2 k3))
        clear k1 k2 k3
        rcases (show x2 < 0 ∨ (0 ≤ x2 ∧ x2 ≤ (n : Int)) ∨ (0 ≤ x2 ∧ (n : Int) < x2) by omega) with h1 | ⟨h1, h2⟩ | ⟨h1, h2⟩
        · obtain rfl : NN = 0 := by have := HNN.out; omega
          go_wp2
          refine ret_marks HF9.out.1 (v := .bool true) ?_ ⟨rfl, HF9.out.2.2⟩
          have hc9 := HF9.out.2.1
          clear HF9
          generalize World.putObj _ D (.deferred none) = W9 at *
          simp [results, Try.results7, go_sem, hc9]
        · obtain rfl : x2 = (NN : Int) := by have := HNN.out; omega
          go_wp2
          refine ret_marks HF9.out.1 (v := .bool true) ?_ ⟨rfl, HF9.out.2.2⟩
          have hc9 := HF9.out.2.1
          clear HF9
          generalize World.putObj _ D (.deferred none) = W9 at *
          simp [results, Try.results7, go_sem, hc9]
        · obtain rfl : NN = n := by have := HNN.out; omega
          go_wp2
          refine ret_marks HF9.out.1 (v := .bool true) ?_ ⟨rfl, HF9.out.2.2⟩
          have hc9 := HF9.out.2.1
          clear HF9
          generalize World.putObj _ D (.deferred none) = W9 at *
          simp [results, Try.results7, go_sem, hc9]
      case stop =>
        rintro D c pre W hD hpre (h | ⟨rfl, hl, hkb, hB⟩) hK
        · exact (h hpre).elim
        have hle := hpre.length_le
        rw [HLen.out, hl] at hle
        rw [hl] at hkb
        have e0 := H0.out.1.bx.keep (w' := W) (fun j hj => hB.block j (by omega))
        have c0 := e0.c0
        have c2 := e0.c2
        have hres := e0.h3
        have cR : W.cell? ⟨w.heap.size + 1 + 1 + 1, 0, none⟩ = some (.bool false) := by simp [World.cell?, hres]
        have fR : W.frozen? ⟨w.heap.size + 1 + 1 + 1, 0, none⟩ = false := by simp [World.frozen?, hres]
        have ck : W.cell? ⟨kb, 0, none⟩ = some (.int .i64 (S : Nat)) := by simp [World.cell?, hkb]
        have HW := Lib.hid (And.intro hK (And.intro hB (And.intro hD hres)))
        have HP := Lib.hid hpre
        clear hkb hB hK hD hres e0 hpre hl
        have HS0 := Lib.hid hs0
        clear hs0
        obtain ⟨k1, k2, k3⟩ := fin H0.out.1.bel HW.out.2.1 (by omega) (by have := HS0.out; omega) HW.out.2.2.1 HW.out.1 HW.out.2.2.2
        have HF9 := Lib.hid (And.intro k1 (And.intro k2 k3))
        clear k1 k2 k3
        refine wpIn_wide.2 ?_
        rcases (show S = NN ∨ S < NN by omega) with rfl | hSN
        · rcases (show x2 < 0 ∨ (0 ≤ x2 ∧ x2 ≤ (n : Int)) ∨ (0 ≤ x2 ∧ (n : Int) < x2) by omega) with h1 | ⟨h1, h2⟩ | ⟨h1, h2⟩
          · have := HNN.out
            omega
          · obtain rfl : x2 = (S : Int) := by have := HNN.out; omega
            go_wp2
            refine ret_marks HF9.out.1 (v := .bool true) ?_ ⟨rfl, HF9.out.2.2⟩
            have hc9 := HF9.out.2.1
            clear HF9
            generalize World.putObj _ D (.deferred none) = W9 at *
            simp [results, Try.results7, go_sem, hc9]
          · obtain rfl : S = n := by have := HNN.out; omega
            go_wp2
            refine ret_marks HF9.out.1 (v := .bool true) ?_ ⟨rfl, HF9.out.2.2⟩
            have hc9 := HF9.out.2.1
            clear HF9
            generalize World.putObj _ D (.deferred none) = W9 at *
            simp [results, Try.results7, go_sem, hc9]
        · rcases (show x2 < 0 ∨ (0 ≤ x2 ∧ x2 ≤ (n : Int)) ∨ (0 ≤ x2 ∧ (n : Int) < x2) by omega) with h1 | ⟨h1, h2⟩ | ⟨h1, h2⟩
          · have := HNN.out
            omega
          · obtain rfl : x2 = (NN : Int) := by have := HNN.out; omega
            go_wp2
            refine ret_marks HF9.out.1 (v := .bool true) ?_ ⟨rfl, HF9.out.2.2⟩
            have hc9 := HF9.out.2.1
            clear HF9
            generalize World.putObj _ D (.deferred none) = W9 at *
            simp [results, Try.results7, go_sem, hc9]
          · obtain rfl : NN = n := by have := HNN.out; omega
            go_wp2
            refine ret_marks HF9.out.1 (v := .bool true) ?_ ⟨rfl, HF9.out.2.2⟩
            have hc9 := HF9.out.2.1
            clear HF9
            generalize World.putObj _ D (.deferred none) = W9 at *
            simp [results, Try.results7, go_sem, hc9]

theorem walk (a0 a1 a2 a3 : Int) (w0 : (Lit.int .i64 a0).wf = true) (w1 : (Lit.int .i64 a1).wf = true) (w2 : (Lit.int .i64 a2).wf = true) (w3 : (Lit.int .i64 a3).wf = true) (w : World) :
    Calls Try.prog 7 #[.int .i64 a0, .int .i64 a1, .int .i64 a2, .int .i64 a3] w fun e w' => e = .returned (.bool true) ∧ Below w.heap.size w w' :=
  walk_row a0 a1 a2 a3 w (bounds_i64 w0) (bounds_i64 w1) (bounds_i64 w2) (bounds_i64 w3)
set_option maxRecDepth 100000 in
theorem lifted (os : Os) (started : os.Started) (H : Type) (enc : TypeId × Value → H) :
    ReturnsInHanded {} Try.checked os 7 .any (Rows.ringFromSpec.pre6 enc Try.prog Try.f7 Rows.ringFromRow.domain false) (Rows.ringFromSpec.post enc Try.prog Try.f7 false true false false) := by
  refine returnsInHanded_of_change (C := Try.checked) own started (by kernel_rfl) Try.func7
    (ChangeSpec.witness6 (enc := enc) (C := Try.checked) false ⟨#[], #[.int .i64 0, .int .i64 0, .int .i64 0, .int .i64 0], []⟩ 8 (by kernel_rfl) (by kernel_rfl) (by kernel_rfl) (by kernel_rfl)) ?_
  intro W base args ds gs before hval0 hW hcnd _
  have hval : ∀ (j : Nat) t v, Try.f7.params[j]? = some t → args[j]? = some v → Value.okWide Try.prog W .any base t v := hval0
  have hW' := hW
  obtain ⟨p, q, hA0, hV, rfl, hfz, hnd⟩ := hW
  have hA : DataW.TrodAll enc Try.prog W 0 (fun _ => true) true Try.f7.params.toList args.toList ds p := hA0
  rw [Try.params7] at hA hval
  obtain ⟨v0, vs0, d0, ds0, p0, q0, hargs, rfl, rfl, h0, r0⟩ := trodAll_cons hA
  obtain ⟨v1, vs1, d1, ds1, p1, q1, rfl, rfl, rfl, h1, r1⟩ := trodAll_cons r0
  obtain ⟨v2, vs2, d2, ds2, p2, q2, rfl, rfl, rfl, h2, r2⟩ := trodAll_cons r1
  obtain ⟨v3, vs3, d3, ds3, p3, q3, rfl, rfl, rfl, h3, r3⟩ := trodAll_cons r2
  obtain ⟨rfl, rfl, rfl⟩ := trodAll_nil r3
  obtain rfl : args = #[v0, v1, v2, v3] := by cases args; simp_all
  obtain ⟨rfl, rfl⟩ := trodVars_none hV
  obtain ⟨a0, rfl, rfl, rfl, w0⟩ := open_int Try.underlying3 (hval 0 3 v0 rfl rfl) h0
  obtain ⟨a1, rfl, rfl, rfl, w1⟩ := open_int Try.underlying3 (hval 1 3 v1 rfl rfl) h1
  obtain ⟨a2, rfl, rfl, rfl, w2⟩ := open_int Try.underlying3 (hval 2 3 v2 rfl rfl) h2
  obtain ⟨a3, rfl, rfl, rfl, w3⟩ := open_int Try.underlying3 (hval 3 3 v3 rfl rfl) h3
  clear hA0 hval0
  refine (walk a0 a1 a2 a3 w0 w1 w2 w3 W).mono fun e W' ⟨he, bel⟩ => ?_
  subst he
  exact ⟨_, rfl, _, _, _, [], _, [], hW', trodAll_mk1 (shut_bool Try.underlying4 _), (trodAll_cons_mk (shut_int Try.underlying3 w0) (trodAll_cons_mk (shut_int Try.underlying3 w1) (trodAll_cons_mk (shut_int Try.underlying3 w2) (trodAll_cons_mk (shut_int Try.underlying3 w3) trodAll_mk0)))), rfl, bel.frame _, fun h => by cases h⟩

theorem over : Rows.ringFromRow.holds Try.pinned (OpenSpec.ofChange Rows.ringFromSpec) :=
  OpenClaim.holds_of_wide 7 Try.f7 rfl rfl rfl rfl rfl rfl rfl ⟨rfl, rfl, rfl, rfl, rfl⟩ rfl rfl rfl rfl rfl (by kernel_rfl) Try.func7 (by kernel_rfl)
    (of_decide_eq_true (by kernel_rfl)) (by unfold Func.isWrapper; first | (rw [if_pos (by decide +kernel)]; kernel_rfl) | (rw [if_neg (by decide +kernel)]; exact ⟨rfl, rfl⟩))
    (fun os started H enc _ => lifted os started H enc)

/-- THE STATEMENT. -/
theorem proved : Rows.RingFromSaid := over
#print axioms proved
end Go.Proofs.Ytdacnlcalcgjiaa.ringFrom
