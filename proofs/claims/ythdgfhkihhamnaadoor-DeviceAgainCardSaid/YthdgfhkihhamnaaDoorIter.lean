/-
  PROVED HERE: the iterator over what waits.
-/
import Derived.Test.YthdgfhkihhamnaaDoorBase
import Derived.RangeFuncNested
import Derived.RangeFuncBound
import Derived.RangeFuncCalls
import Derived.RangeFuncLeaves
import Derived.Shelf.Abstract
import Derived.Shelf.RegionOpen
import Derived.OwnWalkIn
import Derived.TacticsInMore
import Derived.LoopNIn
import Derived.LoopIn
namespace Go.Proofs.YthdgfhkihhamnaaDoor
open Go.ChangeShapes Go.WideShapes Go.ChangeAt Go.RowKit

open Go.Shelf
attribute [local go_sem] Oper.semAt_some

/-- One write that waits, as the loop is handed it: the sector, the block of its bytes. -/
def encW (x : Int × Nat) : Array Value := #[.agg #[.int .i64 x.1, .slice (some ⟨x.2, 0, none⟩) 512 512]]

theorem rev_take (P : List (Int × Nat)) (k : Nat) (h : k < P.length) : (P.drop k).reverse = (P.drop (k + 1)).reverse ++ [P[k]] := by
  rw [List.drop_eq_getElem_cons h, List.reverse_cons]

set_option maxRecDepth 100000 in
set_option maxHeartbeats 2000000 in
theorem newest1_in (F : Fence) (n : Nat) (h26 : F.fn 25) (hro : F.round = none) (hn : 1 ≤ n) (l Bn n₀ dp wb wc : Nat) (P : List (Int × Nat)) (J Jx : List (Int × Nat) → World → Prop)
    (hY : ∀ pre x W, J pre W → pre ++ [x] <+: P.reverse → YieldAt F (n - 1) Tryd.prog l (encW x) W fun e W' =>
      (e = .returned (.bool true) ∧ J (pre ++ [x]) W' ∧ Below n₀ W W') ∨ (e = .returned (.bool false) ∧ Jx (pre ++ [x]) W'))
    (W : World) (hBn : W.cell? ⟨Bn, 0, none⟩ = some (.pointer (some ⟨dp, 0, none⟩))) (hd : W.cell? ⟨dp, 1, none⟩ = some (.slice (some ⟨wb, 0, none⟩) P.length wc)) (hlen : P.length ≤ 1000000000000)
    (hrow : ∀ (k : Nat) x, P[k]? = some x → W.cell? ⟨wb, k * 2, none⟩ = some (.int .i64 x.1) ∧ W.cell? ⟨wb, k * 2 + 1, none⟩ = some (.slice (some ⟨x.2, 0, none⟩) 512 512)) (b1 : Bn < n₀) (b2 : dp < n₀) (b3 : wb < n₀) (h0 : J [] W) :
    CallsIn F n Tryd.prog 25 #[.func (.yield l) #[] #[], .pointer (some ⟨Bn, 0, none⟩)] W fun e W' => (∃ v, e = .returned v) ∧
      ((∃ ys, ys = P.reverse ∧ J ys W') ∨ (∃ pre, pre <+: P.reverse ∧ Jx pre W')) := by
  refine callsIn_of_wp Tryd.func25 rfl h26 ?_ hro
  simp only [Tryd.ntmps25, List.size_toArray, List.length_cons, List.length_nil, Nat.reduceAdd, Nat.reduceSub, Array.replicate_succ, Array.replicate_zero, List.push_toArray, List.append_toArray, List.nil_append, List.cons_append]
  have HR := Lib.hid hrow
  have HJ := Lib.hid h0
  clear hrow h0
  obtain ⟨m, hm⟩ : ∃ m, m = P.length := ⟨_, rfl⟩
  rw [← hm] at hd hlen
  have HM := Lib.hid hm
  clear hm
  gi_wp2
  gi_loopw [3] (fun p wr => ∃ k : Nat, k ≤ m ∧ p = .int .i64 ((k : Int) - 1) ∧ J (P.drop k).reverse wr ∧ Below n₀ W wr) (fun p _ => (intOf p + 1).toNat)
  case atStart =>
    exact ⟨m, Nat.le_refl _, rfl, by rw [HM.out, List.drop_length]; exact HJ.out, Below.refl _ _⟩
  case round =>
    obtain ⟨k, hk, rfl, hJs, hB⟩ := hrel
    cases k with
    | zero =>
      have HX := Lib.hid hJs
      clear hJs
      gi_wp2
      go_end0
      exact ⟨⟨_, rfl⟩, .inl ⟨P.reverse, rfl, by have := HX.out; rwa [List.drop_zero] at this⟩⟩
    | succ k =>
      have e : (((k + 1 : Nat) : Int) - 1) = (k : Int) := by omega
      rw [e]
      have hkl : k < P.length := by have := HM.out; omega
      obtain ⟨r1, r2⟩ := HR.out k P[k] (List.getElem?_eq_getElem hkl)
      have c1 : wr.cell? ⟨Bn, 0, none⟩ = some (.pointer (some ⟨dp, 0, none⟩)) := (hB.cell (p := ⟨Bn, 0, none⟩) b1).trans hBn
      have c2 : wr.cell? ⟨dp, 1, none⟩ = some (.slice (some ⟨wb, 0, none⟩) m wc) := (hB.cell (p := ⟨dp, 1, none⟩) b2).trans hd
      have c3 := (hB.cell (p := ⟨wb, k * 2, none⟩) b3).trans r1
      have c4 := (hB.cell (p := ⟨wb, k * 2 + 1, none⟩) b3).trans r2
      have hstep := rev_take P k hkl
      have HS := Lib.hid (And.intro hJs (And.intro hB hstep))
      obtain ⟨fn, tmps, assign, body, hy, hRd⟩ := hY (P.drop (k + 1)).reverse P[k] wr hJs ⟨(P.take k).reverse, by rw [← hstep, ← List.reverse_append, List.take_append_drop]⟩
      unfold encW at hy
      have HRd := Lib.hid hRd
      generalize P[k] = x at *
      obtain ⟨x1, x2⟩ := x
      dsimp only at *
      clear hBn hd r1 r2 hJs hB hstep hRd
      gi_wp2
      refine (HRd.out).mono ?_
      rintro e W3 (⟨rfl, hJ3, hk3⟩ | ⟨rfl, hJx3⟩)
      · have HJ3 := Lib.hid (And.intro hJ3 hk3)
        gi_wp2
        go_roundw
        case rel => exact ⟨k, by omega, by go_num, by rw [HS.out.2.2]; exact HJ3.out.1, HS.out.2.1.trans HJ3.out.2⟩
        case measure => simp [intOf]
      · have HJ3 := Lib.hid hJx3
        gi_wp2
        refine bodyPost_ret (results_none rfl _ _ _) rfl ?_
        exact ⟨⟨_, rfl⟩, .inr ⟨_, ⟨(P.take k).reverse, by rw [← HS.out.2.2, ← List.reverse_append, List.take_append_drop]⟩, HJ3.out⟩⟩

set_option maxRecDepth 100000 in
set_option maxHeartbeats 2000000 in
theorem newest0_in (F : Fence) (n : Nat) (h26 : F.fn 25) (hro : F.round = none) (l Bn dp : Nat) (J Jx : List (Int × Nat) → World → Prop)
    (W : World) (hBn : W.cell? ⟨Bn, 0, none⟩ = some (.pointer (some ⟨dp, 0, none⟩))) (hd : W.cell? ⟨dp, 1, none⟩ = some (.slice none 0 0)) (h0 : J [] W) :
    CallsIn F n Tryd.prog 25 #[.func (.yield l) #[] #[], .pointer (some ⟨Bn, 0, none⟩)] W fun e W' => (∃ v, e = .returned v) ∧
      ((∃ ys, ys = [] ∧ J ys W') ∨ (∃ pre, pre <+: ([] : List (Int × Nat)) ∧ Jx pre W')) := by
  refine callsIn_of_wp Tryd.func25 rfl h26 ?_ hro
  simp only [Tryd.ntmps25, List.size_toArray, List.length_cons, List.length_nil, Nat.reduceAdd, Nat.reduceSub, Array.replicate_succ, Array.replicate_zero, List.push_toArray, List.append_toArray, List.nil_append, List.cons_append]
  have HJ := Lib.hid h0
  clear h0
  gi_wp2
  gi_loopw [3] (fun p wr => p = .int .i64 (-1) ∧ wr = W) (fun _ _ => 0)
  case atStart => exact ⟨rfl, rfl⟩
  case round =>
    obtain ⟨rfl, rfl⟩ := hrel
    gi_wp2
    go_end0
    exact ⟨⟨_, rfl⟩, .inl ⟨[], rfl, HJ.out⟩⟩

set_option maxHeartbeats 1000000 in
theorem newest_in (F : Fence) (n : Nat) (h24 : F.fn 23) (hro : F.round = none) (dp : Nat) (w : World) :
    CallsIn F n Tryd.prog 23 #[.pointer (some ⟨dp, 0, none⟩)] w fun e w' => e = .returned (.func (.func 25) #[] #[.pointer (some ⟨w.heap.size, 0, none⟩)]) ∧ w' = w.alloc (.cells #[.pointer (some ⟨dp, 0, none⟩)] 24) := by
  refine callsIn_of_wp Tryd.func23 rfl h24 ?_ hro
  simp only [Tryd.ntmps23, List.size_toArray, List.length_cons, List.length_nil, Nat.reduceAdd, Nat.reduceSub, Array.replicate_succ, Array.replicate_zero, List.push_toArray, List.append_toArray, List.nil_append, List.cons_append]
  gi_wp2
  go_ret
  exact ⟨rfl, rfl⟩

/-- What waits, as the struct's second field has it. -/
def WaitSlice (w : World) (wv : Value) (P : List (Int × Nat)) (n₀ : Nat) : Prop :=
  (wv = .slice none 0 0 ∧ P = []) ∨ ∃ wb wc, wv = .slice (some ⟨wb, 0, none⟩) P.length wc ∧ wb < n₀ ∧ P.length ≤ 1000000000000 ∧
    ∀ (k : Nat) x, P[k]? = some x → w.cell? ⟨wb, k * 2, none⟩ = some (.int .i64 x.1) ∧ w.cell? ⟨wb, k * 2 + 1, none⟩ = some (.slice (some ⟨x.2, 0, none⟩) 512 512)

theorem newest_stops (Q : Int × Nat → Prop) (F : Fence) (n : Nat) (h26 : F.fn 25) (hro : F.round = none) (hn : 1 ≤ n) (Bn n₀ dp : Nat) (wv : Value) (P : List (Int × Nat)) (hQ : ∀ x ∈ P, Q x) (w : World) (hn₀ : n₀ ≤ w.heap.size) (b1 : Bn < n₀) (b2 : dp < n₀)
    (hBn : w.cell? ⟨Bn, 0, none⟩ = some (.pointer (some ⟨dp, 0, none⟩))) (hd : w.cell? ⟨dp, 1, none⟩ = some wv) (hw : WaitSlice w wv P n₀) :
    SeqStopsK F n Tryd.prog 25 #[.pointer (some ⟨Bn, 0, none⟩)] (fun x : { x : Int × Nat // Q x } => encW x.1) (Below n₀) (fun ys => ys.map Subtype.val = P.reverse) (fun pre => pre.map Subtype.val <+: P.reverse) P.length w := fun l J Jx W hW _ _ hY h0 => by
  have hW' := hW.mono hn₀
  have k1 := (hW'.cell (p := ⟨Bn, 0, none⟩) b1).trans hBn
  have k2 := (hW'.cell (p := ⟨dp, 1, none⟩) b2).trans hd
  have fin : ∀ {P' : List (Int × Nat)} (_ : P' = P) {e : Ending} {W' : World}, ((∃ v, e = .returned v) ∧ ((∃ ys, ys = P'.reverse ∧ ∃ zs : List { x : Int × Nat // Q x }, zs.map Subtype.val = ys ∧ J zs W') ∨ (∃ pre, pre <+: P'.reverse ∧ ∃ zs : List { x : Int × Nat // Q x }, zs.map Subtype.val = pre ∧ Jx zs W'))) →
      ((∃ v, e = .returned v) ∧ ((∃ ys : List { x : Int × Nat // Q x }, ys.map Subtype.val = P.reverse ∧ J ys W') ∨ (∃ pre : List { x : Int × Nat // Q x }, pre.map Subtype.val <+: P.reverse ∧ Jx pre W'))) := by
    rintro P' rfl e W' ⟨h1, (⟨ys, rfl, zs, q1, q2⟩ | ⟨pre, q0, zs, q1, q2⟩)⟩
    · exact ⟨h1, .inl ⟨zs, q1, q2⟩⟩
    · exact ⟨h1, .inr ⟨zs, by rw [q1]; exact q0, q2⟩⟩
  rcases hw with ⟨rfl, hP⟩ | ⟨wb, wc, rfl, b3, hlen, hrow⟩
  · exact (newest0_in F n h26 hro l Bn dp (fun pre W => ∃ zs : List { x : Int × Nat // Q x }, zs.map Subtype.val = pre ∧ J zs W) (fun pre W => ∃ zs : List { x : Int × Nat // Q x }, zs.map Subtype.val = pre ∧ Jx zs W) W k1 k2 ⟨[], rfl, h0⟩).mono (fun e W' h => fin hP.symm h)
  · refine (newest1_in F n h26 hro hn l Bn n₀ dp wb wc P (fun pre W => ∃ zs : List { x : Int × Nat // Q x }, zs.map Subtype.val = pre ∧ J zs W) (fun pre W => ∃ zs : List { x : Int × Nat // Q x }, zs.map Subtype.val = pre ∧ Jx zs W) ?_ W k1 k2 hlen (fun k x hx => ⟨(hW'.cell (p := ⟨wb, k * 2, none⟩) b3).trans (hrow k x hx).1, (hW'.cell (p := ⟨wb, k * 2 + 1, none⟩) b3).trans (hrow k x hx).2⟩) b1 b2 b3 ⟨[], rfl, h0⟩).mono (fun e W' h => fin rfl h)
    rintro pre x W1 ⟨zs, rfl, hJ⟩ hp
    have hx : x ∈ P := List.mem_reverse.1 (hp.subset (by simp))
    have hl : zs.length < P.length := by have := hp.length_le; simp at this; omega
    obtain ⟨fn, tmps, assign, body, hy, hR⟩ := hY zs ⟨x, hQ x hx⟩ W1 hJ hl
    refine ⟨fn, tmps, assign, body, hy, hR.mono ?_⟩
    rintro e W2 (⟨q0, q1, q2⟩ | ⟨q0, q1⟩)
    · exact .inl ⟨q0, ⟨_, by simp, q1⟩, q2⟩
    · exact .inr ⟨q0, ⟨_, by simp, q1⟩⟩
end Go.Proofs.YthdgfhkihhamnaaDoor
