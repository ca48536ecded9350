/-
  PROVED HERE: the contracts of All and of the iterator that it answers.
-/
import Derived.Test.YtcgjlbgmjlafnaaBase
import Derived.RangeFuncNested
import Derived.RangeFuncBound
import Derived.RangeFuncCalls
import Derived.RangeFuncLeaves
import Derived.Shelf.Abstract
import Derived.Shelf.RegionOpen
import Derived.OwnWalkIn
import Derived.TacticsInMore
import Derived.LoopNIn
import Derived.LoopIn
namespace Go.Proofs.Ytcgjlbgmjlafnaa
open Go.ChangeShapes Go.WideShapes Go.ChangeAt Go.RowKit

open Go.Shelf
attribute [local go_sem] Oper.semAt_some

/-- What All tells of the first k blocks. -/
def pairs (l : List Int) : Nat → List (Int × Int)
  | 0 => []
  | k + 1 => pairs l k ++ (if at' l k = -1 then [] else [((k : Int), at' l k)])
theorem pairs_pre (l : List Int) (k m : Nat) (h : k ≤ m) : pairs l k <+: pairs l m := by
  induction m with
  | zero => obtain rfl : k = 0 := by omega
            exact List.prefix_refl _
  | succ m ih =>
    by_cases e : k = m + 1
    · subst e; exact List.prefix_refl _
    · rw [pairs]; exact (ih (by omega)).trans (List.prefix_append _ _)
theorem pairs_mem (l : List Int) (k : Nat) (x : Int × Int) (h : x ∈ pairs l k) : 0 ≤ x.1 ∧ x.1 < k ∧ at' l x.1 = x.2 ∧ x.2 ≠ -1 := by
  induction k with
  | zero => simp [pairs] at h
  | succ k ih =>
    rw [pairs] at h
    rcases List.mem_append.1 h with h | h
    · obtain ⟨h1, h2, h3, h4⟩ := ih h; exact ⟨h1, by omega, h3, h4⟩
    · split at h
      · simp at h
      · rw [List.mem_singleton] at h; subst h; exact ⟨by simp, by simp only; omega, rfl, by assumption⟩
theorem pairs_sorted (l : List Int) (k : Nat) : (pairs l k).Pairwise (fun a b => a.1 < b.1) := by
  induction k with
  | zero => exact List.Pairwise.nil
  | succ k ih =>
    rw [pairs, List.pairwise_append]
    refine ⟨ih, by split <;> simp, fun a ha b hb => ?_⟩
    obtain ⟨_, h2, _, _⟩ := pairs_mem l k a ha
    split at hb
    · simp at hb
    · rw [List.mem_singleton] at hb; subst hb; exact h2
/-- How many of the first k are somewhere. -/
theorem pairs_len (l : List Int) (k : Nat) (hk : k ≤ l.length) : (pairs l k).length = num (l.take k) := by
  induction k with
  | zero => simp [pairs, num]
  | succ k ih =>
    have e : l.take (k + 1) = l.take k ++ [l[k]] := by rw [List.take_succ_eq_append_getElem (by omega)]
    have e2 : at' l (k : Int) = l[k] := by unfold at'; rw [if_neg (by omega)]; simp [show k < l.length by omega]
    rw [pairs, List.length_append, ih (by omega), e, num, num, List.countP_append, e2]
    congr 1
    by_cases c : l[k] = -1 <;> simp [c]
/-- What comes next is no less than what came. -/
theorem pairs_next {l : List Int} {m : Nat} {pre : List (Int × Int)} {x : Int × Int} (h : pre ++ [x] <+: pairs l m) : 0 ≤ x.1 ∧ (∀ y ∈ pre, y.1 < x.1) ∧ at' l x.1 = x.2 ∧ x.2 ≠ -1 := by
  have h1 := pairs_mem l m x (h.subset (by simp))
  have h2 := (pairs_sorted l m).sublist h.sublist
  rw [List.pairwise_append] at h2
  exact ⟨h1.1, fun y hy => h2.2.2 y hy x (by simp), h1.2.2⟩

theorem all_any (t : Nat) (w : World) : Calls Try.prog 14 #[.pointer (some ⟨t, 0, none⟩)] w fun e w' => e = .returned (.func (.func 18) #[] #[.pointer (some ⟨w.heap.size, 0, none⟩)]) ∧ w' = w.alloc (.cells #[.pointer (some ⟨t, 0, none⟩)] 23) := by
  go_enter Try.func14, Try.ntmps14
  go_wp2
  go_ret
  exact ⟨rfl, rfl⟩
def encP (x : Int × Int) : Array Value := #[.int .i64 x.1, .int .i64 x.2]

theorem TableAt.same {w w' : World} {B t b o nb np : Nat} {T : Tab} (h : TableAt w B t b o nb np T) (h1 : w'.heap[t]? = w.heap[t]?) (h2 : w'.heap[b]? = w.heap[b]?) (h3 : w'.heap[o]? = w.heap[o]?) : TableAt w' B t b o nb np T := by
  have kc : ∀ j, w'.cell? ⟨t, j, none⟩ = w.cell? ⟨t, j, none⟩ := fun j => World.cell?_of_block h1
  have kf : ∀ j, w'.frozen? ⟨t, j, none⟩ = w.frozen? ⟨t, j, none⟩ := fun j => World.frozen?_of_block h1
  have kl : ∀ (g : Nat) (n : Nat) (l : List Int), w'.heap[g]? = w.heap[g]? → ListAt w B g n l → ListAt w' B g n l := by
    rintro g n l hg ⟨r1, r2⟩
    refine ⟨r1, ?_⟩
    rcases r2 with r2 | ⟨g', cap, cur, hv, hb', hh, r⟩
    · exact .inl r2
    · have e : g = g' := by simp only [Value.slice.injEq, Option.some.injEq, Addr.mk.injEq, and_true, true_and] at hv; exact hv.1
      subst e
      exact .inr ⟨g, cap, cur, hv, hb', hg.trans hh, r⟩
  exact ⟨(kc 0).trans h.h0, (kc 1).trans h.h1, (kc 2).trans h.h2, fun j => (kf j).trans (h.hf j), kl b nb _ h2 h.rp, kl o np _ h3 h.ro, h.ntb, h.nto, h.nbo, h.tB, h.n1, h.n2⟩
/-- What a round must leave. -/
def Four (t b o Bn : Nat) (W W' : World) : Prop := W'.heap[t]? = W.heap[t]? ∧ W'.heap[b]? = W.heap[b]? ∧ W'.heap[o]? = W.heap[o]? ∧ W'.heap[Bn]? = W.heap[Bn]?
theorem Four.refl (t b o Bn : Nat) (W : World) : Four t b o Bn W W := ⟨rfl, rfl, rfl, rfl⟩
theorem Four.trans {t b o Bn : Nat} {A B C : World} (h : Four t b o Bn A B) (k : Four t b o Bn B C) : Four t b o Bn A C := ⟨k.1.trans h.1, k.2.1.trans h.2.1, k.2.2.1.trans h.2.2.1, k.2.2.2.trans h.2.2.2⟩
set_option maxRecDepth 100000 in
set_option maxHeartbeats 2000000 in
theorem all1_in (n : Nat) (hn : 2 ≤ n) (l Bn B t b o nb np : Nat) (T : Tab) (J Jx : List (Int × Int) → World → Prop)
    (hY : ∀ pre x W, J pre W → pre.length < (pairs T.ps nb).length → YieldAt Fence.wide (n - 1) Try.prog l (encP x) W fun e W' =>
      (e = .returned (.bool true) ∧ J (pre ++ [x]) W' ∧ Four t b o Bn W W') ∨ (e = .returned (.bool false) ∧ Jx (pre ++ [x]) W'))
    (W : World) (hBn : W.cell? ⟨Bn, 0, none⟩ = some (.pointer (some ⟨t, 0, none⟩))) (hT : TableAt W B t b o nb np T) (h0 : J [] W) :
    CallsIn Fence.wide n Try.prog 18 #[.func (.yield l) #[] #[], .pointer (some ⟨Bn, 0, none⟩)] W fun e W' => (∃ v, e = .returned v) ∧
      ((∃ ys, ys = pairs T.ps nb ∧ J ys W') ∨ (∃ pre, pre <+: pairs T.ps nb ∧ Jx pre W')) := by
  refine callsIn_of_wp Try.func18 rfl trivial ?_ rfl
  simp only [Try.ntmps18, List.size_toArray, List.length_cons, List.length_nil, Nat.reduceAdd, Nat.reduceSub, Array.replicate_succ, Array.replicate_zero, List.push_toArray, List.append_toArray, List.nil_append, List.cons_append]
  have HJ := Lib.hid h0
  have HT := Lib.hid hT
  have c0 := hT.h0
  have hlen : T.ps.length = nb := hT.rp.len
  have hnb : nb ≤ 1048576 := hT.n1
  clear h0 hT
  gi_wp2
  gi_loopw [11] (fun p wr => ∃ k : Nat, k ≤ nb ∧ p = .int .i64 k ∧ J (pairs T.ps k) wr ∧ Four t b o Bn W wr) (fun p _ => nb - (intOf p).toNat)
  case atStart => exact ⟨0, by omega, rfl, HJ.out, Four.refl _ _ _ _ _⟩
  case round =>
    obtain ⟨k, hk, rfl, hJs, hB⟩ := hrel
    by_cases hlt : k < nb
    · have c1 : wr.cell? ⟨Bn, 0, none⟩ = some (.pointer (some ⟨t, 0, none⟩)) := (World.cell?_of_block (a := ⟨Bn, 0, none⟩) hB.2.2.2).trans hBn
      have HA := Lib.hid (at_any B t b o nb np T k wr (HT.out.same hB.1 hB.2.1 hB.2.2.1))
      have HS := Lib.hid (And.intro hJs hB)
      have hnx : pairs T.ps (k + 1) = pairs T.ps k ++ (if at' T.ps k = -1 then [] else [((k : Int), at' T.ps k)]) := rfl
      by_cases c : at' T.ps k = -1
      · rw [if_pos c, List.append_nil] at hnx
        have HX := Lib.hid hnx
        have e1 : toldB T.ps k = false := by unfold toldB; rw [c]; rfl
        clear hBn c0 hJs hB hnx c
        gi_wp2
        refine ⟨trivial, fun _ => by omega, ?_⟩
        refine (callsIn_wide.2 HA.out).mono ?_
        rintro e w' ⟨rfl, rfl⟩
        rw [e1]
        gi_wp2
        refine ⟨fun _ h => (by cases h), ?_⟩
        gi_wp2
        go_roundw
        case rel => exact ⟨k + 1, by omega, by go_num, by rw [HX.out]; exact HS.out.1, HS.out.2⟩
        case measure => simp [intOf]; omega
      · rw [if_neg c] at hnx
        have e1 : toldB T.ps k = true := by unfold toldB; simpa using c
        have e2 : toldV T.ps k = at' T.ps k := by unfold toldV; rw [if_neg c]
        have hl : (pairs T.ps k).length < (pairs T.ps nb).length := by
          have h := (pairs_pre T.ps (k + 1) nb hlt).length_le
          rw [hnx, List.length_append, List.length_singleton] at h; omega
        obtain ⟨fn, tmps, assign, body, hy, hRd⟩ := hY (pairs T.ps k) ((k : Int), at' T.ps k) wr hJs hl
        unfold encP at hy
        dsimp only at hy
        have HX := Lib.hid hnx
        have HRd := Lib.hid hRd
        clear hBn c0 hJs hB hnx hRd hl c
        gi_wp2
        refine ⟨trivial, fun _ => by omega, ?_⟩
        refine (callsIn_wide.2 HA.out).mono ?_
        rintro e w' ⟨rfl, rfl⟩
        rw [e1, e2]
        clear HA e1 e2
        generalize at' T.ps k = v at *
        gi_wp2
        refine ⟨fun _ => by omega, ?_⟩
        refine (HRd.out).mono ?_
        rintro e W3 (⟨rfl, hJ3, hk3⟩ | ⟨rfl, hJx3⟩)
        · have HJ3 := Lib.hid (And.intro hJ3 hk3)
          clear hJ3 hk3
          gi_wp2
          go_roundw
          case rel => exact ⟨k + 1, by omega, by go_num, by rw [HX.out]; exact HJ3.out.1, HS.out.2.trans HJ3.out.2⟩
          case measure => simp [intOf]; omega
        · have HJ3 := Lib.hid hJx3
          clear hJx3
          gi_wp2
          refine bodyPost_ret (results_none rfl _ _ _) rfl ?_
          exact ⟨⟨_, rfl⟩, .inr ⟨_, by rw [← HX.out]; exact pairs_pre T.ps (k + 1) nb hlt, HJ3.out⟩⟩
    · obtain rfl : nb = k := by omega
      have HX := Lib.hid hJs
      clear hJs
      gi_wp2
      go_end0
      exact ⟨⟨_, rfl⟩, .inl ⟨_, rfl, HX.out⟩⟩
theorem all_stops (n : Nat) (hn : 2 ≤ n) (Bn B t b o nb np : Nat) (T : Tab) (w : World) (hBn : w.cell? ⟨Bn, 0, none⟩ = some (.pointer (some ⟨t, 0, none⟩))) (hT : TableAt w B t b o nb np T) (h1 : t < w.heap.size) (h2 : b < w.heap.size) (h3 : o < w.heap.size) (b1 : Bn < w.heap.size) :
    SeqStopsK Fence.wide n Try.prog 18 #[.pointer (some ⟨Bn, 0, none⟩)] encP (Four t b o Bn) (fun ys => ys = pairs T.ps nb) (fun pre => pre <+: pairs T.ps nb) (pairs T.ps nb).length w := fun l J Jx W hW _ _ hY h0 =>
  all1_in n hn l Bn B t b o nb np T J Jx hY W ((hW.cell (p := ⟨Bn, 0, none⟩) b1).trans hBn) (hT.same (hW.block t h1) (hW.block b h2) (hW.block o h3)) h0
end Go.Proofs.Ytcgjlbgmjlafnaa
