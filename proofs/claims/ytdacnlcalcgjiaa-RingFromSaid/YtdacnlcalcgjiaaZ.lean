/-
  PROVED HERE: a region that draws its order, whose last store waits for all else: what the loads read need not hold behind that store.
-/
import Derived.Deep.RegionHeld3
import Derived.StillTail
import Derived.Test.YtdacnlcalcgjiaaRows
namespace Go.Proofs.Ytdacnlcalcgjiaa
open Go

section
variable {P : Program} {ops : Array Oper} {Q : Exit → Act → World → Prop} {md : Region.Mode} {S : World → Prop} {z : Nat}
/-- In whatever order; S is asked behind each operation but number z. -/
def AnyBut (P : Program) (md : Region.Mode) (ops : Array Oper) (Q : Exit → Act → World → Prop) (S : World → Prop) (z : Nat) : Nat → Array Bool → Act → World → Prop
  | 0, L, a, w => Region.ready md ops L = [] ∧ Q .normal a w
  | g + 1, L, a, w => (Region.ready md ops L = [] → Q .normal a w) ∧ ∀ i ∈ Region.ready md ops L, wpOp P ops Q i (fun a' w' => (i ≠ z → S w') ∧ AnyBut P md ops Q S z g (L.setIfInBounds i true) a' w') a w
theorem AnyBut.any : ∀ (g : Nat) (L : Array Bool) (a : Act) (w : World), AnyBut P md ops Q S z g L a w → wpAny P md ops Q g L a w
  | 0, _, _, _, h => h
  | g + 1, _, _, _, h => ⟨h.1, fun i hi => wpOp_mono (fun a' w' k => AnyBut.any g _ a' w' k.2) (h.2 i hi)⟩
/-- Operation number z waits for number i. -/
def Waits (md : Region.Mode) (ops : Array Oper) (z i : Nat) : Prop := ∃ o, ops[z]? = some o ∧ ∃ e, e ∈ o.after ∧ Region.binds md e = true ∧ e.on = i
theorem waits_of {i : Nat} (h : Region.waitsFor md ops z i = true) : Waits md ops z i := by
  obtain ⟨o, ho, e, he, hb, hi⟩ := Region.waitsFor_spec h
  exact ⟨o, ho, e, he, hb, hi⟩
theorem not_z {i j : Nat} {L : Array Bool} (hw : Waits md ops z i) (hi : i ∈ Region.ready md ops L) (hj : j ∈ Region.ready md ops L) : j ≠ z := by
  rintro rfl
  obtain ⟨o, ho, e, he, hb, rfl⟩ := hw
  obtain ⟨_, o', ho', hall⟩ := mem_ready.1 hj
  rw [ho] at ho'
  cases ho'
  have h1 := hall e he hb
  have h0 := (mem_ready.1 hi).1
  rcases Nat.lt_or_ge e.on L.size with h' | h'
  · simp [h'] at h0 h1; rw [h0] at h1; cases h1
  · simp [Array.getElem?_eq_none h'] at h1
theorem AnyBut.first {i : Nat} {oi : Oper} {v : Value} (hi : ops[i]? = some oi) (hsel : ∀ (j : Nat) (o : Oper) cs b, ops[j]? = some o → o.op ≠ .select cs b) (hQ : ∀ c a w, Q (.panic c) (a.put oi.dst v) w → Q (.panic c) a w) (hz : Waits md ops z i) (hne : i ≠ z) :
    ∀ (g : Nat) (L : Array Bool) (a : Act) (w : World),
      (∀ j oj, ops[j]? = some oj → j ≠ i → L.getD j true = false → (∀ e ∈ oj.after, Region.binds md e = true → e.on ≠ i) → oi.apart ops oj = true) →
      i ∈ Region.ready md ops L → YieldsIf P ops S oi v a → S w → AnyBut P md ops Q S z g (L.setIfInBounds i true) (a.put oi.dst v) w → AnyBut P md ops Q S z (g + 1) L a w := by
  intro g
  induction g with
  | zero =>
    intro L a w _ hr hy hS H
    refine ⟨fun h => (by rw [h] at hr; cases hr), fun j hj => ?_⟩
    by_cases c : j = i
    · subst c; exact hy.wpOp hi hS ⟨fun _ => hS, H⟩
    · have k := ready_mono hj c
      rw [H.1] at k; cases k
  | succ g ih =>
    intro L a w hf hr hy hS H
    refine ⟨fun h => (by rw [h] at hr; cases hr), fun j hj => ?_⟩
    by_cases c : j = i
    · subst c; exact hy.wpOp hi hS ⟨fun _ => hS, H⟩
    · have hjz := not_z hz hr hj
      obtain ⟨hun, oj, hoj, hall⟩ := mem_ready.1 hj
      have hno : ∀ e ∈ oj.after, Region.binds md e = true → e.on ≠ i := by
        rintro e he hb rfl
        have h1 := hall e he hb
        have h0 := (mem_ready.1 hr).1
        rcases Nat.lt_or_ge e.on L.size with h' | h'
        · simp [h'] at h0 h1; rw [h0] at h1; cases h1
        · simp [Array.getElem?_eq_none h'] at h1
      have h2 := wpOp_putIf hoj (hf j oj hoj c hun hno) (fun cs b => hsel i oi cs b hi) (fun cs b => hsel j oj cs b hoj) hQ hy (H.2 j (ready_mono hj c))
      refine wpOp_mono (fun a' w' h3 => ⟨h3.2.1, ih (L.setIfInBounds j true) a' w' ?_ (ready_mono hr (Ne.symm c)) h3.1 (h3.2.1 hjz) ?_⟩) h2
      · intro k ok hk hki hk2 hk3
        refine hf k ok hk hki ?_ hk3
        by_cases d : j = k
        · subst d; exact hun
        · rw [getD_set_ne true d] at hk2; exact hk2
      · rw [Array.setIfInBounds_comm _ _ c]; exact h3.2.2
/-- A load, or whatever yields where S holds, is taken first. -/
theorem AnyBut.take {i : Nat} {oi : Oper} {v : Value} {g : Nat} {L : Array Bool} {a : Act} {w : World} (hi : ops[i]? = some oi) (hs : Region.noSelect ops = true) (hf : Region.free md ops L i = true) (hr : (Region.ready md ops L).contains i = true)
    (hQ : ∀ c a w, Q (.panic c) (a.put oi.dst v) w → Q (.panic c) a w) (hz : Waits md ops z i) (hne : i ≠ z) (hy : YieldsIf P ops S oi v a) (hS : S w) (h : AnyBut P md ops Q S z g (L.setIfInBounds i true) (a.put oi.dst v) w) : AnyBut P md ops Q S z (g + 1) L a w :=
  AnyBut.first hi (Region.noSelect_spec hs) hQ hz hne g L a w (Region.free_spec hi hf) (by simpa using hr) hy hS h
/-- The beginning. -/
theorem region_but {id : Nat} {a : Act} {w : World} (hm : P.follows .mixedOrders = true) (h : AnyBut P .any ops Q S z ops.size (Array.replicate ops.size false) a w.drew) : (Code.region id ops true).wp P Q a w :=
  wp_region_any hm (AnyBut.any _ _ _ _ h)
/-- Whichever comes up. -/
def Ups (P : Program) (md : Region.Mode) (ops : Array Oper) (Q : Exit → Act → World → Prop) (S : World → Prop) (z g : Nat) (L : Array Bool) (a : Act) (w : World) (rs : List Nat) : Prop :=
  ∀ i ∈ rs, wpOp P ops Q i (fun a' w' => (i ≠ z → S w') ∧ AnyBut P md ops Q S z g (L.setIfInBounds i true) a' w') a w
theorem Ups.nil {g : Nat} {L : Array Bool} {a : Act} {w : World} : Ups P md ops Q S z g L a w [] := fun _ h => by cases h
theorem Ups.cons {g i : Nat} {L : Array Bool} {a : Act} {w : World} {o : Oper} {rs : List Nat} (ho : ops[i]? = some o)
    (h : ∀ K' : Act → World → Prop, Shut (∀ a w, (i ≠ z → S w) → ((i ≠ z → S w) → AnyBut P md ops Q S z g (L.setIfInBounds i true) a w) → K' a w) → if Region.wanted o (yielded ops a.tmps) = true then Oper.wp P o a w K' Q else K' (a.put o.dst undef) w)
    (hs : Ups P md ops Q S z g L a w rs) : Ups P md ops Q S z g L a w (i :: rs) := fun j hj => by
  rcases List.mem_cons.1 hj with rfl | hj
  · exact wpOp_step ho (fun K' hK => h K' (fun a w hS hW => hK a w ⟨hS, hW hS⟩))
  · exact hs j hj
theorem AnyBut.ups {rs : List Nat} {g : Nat} {L : Array Bool} {a : Act} {w : World} (hr : Region.ready md ops L = rs) (hne : rs ≠ []) (h : Ups P md ops Q S z g L a w rs) : AnyBut P md ops Q S z (g + 1) L a w :=
  ⟨fun h0 => absurd (hr ▸ h0) hne, hr ▸ h⟩
theorem AnyBut.done {L : Array Bool} {a : Act} {w : World} (hr : Region.ready md ops L = []) (h : Q .normal a w) : ∀ g, AnyBut P md ops Q S z g L a w
  | 0 => ⟨hr, h⟩
  | _ + 1 => ⟨fun _ => h, by rw [hr]; simp⟩
end
end Go.Proofs.Ytdacnlcalcgjiaa
