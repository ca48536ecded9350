/-
  PROVED HERE: plain facts of the model: a device that is up and not armed.
-/
import Derived.Test.YthdgfhkihhamnaaLaw
namespace Go.Proofs.Ythdgfhkihhamnaa
open Go.ChangeShapes Go.WideShapes Go.ChangeAt Go.RowKit

/-- It is up, and not armed. -/
structure Calm (D : Dev) : Prop where
  down : D.down = false
  armed : D.armed = false
section
variable {D : Dev}
theorem Calm.begin (h : Calm D) : D.begin = D := by
  unfold Dev.begin
  rw [if_neg (by rw [h.armed]; simp), if_neg (by rw [h.down]; simp), if_neg (by rw [h.armed]; simp)]
theorem Calm.err (h : Calm D) : D.err = 0 := by
  unfold Dev.err
  rw [h.begin, if_neg (by rw [h.down]; simp)]
theorem Calm.write (h : Calm D) (i : Int) (bs : List Int) : D.write i bs = { D with w := D.w + 1, wait := D.wait ++ [(i, bs)] } := by
  unfold Dev.write
  rw [if_neg (by rw [h.err]; decide), h.begin]
theorem Calm.read (h : Calm D) : D.read = { D with r := D.r + 1 } := by
  unfold Dev.read
  rw [if_neg (by rw [h.err]; decide), h.begin]
theorem Calm.flush (h : Calm D) : D.flush = { Dev.dones { D with f := D.f + 1 } D.wait with wait := [] } := by
  unfold Dev.flush
  rw [if_neg (by rw [h.err]; decide), h.begin]
/-- What a Read of a sector that is not torn tells. -/
def Dev.val (D : Dev) (i : Int) : List Int := (newest i D.wait).getD ((D.secs i).getD noughts)
theorem Calm.answer (h : Calm D) (i : Int) (ht : D.torn i = false) : D.answer i = (0, some (D.val i)) := by
  unfold Dev.answer Dev.val
  rw [if_neg (by rw [h.err]; decide), h.begin]
  cases newest i D.wait with
  | some bs => rfl
  | none => simp [ht]
theorem Calm.answer_torn (h : Calm D) (i : Int) (ht : D.torn i = true) (hn : newest i D.wait = none) : D.answer i = (3, none) := by
  unfold Dev.answer
  rw [if_neg (by rw [h.err]; decide), h.begin, hn]
  simp [ht]
theorem newest_snoc (i j : Int) (bs : List Int) (l : List (Int × List Int)) : newest i (l ++ [(j, bs)]) = if j = i then some bs else newest i l := by
  induction l with
  | nil => simp [newest]
  | cons x l ih =>
    rw [List.cons_append, newest, ih]
    by_cases c : j = i
    · simp [c]
    · simp only [if_neg c]; rw [newest]
theorem dones_secs (l : List (Int × List Int)) (D : Dev) (i : Int) : (Dev.dones D l).secs i = (newest i l).or (D.secs i) := by
  induction l generalizing D with
  | nil => simp [Dev.dones, newest]
  | cons x l ih =>
    rw [Dev.dones, ih, newest]
    cases newest i l with
    | some b => rfl
    | none =>
      by_cases c : x.1 = i
      · simp [Dev.done, c]
      · simp [Dev.done, c, Ne.symm c]
theorem dones_torn (l : List (Int × List Int)) (D : Dev) (i : Int) : (Dev.dones D l).torn i = if (newest i l).isSome then false else D.torn i := by
  induction l generalizing D with
  | nil => simp [Dev.dones, newest]
  | cons x l ih =>
    rw [Dev.dones, ih, newest]
    cases newest i l with
    | some b => rfl
    | none =>
      by_cases c : x.1 = i
      · simp [Dev.done, c]
      · simp [Dev.done, c, Ne.symm c]
/-- What the writes that are done leave as it was. -/
theorem dones_same (l : List (Int × List Int)) (D : Dev) : (Dev.dones D l).n = D.n ∧ (Dev.dones D l).r = D.r ∧ (Dev.dones D l).w = D.w ∧ (Dev.dones D l).f = D.f ∧ (Dev.dones D l).down = D.down ∧ (Dev.dones D l).armed = D.armed := by
  induction l generalizing D with
  | nil => exact ⟨rfl, rfl, rfl, rfl, rfl, rfl⟩
  | cons x l ih => rw [Dev.dones]; exact ih _
theorem val_flush (h : Calm D) (i : Int) : D.flush.val i = D.val i := by
  rw [h.flush]
  unfold Dev.val
  show (newest i []).getD (((Dev.dones { D with f := D.f + 1 } D.wait).secs i).getD noughts) = _
  rw [dones_secs]
  cases newest i D.wait <;> rfl
theorem val_write (h : Calm D) (i j : Int) (bs : List Int) : (D.write j bs).val i = if j = i then bs else D.val i := by
  rw [h.write]
  unfold Dev.val
  show (newest i (D.wait ++ [(j, bs)])).getD ((D.secs i).getD noughts) = _
  rw [newest_snoc]
  split <;> rfl
theorem val_read (h : Calm D) (i : Int) : D.read.val i = D.val i := by rw [h.read]; rfl
end

/-- A device of n sectors that nothing has crashed, behind k writes; ys tells its sectors. -/
structure Tells (D : Dev) (n : Nat) (ys : List Int) (k : Int) : Prop where
  calm : Calm D
  size : D.n = n
  torn : ∀ i, D.torn i = false
  w : D.w = k
  len : ys.length = n
  val : ∀ i : Nat, i < n → D.val i = if ys[i]?.getD 0 = 0 then noughts else sec (ys[i]?.getD 0)
section
variable {D : Dev} {n : Nat} {ys : List Int} {k : Int}
theorem Tells.fresh (n : Nat) : Tells (Dev.fresh n) n (List.replicate n 0) 0 :=
  ⟨⟨rfl, rfl⟩, rfl, fun _ => rfl, rfl, List.length_replicate, fun i hi => by
    rw [List.getElem?_replicate, if_pos hi]; rfl⟩
theorem Tells.write (h : Tells D n ys k) (i : Nat) (hi : i < n) (x : Int) (hx : x ≠ 0) : Tells (D.write i (sec x)) n (ys.set i x) (k + 1) ∧ (D.write i (sec x)).r = D.r ∧ (D.write i (sec x)).f = D.f := by
  have hv := fun j => val_write h.calm j i (sec x)
  have hw := h.calm.write i (sec x)
  refine ⟨⟨?_, by rw [hw]; exact h.size, by rw [hw]; exact h.torn, by rw [hw]; exact congrArg (· + 1) h.w, by rw [List.length_set]; exact h.len, fun j hj => ?_⟩, by rw [hw], by rw [hw]⟩
  · rw [hw]; exact ⟨h.calm.down, h.calm.armed⟩
  · rw [hv]
    by_cases c : i = j
    · subst c
      rw [if_pos rfl, List.getElem?_set_self (by rw [h.len]; exact hi)]
      simp [hx]
    · rw [if_neg (by omega), List.getElem?_set_ne c]; exact h.val j hj
theorem Tells.flush (h : Tells D n ys k) : Tells D.flush n ys k ∧ D.flush.r = D.r ∧ D.flush.f = D.f + 1 := by
  have hv := val_flush h.calm
  have hw := h.calm.flush
  obtain ⟨s1, s2, s3, s4, s5, s6⟩ := dones_same D.wait { D with f := D.f + 1 }
  refine ⟨⟨?_, by rw [hw]; exact s1.trans h.size, fun i => ?_, by rw [hw]; exact s3.trans h.w, h.len, fun j hj => by rw [hv]; exact h.val j hj⟩, by rw [hw]; exact s2, by rw [hw]; exact s4⟩
  · rw [hw]; exact ⟨s5.trans h.calm.down, s6.trans h.calm.armed⟩
  · rw [hw]
    show (Dev.dones { D with f := D.f + 1 } D.wait).torn i = false
    rw [dones_torn]; split
    · rfl
    · exact h.torn i
theorem Tells.read (h : Tells D n ys k) : Tells D.read n ys k ∧ D.read.r = D.r + 1 ∧ D.read.f = D.f := by
  have hw := h.calm.read
  refine ⟨⟨by rw [hw]; exact ⟨h.calm.down, h.calm.armed⟩, by rw [hw]; exact h.size, by rw [hw]; exact h.torn, by rw [hw]; exact h.w, h.len, fun j hj => ?_⟩, by rw [hw], by rw [hw]⟩
  rw [val_read h.calm]; exact h.val j hj
theorem Tells.has (h : Tells D n ys k) (i : Nat) (hi : i < n) : D.has i = true := by
  unfold Dev.has; rw [h.size]; simp; omega
theorem Tells.answer (h : Tells D n ys k) (i : Nat) (hi : i < n) : D.answer i = (0, some (if ys[i]?.getD 0 = 0 then noughts else sec (ys[i]?.getD 0))) := by
  rw [h.calm.answer i (h.torn i), h.val i hi]
theorem told_len (x : Int) : (if x = 0 then noughts else sec x).length = 512 := by
  split
  · exact noughts_len
  · exact sec_len x
end

/-! ### A slice of ints that a law makes for itself -/
def IntsAt (w : World) (b : Nat) (ys : List Int) : Prop := w.heap[b]? = some (.cells (ys.map (Value.int .i64)).toArray 3 (0, 0))
section
variable {w w' : World} {b : Nat} {ys : List Int}
theorem IntsAt.lt (h : IntsAt w b ys) : b < w.heap.size := (Array.getElem?_eq_some_iff.1 h).1
theorem IntsAt.below (h : IntsAt w b ys) (hb : Below w.heap.size w w') : IntsAt w' b ys := (hb.block b h.lt).trans h
theorem IntsAt.step {Z Z' : Nat → Prop} (h : IntsAt w b ys) (hz : ¬ Z b) (s : Step Z Z' w w') : IntsAt w' b ys := (s.out.block b h.lt hz).trans h
theorem IntsAt.cell (h : IntsAt w b ys) (j : Nat) (hj : j < ys.length) : w.cell? ⟨b, j, none⟩ = some (.int .i64 (ys[j]?.getD 0)) := by
  unfold IntsAt at h
  simp [World.cell?, h, hj]
theorem IntsAt.free (h : IntsAt w b ys) (j : Nat) : w.frozen? ⟨b, j, none⟩ = false := by
  unfold IntsAt at h
  simp [World.frozen?, h]
theorem IntsAt.set (h : IntsAt w b ys) (j : Nat) (v : Int) : IntsAt (w.setCell ⟨b, j, none⟩ (.int .i64 v)) b (ys.set j v) := by
  unfold IntsAt at *
  rw [heap_setCell_same w b j _ _ _ h]
  simp [List.map_set]
end
end Go.Proofs.Ythdgfhkihhamnaa
