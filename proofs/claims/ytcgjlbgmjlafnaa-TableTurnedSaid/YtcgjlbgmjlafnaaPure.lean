/-
  The plain model of a block map: two lists and a count; no Go in sight.
-/
namespace Go.Proofs.Ytcgjlbgmjlafnaa

/-- What a list has for i; -1: nothing. -/
def at' (l : List Int) (i : Int) : Int := if i < 0 then -1 else l[i.toNat]?.getD (-1)
def toldB (l : List Int) (i : Int) : Bool := at' l i != -1
def toldV (l : List Int) (i : Int) : Int := if at' l i = -1 then 0 else at' l i
/-- How many are somewhere. -/
def num (l : List Int) : Nat := l.countP (fun x => x != -1)

structure Tab where
  ps : List Int
  os : List Int
  cnt : Int

def Tab.drop (T : Tab) (id : Int) : Tab := if at' T.ps id = -1 then T else ⟨T.ps.set id.toNat (-1), T.os.set (at' T.ps id).toNat (-1), T.cnt - 1⟩
def inR (l : List Int) (i : Int) : Bool := decide (0 ≤ i) && decide (i < (l.length : Int))
def Tab.ok (T : Tab) (id pl : Int) : Bool := inR T.ps id && (inR T.os pl && (at' T.os pl == -1 || at' T.os pl == id))
def Tab.put (T : Tab) (id pl : Int) : Tab := if T.ok id pl = true then ⟨(T.drop id).ps.set id.toNat pl, (T.drop id).os.set pl.toNat id, (T.drop id).cnt + 1⟩ else T
def fresh (nb np : Nat) : Tab := ⟨List.replicate nb (-1), List.replicate np (-1), 0⟩

structure Good (T : Tab) : Prop where
  fwd : ∀ i, at' T.ps i ≠ -1 → 0 ≤ at' T.ps i ∧ at' T.ps i < T.os.length ∧ at' T.os (at' T.ps i) = i
  bwd : ∀ j, at' T.os j ≠ -1 → 0 ≤ at' T.os j ∧ at' T.os j < T.ps.length ∧ at' T.ps (at' T.os j) = j
  cp : T.cnt = num T.ps
  co : T.cnt = num T.os

theorem at_out (l : List Int) (i : Int) (h : ¬ (0 ≤ i ∧ i < l.length)) : at' l i = -1 := by
  unfold at'
  split
  · rfl
  · rw [List.getElem?_eq_none (by omega)]; rfl
theorem at_in (l : List Int) (i : Int) (h : at' l i ≠ -1) : 0 ≤ i ∧ i < l.length := by
  by_cases c : 0 ≤ i ∧ i < l.length
  · exact c
  · exact absurd (at_out l i c) h
theorem at_nat (l : List Int) (i : Int) (h0 : 0 ≤ i) (h1 : i < l.length) : l[i.toNat]?.getD 0 = at' l i := by
  unfold at'
  rw [if_neg (by omega), List.getElem?_eq_getElem (by omega)]; rfl
theorem at_set (l : List Int) (i : Int) (v : Int) (h0 : 0 ≤ i) (h1 : i < l.length) (j : Int) : at' (l.set i.toNat v) j = if j = i then v else at' l j := by
  unfold at'
  by_cases hj : j < 0
  · rw [if_pos hj, if_pos hj, if_neg (by omega)]
  · rw [if_neg hj, if_neg hj]
    by_cases e : j = i
    · subst e
      rw [if_pos rfl, List.getElem?_set_self (by omega)]; rfl
    · rw [if_neg e, List.getElem?_set_ne (by omega)]
theorem at_replicate (n : Nat) (i : Int) : at' (List.replicate n (-1)) i = -1 := by
  unfold at'
  split
  · rfl
  · by_cases h : i.toNat < n
    · rw [List.getElem?_replicate, if_pos h]; rfl
    · rw [List.getElem?_replicate, if_neg h]; rfl
theorem num_le (l : List Int) : num l ≤ l.length := List.countP_le_length
theorem num_replicate (n : Nat) : num (List.replicate n (-1)) = 0 := by simp [num]
theorem num_set (l : List Int) (i : Nat) (v : Int) (h : i < l.length) : (num (l.set i v) : Int) + (if l[i]?.getD 0 != -1 then 1 else 0) = num l + (if v != -1 then 1 else 0) := by
  induction l generalizing i with
  | nil => simp at h
  | cons x l ih =>
    cases i with
    | zero => simp only [num, List.set_cons_zero, List.countP_cons, List.getElem?_cons_zero, Option.getD_some]; split <;> split <;> simp <;> omega
    | succ i =>
      have := ih i (by simpa using h)
      simp only [num, List.set_cons_succ, List.countP_cons, List.getElem?_cons_succ] at this ⊢
      omega
theorem num_at (l : List Int) (i : Int) (v : Int) (h0 : 0 ≤ i) (h1 : i < l.length) : (num (l.set i.toNat v) : Int) + (if at' l i = -1 then 0 else 1) = num l + (if v = -1 then 0 else 1) := by
  have := num_set l i.toNat v (by omega)
  rw [at_nat l i h0 h1] at this
  by_cases a : at' l i = -1 <;> by_cases b : v = -1 <;> simp [a, b] at this ⊢ <;> omega

theorem fresh_good (nb np : Nat) : Good (fresh nb np) :=
  ⟨fun i h => absurd (at_replicate nb i) h, fun i h => absurd (at_replicate np i) h, by simp [fresh, num_replicate], by simp [fresh, num_replicate]⟩

theorem Good.drop {T : Tab} (h : Good T) (id : Int) : Good (T.drop id) := by
  unfold Tab.drop
  split
  · exact h
  · rename_i e
    obtain ⟨a1, a2, a3⟩ := h.fwd id e
    obtain ⟨b1, b2⟩ := at_in _ _ e
    generalize hp : at' T.ps id = p at *
    refine ⟨fun i hi => ?_, fun j hj => ?_, ?_, ?_⟩
    · simp only [at_set T.ps id (-1) b1 b2, at_set T.os p (-1) a1 a2, List.length_set] at hi ⊢
      by_cases c : i = id
      · simp [c] at hi
      · simp only [if_neg c] at hi ⊢
        obtain ⟨c1, c2, c3⟩ := h.fwd i hi
        refine ⟨c1, c2, ?_⟩
        rw [if_neg (fun hx => c ?_)]
        · exact c3
        · rw [← c3, hx, a3]
    · simp only [at_set T.ps id (-1) b1 b2, at_set T.os p (-1) a1 a2, List.length_set] at hj ⊢
      by_cases c : j = p
      · simp [c] at hj
      · simp only [if_neg c] at hj ⊢
        obtain ⟨c1, c2, c3⟩ := h.bwd j hj
        refine ⟨c1, c2, ?_⟩
        rw [if_neg (fun hx => c ?_)]
        · exact c3
        · rw [← c3, hx, hp]
    · have := num_at T.ps id (-1) b1 b2
      rw [hp, if_neg e] at this
      have := h.cp
      simp at *; omega
    · have := num_at T.os p (-1) a1 a2
      rw [a3, if_neg (by omega)] at this
      have := h.co
      simp at *; omega

theorem Tab.drop_ps (T : Tab) (id : Int) (h0 : 0 ≤ id) (h1 : id < T.ps.length) : at' (T.drop id).ps id = -1 := by
  unfold Tab.drop
  split
  · assumption
  · rw [at_set T.ps id (-1) h0 h1, if_pos rfl]
theorem Tab.drop_len (T : Tab) (id : Int) : (T.drop id).ps.length = T.ps.length ∧ (T.drop id).os.length = T.os.length := by
  unfold Tab.drop
  split <;> simp
theorem Tab.put_len (T : Tab) (id pl : Int) : (T.put id pl).ps.length = T.ps.length ∧ (T.put id pl).os.length = T.os.length := by
  have := T.drop_len id
  unfold Tab.put
  split <;> simp [this]

theorem Good.put {T : Tab} (h : Good T) (id pl : Int) : Good (T.put id pl) := by
  unfold Tab.put
  split
  · rename_i e
    simp only [Tab.ok, inR, Bool.and_eq_true, Bool.or_eq_true, decide_eq_true_eq, beq_iff_eq] at e
    obtain ⟨⟨b1, b2⟩, ⟨p1, p2⟩, ho⟩ := e
    have hd := h.drop id
    have hl := T.drop_len id
    have hps := T.drop_ps id b1 b2
    have hos : at' (T.drop id).os pl = -1 := by
      rcases ho with ho | ho
      · unfold Tab.drop
        split
        · exact ho
        · rename_i e2
          obtain ⟨a1, a2, a3⟩ := h.fwd id e2
          simp only
          rw [at_set T.os _ (-1) a1 a2]
          split
          · rfl
          · exact ho
      · obtain ⟨a1, a2, a3⟩ := h.bwd pl (by omega)
        rw [ho] at a3
        unfold Tab.drop
        rw [if_neg (by omega)]
        simp only
        rw [a3, at_set T.os _ (-1) p1 p2, if_pos rfl]
    generalize T.drop id = D at *
    obtain ⟨l1, l2⟩ := hl
    have q1 : id < D.ps.length := by omega
    have q2 : pl < D.os.length := by omega
    refine ⟨fun i hi => ?_, fun j hj => ?_, ?_, ?_⟩
    · simp only [at_set D.ps id pl b1 q1, at_set D.os pl id p1 q2, List.length_set] at hi ⊢
      by_cases c : i = id
      · rw [if_pos c] at hi ⊢
        rw [if_pos rfl]; exact ⟨p1, q2, c.symm⟩
      · simp only [if_neg c] at hi ⊢
        obtain ⟨c1, c2, c3⟩ := hd.fwd i hi
        refine ⟨c1, c2, ?_⟩
        rw [if_neg (fun hx => ?_)]
        · exact c3
        · rw [hx, hos] at c3; have := (at_in _ _ hi).1; omega
    · simp only [at_set D.ps id pl b1 q1, at_set D.os pl id p1 q2, List.length_set] at hj ⊢
      by_cases c : j = pl
      · rw [if_pos c] at hj ⊢
        rw [if_pos rfl]; exact ⟨b1, q1, c.symm⟩
      · simp only [if_neg c] at hj ⊢
        obtain ⟨c1, c2, c3⟩ := hd.bwd j hj
        refine ⟨c1, c2, ?_⟩
        rw [if_neg (fun hx => ?_)]
        · exact c3
        · rw [hx, hps] at c3; have := (at_in _ _ hj).1; omega
    · have := num_at D.ps id pl b1 q1
      rw [hps, if_pos rfl, if_neg (by omega)] at this
      have := hd.cp
      simp at *; omega
    · have := num_at D.os pl id p1 q2
      rw [hos, if_pos rfl, if_neg (by omega)] at this
      have := hd.co
      simp at *; omega
  · exact h
end Go.Proofs.Ytcgjlbgmjlafnaa
