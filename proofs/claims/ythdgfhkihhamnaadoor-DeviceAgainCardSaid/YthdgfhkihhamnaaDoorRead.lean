/-
  PROVED HERE: the contract of Read.
-/
import Derived.Test.YthdgfhkihhamnaaDoorOps
import Derived.Test.YthdgfhkihhamnaaDoorIter
import Derived.StillTailTactics
namespace Go.Proofs.YthdgfhkihhamnaaDoor
open Go.ChangeShapes Go.WideShapes Go.ChangeAt Go.RowKit

open Go.Shelf
attribute [local go_sem] Oper.semAt_some

/-- What Read answers: the error, and the bytes. -/
def Dev.answer (D : Dev) (i : Int) : Int × Option (List Int) :=
  if D.err = 2 then (2, none) else match newest i D.begin.wait with
    | some bs => (0, some bs)
    | none => if D.begin.torn i = true then (3, none) else (0, some ((D.begin.secs i).getD noughts))
def Gives (w w' : World) (x : Int × Option (List Int)) (e : Ending) : Prop :=
  match x.2 with
  | none => e = .returned (.tuple #[.slice none 0 0, .int .i64 x.1])
  | some bs => ∃ u, w.heap.size ≤ u ∧ e = .returned (.tuple #[dv u, .int .i64 x.1]) ∧ Bytes w' u bs ∧ bs.length = 512

theorem newest_none (i : Int) : ∀ (l : List (Int × List Int)), (∀ y ∈ l, y.1 ≠ i) → newest i l = none
  | [], _ => rfl
  | x :: l, h => by
    rw [newest, newest_none i l (fun y hy => h y (List.mem_cons_of_mem _ hy))]
    simp only
    rw [if_neg (h x List.mem_cons_self)]
theorem newest_some (i : Int) (bs : List Int) : ∀ (a b : List (Int × List Int)), (∀ y ∈ b, y.1 ≠ i) → newest i (a ++ (i, bs) :: b) = some bs
  | [], b, h => by rw [List.nil_append, newest, newest_none i b h]; simp
  | x :: a, b, h => by rw [List.cons_append, newest, newest_some i bs a b h]
/-- A list made of what there is at each place. -/
theorem list_of {α : Type} (Q : Nat → α → Prop) (n : Nat) (h : ∀ k, k < n → ∃ x, Q k x) : ∃ P : List α, P.length = n ∧ ∀ k x, P[k]? = some x → Q k x := by
  induction n with
  | zero => exact ⟨[], rfl, fun k x hx => by simp at hx⟩
  | succ n ih =>
    obtain ⟨P, h1, h2⟩ := ih (fun k hk => h k (by omega))
    obtain ⟨y, hy⟩ := h n (by omega)
    refine ⟨P ++ [y], by simp [h1], fun k x hx => ?_⟩
    by_cases c : k < n
    · rw [List.getElem?_append_left (by omega)] at hx; exact h2 k x hx
    · have : k = n := by
        by_cases d : k < (P ++ [y]).length
        · simp at d; omega
        · rw [List.getElem?_eq_none (by omega)] at hx; cases hx
      subst this
      rw [List.getElem?_append_right (by omega), show k - P.length = 0 by omega] at hx
      cases hx; exact hy

section
variable {w w' : World} {Z : Nat → Prop} {dp sb tm tn : Nat} {wv kv : Value} {ss cs : List Value} {D : Dev}

/-- What the loop is handed, in the words of the model. -/
def Pairs (w : World) (Z : Nat → Prop) (D : Dev) (P : List (Int × Nat)) : Prop :=
  P.length = D.wait.length ∧ ∀ (k : Nat) x, P[k]? = some x → ∃ bs, D.wait[k]? = some (x.1, bs) ∧ Z x.2 ∧ Bytes w x.2 bs ∧ bs.length = 512
theorem DevMem.pairs (h : DevMem w Z dp sb tm tn wv kv ss cs D) (hl : D.wait.length ≤ 1000000000000) : ∃ P, Pairs w Z D P ∧ WaitSlice w wv P w.heap.size := by
  obtain ⟨P, h1, h2⟩ := list_of (fun k (x : Int × Nat) => cs[2 * k]? = some (.int .i64 x.1) ∧ cs[2 * k + 1]? = some (dv x.2) ∧ ∃ bs, D.wait[k]? = some (x.1, bs) ∧ Z x.2 ∧ Bytes w x.2 bs ∧ bs.length = 512) D.wait.length (fun k hk => by
    obtain ⟨x, hx⟩ : ∃ x, D.wait[k]? = some x := ⟨_, List.getElem?_eq_getElem hk⟩
    obtain ⟨i, bs⟩ := x
    obtain ⟨q1, q2, g, q3, q4, q5, q6⟩ := h.rest.wd k i bs hx
    exact ⟨(i, g), q2, q4, bs, hx, q3, q5, q6⟩)
  refine ⟨P, ⟨h1, fun k x hx => (h2 k x hx).2.2⟩, ?_⟩
  have hw := h.rest.wrow
  rcases hw.2 with ⟨hv, hn⟩ | ⟨g, wc, cur, hv, _⟩
  · exact .inl ⟨hv, List.eq_nil_of_length_eq_zero (by rw [h1, hn])⟩
  · subst hv
    refine .inr ⟨g, wc, by rw [h1], own_lt hw g rfl, by omega, fun k x hx => ?_⟩
    obtain ⟨q1, q2, _⟩ := h2 k x hx
    have hk : k < P.length := by
      by_cases c : k < P.length
      · exact c
      · rw [List.getElem?_eq_none (by omega)] at hx; cases hx
    rw [Nat.mul_comm 2 k] at q1 q2
    exact ⟨(hw.cellAt (k * 2) (by omega)).trans q1, (hw.cellAt (k * 2 + 1) (by omega)).trans q2⟩
theorem Pairs.miss {P : List (Int × Nat)} {i : Int} (h : Pairs w Z D P) (hn : ∀ x ∈ P.reverse, x.1 ≠ i) : newest i D.wait = none := by
  apply newest_none
  intro y hy
  obtain ⟨k, hk⟩ := List.getElem?_of_mem hy
  have hkl : k < D.wait.length := by
    by_cases c : k < D.wait.length
    · exact c
    · rw [List.getElem?_eq_none (by omega)] at hk; cases hk
  have hx := List.getElem?_eq_getElem (l := P) (i := k) (by rw [h.1]; exact hkl)
  obtain ⟨bs, q, _⟩ := h.2 k _ hx
  rw [hk] at q
  cases q
  exact hn _ (List.mem_reverse.2 (List.getElem_mem _))
theorem Pairs.hit {P : List (Int × Nat)} {i : Int} {g : Nat} {pre : List (Int × Nat)} (h : Pairs w Z D P) (hp : pre ++ [(i, g)] <+: P.reverse) (hn : ∀ x ∈ pre, x.1 ≠ i) : ∃ bs, newest i D.wait = some bs ∧ Z g ∧ Bytes w g bs ∧ bs.length = 512 := by
  obtain ⟨t, ht⟩ := hp
  have hP : P = t.reverse ++ (i, g) :: pre.reverse := by
    rw [← List.reverse_reverse P, ← ht]; simp
  have hx : P[t.length]? = some (i, g) := by rw [hP, List.getElem?_append_right (by simp)]; simp
  obtain ⟨bs, q1, q2, q3, q4⟩ := h.2 _ _ hx
  refine ⟨bs, ?_, q2, q3, q4⟩
  have hkl : t.length < D.wait.length := by
    by_cases c : t.length < D.wait.length
    · exact c
    · rw [List.getElem?_eq_none (by omega)] at q1; cases q1
  have hsplit : D.wait = D.wait.take t.length ++ (i, bs) :: D.wait.drop (t.length + 1) := by
    rw [List.getElem?_eq_getElem hkl] at q1
    have q := Option.some.inj q1
    dsimp only at q
    rw [← q, ← List.drop_eq_getElem_cons hkl, List.take_append_drop]
  rw [hsplit]
  apply newest_some
  intro y hy
  obtain ⟨k, hk⟩ := List.getElem?_of_mem hy
  rw [List.getElem?_drop] at hk
  have hkl2 : t.length + 1 + k < D.wait.length := by
    by_cases c : t.length + 1 + k < D.wait.length
    · exact c
    · rw [List.getElem?_eq_none (by omega)] at hk; cases hk
  have hz : t.length + 1 + k < P.length := by rw [h.1]; exact hkl2
  obtain ⟨v, hv⟩ : ∃ v, P[t.length + 1 + k]? = some v := ⟨_, List.getElem?_eq_getElem hz⟩
  obtain ⟨bs', q, _⟩ := h.2 _ v hv
  rw [hk] at q
  cases q
  refine hn v ?_
  rw [hP, List.getElem?_append_right (by simp; omega)] at hv
  have e2 : t.length + 1 + k - t.reverse.length = k + 1 := by simp; omega
  rw [e2, List.getElem?_cons_succ] at hv
  exact List.mem_reverse.1 (List.mem_of_getElem? hv)

theorem enter_marks {f : FuncId} {fn : Func} {c : Code} {args : Array Value} {w : World} {R : Ending → World → Prop} (hf : Tryd.prog.funcs[f]? = some fn) (hb : fn.body = some c)
    (h : c.wp Tryd.prog (bodyPostM Fence.wide 9 Tryd.prog fn R) { tmps := args ++ Array.replicate (fn.ntmps - args.size) undef, defers := [] } w) : Calls Tryd.prog f args w R :=
  (callsIn_wide (n := 9)).1 (callsIn_of_wp_marks hf hb trivial (wpIn_wide.2 h) rfl)
/-- The function's end behind a loop over an iterator. -/
theorem ret_marks {fn : Func} {R : Ending → World → Prop} {tmps : Array Value} {D : Nat} {W : World} {v : Value} (hK : W.heap[D]? = some (.deferred (some []))) (hr : (results fn tmps).run Tryd.prog (W.putObj D (.deferred none)) = .ok v (W.putObj D (.deferred none))) (h : R (.returned v) (W.putObj D (.deferred none))) :
    bodyPostM Fence.wide 9 Tryd.prog fn R .ret { tmps := tmps, defers := [{ target := .collected D, args := #[] }] } W :=
  ⟨by simp, .inl ⟨_, _, rfl, run_takeDeferred hK, v, hr, h⟩⟩

/-- The three boxes of Read. -/
structure Boxes (W : World) (b : Nat) (i : Int) (v1 v2 : Value) : Prop where
  h0 : W.heap[b]? = some (.cells #[.int .i64 i] 3 (0, 0))
  h1 : W.heap[b + 1]? = some (.cells #[v1] 38 (0, 0))
  h2 : W.heap[b + 1 + 1]? = some (.cells #[v2] 25 (0, 0))
section
variable {W W' : World} {b : Nat} {i : Int} {v1 v2 : Value}
theorem Boxes.c0 (h : Boxes W b i v1 v2) : W.cell? ⟨b, 0, none⟩ = some (.int .i64 i) := by simp [World.cell?, h.h0]
theorem Boxes.c1 (h : Boxes W b i v1 v2) : W.cell? ⟨b + 1, 0, none⟩ = some v1 := by simp [World.cell?, h.h1]
theorem Boxes.c2 (h : Boxes W b i v1 v2) : W.cell? ⟨b + 1 + 1, 0, none⟩ = some v2 := by simp [World.cell?, h.h2]
theorem Boxes.f1 (h : Boxes W b i v1 v2) : W.frozen? ⟨b + 1, 0, none⟩ = false := by simp [World.frozen?, h.h1]
theorem Boxes.f2 (h : Boxes W b i v1 v2) : W.frozen? ⟨b + 1 + 1, 0, none⟩ = false := by simp [World.frozen?, h.h2]
theorem Boxes.lt (h : Boxes W b i v1 v2) : b + 1 + 1 < W.heap.size := (Array.getElem?_eq_some_iff.1 h.h2).1
theorem Boxes.new (w : World) (i : Int) (v : Value) : Boxes (((w.alloc (.cells #[.int .i64 i] 3)).alloc (.cells #[.slice none 0 0] 38)).alloc (.cells #[v] 25)) w.heap.size i (.slice none 0 0) v := by
  refine ⟨?_, ?_, ?_⟩
  · rw [Below.heap_alloc _ _ _ (by simp; omega), Below.heap_alloc _ _ _ (by simp)]; exact heap_alloc_new w _
  · rw [Below.heap_alloc _ _ _ (by simp)]
    have := heap_alloc_new (w.alloc (.cells #[.int .i64 i] 3)) (.cells #[.slice none 0 0] 38)
    rwa [World.size_alloc] at this
  · have := heap_alloc_new ((w.alloc (.cells #[.int .i64 i] 3)).alloc (.cells #[.slice none 0 0] 38)) (.cells #[v] 25)
    rwa [World.size_alloc, World.size_alloc] at this
theorem Boxes.keep (h : Boxes W b i v1 v2) (hk : ∀ k, b ≤ k → k < W.heap.size → k ≤ b + 1 + 1 → W'.heap[k]? = W.heap[k]?) : Boxes W' b i v1 v2 := by
  have := h.lt
  exact ⟨(hk b (by omega) (by omega) (by omega)).trans h.h0, (hk (b + 1) (by omega) (by omega) (by omega)).trans h.h1, (hk (b + 1 + 1) (by omega) (by omega) (by omega)).trans h.h2⟩
theorem Boxes.out (h : Boxes W b i v1 v2) (ho : Out Z W W') (hz : ∀ k, Z k → k < b) : Boxes W' b i v1 v2 := h.keep (fun k h1 h2 _ => ho.block k h2 (fun hk => by have := hz k hk; omega))
theorem Boxes.below (h : Boxes W b i v1 v2) (hb : Below W.heap.size W W') : Boxes W' b i v1 v2 := h.keep (fun k _ h2 _ => hb.block k h2)
theorem Boxes.set1 (h : Boxes W b i v1 v2) (u : Value) : Boxes (W.setCell ⟨b + 1, 0, none⟩ u) b i u v2 :=
  ⟨(Below.heap_setCell W ⟨b + 1, 0, none⟩ u b (by simp)).trans h.h0, by rw [heap_setCell_same W (b + 1) 0 _ _ _ h.h1]; rfl, (Below.heap_setCell W ⟨b + 1, 0, none⟩ u (b + 1 + 1) (by simp)).trans h.h2⟩
theorem Boxes.set2 (h : Boxes W b i v1 v2) (u : Value) : Boxes (W.setCell ⟨b + 1 + 1, 0, none⟩ u) b i v1 u :=
  ⟨(Below.heap_setCell W ⟨b + 1 + 1, 0, none⟩ u b (by simp; omega)).trans h.h0, (Below.heap_setCell W ⟨b + 1 + 1, 0, none⟩ u (b + 1) (by simp)).trans h.h1, by rw [heap_setCell_same W (b + 1 + 1) 0 _ _ _ h.h2]; rfl⟩
theorem Boxes.res (h : Boxes W b i v1 v2) {tmps : Array Value} (h4 : tmps[4]? = some (.pointer (some ⟨b + 1, 0, none⟩))) (h5 : tmps[5]? = some (.pointer (some ⟨b + 1 + 1, 0, none⟩))) : (results Tryd.f14 tmps).run Tryd.prog W = .ok (.tuple #[v1, v2]) W := by
  have c1 := h.c1
  have c2 := h.c2
  simp [results, Tryd.f14, go_sem, h4, h5, c1, c2]
end

theorem Boxes.low {b : Nat} {i : Int} {v1 v2 : Value} (h : Boxes w b i v1 v2) (hd : Z dp) (hz : ∀ k, Z k → k < b) (j : Nat) (u : Value) : Boxes (w.setCell ⟨dp, j, none⟩ u) b i v1 v2 :=
  h.out (Z := Z) (Out.of_grown (grown_setCell w ⟨dp, j, none⟩ u) (fun k e => by cases e; exact hd)) hz
theorem two_stores (b : Nat) (W : World) (u v : Value) : Below b W ((W.setCell ⟨b + 1, 0, none⟩ u).setCell ⟨b + 1 + 1, 0, none⟩ v) :=
  ((Below.refl b W).setCell (p := ⟨b + 1, 0, none⟩) (by simp) _).setCell (p := ⟨b + 1 + 1, 0, none⟩) (by simp; omega) _
theorem DevAt.low {b : Nat} (h : DevAt w Z dp D) (hz : ∀ k, Z k → k < b) (hb : Below b w w') : DevAt w' Z dp D := h.keep (fun k hk _ => hb.block k (hz k hk))
theorem Out.low {w'' : World} (h : Out Z w w') (hb : Below w.heap.size w' w'') : Out Z w w'' :=
  ⟨hb.os.trans h.os, hb.tape.trans h.tape, hb.output.trans h.output, Nat.le_trans h.size hb.size, fun k hk hz => (hb.block k hk).trans (h.block k hk hz)⟩

theorem Bytes.uniq {W : World} {g : Nat} {a b : List Int} (h : Bytes W g a) (k : Bytes W g b) : a = b := by
  unfold Bytes at h k
  rw [h] at k
  have e := Option.some.inj k
  injection e with e _ _
  have e2 := congrArg Array.toList e
  simp only at e2
  exact List.map_inj_right (fun x y hxy => by injection hxy) |>.1 e2
theorem KeepsFrom.of_below {X Y : World} (h : Below X.heap.size X Y) (B : Nat) : KeepsFrom B X Y := ⟨h.size, fun k _ _ hk _ => (h.block k (Array.getElem?_eq_some_iff.1 hk).1).trans hk⟩
theorem cells_kept {X Y : World} {row : Option Nat} {k : Nat} {a : Array Value} {t : TypeId} {fr : Nat × Nat} (h : X.heap[k]? = some (.cells a t fr)) (hg : X.grownBy Y row) (hr : ∀ r, row = some r → ∃ o : Obj, X.heap[r]? = some o ∧ o.isCells = false) : Y.heap[k]? = some (.cells a t fr) :=
  (hg.block k (Array.getElem?_eq_some_iff.1 h).1 (fun e => by obtain ⟨_, ho, hc⟩ := hr k e.symm; rw [h] at ho; cases ho; cases hc)).trans h
theorem Bytes.own {X Y : World} {row : Option Nat} {k : Nat} {bs : List Int} (h : Bytes X k bs) (hg : X.grownBy Y row) (hr : ∀ r, row = some r → ∃ o : Obj, X.heap[r]? = some o ∧ o.isCells = false) : Bytes Y k bs := cells_kept (show X.heap[k]? = _ from h) hg hr
/-- The loop has left with what it looked for. -/
def Came {Q : Int × Nat → Prop} (W0 W : World) (b : Nat) (i : Int) (pre : List { x : Int × Nat // Q x }) : Prop :=
  ∃ pre' x u, pre = pre' ++ [x] ∧ (∀ y ∈ pre', y.1.1 ≠ i) ∧ x.1.1 = i ∧ W0.heap.size ≤ u ∧ Boxes W b i (dv u) (.int .i64 0) ∧ ∃ bs, Bytes W0 x.1.2 bs ∧ bs.length = 512 ∧ Bytes W u bs
theorem Came.own {Q : Int × Nat → Prop} {W0 X Y : World} {b : Nat} {i : Int} {pre : List { x : Int × Nat // Q x }} {row : Option Nat} (h : Came W0 X b i pre) (hg : X.grownBy Y row) (hr : ∀ r, row = some r → ∃ o : Obj, X.heap[r]? = some o ∧ o.isCells = false) : Came W0 Y b i pre := by
  obtain ⟨pre', x, u, q1, q2, q3, q4, q5, bs, q6, q7, q8⟩ := h
  exact ⟨pre', x, u, q1, q2, q3, q4, ⟨cells_kept q5.h0 hg hr, cells_kept q5.h1 hg hr, cells_kept q5.h2 hg hr⟩, bs, q6, q7, cells_kept q8 hg hr⟩

set_option maxHeartbeats 2000000 in
theorem read_bad (h : DevAt w Z dp D) (i : Int) (hi : D.has i = false) :
    Calls Tryd.prog 14 #[.pointer (some ⟨dp, 0, none⟩), .int .i64 i] w fun e w' => e = .returned (.tuple #[.slice none 0 0, .int .i64 1]) ∧ Below w.heap.size w w' := by
  obtain ⟨sb, tm, tn, wv, kv, ss, cs, m, l⟩ := h
  have HC := Lib.hid (has_any (m.below ((((Below.refl w.heap.size w).alloc (Nat.le_refl _) (.cells #[.int .i64 i] 3)).alloc (by simp) (.cells #[.slice none 0 0] 38)).alloc (by simp; omega) (.cells #[.int .i64 0] 25))) i)
  clear m l
  go_enter Tryd.func14, Tryd.ntmps14
  go_wp2_with (go_at_call 19; refine HC.out.mono ?_; rintro e w' ⟨rfl, rfl⟩; rw [hi])
  exact ⟨rfl, _, (Boxes.new w i (.int .i64 1)).res rfl rfl, rfl, ((((Below.refl w.heap.size w).alloc (Nat.le_refl _) _).alloc (by simp) _).alloc (by simp; omega) _)⟩
set_option maxHeartbeats 2000000 in
theorem read_err (h : DevAt w Z dp D) (i : Int) (hi : D.has i = true) (he : D.err = 2) (hw : D.w ≤ 1000000000) (hz : ∀ k, Z k → k < w.heap.size) :
    Calls Tryd.prog 14 #[.pointer (some ⟨dp, 0, none⟩), .int .i64 i] w fun e w' => e = .returned (.tuple #[.slice none 0 0, .int .i64 2]) ∧ DevAt w' Z dp D.begin ∧ Out Z w w' := by
  have hb := (((Below.refl w.heap.size w).alloc (Nat.le_refl _) (.cells #[.int .i64 i] 3)).alloc (by simp) (.cells #[.slice none 0 0] 38)).alloc (by simp; omega) (.cells #[.int .i64 0] 25)
  have h' := h.below hb
  have hm : Calls Tryd.prog 19 #[.pointer (some ⟨dp, 0, none⟩), .int .i64 i] (((w.alloc (.cells #[.int .i64 i] 3)).alloc (.cells #[.slice none 0 0] 38)).alloc (.cells #[.int .i64 0] 25)) fun e w' => e = .returned (.bool true) ∧ (((w.alloc (.cells #[.int .i64 i] 3)).alloc (.cells #[.slice none 0 0] 38)).alloc (.cells #[.int .i64 0] 25)) = w' := by
    obtain ⟨sb, tm, tn, wv, kv, ss, cs, m, l⟩ := h'
    have := has_any m i
    rw [hi] at this
    exact this
  have HC := Lib.hid hm
  have HB := Lib.hid (begin_any h' (by omega))
  have HE := Lib.hid (And.intro he (And.intro hz hb))
  have HX := Lib.hid (Boxes.new w i (.int .i64 0))
  clear h h' hi he hb hz hm
  go_enter Tryd.func14, Tryd.ntmps14
  go_wp2_with (first | (go_at_call 19; refine HC.out.mono ?_; rintro e w' ⟨rfl, rfl⟩) | (go_at_call 20; refine HB.out.mono ?_; rintro e w2 ⟨rfl, hD, hO⟩; rw [HE.out.1]; have hx := HX.out.out hO HE.out.2.1; have HX1 := Lib.hid hx; have c1 := hx.c1; have f1 := hx.f1; have c2 := hx.c2; have f2 := hx.f2; clear hx; have HD := Lib.hid (And.intro hD hO); clear hD hO))
  exact ⟨rfl, _, ((HX1.out.set1 _).set2 _).res rfl rfl, rfl, HD.out.1.low HE.out.2.1 (two_stores _ _ _ _), ((Out.of_below HE.out.2.2).trans HD.out.2).low (two_stores _ _ _ _)⟩

set_option maxRecDepth 100000 in
set_option maxHeartbeats 4000000 in
theorem read_ok (h : DevAt w Z dp D) (i : Int) (hi : D.has i = true) (he : D.err = 0) (hr0 : 0 ≤ D.r) (hr : D.r ≤ 1000000000) (hw : D.w ≤ 1000000000) (hz : ∀ k, Z k → k < w.heap.size) :
    Calls Tryd.prog 14 #[.pointer (some ⟨dp, 0, none⟩), .int .i64 i] w fun e w' => Gives w w' (D.answer i) e ∧ DevAt w' Z dp D.read ∧ Out Z w w' := by
  have hcnt := begin_cnt D
  have hD : D.read = { D.begin with r := D.begin.r + 1 } := by unfold Dev.read; rw [if_neg (by omega)]
  have hA : D.answer i = match newest i D.begin.wait with
    | some bs => (0, some bs)
    | none => if D.begin.torn i = true then (3, none) else (0, some ((D.begin.secs i).getD noughts)) := by unfold Dev.answer; rw [if_neg (by omega)]
  have hb := (((Below.refl w.heap.size w).alloc (Nat.le_refl _) (.cells #[.int .i64 i] 3)).alloc (by simp) (.cells #[.slice none 0 0] 38)).alloc (by simp; omega) (.cells #[.int .i64 0] 25)
  have h' := h.below hb
  have hm : Calls Tryd.prog 19 #[.pointer (some ⟨dp, 0, none⟩), .int .i64 i] (((w.alloc (.cells #[.int .i64 i] 3)).alloc (.cells #[.slice none 0 0] 38)).alloc (.cells #[.int .i64 0] 25)) fun e w' => e = .returned (.bool true) ∧ (((w.alloc (.cells #[.int .i64 i] 3)).alloc (.cells #[.slice none 0 0] 38)).alloc (.cells #[.int .i64 0] 25)) = w' := by
    obtain ⟨sb, tm, tn, wv, kv, ss, cs, m, l⟩ := h'
    have := has_any m i
    rw [hi] at this
    exact this
  have HC := Lib.hid hm
  have HB := Lib.hid (begin_any h' (by omega))
  have HE := Lib.hid (And.intro he (And.intro hz (And.intro hb (And.intro hi (And.intro hcnt hw)))))
  have HX := Lib.hid (Boxes.new w i (.int .i64 0))
  have hbr : 0 ≤ D.begin.r ∧ D.begin.r ≤ 1000000000 := by omega
  obtain ⟨A, hAA⟩ : ∃ A, A = D.answer i := ⟨_, rfl⟩
  rw [hD, ← hAA]
  rw [hA] at hAA
  clear h h' hi he hb hz hm hD hA hcnt hr0 hr hw
  generalize hEE : D.begin = E at *
  have HA := Lib.hid hAA
  clear hAA
  have HEE := Lib.hid hEE
  clear hEE
  obtain ⟨hr0, hr1⟩ := hbr
  refine enter_marks Tryd.func14 rfl ?_
  simp only [Tryd.ntmps14, List.size_toArray, List.length_cons, List.length_nil, Nat.reduceAdd, Nat.reduceSub, Array.replicate_succ, Array.replicate_zero, List.push_toArray, List.append_toArray, List.nil_append, List.cons_append]
  go_wp2_with (go_at_call 19; refine HC.out.mono ?_; rintro e w' ⟨rfl, rfl⟩)
  refine HB.out.mono ?_
  rintro e w2 ⟨rfl, hD, hO⟩
  rw [HE.out.1]
  have hx := HX.out.out hO HE.out.2.1
  have hO2 := (Out.of_below HE.out.2.2.1).trans hO
  clear hO
  obtain ⟨sb, tm, tn, wv, kv, ss, cs, m, l1, l2, l3, l4⟩ := hD
  have c3 : w2.cell? ⟨dp, 3, none⟩ = some (.int .i64 E.r) := m.cell 3
  have f3 := m.free 3
  have m1 := m.store (D' := { E with r := E.r + 1 }) 3 (.int .i64 (E.r + 1)) rfl rfl rfl rfl rfl rfl
  have hx2 := hx.low m.dZ HE.out.2.1 3 (.int .i64 (E.r + 1))
  have hO3 := hO2.trans (Out.cell w2 ⟨dp, 3, none⟩ (.int .i64 (E.r + 1)) m.dZ)
  have HM := Lib.hid (And.intro m1 (And.intro hx2 (And.intro hO3 (And.intro l1 (And.intro l2 (And.intro l3 l4))))))
  clear m hx hO2 m1 hx2 hO3 l1 l2 l3 l4
  go_wp2_with (go_at_call 23; refine ((callsIn_wide (n := 1)).1 (newest_in Fence.wide 1 trivial rfl dp _)).mono ?_; rintro e w' ⟨rfl, rfl⟩)
  have hsz : (w2.setCell ⟨dp, 3, none⟩ (.int .i64 (E.r + 1))).heap.size = w2.heap.size := World.size_setCell _ _ _
  obtain ⟨W0, hW0⟩ : ∃ W0, (w2.setCell ⟨dp, 3, none⟩ (.int .i64 (E.r + 1))).alloc (.cells #[.pointer (some ⟨dp, 0, none⟩)] 24) = W0 := ⟨_, rfl⟩
  have hbn : W0.cell? ⟨w2.heap.size, 0, none⟩ = some (.pointer (some ⟨dp, 0, none⟩)) := by
    have := heap_alloc_new (w2.setCell ⟨dp, 3, none⟩ (.int .i64 (E.r + 1))) (.cells #[.pointer (some ⟨dp, 0, none⟩)] 24)
    rw [hsz, hW0] at this; simp [World.cell?, this]
  have hs0 : W0.heap.size = w2.heap.size + 1 := by rw [← hW0, World.size_alloc, hsz]
  have hbl : Below (w2.setCell ⟨dp, 3, none⟩ (.int .i64 (E.r + 1))).heap.size (w2.setCell ⟨dp, 3, none⟩ (.int .i64 (E.r + 1))) W0 := by rw [← hW0]; exact (Below.refl _ _).alloc (Nat.le_refl _) _
  rw [hW0]
  have hm0 := HM.out.1.below hbl
  have hx0 := HM.out.2.1.below hbl
  have hO0 := HM.out.2.2.1.trans (Out.of_below hbl)
  obtain ⟨P, hP, hWS⟩ := hm0.pairs (by have := HM.out.2.2.2.1; have := HE.out.2.2.2.2; show E.wait.length ≤ _; omega)
  have hQ : ∀ x ∈ P, ∃ bs, Bytes W0 x.2 bs ∧ bs.length = 512 := by
    intro x hx
    obtain ⟨k, hk⟩ := List.getElem?_of_mem hx
    obtain ⟨bs, _, _, q, q'⟩ := hP.2 k x hk
    exact ⟨bs, q, q'⟩
  have hd1 : W0.cell? ⟨dp, 1, none⟩ = some wv := hm0.cell 1
  have hdl : dp < W0.heap.size := (Array.getElem?_eq_some_iff.1 hm0.head).1
  have hwl : w.heap.size ≤ W0.heap.size := hO0.size
  have H0 := Lib.hid (And.intro hm0 (And.intro hx0 (And.intro hO0 (And.intro hP HM.out.2.2.2))))
  clear hm0 hx0 hO0 hP hbl hW0 c3 f3 hr0 hr1 HM
  refine (wpIn_wide (n := 9)).1 ?_
  refine wpIn_rangeFunc_ownH rfl (by omega) (gf := 25) (lb := #[.pointer (some ⟨w2.heap.size, 0, none⟩)]) rfl trivial (enters_of Tryd.func25 (by kernel_rfl) rfl)
    (newest_stops (fun x => ∃ bs, Bytes W0 x.2 bs ∧ bs.length = 512) Fence.wide 8 trivial rfl (by omega) w2.heap.size W0.heap.size dp wv P hQ W0 (Nat.le_refl _) (by omega) hdl hbn hd1 hWS) belowK_t (belowK_b (Nat.le_refl _)) (Below.refl _ _) (fun _ => rfl)
    (fun pre W => (∀ x ∈ pre, x.1.1 ≠ i) ∧ Below W0.heap.size W0 W)
    (fun c pre W => (c = .ret ∧ Came W0 W w.heap.size i pre) ∧ Below w.heap.size W0 W)
    (OwnFrom.and (ownFrom_pure _ _) (ownFrom_below (Nat.le_refl _) (Nat.le_refl _)))
    (fun c => OwnFrom.and (Own.from (fun s A B row hs hg hr => ⟨hs.1, hs.2.own hg hr⟩) _) (ownFrom_below hwl hwl))
    ⟨by simp, Below.refl _ _⟩
    (fun x a' W => ∃ Bx, W0.heap.size ≤ Bx ∧ W.heap[Bx]? = some (.cells #[.int .i64 x.1.1, dv x.1.2] 55 (0, 0)) ∧ a' = { tmps := #[.pointer (some ⟨dp, 0, none⟩), .int .i64 i, undef, .pointer (some ⟨w.heap.size, 0, none⟩), .pointer (some ⟨w.heap.size + 1, 0, none⟩), .pointer (some ⟨w.heap.size + 1 + 1, 0, none⟩), .int .i64 0, .pointer (some ⟨Bx, 0, none⟩), undef, undef, .pointer (some ⟨dp, 0, none⟩), .int .i64 i, .bool true, .bool false, .pointer (some ⟨dp, 0, none⟩), .int .i64 0, .int .i64 0, .bool false, undef, .pointer (some ⟨dp, 0, none⟩), .pointer (some ⟨dp, 0, none⟩), .pointer (some ⟨dp, 3, none⟩), .pointer (some ⟨dp, 3, none⟩), .int .i64 E.r, .int .i64 (E.r + 1), .pointer (some ⟨dp, 0, none⟩), .pointer (some ⟨dp, 3, none⟩), .pointer (some ⟨dp, 3, none⟩), .pointer (some ⟨dp, 0, none⟩), .func (.func 25) #[] #[.pointer (some ⟨w2.heap.size, 0, none⟩)], .agg #[.int .i64 x.1.1, dv x.1.2], undef, undef, undef, undef, undef, undef, undef, undef, undef, undef, undef, undef, undef, undef, undef, undef, undef, undef, undef, undef, undef, undef, undef, undef, undef], defers := [] })
    (fun x a' X Y row s hs hg hr => by obtain ⟨Bx, h1, h2, h3⟩ := hs; exact ⟨Bx, h1, cells_kept h2 hg (fun r e => (hr r e).2), h3⟩)
    ?assign ?body ?done ?stop
  case assign =>
    rintro l pre ⟨⟨x1, x2⟩, hxQ⟩ W K ⟨hi1, hB1⟩ hK
    simp only [encW]
    unfold dv at hK
    have HK := Lib.hid (And.intro hi1 (And.intro hB1 hK))
    clear hi1 hB1 hK
    gi_wp2
    refine HK.out.2.2 _ _ ((KeepsOthers.alloc _ _).from _) ((Below.refl _ W).alloc HK.out.2.1.size _) ⟨HK.out.1, HK.out.2.1.alloc HK.out.2.1.size _⟩ ⟨W.heap.size, HK.out.2.1.size, heap_alloc_new W _, rfl⟩
  case body =>
    rintro l pre ⟨⟨x1, x2⟩, bs, hxQ, hxl⟩ a' W hl ⟨r, hr⟩ ⟨hi1, hB1⟩ ⟨Bx, hBx, bX, rfl⟩ hlt
    dsimp only at bX hxQ ⊢
    have hx1 := H0.out.2.1.below hB1
    have c0 := hx1.c0
    have c1 := hx1.c1
    have f1 := hx1.f1
    have c2 := hx1.c2
    have f2 := hx1.f2
    have hx2 := Bytes.kept hxQ hB1
    have e1 : W.cell? ⟨Bx, 0, none⟩ = some (.int .i64 x1) := by simp [World.cell?, bX]
    have e2 : W.cell? ⟨Bx, 1, none⟩ = some (dv x2) := by simp [World.cell?, bX]
    have HW := Lib.hid (And.intro hi1 (And.intro hB1 (And.intro hx1 hx2)))
    clear hi1 hB1 hx1 hx2 hr hl
    unfold dv at e2
    by_cases c : x1 = i
    · subst c
      have HCP := Lib.hid (copied_data x2 bs W HW.out.2.2.2 hxl)
      gi_wp2
      refine ⟨trivial, ?_⟩
      refine (CallsIn.inRound l (callsIn_wide.2 HCP.out)).mono ?_
      rintro e w5 ⟨rfl, hb5, hl5⟩
      unfold dv
      have hx5 := HW.out.2.2.1.below hl5
      have g1 := hx5.c1
      have g2 := hx5.f1
      have g3 := hx5.c2
      have g4 := hx5.f2
      have HN := Lib.hid (And.intro hb5 (And.intro hl5 hx5))
      clear hb5 hl5 hx5
      gi_wp2
      have hbx := HN.out.2.2.lt
      have hWu : W0.heap.size ≤ W.heap.size := HW.out.2.1.size
      have hts := two_stores w.heap.size w5 (.slice (some ⟨W.heap.size, 0, none⟩) 512 512) (.int .i64 0)
      refine ⟨((KeepsFrom.of_below HN.out.2.1 _).trans ((KeepsOthers.setCell _ _ _).from _)).trans ((KeepsOthers.setCell _ _ _).from _), ⟨rfl, pre, ⟨(x1, x2), bs, hxQ, hxl⟩, W.heap.size, rfl, HW.out.1, rfl, hWu, (HN.out.2.2.set1 _).set2 _, bs, hxQ, hxl, ?_⟩, ((HW.out.2.1.mono hwl).trans (HN.out.2.1.mono (by omega))).trans hts⟩
      have q1 : Bytes w5 W.heap.size bs := HN.out.1
      refine (q1.grown (grown_setCell _ _ _) ?_).grown (grown_setCell _ _ _) ?_
      · have := H0.out.2.1.lt; simp; omega
      · have := H0.out.2.1.lt; simp; omega
    · gi_wp2
      refine ⟨KeepsFrom.refl _ _, Below.refl _ _, ?_, HW.out.2.1⟩
      intro y hy
      rcases List.mem_append.1 hy with hy | hy
      · exact HW.out.1 y hy
      · rw [List.mem_singleton] at hy; subst hy; exact c
  case done =>
    rintro D' ys W hD' hys ⟨hi1, hB1⟩ hK
    have hnone := H0.out.2.2.2.1.miss (i := i) (fun x hx => by rw [← hys] at hx; obtain ⟨z, hz, rfl⟩ := List.mem_map.1 hx; exact hi1 z hz)
    have HZ := Lib.hid (And.intro hB1 hK)
    have hm1 := H0.out.1.below (hB1.mono (Nat.le_refl _))
    have hx1 := H0.out.2.1.below hB1
    have d2 : W.cell? ⟨dp, 2, none⟩ = some (.map (some tm)) := hm1.cell 2
    have d0 : W.cell? ⟨dp, 0, none⟩ = some (.slice (some ⟨sb, 0, none⟩) E.n E.n) := hm1.cell 0
    have c0 := hx1.c0
    have c1 := hx1.c1
    have f1 := hx1.f1
    have c2 := hx1.c2
    have f2 := hx1.f2
    have hib : 0 ≤ i ∧ i < (E.n : Int) := by have h1 := HE.out.2.2.2.1; have h2 := HE.out.2.2.2.2.1.2.2.2; rw [h2]; simpa [Dev.has] using h1
    have hn2 : E.n ≤ 20000 := hm1.rest.n2
    have hwf : (Lit.int .i64 i).wf = true := WalkArith.wf_i64 (by omega)
    have look : ∀ W' : World, Below W.heap.size W W' → (Instr.lookup 46 (.map (some tm)) (.int .i64 i) true).run Tryd.prog W' = .ok (.tuple #[.agg #[], .bool (E.torn i)]) W' := by
      intro W' hb
      obtain ⟨T, hown, hT⟩ := (hm1.rest.below hb).tr
      obtain ⟨v, ps, hrun, hv⟩ := hown.look_ok keyed Tryd.underlying46 (Tryd.zeroValue58 _) unitElem_mk (key_int i hwf)
      obtain ⟨rfl, _⟩ := unitElem_inv hv
      rw [hT i hwf] at hrun
      exact hrun
    have hrun1 := look W.drew ⟨rfl, rfl, rfl, Nat.le_refl _, fun _ _ => rfl⟩
    have hrun2 := look (W.alloc (.cells #[] 58)).drew (((Below.refl _ W).alloc (Nat.le_refl _) _).trans ⟨rfl, rfl, rfl, Nat.le_refl _, fun _ _ => rfl⟩)
    have hlb := hx1.lt
    have hld : dp < W.heap.size := (Array.getElem?_eq_some_iff.1 hm1.head).1
    have hl0 : w.heap.size < W.heap.size := by omega
    have HM := Lib.hid (And.intro hm1 hx1)
    clear hi1 hB1 hK hm1 hx1 look
    go_wp2
    go_region
    all_goals
      obtain ⟨W1, hW1⟩ : ∃ W1, (W.alloc (.cells #[] 58)).drew = W1 := ⟨_, rfl⟩
      have hb1 : Below W.heap.size W W1 := by rw [← hW1]; exact ((Below.refl _ W).alloc (Nat.le_refl _) _).trans ⟨rfl, rfl, rfl, Nat.le_refl _, fun _ _ => rfl⟩
      rw [hW1]
      clear hrun1 hrun2 d0 d2 c0 c1 f1 c2 f2 hW1
      have hx1 := HM.out.2.below hb1
      have hm1 := HM.out.1.below hb1
      have d0 : W1.cell? ⟨dp, 0, none⟩ = some (.slice (some ⟨sb, 0, none⟩) E.n E.n) := hm1.cell 0
      have c0 := hx1.c0
      have c1 := hx1.c1
      have f1 := hx1.f1
      have c2 := hx1.c2
      have f2 := hx1.f2
      have hlt1 := hb1.size
      have hbW := (HZ.out.1.mono hwl).trans (hb1.mono (by omega))
      have hK1 : W1.heap[D']? = some (.deferred (some [])) := (hb1.block D' (Array.getElem?_eq_some_iff.1 HZ.out.2).1).trans HZ.out.2
      have hlo : W0.heap.size ≤ D' := hD'
      by_cases ht : E.torn i = true
      · rw [ht]
        have HF := Lib.hid (And.intro hx1 (And.intro hbW hK1))
        clear hx1 hm1 hbW hK1
        go_wp2
        have hts := two_stores w.heap.size W1 (.slice none 0 0) (.int .i64 3)
        have hx8 := (HF.out.1.set1 (.slice none 0 0)).set2 (.int .i64 3)
        have hk8 : ((W1.setCell ⟨w.heap.size + 1, 0, none⟩ (.slice none 0 0)).setCell ⟨w.heap.size + 1 + 1, 0, none⟩ (.int .i64 3)).heap[D']? = some (.deferred (some [])) := by
          rw [Below.heap_setCell _ _ _ _ (by simp; have := H0.out.2.1.lt; omega), Below.heap_setCell _ _ _ _ (by simp; have := H0.out.2.1.lt; omega)]; exact HF.out.2.2
        generalize (W1.setCell ⟨w.heap.size + 1, 0, none⟩ (.slice none 0 0)).setCell ⟨w.heap.size + 1 + 1, 0, none⟩ (.int .i64 3) = W8 at *
        have hbt : Below W0.heap.size W8 (W8.putObj D' (.deferred none)) := belowK_b (w := W0) (Nat.le_refl _) W8 D' _ _ hlo hk8 rfl rfl
        have hgp := grownBy_putObj' W8 D' (.deferred none)
        have hcl : ∀ r, some D' = some r → ∃ o : Obj, W8.heap[r]? = some o ∧ o.isCells = false := fun r e => by cases e; exact ⟨_, hk8, rfl⟩
        have hx9 : Boxes (W8.putObj D' (.deferred none)) w.heap.size i (.slice none 0 0) (.int .i64 3) := ⟨cells_kept hx8.h0 hgp hcl, cells_kept hx8.h1 hgp hcl, cells_kept hx8.h2 hgp hcl⟩
        have hb9 := (HF.out.2.1.trans hts).trans (hbt.mono hwl)
        exact ret_marks hk8 (hx9.res rfl rfl) ⟨by rw [HA.out, show newest i E.wait = none from hnone, if_pos ht]; rfl, DevAt.low ⟨sb, tm, tn, wv, kv, ss, cs, H0.out.1, H0.out.2.2.2.2⟩ HE.out.2.1 hb9, H0.out.2.2.1.low hb9⟩
      · rw [Bool.not_eq_true] at ht
        rw [ht]
        have hil : i.toNat < ss.length := by have := hm1.rest.ssl; have e : ss.length = E.n := this; omega
        obtain ⟨v, hv⟩ : ∃ v, ss[i.toNat]? = some v := ⟨_, List.getElem?_eq_getElem hil⟩
        have hsec : SecIs W1.drew Z v (E.secs i) := by
          have h1 := (hm1.rest.below (w' := W1.drew) ⟨rfl, rfl, rfl, Nat.le_refl _, fun _ _ => rfl⟩).sd i.toNat v hv
          rw [show ((i.toNat : Nat) : Int) = i by omega] at h1
          exact h1
        have hcp : ((E.secs i).getD noughts).length = 512 ∧ Calls Tryd.prog 21 #[v] W1.drew fun e w' => e = .returned (dv W1.heap.size) ∧ Bytes w' W1.heap.size ((E.secs i).getD noughts) ∧ Below W1.heap.size W1.drew w' := by
          cases hse : E.secs i with
          | none => rw [hse] at hsec; obtain rfl : v = .slice none 0 0 := hsec; exact ⟨noughts_len, copied_nil W1.drew⟩
          | some bs => rw [hse] at hsec; obtain ⟨g, _, rfl, q1, q2⟩ := hsec; exact ⟨q2, copied_data g bs W1.drew q1 q2⟩
        have cS : W1.cell? ⟨sb, i.toNat, none⟩ = some v := by
          have := hm1.rest.row
          simp [World.cell?, this, hv]
        have HF := Lib.hid (And.intro hx1 (And.intro hbW (And.intro hK1 hcp)))
        clear hx1 hm1 hbW hK1 hcp hsec hv
        go_wp2
        go_still_tail 7, (by kernel_rfl)
        change wpList _ _ _ _ _ W1.drew
        go_wp2_with fail
        refine (HF.out.2.2.2.2).mono ?_
        rintro e w5 ⟨rfl, hb5, hl5⟩
        unfold dv
        have hx5 := (HF.out.1.below (W' := W1.drew) ⟨rfl, rfl, rfl, Nat.le_refl _, fun _ _ => rfl⟩).below hl5
        have hbW5 : Below W1.heap.size W1 w5 := (show Below W1.heap.size W1 W1.drew from ⟨rfl, rfl, rfl, Nat.le_refl _, fun _ _ => rfl⟩).trans hl5
        have g1 := hx5.c1
        have g2 := hx5.f1
        have g3 := hx5.c2
        have g4 := hx5.f2
        have HN := Lib.hid (And.intro hb5 (And.intro hbW5 hx5))
        clear hb5 hl5 hx5 hbW5
        go_wp2
        have hu : w.heap.size + 1 + 1 < W1.heap.size := HF.out.1.lt
        have hts := two_stores w.heap.size w5 (.slice (some ⟨W1.heap.size, 0, none⟩) 512 512) (.int .i64 0)
        have hx8 := (HN.out.2.2.set1 (dv W1.heap.size)).set2 (.int .i64 0)
        unfold dv at hx8
        have hk5 : w5.heap[D']? = some (.deferred (some [])) := (HN.out.2.1.block D' (Array.getElem?_eq_some_iff.1 HF.out.2.2.1).1).trans HF.out.2.2.1
        have hk8 : ((w5.setCell ⟨w.heap.size + 1, 0, none⟩ (.slice (some ⟨W1.heap.size, 0, none⟩) 512 512)).setCell ⟨w.heap.size + 1 + 1, 0, none⟩ (.int .i64 0)).heap[D']? = some (.deferred (some [])) := by
          rw [Below.heap_setCell _ _ _ _ (by simp; have := H0.out.2.1.lt; omega), Below.heap_setCell _ _ _ _ (by simp; have := H0.out.2.1.lt; omega)]; exact hk5
        have hb8 : Bytes ((w5.setCell ⟨w.heap.size + 1, 0, none⟩ (.slice (some ⟨W1.heap.size, 0, none⟩) 512 512)).setCell ⟨w.heap.size + 1 + 1, 0, none⟩ (.int .i64 0)) W1.heap.size ((E.secs i).getD noughts) :=
          (HN.out.1.grown (grown_setCell _ _ _) (by simp; omega)).grown (grown_setCell _ _ _) (by simp; omega)
        have hbN := HN.out.2.1.mono (show w.heap.size ≤ W1.heap.size by omega)
        generalize (w5.setCell ⟨w.heap.size + 1, 0, none⟩ (.slice (some ⟨W1.heap.size, 0, none⟩) 512 512)).setCell ⟨w.heap.size + 1 + 1, 0, none⟩ (.int .i64 0) = W8 at *
        have hbt : Below W0.heap.size W8 (W8.putObj D' (.deferred none)) := belowK_b (w := W0) (Nat.le_refl _) W8 D' _ _ hlo hk8 rfl rfl
        have hgp := grownBy_putObj' W8 D' (.deferred none)
        have hcl : ∀ r, some D' = some r → ∃ o : Obj, W8.heap[r]? = some o ∧ o.isCells = false := fun r e => by cases e; exact ⟨_, hk8, rfl⟩
        have hx9 : Boxes (W8.putObj D' (.deferred none)) w.heap.size i (.slice (some ⟨W1.heap.size, 0, none⟩) 512 512) (.int .i64 0) := ⟨cells_kept hx8.h0 hgp hcl, cells_kept hx8.h1 hgp hcl, cells_kept hx8.h2 hgp hcl⟩
        have hb9 := ((HF.out.2.1.trans hbN).trans hts).trans (hbt.mono hwl)
        exact ret_marks hk8 (hx9.res rfl rfl) ⟨by rw [HA.out, show newest i E.wait = none from hnone]; simp only [ht]; exact ⟨W1.heap.size, by omega, rfl, hb8.own hgp hcl, HF.out.2.2.2.1⟩, DevAt.low ⟨sb, tm, tn, wv, kv, ss, cs, H0.out.1, H0.out.2.2.2.2⟩ HE.out.2.1 hb9, H0.out.2.2.1.low hb9⟩
  case stop =>
    rintro D' c pre W hD' hpre ⟨⟨rfl, hcm⟩, hB1⟩ hK
    obtain ⟨pre', x, u, rfl, q2, q3, q4, q5, bs, q6, q7, q8⟩ := hcm
    rw [List.map_append, List.map_cons, List.map_nil] at hpre
    obtain ⟨⟨x1, x2⟩, hxQ⟩ := x
    dsimp only at q3 q6 hpre
    subst q3
    obtain ⟨bs2, p1, p2, p3, p4⟩ := H0.out.2.2.2.1.hit hpre (fun y hy => by obtain ⟨z, hz, rfl⟩ := List.mem_map.1 hy; exact q2 z hz)
    obtain rfl := q6.uniq p3
    have HZ := Lib.hid (And.intro q5 (And.intro p1 (And.intro q7 (And.intro q8 (And.intro hB1 hK)))))
    clear q5 p1 p2 p3 p4 q6 q7 q8 hB1 hK hpre q2
    refine wpIn_wide.2 ?_
    go_wp2
    have hlo : W0.heap.size ≤ D' := hD'
    have hbt : Below W0.heap.size W (W.putObj D' (.deferred none)) := belowK_b (w := W0) (Nat.le_refl _) W D' _ _ hlo HZ.out.2.2.2.2.2 rfl rfl
    have hgp := grownBy_putObj' W D' (.deferred none)
    have hcl : ∀ r, some D' = some r → ∃ o : Obj, W.heap[r]? = some o ∧ o.isCells = false := fun r e => by cases e; exact ⟨_, HZ.out.2.2.2.2.2, rfl⟩
    have hx9 : Boxes (W.putObj D' (.deferred none)) w.heap.size x1 (dv u) (.int .i64 0) := ⟨cells_kept HZ.out.1.h0 hgp hcl, cells_kept HZ.out.1.h1 hgp hcl, cells_kept HZ.out.1.h2 hgp hcl⟩
    have hb9 := HZ.out.2.2.2.2.1.trans (hbt.mono hwl)
    exact ret_marks HZ.out.2.2.2.2.2 (hx9.res rfl rfl) ⟨by rw [HA.out, HZ.out.2.1]; exact ⟨u, Nat.le_trans hwl q4, rfl, Bytes.own HZ.out.2.2.2.1 hgp hcl, HZ.out.2.2.1⟩, DevAt.low ⟨sb, tm, tn, wv, kv, ss, cs, H0.out.1, H0.out.2.2.2.2⟩ HE.out.2.1 hb9, H0.out.2.2.1.low hb9⟩
/-- Read of a sector that there is. -/
theorem read_any (h : DevAt w Z dp D) (i : Int) (hi : D.has i = true) (hr0 : 0 ≤ D.r) (hr : D.r ≤ 1000000000) (hw : D.w ≤ 1000000000) (hz : ∀ k, Z k → k < w.heap.size) :
    Calls Tryd.prog 14 #[.pointer (some ⟨dp, 0, none⟩), .int .i64 i] w fun e w' => Gives w w' (D.answer i) e ∧ DevAt w' Z dp D.read ∧ Out Z w w' := by
  rcases err_cases D with he | he
  · refine (read_err h i hi he hw hz).mono ?_
    rintro e w' ⟨rfl, hD, hO⟩
    refine ⟨?_, ?_, hO⟩
    · unfold Dev.answer; rw [if_pos he]; rfl
    · unfold Dev.read; rw [if_pos he]; exact hD
  · exact read_ok h i hi he hr0 hr hw hz
end
end Go.Proofs.YthdgfhkihhamnaaDoor
