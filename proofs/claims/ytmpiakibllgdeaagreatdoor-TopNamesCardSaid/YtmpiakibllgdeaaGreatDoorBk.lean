/-
  Regions that draw their order: equality of values, new blocks that the model makes later, what may be done ahead. No statement of the seat is proved here. Conditions: none.
-/
import Derived.Test.YtmpiakibllgdeaaGreatDoorBi
set_option linter.unusedVariables false
set_option linter.unusedSimpArgs false
namespace Go.Ab

/-! ### Equal is equal -/
theorem empty_of_isEmpty {a : Array Value} (h : a.toList.isEmpty = true) : a = #[] := by
  simpa using h
theorem eqAtom_eq {a b : Value} (h : eqAtom a b = true) : a = b := by
  unfold eqAtom at h
  split at h
  case h_1 => rw [beq_iff_eq.1 h]
  case h_2 => simp only [Bool.and_eq_true, decide_eq_true_eq] at h; rw [h.1, h.2]
  case h_3 a b =>
    have h := of_decide_eq_true h
    have : a = b := by cases a; cases b; simpa using h
    rw [this]
  case h_4 => rfl
  case h_5 => rw [of_decide_eq_true h]
  case h_6 => simp only [Bool.and_eq_true] at h; rw [Nat.eq_of_beq_eq_true h.1, Nat.eq_of_beq_eq_true h.2]
  case h_7 => simp only [Bool.and_eq_true] at h; rw [of_decide_eq_true h.1.1, Nat.eq_of_beq_eq_true h.1.2, Nat.eq_of_beq_eq_true h.2]
  case h_8 => rfl
  case h_9 => rw [Nat.eq_of_beq_eq_true h]
  case h_10 => rfl
  case h_11 => rfl
  case h_12 => simp only [Bool.and_eq_true] at h; rw [Nat.eq_of_beq_eq_true h.1.1.1.1, empty_of_isEmpty h.1.1.1.2, empty_of_isEmpty h.1.1.2, empty_of_isEmpty h.1.2, empty_of_isEmpty h.2]
  case h_13 => simp only [Bool.and_eq_true] at h; rw [Nat.eq_of_beq_eq_true h.1.1.1.1, empty_of_isEmpty h.1.1.1.2, empty_of_isEmpty h.1.1.2, empty_of_isEmpty h.1.2, empty_of_isEmpty h.2]
  case h_14 => cases h
theorem eqFlat_eq : ∀ {l m : List Value}, eqFlat l m = true → l = m
  | [], [], _ => rfl
  | [], _ :: _, h => by simp [eqFlat] at h
  | _ :: _, [], h => by simp [eqFlat] at h
  | a :: l, b :: m, h => by
    simp only [eqFlat, Bool.and_eq_true] at h
    rw [eqAtom_eq h.1, eqFlat_eq h.2]
theorem arr_eq {a b : Array Value} (h : a.toList = b.toList) : a = b := Array.toList_inj.1 h
theorem eqCell_eq {a b : Value} (h : eqCell a b = true) : a = b := by
  unfold eqCell at h
  split at h
  · simp only [Bool.and_eq_true] at h
    rw [Nat.eq_of_beq_eq_true h.1, eqAtom_eq h.2]
  · rw [arr_eq (eqFlat_eq h)]
  · exact eqAtom_eq h
theorem eqAtoms_eq : ∀ {l m : List Value}, eqAtoms l m = true → l = m
  | [], [], _ => rfl
  | [], _ :: _, h => by simp [eqAtoms] at h
  | _ :: _, [], h => by simp [eqAtoms] at h
  | a :: l, b :: m, h => by
    simp only [eqAtoms, Bool.and_eq_true] at h
    rw [eqCell_eq h.1, eqAtoms_eq h.2]
theorem eqOne_eq {a b : Value} (h : eqOne a b = true) : a = b := by
  unfold eqOne at h
  split at h
  · rw [arr_eq (eqAtoms_eq h)]
  · rw [arr_eq (eqAtoms_eq h)]
  · exact eqCell_eq h

section
variable {E : Env} {w0 w : World} {φ : Phi} {h h' : AHeap}

/-- A new block on the small machine's side alone. -/
theorem WR.ghost {b : Nat} {o : AObj} (W : WR w0 φ h w) (e : h.alloc o = some (b, h')) : WR w0 φ h' w ∧ Keeps h h' ∧ b = h.next ∧ h'.next = h.next + 1 ∧ φ b = none := by
  have K := W.keeps_alloc e
  obtain ⟨rfl, hlt, rfl⟩ := alloc_eq e
  have hm : heapMost = 8 ^ heapDepth := rfl
  have hfr : φ h.next = none := W.fresh _ (Nat.le_refl _)
  have old : ∀ a p, φ a = some p → (h.t.set h.next o).get a = h.t.get a := fun a p ha => by
    rw [get_set W.full _ _ _ (by omega) (W.lt_most ha).2, if_neg (by have := (W.lt_most ha).1; omega)]
  refine ⟨{ W with full := W.full.set _ _, next := by show h.next + 1 ≤ _; omega, fresh := fun a ha => W.fresh a (by have : h.next + 1 ≤ a := ha; omega), live := fun a p ha => ?_, own := fun a p ha hn hr => ?_, disj := fun a a' p p' hne ha ha' hn hn' => ?_, busy := fun a p bb left cur ha hi => ?_ }, K, rfl, rfl, hfr⟩
  · show OR φ w p ((h.t.set h.next o).get a)
    rw [old a p ha]; exact W.live a p ha
  · change isNone ((h.t.set h.next o).get a) = false at hn
    change isRo ((h.t.set h.next o).get a) = false at hr
    rw [old a p ha] at hn hr; exact W.own a p ha hn hr
  · change isNone ((h.t.set h.next o).get a) = false at hn
    change isNone ((h.t.set h.next o).get a') = false at hn'
    rw [old a p ha] at hn; rw [old a' p' ha'] at hn'
    exact W.disj a a' p p' hne ha ha' hn hn'
  · change (h.t.set h.next o).get a = _ at hi
    rw [old a p ha] at hi
    obtain ⟨z1, ⟨l, z2⟩, z3⟩ := W.busy a p bb left cur ha hi
    obtain ⟨q, hq⟩ := Option.isSome_iff_exists.1 z3
    exact ⟨z1, ⟨l, by show (h.t.set h.next o).get bb = _; rw [old bb q hq]; exact z2⟩, z3⟩

/-- The model makes a block that the small machine has already. -/
theorem WR.realise {a : Nat} {c : List Value} {e : TypeId} {c' : Array Value} (W : WR w0 φ h w) (ha : φ a = none) (hl : a < h.next) (hg : h.t.get a = .cells c (.var e)) (hc : VRs φ c c'.toList) :
    WR w0 (upd φ a ⟨w.heap.size, 0, c'.size, none⟩) h (World.pushed w (.cells c' e)) ∧ Sub φ (upd φ a ⟨w.heap.size, 0, c'.size, none⟩) := by
  have hsub : Sub φ (upd φ a ⟨w.heap.size, 0, c'.size, none⟩) := Sub.upd ha
  have hlen : c.length = c'.size := by simpa using hc.length
  have heapold : ∀ x q, φ x = some q → isNone (h.t.get x) = false → q.b < w.heap.size := fun x q hx hn => (W.live x q hx).lt hn
  refine ⟨{ full := W.full, next := W.next, fresh := fun x hx => ?_, live := fun x q hx => ?_, own := fun x q hx hn hr => ?_, disj := fun x x' q q' hne hx hx' hn hn' => ?_, busy := fun x q bb left cur hx hi => ?_,
            size := ?_, base := fun x hx => (pushed_old w _ (Nat.lt_of_lt_of_le hx W.size)).trans (W.base x hx), os := W.os, tape := W.tape, output := W.output }, hsub⟩
  · rw [upd_other _ _ (by omega)]; exact W.fresh x hx
  · by_cases hxa : x = a
    · subst hxa
      rw [upd_same] at hx; cases hx
      rw [hg]
      refine ⟨c', e, (0, 0), pushed_new w _, ⟨⟨rfl, rfl, rfl, hlen.symm, hlen.symm, by simp⟩, by simp, by simp [hlen], fun i v hv => ?_, fun _ j _ _ => by simp⟩⟩
      obtain ⟨v', h1, h2⟩ := hc.get hv
      exact ⟨v', by simpa using h1, h2.mono hsub⟩
    · rw [upd_other _ _ hxa] at hx
      have k := W.live x q hx
      refine k.mono hsub (fun hn => pushed_old _ _ (k.lt hn)) (fun b left cur pm ho hpm => ?_)
      have hko := k
      rw [ho] at hko
      obtain ⟨_, _, m', since, seen, st, _, pm', q1, q2, q3⟩ := hko
      obtain ⟨es, cl, r1, _⟩ := q3.es
      rw [hpm] at q1; cases q1
      refine pushed_old _ _ ?_
      rcases Nat.lt_or_ge pm.b w.heap.size with z | z
      · exact z
      · rw [Array.getElem?_eq_none z] at r1; cases r1
  · by_cases hxa : x = a
    · subst hxa
      rw [upd_same] at hx; cases hx
      exact W.size
    · rw [upd_other _ _ hxa] at hx; exact W.own x q hx hn hr
  · by_cases hxa : x = a <;> by_cases hxa' : x' = a
    · exact absurd (hxa.trans hxa'.symm) hne
    · subst hxa
      rw [upd_same] at hx; cases hx
      rw [upd_other _ _ hxa'] at hx'
      have := heapold x' q' hx' hn'
      show w.heap.size ≠ q'.b
      omega
    · subst hxa'
      rw [upd_same] at hx'; cases hx'
      rw [upd_other _ _ hxa] at hx
      have := heapold x q hx hn
      show q.b ≠ w.heap.size
      omega
    · rw [upd_other _ _ hxa] at hx; rw [upd_other _ _ hxa'] at hx'
      exact W.disj x x' q q' hne hx hx' hn hn'
  · by_cases hxa : x = a
    · subst hxa; rw [hg] at hi; cases hi
    · rw [upd_other _ _ hxa] at hx
      obtain ⟨z1, z2, z3⟩ := W.busy x q bb left cur hx hi
      obtain ⟨pb, hpb⟩ := Option.isSome_iff_exists.1 z3
      exact ⟨z1, z2, by rw [hsub _ _ hpb]; rfl⟩
  · show _ ≤ (w.heap.push _).size
    have := W.size
    simp; omega
end

/-! ### What may be done ahead is done ahead -/
section
variable {φ : Phi} {lo hi : Nat} {ops : Array Oper} {done : List (Nat × Oper)} {mask n : Nat} {t t' : Tr Value} {ts : Array Value} {l : List Nat}

theorem setDst_get {d : Option Tmp} {v : Value} (hf : Full (tDepth n) t) (e : setDst n t d v = some t') :
    Full (tDepth n) t' ∧ ∀ x : Nat, x < n → t'.get x = if d = some x then v else t.get x := by
  have hlog : n < 8 ^ tDepth n := lt_tDepth n
  unfold setDst at e
  split at e
  · simp only [Option.some.injEq] at e; subst e; exact ⟨hf, fun x _ => by simp⟩
  · rename_i y
    have y' : Nat := y
    cases hb : Nat.blt y n with
    | false => simp [hb] at e
    | true =>
      have hy : (show Nat from y) < n := by simpa [Nat.blt_eq] using hb
      simp only [hb, cond_true, Option.some.injEq] at e
      subst e
      refine ⟨hf.set _ _, fun x hx => ?_⟩
      rw [get_set hf _ _ _ (Nat.lt_trans hy hlog) (Nat.lt_trans hx hlog)]
      by_cases e : x = y
      · subst e; simp
      · rw [if_neg e, if_neg (fun z => e (by simpa using z.symm))]

theorem DrawR.move {pre rest : List (Nat × Oper)} {p : Nat × Oper} {v : Value} (D : DrawR φ lo hi ops (pre ++ p :: rest) done mask n t ts l) (e : setDst n t p.2.dst v = some t')
    (hg : isAlloc p.2.op = true → ∀ a, v = .pointer (some a) → φ a.block = none ∧ lo ≤ a.block ∧ a.block < hi) : DrawR φ lo hi ops (pre ++ rest) (p :: done) mask n t' ts l := by
  obtain ⟨hf, hget⟩ := setDst_get D.full e
  have hp : ops[p.1]? = some p.2 := D.mem p (.inl (by simp))
  have hpl : p.1 ∈ l := D.leftIn p (by simp)
  have hso : (pre ++ rest).Pairwise (fun a b => a.1 < b.1) := D.sorted.sublist (List.Sublist.append (List.Sublist.refl pre) (List.sublist_cons_self p rest))
  refine { D with full := hf, mem := fun q hq => D.mem q ?_, all := fun j hj => ?_, sep := fun j a b ha hb => ?_, sorted := hso, leftIn := fun q hq => D.leftIn q ?_, tmps := fun d hdn hj => ?_, ghost := fun q hq hql ha d a hd hdn hv => ?_ }
  · rcases hq with hq | hq
    · exact .inl (by simp only [List.mem_append, List.mem_cons] at hq ⊢; rcases hq with hq | hq <;> simp [hq])
    · rcases List.mem_cons.1 hq with rfl | hq
      · exact .inl (by simp)
      · exact .inr hq
  · obtain ⟨o, ho | ho⟩ := D.all j hj
    · simp only [List.mem_append, List.mem_cons] at ho
      rcases ho with ho | ho | ho
      · exact ⟨o, .inl (by simp [ho])⟩
      · exact ⟨o, .inr (by rw [← ho]; simp)⟩
      · exact ⟨o, .inl (by simp [ho])⟩
    · exact ⟨o, .inr (by simp [ho])⟩
  · rcases List.mem_cons.1 hb with hb | hb
    · subst hb
      have := D.sorted
      rw [List.pairwise_append] at this
      obtain ⟨_, s2, s3⟩ := this
      rw [List.pairwise_cons] at s2
      rcases List.mem_append.1 ha with ha | ha
      · have := s3 _ ha (j, b) (by simp); simp at this
      · have := s2.1 _ ha; simp at this
    · exact D.sep j a b (by simp only [List.mem_append, List.mem_cons] at ha ⊢; rcases ha with ha | ha <;> simp [ha]) hb
  · simp only [List.mem_append, List.mem_cons] at hq ⊢; rcases hq with hq | hq <;> simp [hq]
  · have hne : p.2.dst ≠ some d := fun z => hj p.1 hpl p.2 hp z
    rw [hget d hdn, if_neg hne]
    exact D.tmps d hdn hj
  · rw [hget d hdn] at hv
    rcases List.mem_cons.1 hq with rfl | hq
    · rw [if_pos hd] at hv
      exact hg ha a hv
    · have hqo := D.mem q (.inr hq)
      by_cases hpd : p.2.dst = some d
      · exfalso
        have hpq := regionOk_dst D.ok hp hqo hpd hd
        have e2 : p.2 = q.2 := by rw [hpq, hqo] at hp; exact (Option.some.inj hp).symm
        have : p = q := Prod.ext hpq e2
        subst this
        exact D.sep p.1 p.2 p.2 (by simp) hq
      · rw [if_neg hpd] at hv
        exact D.ghost q hq hql ha d a hd hdn hv
end

/-- Why an operation waits. -/
def Waits (kept : List (Nat × Oper)) : Prop := ∀ q ∈ kept, firm q.2.op = true ∨ ∃ e, Deps q.2 e ∧ ∃ q' ∈ kept, q'.1 = e.on

theorem eager_sound {E : Env} {w0 w : World} {φ : Phi} {lo n mask : Nat} {ops : Array Oper} {ts : Array Value} {l : List Nat} : ∀ (rest kept done : List (Nat × Oper)) (t : Tr Value) (h : AHeap) (g : Eag), eager E ops n rest kept done t h = some g →
    WR w0 φ h w → lo ≤ h.next → DrawR φ lo h.next ops (kept.reverse ++ rest) done mask n t ts l → Waits kept →
    WR w0 φ g.h w ∧ Keeps h g.h ∧ DrawR φ lo g.h.next ops g.left g.done mask n g.t ts l ∧ Waits g.left
  | [], kept, done, t, h, g, e, W, hlo, D, K => by
    simp only [eager, Option.some.injEq] at e
    subst e
    simp only [List.append_nil] at D
    exact ⟨W, Keeps.refl h, D, fun q hq => by
      simp only [List.mem_reverse] at hq ⊢
      exact K q hq⟩
  | p :: rest, kept, done, t, h, g, e, W, hlo, D, K => by
    simp only [eager] at e
    cases hb : (p.2.after.toList.all fun e => !Region.binds .any e || kept.all fun q => !Nat.beq q.1 e.on) with
    | false =>
      simp only [hb, cond_false] at e
      have hex : ∃ e, Deps p.2 e ∧ ∃ q' ∈ kept, q'.1 = e.on := by
        rw [List.all_eq_false] at hb
        obtain ⟨ed, h1, h2⟩ := hb
        simp only [Bool.not_eq_true, Bool.or_eq_false_iff, Bool.not_eq_false', List.all_eq_false, Nat.beq_eq_true_eq, Bool.not_eq_true', Bool.not_eq_eq_eq_not, Bool.not_true] at h2
        obtain ⟨h2, q, hq, h3⟩ := h2
        exact ⟨ed, ⟨h1, h2⟩, q, hq, by simpa using h3⟩
      refine eager_sound rest (p :: kept) done t h g e W hlo (by simpa using D) (fun q hq => ?_)
      rcases List.mem_cons.1 hq with rfl | hq
      · obtain ⟨ed, h1, q', h2, h3⟩ := hex
        exact .inr ⟨ed, h1, q', by simp [h2], h3⟩
      · rcases K q hq with z | ⟨ed, h1, q', h2, h3⟩
        · exact .inl z
        · exact .inr ⟨ed, h1, q', by simp [h2], h3⟩
    | true =>
      simp only [hb, cond_true, Option.bind_eq_some_iff] at e
      obtain ⟨wd, hwd, e⟩ := e
      cases wd with
      | false =>
        simp only [Bool.not_false, cond_true, Option.bind_eq_some_iff] at e
        obtain ⟨t2, ht2, e⟩ := e
        exact eager_sound rest kept (p :: done) t2 h g e W hlo (D.move ht2 (fun _ a z => by cases z)) K
      | true =>
        simp only [Bool.not_true, cond_false] at e
        cases hl : light p.2.op with
        | true =>
          simp only [hl, cond_true, Option.bind_eq_some_iff] at e
          obtain ⟨v, hv, t2, ht2, e⟩ := e
          refine eager_sound rest kept (p :: done) t2 h g e W hlo (D.move ht2 (fun ha => ?_)) K
          exfalso
          cases hop : p.2.op <;> simp [hop, isAlloc, light] at ha hl
        | false =>
          simp only [hl, cond_false] at e
          split at e
          · rename_i el d hop hd
            simp only [Option.bind_eq_some_iff] at e
            obtain ⟨z, hz, ⟨b, h1⟩, hal, t2, ht2, e⟩ := e
            obtain ⟨W1, K1, e1, e2, e3⟩ := W.ghost hal
            simp only at ht2 e
            have D1 := D.wide K1.next
            have D2 := D1.move (v := .pointer (some ⟨b, 0, none⟩)) (t' := t2) (by rw [hd]; exact ht2) (fun _ a hv => by
              simp only [Value.pointer.injEq, Option.some.injEq] at hv
              subst hv
              exact ⟨e3, by show lo ≤ b; omega, by show b < h1.next; omega⟩)
            obtain ⟨q1, q2, q3⟩ := eager_sound rest kept (p :: done) t2 h1 g e W1 (Nat.le_trans hlo K1.next) D2 K
            exact ⟨q1, K1.trans q2, q3⟩
          · cases e
          · rename_i hna1 hna2
            refine eager_sound rest (p :: kept) done t h g e W hlo (by simpa using D) (fun q hq => ?_)
            rcases List.mem_cons.1 hq with rfl | hq
            · left
              simp only [firm, hl, Bool.not_false, Bool.true_and]
              cases hop : q.2.op with
              | alloc el =>
                exfalso
                cases hd : q.2.dst with
                | none => exact hna2 el hop hd
                | some d => exact hna1 el d hop hd
              | _ => rfl
            · rcases K q hq with z | ⟨ed, h1, q', h2, h3⟩
              · exact .inl z
              · exact .inr ⟨ed, h1, q', by simp [h2], h3⟩
end Go.Ab
