/-
  The small machine's operations that turn memory are the model's: maps. No statement of the seat is proved here. Conditions: none.
-/
import Derived.Test.YtmpiakibllgdeaaGreatDoorAx
set_option linter.unusedVariables false
set_option linter.unusedSimpArgs false
namespace Go.Ab
section
variable {E : Env} {w0 w : World} {φ : Phi} {h h' : AHeap}

theorem sameKey_spec {j : IntKind} {n : Int} {k : Value} {t : Bool} (e : sameKey (.int j n) k = some t) : ∃ m, k = .int j m ∧ t = (n == m) := by
  cases k with
  | int k2 b =>
    unfold sameKey at e
    simp only at e
    split at e
    · rename_i hk; subst hk
      simp only [Option.some.injEq] at e
      exact ⟨b, rfl, e.symm⟩
    · cases e
  | _ => simp [sameKey] at e

theorem putE_spec {j : IntKind} {n : Int} {v : Value} : ∀ (l l' : List (Value × Value)), putE (.int j n) v l = some l' →
    ((∃ l1 v0 l2, l = l1 ++ (.int j n, v0) :: l2 ∧ l' = l1 ++ (.int j n, v) :: l2) ∨ ((∀ p ∈ l, p.1 ≠ .int j n) ∧ l' = l ++ [(.int j n, v)])) ∧ (∀ p l2, l = p :: l2 → ∃ m, p.1 = .int j m)
  | [], l', e => by simp [putE] at e; subst e; exact ⟨.inr ⟨by simp, rfl⟩, by simp⟩
  | p :: l, l', e => by
    simp only [putE, Option.bind_eq_some_iff] at e
    obtain ⟨t, ht, e⟩ := e
    obtain ⟨m, hm, rfl⟩ := sameKey_spec ht
    have hfst : ∀ q l2, p :: l = q :: l2 → ∃ m, q.1 = .int j m := fun q l2 hq => by
      simp only [List.cons.injEq] at hq
      rw [← hq.1]; exact ⟨_, hm⟩
    cases hb : (n == m) with
    | true =>
      simp only [hb, cond_true, Option.some.injEq] at e
      subst e
      have : n = m := by simpa using hb
      subst this
      obtain ⟨k0, v0⟩ := p
      simp only at hm
      subst hm
      exact ⟨.inl ⟨[], v0, l, rfl, rfl⟩, hfst⟩
    | false =>
      simp only [hb, cond_false, Option.bind_eq_some_iff, Option.some.injEq] at e
      obtain ⟨l2, hl2, rfl⟩ := e
      have hne : p.1 ≠ .int j n := fun z => by rw [hm] at z; simp at z; subst z; simp at hb
      obtain ⟨h1, _⟩ := putE_spec l l2 hl2
      refine ⟨?_, hfst⟩
      rcases h1 with ⟨a, b, c, rfl, rfl⟩ | ⟨h2, rfl⟩
      · exact .inl ⟨p :: a, b, c, rfl, rfl⟩
      · exact .inr ⟨by intro q hq; rcases List.mem_cons.1 hq with rfl | hq; exact hne; exact h2 q hq, rfl⟩
theorem dropE_spec {j : IntKind} {n : Int} : ∀ (l l' : List (Value × Value)), dropE (.int j n) l = some l' →
    ((∃ l1 v0 l2, l = l1 ++ (.int j n, v0) :: l2 ∧ l' = l1 ++ l2) ∨ ((∀ p ∈ l, p.1 ≠ .int j n) ∧ l' = l)) ∧ (∀ p l2, l = p :: l2 → ∃ m, p.1 = .int j m)
  | [], l', e => by simp [dropE] at e; subst e; exact ⟨.inr ⟨by simp, rfl⟩, by simp⟩
  | p :: l, l', e => by
    simp only [dropE, Option.bind_eq_some_iff] at e
    obtain ⟨t, ht, e⟩ := e
    obtain ⟨m, hm, rfl⟩ := sameKey_spec ht
    have hfst : ∀ q l2, p :: l = q :: l2 → ∃ m, q.1 = .int j m := fun q l2 hq => by
      simp only [List.cons.injEq] at hq
      rw [← hq.1]; exact ⟨_, hm⟩
    cases hb : (n == m) with
    | true =>
      simp only [hb, cond_true, Option.some.injEq] at e
      subst e
      have : n = m := by simpa using hb
      subst this
      obtain ⟨k0, v0⟩ := p
      simp only at hm
      subst hm
      exact ⟨.inl ⟨[], v0, l, rfl, rfl⟩, hfst⟩
    | false =>
      simp only [hb, cond_false, Option.bind_eq_some_iff, Option.some.injEq] at e
      obtain ⟨l2, hl2, rfl⟩ := e
      have hne : p.1 ≠ .int j n := fun z => by rw [hm] at z; simp at z; subst z; simp at hb
      obtain ⟨h1, _⟩ := dropE_spec l l2 hl2
      refine ⟨?_, hfst⟩
      rcases h1 with ⟨a, b, c, rfl, rfl⟩ | ⟨h2, rfl⟩
      · exact .inl ⟨p :: a, b, c, rfl, rfl⟩
      · exact .inr ⟨by intro q hq; rcases List.mem_cons.1 hq with rfl | hq; exact hne; exact h2 q hq, rfl⟩

theorem mem_modify {α : Type} {l : List α} {i : Nat} {f : α → α} {x : α} : x ∈ l.modify i f ↔ (∃ k, k ≠ i ∧ l[k]? = some x) ∨ (∃ y, l[i]? = some y ∧ x = f y) := by
  rw [List.mem_iff_getElem?]
  constructor
  · rintro ⟨k, hk⟩
    rw [List.getElem?_modify] at hk
    by_cases e : i = k
    · subst e
      simp only [if_true] at hk
      cases hl : l[i]? with
      | none => rw [hl] at hk; simp at hk
      | some y => rw [hl] at hk; simp at hk; exact .inr ⟨y, rfl, hk.symm⟩
    · simp only [e, if_false] at hk
      exact .inl ⟨k, fun z => e z.symm, by simpa using hk⟩
  · rintro (⟨k, hk, hl⟩ | ⟨y, hl, rfl⟩)
    · exact ⟨k, by rw [List.getElem?_modify, hl]; have : ¬ i = k := fun z => hk z.symm; simp [this]⟩
    · exact ⟨i, by rw [List.getElem?_modify, hl]; simp⟩

/-- A key that is there gets another value. -/
theorem MR.set {l1 l2 : List (Value × Value)} {es : Array MapEntry} {clock idx : Nat} {k v0 v v' : Value} {x : MapEntry} (M : MR φ (l1 ++ (k, v0) :: l2) es clock) (hx : es.toList[idx]? = some x) (hk : x.key = k) (hv : VR φ v v') :
    MR φ (l1 ++ (k, v) :: l2) (es.modify idx fun e => { e with key := k, val := v' }) clock := by
  have hkeys : ((l1 ++ (k, v) :: l2).map (·.1)) = ((l1 ++ (k, v0) :: l2).map (·.1)) := by simp
  have hmap : ∀ {β : Type} (g : MapEntry → β), (g { x with key := k, val := v' } = g x) → ((es.modify idx fun e => { e with key := k, val := v' }).toList.map g) = es.toList.map g := fun {β} g hg => by
    apply List.ext_getElem?
    intro i
    simp only [Array.toList_modify, List.getElem?_map, List.getElem?_modify]
    by_cases e : idx = i
    · subst e
      rw [hx]
      simp only [if_true, Option.map_some]
      rw [← hg]
      rfl
    · simp [e]
  have hidx : ∀ {i : Nat} {y : MapEntry}, es.toList[i]? = some y → y.key = k → i = idx := fun {i y} hi hy => by
    have := M.keys'
    have h1 : (es.toList.map (·.key))[i]? = some k := by rw [List.getElem?_map, hi]; simp [hy]
    have h2 : (es.toList.map (·.key))[idx]? = some k := by rw [List.getElem?_map, hx]; simp [hk]
    obtain ⟨a1, a2⟩ := List.getElem?_eq_some_iff.1 h1
    obtain ⟨b1, b2⟩ := List.getElem?_eq_some_iff.1 h2
    rcases Nat.lt_trichotomy i idx with z | z | z
    · exact absurd (a2.trans b2.symm) (List.pairwise_iff_getElem.1 this i idx a1 b1 z)
    · exact z
    · exact absurd (b2.trans a2.symm) (List.pairwise_iff_getElem.1 this idx i b1 a1 z)
  have hout : ∀ k' u, (k', u) ∈ l1 ++ l2 → k' ≠ k := fun k' u hu e => by
    have := M.keys
    subst e
    rw [List.map_append, List.map_cons, List.nodup_append] at this
    obtain ⟨n1, n2, n3⟩ := this
    rw [List.nodup_cons] at n2
    rcases List.mem_append.1 hu with q | q
    · exact n3 k' (List.mem_map.2 ⟨_, q, rfl⟩) k' (by simp) rfl
    · exact n2.1 (List.mem_map.2 ⟨_, q, rfl⟩)
  refine { len := by have := M.len; simp at this ⊢; omega, fwd := fun k' u hu => ?_, bwd := fun e he => ?_, keys := by rw [hkeys]; exact M.keys, keys' := by rw [hmap _ (by simp [hk])]; exact M.keys',
           kind := ?_, borns := by rw [hmap _ rfl]; exact M.borns, clock := fun e he => ?_ }
  · have hu' : (k', u) = (k, v) ∨ (k', u) ∈ l1 ++ l2 := by
      simp only [List.mem_append, List.mem_cons] at hu ⊢
      rcases hu with q | q | q
      · exact .inr (.inl q)
      · exact .inl q
      · exact .inr (.inr q)
    rcases hu' with q | q
    · simp only [Prod.mk.injEq] at q
      obtain ⟨rfl, rfl⟩ := q
      exact ⟨_, by rw [Array.toList_modify, mem_modify]; exact .inr ⟨x, hx, rfl⟩, rfl, hv⟩
    · have hne := hout _ _ q
      obtain ⟨e, he, hek, hev⟩ := M.fwd k' u (by simp only [List.mem_append, List.mem_cons] at q ⊢; rcases q with q | q; exact .inl q; exact .inr (.inr q))
      obtain ⟨i, hi⟩ := List.mem_iff_getElem?.1 he
      refine ⟨e, ?_, hek, hev⟩
      rw [Array.toList_modify, mem_modify]
      exact .inl ⟨i, fun z => by rw [z, hx] at hi; cases hi; exact hne (hek.symm.trans hk), hi⟩
  · rw [Array.toList_modify, mem_modify] at he
    rcases he with ⟨i, hi, hl⟩ | ⟨y, hy, rfl⟩
    · obtain ⟨u, hu, huv⟩ := M.bwd e (List.mem_of_getElem? hl)
      refine ⟨u, ?_, huv⟩
      simp only [List.mem_append, List.mem_cons, Prod.mk.injEq] at hu ⊢
      rcases hu with q | q | q
      · exact .inl q
      · exact absurd (hidx hl q.1) hi
      · exact .inr (.inr q)
    · exact ⟨v, by simp, hv⟩
  · obtain ⟨kd, q1, q2⟩ := M.kind
    refine ⟨kd, fun p hp => ?_, fun e he => ?_⟩
    · simp only [List.mem_append, List.mem_cons] at hp
      rcases hp with q | rfl | q
      · exact q1 p (by simp [q])
      · exact q1 (k, v0) (by simp)
      · exact q1 p (by simp [q])
    · rw [Array.toList_modify, mem_modify] at he
      rcases he with ⟨i, hi, hl⟩ | ⟨y, hy, rfl⟩
      · exact q2 e (List.mem_of_getElem? hl)
      · exact q1 (k, v0) (by simp)
  · rw [Array.toList_modify, mem_modify] at he
    rcases he with ⟨i, hi, hl⟩ | ⟨y, hy, rfl⟩
    · exact M.clock e (List.mem_of_getElem? hl)
    · exact M.clock y (List.mem_of_getElem? hy)

/-- A key that is not there is put. -/
theorem MR.push {l : List (Value × Value)} {es : Array MapEntry} {clock : Nat} {j : IntKind} {n : Int} {v v' : Value} (M : MR φ l es clock) (hkd : ∀ p l2, l = p :: l2 → ∃ m, p.1 = .int j m) (hno : ∀ p ∈ l, p.1 ≠ .int j n) (hv : VR φ v v') :
    MR φ (l ++ [(.int j n, v)]) (es.push { key := .int j n, val := v', born := clock }) (clock + 1) := by
  have hkd' : ∀ p ∈ l, ∃ m, p.1 = .int j m := by
    obtain ⟨kd, q1, q2⟩ := M.kind
    cases l with
    | nil => simp
    | cons p l =>
      obtain ⟨m, hm⟩ := hkd p l rfl
      obtain ⟨m', hm'⟩ := q1 p (by simp)
      rw [hm] at hm'; simp only [Value.int.injEq] at hm'
      obtain ⟨rfl, _⟩ := hm'
      exact q1
  have hes : ∀ e ∈ es.toList, ∃ m, e.key = .int j m := fun e he => by
    obtain ⟨u, hu, _⟩ := M.bwd e he
    exact hkd' _ hu
  refine { len := by have := M.len; simp; omega, fwd := fun k u hu => ?_, bwd := fun e he => ?_, keys := ?_, keys' := ?_, kind := ⟨j, fun p hp => ?_, fun e he => ?_⟩, borns := ?_, clock := fun e he => ?_ }
  · rcases List.mem_append.1 hu with q | q
    · obtain ⟨e, he, h1, h2⟩ := M.fwd k u q
      exact ⟨e, by simp at he ⊢; exact .inl he, h1, h2⟩
    · simp only [List.mem_singleton, Prod.mk.injEq] at q
      obtain ⟨rfl, rfl⟩ := q
      exact ⟨{ key := .int j n, val := v', born := clock }, by simp, rfl, hv⟩
  · simp only [Array.toList_push, List.mem_append, List.mem_singleton] at he
    rcases he with q | rfl
    · obtain ⟨u, h1, h2⟩ := M.bwd e q
      exact ⟨u, by simp [h1], h2⟩
    · exact ⟨v, by simp, hv⟩
  · rw [List.map_append, List.nodup_append]
    refine ⟨M.keys, by simp, fun a ha b hb => ?_⟩
    simp only [List.map_cons, List.map_nil, List.mem_singleton] at hb
    subst hb
    obtain ⟨p, hp, rfl⟩ := List.mem_map.1 ha
    exact hno p hp
  · rw [Array.toList_push, List.map_append, List.nodup_append]
    refine ⟨M.keys', by simp, fun a ha b hb => ?_⟩
    simp only [List.map_cons, List.map_nil, List.mem_singleton] at hb
    subst hb
    obtain ⟨e, he, rfl⟩ := List.mem_map.1 ha
    obtain ⟨u, hu, _⟩ := M.bwd e he
    exact hno _ hu
  · rcases List.mem_append.1 hp with q | q
    · exact hkd' p q
    · simp only [List.mem_singleton] at q; subst q; exact ⟨_, rfl⟩
  · simp only [Array.toList_push, List.mem_append, List.mem_singleton] at he
    rcases he with q | rfl
    · exact hes e q
    · exact ⟨_, rfl⟩
  · rw [Array.toList_push, List.map_append, List.nodup_append]
    refine ⟨M.borns, by simp, fun a ha b hb => ?_⟩
    simp only [List.map_cons, List.map_nil, List.mem_singleton] at hb
    subst hb
    obtain ⟨e, he, rfl⟩ := List.mem_map.1 ha
    exact Nat.ne_of_lt (M.clock e he)
  · simp only [Array.toList_push, List.mem_append, List.mem_singleton] at he
    rcases he with q | rfl
    · exact Nat.lt_succ_of_lt (M.clock e q)
    · exact Nat.lt_succ_self _

theorem idle_spec {b : Nat} (W : WR w0 φ h w) (hi : idle h b = true) : ∀ a' m left cur, h.t.get a' = .iter (some m) left cur → (φ a').isSome → m ≠ b := by
  intro a' m left cur hit hs e
  obtain ⟨p, hp⟩ := Option.isSome_iff_exists.1 hs
  have := (W.busy a' p m left cur hp hit).1
  unfold idle at hi
  have := List.all_eq_true.1 hi _ this
  simp [e] at this

theorem mapPut_sound {ρ : Operand → Option Value} {rhq : Operand → Value} {t : TypeId} {om ok ov : Operand} {nx : ANext} (W : WR w0 φ h w) (hr : RhoR φ ρ rhq) (e : hop.mapPut E ρ h t om ok ov = some (nx, h')) :
    nx = .value undef ∧ ∃ w', (Instr.mapUpdate t (rhq om) (rhq ok) (rhq ov)).run E.P w = .ok () w' ∧ WR w0 φ h' w' ∧ Keeps h h' := by
  unfold hop.mapPut at e
  simp only [Option.bind_eq_some_iff] at e
  obtain ⟨m, hm, k, hk, v, hv, d, hd, e⟩ := e
  have hm' := hr om m hm
  have hk' := hr ok k hk
  have hv' := hr ov v hv
  generalize rhq om = m' at hm' ⊢
  generalize rhq ok = k' at hk' ⊢
  generalize rhq ov = v' at hv' ⊢
  have rd := run_und (E := E) (w := w) hd
  split at e
  · rename_i kt et b
    cases hko : (keyOk E kt k && idle h b) with
    | false => simp [hko] at e
    | true =>
      simp only [hko, cond_true, Option.bind_eq_some_iff, Option.some.injEq, Prod.mk.injEq] at e
      obtain ⟨l, hl, l', hput, h1, hst, rfl, rfl⟩ := e
      simp only [Bool.and_eq_true] at hko
      obtain ⟨j, n, hu, rfl⟩ := keyOk_eq hko.1
      cases hk' with | atom _ _ =>
      cases hm' with
      | atom _ q => simp [atom] at q
      | map _ p hp =>
        have hgm := getMap_some hl
        have hO := W.live b p hp
        rw [hgm] at hO
        obtain ⟨o1, o2, es, clock, hh, M⟩ := hO
        have rg := run_getObj (E := E) hh (by intro c e fz z; cases z)
        have rk := run_checkKey (E := E) (w := w) (b := false) (n := n) hu
        obtain ⟨hs1, hs2⟩ := putE_spec l l' hput
        have fin : ∀ es' clock', MR φ l' es' clock' → (Instr.mapUpdate t (.map (some p.b)) (.int j n) v').run E.P w = .ok () { w with heap := w.heap.setIfInBounds p.b (.map es' clock') } →
            ∃ w', (Instr.mapUpdate t (.map (some p.b)) (.int j n) v').run E.P w = .ok () w' ∧ WR w0 φ h1 w' ∧ Keeps h h1 := fun es' clock' M' r => by
          refine ⟨_, r, W.turnObj hp (by rw [hgm]; rfl) (by intro c k z; rw [hgm] at z; cases z) (by intro c k z; cases z) hst ⟨o1, o2, es', clock', ?_, M'⟩ (fun a' m left cur hne hit hs => idle_spec W hko.2 a' m left cur hit hs)
            (by intro m left cur z; cases z) (fun l z => ⟨_, rfl⟩), W.keeps_put hp hst⟩
          have : p.b < w.heap.size := by
            rcases Nat.lt_or_ge p.b w.heap.size with z | z
            · exact z
            · rw [Array.getElem?_eq_none z] at hh; cases hh
          simp [Array.getElem?_setIfInBounds_self_of_lt this]
        refine ⟨rfl, ?_⟩
        rcases hs1 with ⟨l1, v0, l2, rfl, rfl⟩ | ⟨hno, rfl⟩
        · have hf : findE (.int j n) (l1 ++ (.int j n, v0) :: l2) = some (some v0) ∨ True := .inr trivial
          obtain ⟨x, hx, hxk, _⟩ := M.fwd (.int j n) v0 (by simp)
          have hfk : ∃ idx y, (Instr.findKey kt (.int j n) es.toList).run E.P w = .ok (some (idx, y.val)) w ∧ es.toList[idx]? = some y ∧ y.key = .int j n := by
            obtain ⟨kd, q1, q2⟩ := M.kind
            have hkd : kd = j := by
              obtain ⟨m, hm⟩ := q1 (.int j n, v0) (by simp)
              simp at hm; exact hm.1.symm
            subst hkd
            rcases findNow_int kd n es.toList 0 q2 with ⟨f1, f2⟩ | ⟨idx, y, f1, f2, f3⟩
            · exact absurd hxk (f2 x hx)
            · refine ⟨idx, y, ?_, f2, f3⟩
              simp only [Instr.findKey, Sem.run_bind, run_und hu, Result.andThen_ok, f1, Sem.run_pure, Nat.zero_add]
          obtain ⟨idx, y, r1, r2, r3⟩ := hfk
          have hkeep : (Instr.keyThatStays (((es[idx]?).map (·.key)).getD (.int j n)) (.int j n)).run E.P w = .ok (.int j n) w := by
            have : es[idx]? = some y := by simpa using r2
            rw [this]
            simp only [Option.map_some, Option.getD_some, r3, Instr.keyThatStays]
            rw [show Instr.sameBits 10000 (.int j n) (.int j n) = true by simp [Instr.sameBits]]
            rfl
          refine fin _ _ (M.set r2 r3 hv') ?_
          simp only [Instr.mapUpdate, Sem.run_bind, rd, Result.andThen_ok, rg, rk, r1, hkeep]
          exact run_setObj (E := E) hh (by intro c e fz z; cases z)
        · have hfk : (Instr.findKey kt (.int j n) es.toList).run E.P w = .ok none w := by
            have hes : ∀ e ∈ es.toList, ∃ m, e.key = .int j m := fun e he => by
              obtain ⟨u, hu', _⟩ := M.bwd e he
              obtain ⟨kd, q1, q2⟩ := M.kind
              cases l with
              | nil => simp at hu'
              | cons p0 l0 =>
                obtain ⟨m, hm⟩ := hs2 p0 l0 rfl
                obtain ⟨m', hm'⟩ := q1 p0 (by simp)
                rw [hm] at hm'; simp only [Value.int.injEq] at hm'
                obtain ⟨rfl, _⟩ := hm'
                exact q2 e he
            rcases findNow_int j n es.toList 0 hes with ⟨f1, f2⟩ | ⟨idx, y, f1, f2, f3⟩
            · simp only [Instr.findKey, Sem.run_bind, run_und hu, Result.andThen_ok, f1, Sem.run_pure]
            · obtain ⟨u, hu', _⟩ := M.bwd y (List.mem_of_getElem? f2)
              exact absurd f3 (hno _ hu')
          refine fin _ _ (M.push hs2 hno hv') ?_
          simp only [Instr.mapUpdate, Sem.run_bind, rd, Result.andThen_ok, rg, rk, hfk]
          exact run_setObj (E := E) hh (by intro c e fz z; cases z)
  · cases e
end
end Go.Ab
