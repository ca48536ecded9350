/-
  The small machine's operations that turn no memory are the model's: all of them. No statement of the seat is proved here. Conditions: none.
-/
import Derived.Test.YtmpiakibllgdeaaGreatDoorAp
set_option linter.unusedVariables false
set_option linter.unusedSimpArgs false
namespace Go.Ab
section
variable {E : Env} {w0 w : World} {φ : Phi} {h : AHeap}

theorem findNow_int {kd : IntKind} (j : IntKind) (n : Int) : ∀ (es : List MapEntry) (i : Nat), (∀ e ∈ es, ∃ m, e.key = .int kd m) →
    (Instr.findNow (.int j) (.int kd n) es i = some none ∧ ∀ e ∈ es, e.key ≠ .int kd n) ∨
    ∃ idx e, Instr.findNow (.int j) (.int kd n) es i = some (some (i + idx, e.val)) ∧ es[idx]? = some e ∧ e.key = .int kd n
  | [], i, _ => .inl ⟨rfl, by simp⟩
  | e :: es, i, hk => by
    obtain ⟨m, hm⟩ := hk e (by simp)
    by_cases hnm : n = m
    · subst hnm
      exact .inr ⟨0, e, by simp [Instr.findNow, hm, Instr.sameNow], rfl, hm⟩
    · have hs : Instr.sameNow (.int j) (.int kd n) e.key = some false := by simp [hm, Instr.sameNow, hnm]
      rcases findNow_int j n es (i + 1) (fun e he => hk e (by simp [he])) with ⟨h1, h2⟩ | ⟨idx, e', h1, h2, h3⟩
      · refine .inl ⟨by simp [Instr.findNow, hs, h1], fun e' he' => ?_⟩
        rcases List.mem_cons.1 he' with rfl | he'
        · rw [hm]; intro z; simp at z; exact hnm z.symm
        · exact h2 e' he'
      · exact .inr ⟨idx + 1, e', by simp [Instr.findNow, hs, h1]; omega, by simpa using h2, h3⟩

theorem findE_spec {j : IntKind} {n : Int} : ∀ (l : List (Value × Value)) (r : Option Value), findE (.int j n) l = some r →
    (match r with | some v => (.int j n, v) ∈ l | none => ∀ p ∈ l, p.1 ≠ .int j n) ∧ (∀ p l', l = p :: l' → ∃ m, p.1 = .int j m)
  | [], r, e => by simp [findE] at e; subst e; exact ⟨by simp, by simp⟩
  | p :: l, r, e => by
    simp only [findE, Option.bind_eq_some_iff] at e
    obtain ⟨t, ht, e⟩ := e
    unfold sameKey at ht
    split at ht
    · rename_i k a k' b hp1 hp2
      simp only [Value.int.injEq] at hp1
      obtain ⟨rfl, rfl⟩ := hp1
      split at ht
      · rename_i hk
        subst hk
        simp only [Option.some.injEq] at ht
        have hfst : ∀ q l', p :: l = q :: l' → ∃ m, q.1 = .int j m := fun q l' hq => by
          simp only [List.cons.injEq] at hq
          rw [← hq.1]; exact ⟨_, hp2⟩
        cases t with
        | true =>
          simp only [cond_true, Option.some.injEq] at e
          subst e
          have : n = b := by simpa using ht
          subst this
          exact ⟨by simp only []; rw [← hp2]; simp, hfst⟩
        | false =>
          simp only [cond_false] at e
          have hnb : n ≠ b := by simpa using ht
          obtain ⟨h1, h2⟩ := findE_spec l r e
          refine ⟨?_, hfst⟩
          cases r with
          | some v => exact List.mem_cons_of_mem _ h1
          | none =>
            intro q hq
            rcases List.mem_cons.1 hq with rfl | hq
            · rw [hp2]; intro z; simp at z; exact hnb z.symm
            · exact h1 q hq
      · cases ht
    · cases ht

theorem keyOk_eq {kt : TypeId} {k : Value} (e : keyOk E kt k = true) : ∃ j n, undE E kt = some (.int j) ∧ k = .int j n := by
  unfold keyOk at e
  split at e
  · rename_i j j' n h1
    have : j = j' := by simpa using e
    subst this
    exact ⟨j, n, h1, rfl⟩
  · cases e

theorem run_checkKey' {kt : TypeId} {j : IntKind} {n : Int} {b : Bool} (d : Nat) (hk : undE E kt = some (.int j)) : (Instr.checkKey b (d + 1) kt (.int j n)).run E.P w = .ok () w := by
  simp only [Instr.checkKey, Sem.run_bind, run_und hk, Result.andThen_ok, Sem.run_pure]
theorem run_checkKey {kt : TypeId} {j : IntKind} {n : Int} {b : Bool} (hk : undE E kt = some (.int j)) : (Instr.checkKey b 10000 kt (.int j n)).run E.P w = .ok () w :=
  run_checkKey' 9999 hk
theorem unique_key : ∀ {l : List (Value × Value)}, (l.map (·.1)).Nodup → ∀ {k v v' : Value}, (k, v) ∈ l → (k, v') ∈ l → v = v'
  | [], _, _, _, _, h, _ => by simp at h
  | p :: l, hn, k, v, v', h, h' => by
    simp only [List.map_cons, List.nodup_cons] at hn
    have out : ∀ u, (k, u) ∈ l → p.1 ≠ k := fun u hu e => hn.1 (by rw [e]; exact List.mem_map.2 ⟨_, hu, rfl⟩)
    rcases List.mem_cons.1 h with e | h <;> rcases List.mem_cons.1 h' with e' | h'
    · rw [← e'] at e; simp only [Prod.mk.injEq, true_and] at e; exact e
    · exact absurd (by rw [← e]) (out _ h')
    · exact absurd (by rw [← e']) (out _ h)
    · exact unique_key hn.2 h h'

/-- The entry of a key, or that there is none, on both sides. -/
theorem MR.find {l : List (Value × Value)} {es : Array MapEntry} {clock : Nat} {kt : TypeId} {j : IntKind} {n : Int} {r : Option Value} (M : MR φ l es clock) (hk : undE E kt = some (.int j))
    (e : findE (.int j n) l = some r) :
    (r = none ∧ (Instr.findKey kt (.int j n) es.toList).run E.P w = .ok none w ∧ ∀ x ∈ es.toList, x.key ≠ .int j n) ∨
    ∃ v idx x, r = some v ∧ (.int j n, v) ∈ l ∧ (Instr.findKey kt (.int j n) es.toList).run E.P w = .ok (some (idx, x.val)) w ∧ es.toList[idx]? = some x ∧ x.key = .int j n ∧ VR φ v x.val := by
  obtain ⟨h1, h2⟩ := findE_spec l r e
  obtain ⟨kd, hl, hes⟩ := M.kind
  have hkd : l = [] ∨ kd = j := by
    cases l with
    | nil => exact .inl rfl
    | cons p l =>
      obtain ⟨m, hm⟩ := h2 p l rfl
      obtain ⟨m', hm'⟩ := hl p (by simp)
      rw [hm] at hm'
      simp only [Value.int.injEq] at hm'
      exact .inr hm'.1.symm
  have hes' : ∀ x ∈ es.toList, ∃ m, x.key = .int j m := by
    rcases hkd with h0 | rfl
    · intro x hx
      have := M.len
      rw [h0] at this
      have : es.toList = [] := by rw [← List.length_eq_zero_iff]; simpa using this
      rw [this] at hx; simp at hx
    · exact hes
  rcases findNow_int j n es.toList 0 hes' with ⟨f1, f2⟩ | ⟨idx, x, f1, f2, f3⟩
  · left
    have hr : r = none := by
      cases r with
      | none => rfl
      | some v =>
        obtain ⟨x, hx, hxk, _⟩ := M.fwd _ _ h1
        exact absurd hxk (f2 x hx)
    refine ⟨hr, ?_, f2⟩
    simp only [Instr.findKey, Sem.run_bind, run_und hk, Result.andThen_ok, f1, Sem.run_pure]
  · right
    obtain ⟨v, hv1, hv2⟩ := M.bwd x (List.mem_of_getElem? f2)
    rw [f3] at hv1
    cases r with
    | none => exact absurd rfl (h1 _ hv1)
    | some v' =>
      have : v' = v := unique_key M.keys h1 hv1
      subst this
      refine ⟨v', idx, x, rfl, h1, ?_, f2, f3, hv2⟩
      simp only [Instr.findKey, Sem.run_bind, run_und hk, Result.andThen_ok, f1, Sem.run_pure, Nat.zero_add]

theorem run_getObj {b : Nat} {o : Obj} (hh : w.heap[b]? = some o) (hn : ∀ c e fz, o ≠ .cells c e fz) : (getObj b).run E.P w = .ok o w := by
  show Sem.run E.P (.getObj b .pure) w = _
  simp only [Sem.run, hh]

theorem getMap_some {b : Nat} {l : List (Value × Value)} (e : getMap h (some b) = some l) : h.t.get b = .map l := by
  unfold getMap at e
  simp only at e
  split at e
  · rename_i hg; simp only [Option.some.injEq] at e; subst e; exact hg
  · cases e

theorem run_lookupE {t : TypeId} {x x' k k' v : Value} {ok : Bool} (W : WR w0 φ h w) (hx : VR φ x x') (hk : VR φ k k') (e : lookupE E h t x k ok = some v) :
    ∃ v', (Instr.lookup t x' k' ok).run E.P w = .ok v' w ∧ VR φ v v' := by
  simp only [lookupE, Option.bind_eq_some_iff] at e
  obtain ⟨d, hd, e⟩ := e
  have rd := run_und (E := E) (w := w) hd
  split at e
  · rename_i kt elem m
    cases hko : keyOk E kt k with
    | false => simp [hko] at e
    | true =>
      simp only [hko, cond_true, Option.bind_eq_some_iff] at e
      obtain ⟨l, hl, r, hr, e⟩ := e
      obtain ⟨j, n, hu, rfl⟩ := keyOk_eq hko
      cases hk with | atom _ _ =>
      have fin : ∀ (v : Value) (is : Bool) (v' : Value), VR φ v v' → VR φ (bif ok then .tuple #[v, .bool is] else v) (if ok then .tuple #[v', .bool is] else v') := fun v is v' hv => by
        cases ok with
        | true => exact .tuple _ _ (.cons hv (.cons (.atom _ rfl) .nil))
        | false => exact hv
      have zero : ∀ z, zeroE E elem = some z → VR φ z z := fun z hz => VR.const (run_zero (E := E) (w := w) hz).2
      cases m with
      | none =>
        cases hx with | atom _ _ =>
        have : l = [] := by simpa [getMap] using hl.symm
        subst this
        have hr' : r = none := by simpa [findE] using hr.symm
        subst hr'
        simp only [Option.bind_eq_some_iff, Option.some.injEq] at e
        obtain ⟨z, hz, rfl⟩ := e
        have := fin z false z (zero z hz)
        refine ⟨if ok then .tuple #[z, .bool false] else z, ?_, by cases ok <;> exact this⟩
        have hf : (Instr.findKey kt (.int j n) (#[] : Array MapEntry).toList).run E.P w = .ok none w := by
          simp only [Instr.findKey, Sem.run_bind, run_und hu, Result.andThen_ok, Instr.findNow, Sem.run_pure]
        simp only [Instr.lookup, Sem.run_bind, rd, Result.andThen_ok, Sem.run_pure, run_checkKey hu, hf, (run_zero (E := E) (w := w) hz).1]
      | some b =>
        cases hx with
        | atom _ k => simp [atom] at k
        | map _ p hp =>
          have := W.live b p hp
          rw [getMap_some hl] at this
          obtain ⟨_, _, es, clock, hh, M⟩ := this
          have rg := run_getObj (E := E) hh (by intro c e fz z; cases z)
          rcases M.find (E := E) (w := w) hu hr with ⟨rfl, hf, _⟩ | ⟨v0, idx, x, rfl, _, hf, _, _, hv⟩
          · simp only [Option.bind_eq_some_iff, Option.some.injEq] at e
            obtain ⟨z, hz, rfl⟩ := e
            have := fin z false z (zero z hz)
            refine ⟨if ok then .tuple #[z, .bool false] else z, ?_, by cases ok <;> exact this⟩
            simp only [Instr.lookup, Sem.run_bind, rd, Result.andThen_ok, Sem.run_pure, rg, run_checkKey hu, hf, (run_zero (E := E) (w := w) hz).1]
          · simp only [Option.some.injEq] at e
            subst e
            have := fin v0 true x.val hv
            refine ⟨if ok then .tuple #[x.val, .bool true] else x.val, ?_, this⟩
            simp only [Instr.lookup, Sem.run_bind, rd, Result.andThen_ok, Sem.run_pure, rg, run_checkKey hu, hf]
  · cases e
end
end Go.Ab
