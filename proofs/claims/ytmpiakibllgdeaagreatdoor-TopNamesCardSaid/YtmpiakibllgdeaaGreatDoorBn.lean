/-
  Calls that range over maps: what all orders come to. No statement of the seat is proved here. Conditions: none.
-/
import Derived.Test.YtmpiakibllgdeaaGreatDoorBm
set_option linter.unusedVariables false
set_option linter.unusedSimpArgs false
namespace Go.Ab

theorem sameKey_true {k k' : Value} (h : sameKey k k' = some true) : k = k' := by
  unfold sameKey at h
  split at h
  · split at h
    · rename_i hk
      subst hk
      simp only [Option.some.injEq, beq_iff_eq] at h
      subst h; rfl
    · cases h
  · cases h
theorem findE_mem {k : Value} : ∀ {l : List (Value × Value)} {v : Value}, findE k l = some (some v) → (k, v) ∈ l
  | [], v, h => by simp [findE] at h
  | p :: l, v, h => by
    simp only [findE, Option.bind_eq_some_iff] at h
    obtain ⟨t, ht, h⟩ := h
    cases t with
    | true =>
      simp only [cond_true, Option.some.injEq] at h
      have := sameKey_true ht
      subst h
      rw [this]; simp
    | false =>
      simp only [cond_false] at h
      exact List.mem_cons_of_mem _ (findE_mem h)
theorem sameKey_refl {k k' : Value} {t : Bool} (h : sameKey k k' = some t) (e : k = k') : t = true := by
  subst e
  cases k <;> simp [sameKey] at h
  exact h
theorem findE_none {k : Value} : ∀ {l : List (Value × Value)}, findE k l = some none → ∀ p ∈ l, p.1 ≠ k
  | [], h, p, hp => by simp at hp
  | q :: l, h, p, hp => by
    simp only [findE, Option.bind_eq_some_iff] at h
    obtain ⟨t, ht, h⟩ := h
    cases t with
    | true => simp at h
    | false =>
      simp only [cond_false] at h
      rcases List.mem_cons.1 hp with rfl | hp
      · intro z
        have := sameKey_refl ht z.symm
        cases this
      · exact findE_none h p hp
theorem subMapE_mem {l m : List (Value × Value)} (h : subMapE l m = true) : ∀ p ∈ l, p ∈ m := by
  intro p hp
  unfold subMapE at h
  rw [List.all_eq_true] at h
  have := h p hp
  split at this
  · rename_i v hf
    have e := eqOne_eq this
    have := findE_mem hf
    rw [← e] at this
    exact this
  · cases this
theorem onceE_nodup : ∀ {l : List (Value × Value)}, onceE l = true → (l.map (·.1)).Nodup
  | [], _ => .nil
  | p :: l, h => by
    simp only [onceE, Bool.and_eq_true] at h
    obtain ⟨h1, h2⟩ := h
    split at h1
    · rename_i hf
      rw [List.map_cons, List.nodup_cons]
      refine ⟨fun z => ?_, onceE_nodup h2⟩
      obtain ⟨q, hq, he⟩ := List.mem_map.1 z
      exact findE_none hf q hq he
    · cases h1

section
variable {E : Env} {w0 w w2 : World} {φ φ1 : Phi} {h h1 : AHeap} {base : List Frame} {h0 : AHeap} {φ0 : Phi}

theorem MR.same {l m : List (Value × Value)} {es : Array MapEntry} {clock : Nat} (M : MR φ m es clock) (hs : sameMapE l m = true) : MR φ l es clock := by
  unfold sameMapE at hs
  simp only [Bool.and_eq_true] at hs
  obtain ⟨⟨⟨h1, h2⟩, h3⟩, h4⟩ := hs
  have h1 := Nat.eq_of_beq_eq_true h1
  have h2 := subMapE_mem h2
  have h3 := subMapE_mem h3
  obtain ⟨kd, k1, k2⟩ := M.kind
  exact { M with
    len := by rw [M.len, h1]
    fwd := fun k v hk => M.fwd k v (h2 _ hk)
    bwd := fun e he => let ⟨v, a, b⟩ := M.bwd e he; ⟨v, h3 _ a, b⟩
    keys := onceE_nodup h4
    kind := ⟨kd, fun p hp => k1 p (h2 p hp), k2⟩ }

theorem noneFrom_spec {t : Tr AObj} : ∀ (k b : Nat), noneFrom t k b = true → ∀ a, b ≤ a → a < b + k → t.get a = .none
  | 0, b, _, a, h1, h2 => by omega
  | k + 1, b, h, a, h1, h2 => by
    simp only [noneFrom, Bool.and_eq_true] at h
    by_cases e : a = b
    · subst e
      have := h.1
      cases hx : t.get a <;> rw [hx] at this <;> simp [isNoneE] at this
    · exact noneFrom_spec k (b + 1) h.2 a (by omega) (by omega)

/-- The heap ahead of a call, with one new block of those that the call made. -/
theorem WR.join {b : Nat} {p : Pl} {o : AObj} (W : WR w0 φ h w) (W1 : WR w0 φ1 h1 w2) (K : Keeps { h with floor := h.next } h1) (e : Ext h.next φ φ1) (hb : h.next ≤ b) (hp : φ1 b = some p)
    (nn : noneFrom h.t (h1.next - h.next) h.next = true) (hO : OR φ1 w2 p o) (hni : ∀ m l c, o ≠ .iter (some m) l c) (hn : isNone (h1.t.get b) = false) (hr : isRo o = false → isRo (h1.t.get b) = false) :
    WR w0 φ1 { h with t := h.t.set b o, next := h1.next } w2 ∧ Ext h.next φ φ1 := by
  have hm : heapMost = 8 ^ heapDepth := rfl
  have hb2 := W1.lt_most hp
  have hnx : h.next ≤ h1.next := K.next
  have old : ∀ a q, φ1 a = some q → a ≠ b → (h.t.set b o).get a = h.t.get a := fun a q ha hne => by
    rw [get_set W.full _ _ _ hb2.2 (W1.lt_most ha).2, if_neg hne]
  have new : (h.t.set b o).get b = o := by rw [get_set W.full _ _ _ hb2.2 hb2.2, if_pos rfl]
  have low : ∀ a, a < h.next → h1.t.get a = h.t.get a := fun a ha => K.same (Nat.le_refl _) a ha
  have high : ∀ a q, φ1 a = some q → h.next ≤ a → h.t.get a = .none := fun a q ha hl => noneFrom_spec _ _ nn a hl (by have := (W1.lt_most ha).1; omega)
  refine ⟨{ full := W.full.set _ _, next := W1.next, fresh := W1.fresh, live := fun a q ha => ?_, own := fun a q ha hna hra => ?_, disj := fun a a' q q' hne ha ha' hna hna' => ?_, busy := fun a q m left cur ha hi => ?_,
             size := W1.size, base := W1.base, os := W1.os, tape := W1.tape, output := W1.output }, e⟩
  · show OR φ1 w2 q ((h.t.set b o).get a)
    by_cases hab : a = b
    · subst hab
      rw [hp] at ha; cases ha
      rw [new]; exact hO
    · rw [old a q ha hab]
      rcases Nat.lt_or_ge a h.next with z | z
      · rw [← low a z]; exact W1.live a q ha
      · rw [high a q ha z]; trivial
  · change isNone ((h.t.set b o).get a) = false at hna
    change isRo ((h.t.set b o).get a) = false at hra
    by_cases hab : a = b
    · subst hab
      rw [hp] at ha; cases ha
      rw [new] at hra
      exact W1.own _ p hp hn (hr hra)
    · rw [old a q ha hab] at hna hra
      rcases Nat.lt_or_ge a h.next with z | z
      · rw [← low a z] at hna hra; exact W1.own a q ha hna hra
      · rw [high a q ha z] at hna; simp [isNone] at hna
  · have f : ∀ y r, φ1 y = some r → isNone ((h.t.set b o).get y) = false → isNone (h1.t.get y) = false := fun y r hy hz => by
      by_cases hyb : y = b
      · subst hyb; exact hn
      · rw [old y r hy hyb] at hz
        rcases Nat.lt_or_ge y h.next with z | z
        · rw [low y z]; exact hz
        · rw [high y r hy z] at hz; simp [isNone] at hz
    exact W1.disj a a' q q' hne ha ha' (f a q ha hna) (f a' q' ha' hna')
  · change (h.t.set b o).get a = _ at hi
    by_cases hab : a = b
    · subst hab
      rw [new] at hi
      exact absurd hi (hni m left cur)
    · rw [old a q ha hab] at hi
      rcases Nat.lt_or_ge a h.next with z | z
      · have ha0 : φ a = some q := by rw [← e.2 a z]; exact ha
        obtain ⟨z1, ⟨l, z2⟩, z3⟩ := W.busy a q m left cur ha0 hi
        obtain ⟨pm, hpm⟩ := Option.isSome_iff_exists.1 z3
        have hml := (W.lt_most hpm).1
        have hpm1 := e.1 _ _ hpm
        exact ⟨z1, ⟨l, by show (h.t.set b o).get m = _; rw [old m pm hpm1 (by omega)]; exact z2⟩, by rw [hpm1]; rfl⟩
      · rw [high a q ha z] at hi; cases hi
theorem WR.join0 (W : WR w0 φ h w) (W1 : WR w0 φ1 h1 w2) (K : Keeps { h with floor := h.next } h1) (e : Ext h.next φ φ1) (nn : noneFrom h.t (h1.next - h.next) h.next = true) : WR w0 φ1 { h with next := h1.next } w2 := by
  have hnx : h.next ≤ h1.next := K.next
  have low : ∀ a, a < h.next → h1.t.get a = h.t.get a := fun a ha => K.same (Nat.le_refl _) a ha
  have high : ∀ a q, φ1 a = some q → h.next ≤ a → h.t.get a = .none := fun a q ha hl => noneFrom_spec _ _ nn a hl (by have := (W1.lt_most ha).1; omega)
  refine { full := W.full, next := W1.next, fresh := W1.fresh, live := fun a q ha => ?_, own := fun a q ha hna hra => ?_, disj := fun a a' q q' hne ha ha' hna hna' => ?_, busy := fun a q m left cur ha hi => ?_,
             size := W1.size, base := W1.base, os := W1.os, tape := W1.tape, output := W1.output }
  · show OR φ1 w2 q (h.t.get a)
    rcases Nat.lt_or_ge a h.next with z | z
    · rw [← low a z]; exact W1.live a q ha
    · rw [high a q ha z]; trivial
  · change isNone (h.t.get a) = false at hna
    change isRo (h.t.get a) = false at hra
    rcases Nat.lt_or_ge a h.next with z | z
    · rw [← low a z] at hna hra; exact W1.own a q ha hna hra
    · rw [high a q ha z] at hna; simp [isNone] at hna
  · have f : ∀ y r, φ1 y = some r → isNone (h.t.get y) = false → isNone (h1.t.get y) = false := fun y r hy hz => by
      rcases Nat.lt_or_ge y h.next with z | z
      · rw [low y z]; exact hz
      · rw [high y r hy z] at hz; simp [isNone] at hz
    exact W1.disj a a' q q' hne ha ha' (f a q ha hna) (f a' q' ha' hna')
  · change h.t.get a = _ at hi
    rcases Nat.lt_or_ge a h.next with z | z
    · have ha0 : φ a = some q := by rw [← e.2 a z]; exact ha
      obtain ⟨z1, ⟨l, z2⟩, z3⟩ := W.busy a q m left cur ha0 hi
      obtain ⟨pm, hpm⟩ := Option.isSome_iff_exists.1 z3
      exact ⟨z1, ⟨l, z2⟩, by rw [e.1 _ _ hpm]; rfl⟩
    · rw [high a q ha z] at hi; cases hi

/-- What a call comes to. -/
def Ends (E : Env) (w0 : World) (base : List Frame) (h0 : AHeap) (φ0 : Phi) (fr' : Frame) (cs' : List Frame) (w : World) (v : Value) (h : AHeap) : Prop :=
  ∃ φ v' fr2 w2, Steps E.P (lone fr' cs' w) (lone fr2 base w2) ∧ fr2.leaving E.P w2 (.returned v') ∧ WR w0 φ h w2 ∧ GR E.globals φ ∧ Ext h0.next φ0 φ ∧ Keeps h0 h ∧ VR φ v v'

theorem allOf_mem {α : Type} {f : AState → Option (List α)} : ∀ {l : List AState} {out : List α}, allOf f l = some out → ∀ s ∈ l, ∃ a, f s = some a ∧ ∀ x ∈ a, x ∈ out
  | [], out, e, s, hs => absurd hs (by simp)
  | t :: l, out, e, s, hs => by
    simp only [allOf, Option.bind_eq_some_iff, Option.some.injEq] at e
    obtain ⟨a, ha, b, hb, rfl⟩ := e
    rcases List.mem_cons.1 hs with rfl | hs
    · exact ⟨a, ha, fun x hx => by simp [hx]⟩
    · obtain ⟨c, h1, h2⟩ := allOf_mem hb s hs
      exact ⟨c, h1, fun x hx => by simp [h2 x hx]⟩

theorem explore_sound (hm : E.P.follows .mixedOrders = true) (X : ExtOK E) (Y : SumOK E) : ∀ (n : Nat) {S : AState} {fr' : Frame} {cs' : List Frame} {w : World} {outs : List (Value × AHeap)}, explore E n S = some outs → Rel E w0 base h0 φ0 S fr' cs' w →
    ∃ x ∈ outs, Ends E w0 base h0 φ0 fr' cs' w x.1 x.2
  | 0, _, _, _, _, _, e, _ => by simp [explore] at e
  | n + 1, S, fr', cs', w, outs, e, R => by
    simp only [explore, Option.bind_eq_some_iff] at e
    obtain ⟨out, ho, e⟩ := e
    have later : ∀ {S' : AState} {o2 : List (Value × AHeap)}, Goes E w0 base h0 φ0 fr' cs' w S' → explore E n S' = some o2 → (∀ x ∈ o2, x ∈ outs) → ∃ x ∈ outs, Ends E w0 base h0 φ0 fr' cs' w x.1 x.2 := fun {S' o2} g he hsub => by
      obtain ⟨fr2, cs2, w2, st, R2⟩ := g
      obtain ⟨x, hx, φ, v', fr3, w3, st3, q⟩ := explore_sound hm X Y n he R2
      exact ⟨x, hsub x hx, φ, v', fr3, w3, st.trans st3, q⟩
    rcases step_sound hm X Y R ho with ⟨S', hS, g⟩ | ⟨v, h, φ, v', rfl, rfl, W, G, hE, hK, V, rfl, hl, _⟩
    · cases out with
      | next s =>
        have : S' = s := by simpa [AOut.all] using hS
        subst this
        exact later g e (fun x hx => hx)
      | fork l =>
        obtain ⟨a, h1, h2⟩ := allOf_mem e S' hS
        exact later g h1 h2
      | done v h => simp [AOut.all] at hS
    · simp only [Option.some.injEq] at e
      subst e
      exact ⟨(v, S.h), by simp, φ, v', fr', w, .refl _ _, hl, W, G, hE, hK, V⟩

theorem join_core {f : FuncId} {args' : Array Value} {outs : List (Value × AHeap)} {v : Value} {h' : AHeap} (W : WR w0 φ h w) (G : GR E.globals φ) (c : Frame) (cs : List Frame)
    (en : ∃ x ∈ outs, Ends E w0 (c :: cs) { h with floor := h.next } φ (Frame.enter E.P f args' .normal) (c :: cs) w x.1 x.2) (e : joined h outs = some (v, h')) :
    ∃ v' w' phq, Steps E.P (lone (Frame.enter E.P f args' .normal) (c :: cs) w) (lone (c.finish v') cs w') ∧ WR w0 phq h' w' ∧ Ext h.next φ phq ∧ VR phq v v' ∧ Keeps h h' := by
  obtain ⟨x, hx, φ1, v', fr2, w2, st, hl, W1, G1, hE, hK, V⟩ := en
  have st2 := st.trans (.one (step_leave_returned hl))
  unfold joined at e
  cases outs with
  | nil => simp at e
  | cons y r =>
    obtain ⟨v0, h1⟩ := y
    simp only at e
    cases hc : ((r.all fun q => eqOne v0 q.1 && Nat.beq h1.next q.2.next) && noneFrom h.t (h1.next - h.next) h.next) with
    | false => simp [hc] at e
    | true =>
      simp only [hc, Bool.not_true, cond_false] at e
      simp only [Bool.and_eq_true] at hc
      obtain ⟨hall, hnn⟩ := hc
      rw [List.all_eq_true] at hall
      obtain ⟨xv, xh⟩ := x
      -- this run's value and end are those of the first
      have same : xv = v0 ∧ xh.next = h1.next := by
        rcases List.mem_cons.1 hx with z | z
        · cases z; exact ⟨rfl, rfl⟩
        · have := hall _ z
          simp only [Bool.and_eq_true] at this
          exact ⟨(eqOne_eq this.1).symm, (Nat.eq_of_beq_eq_true this.2).symm⟩
      obtain ⟨rfl, hnext⟩ := same
      simp only at W1 V hK
      rw [← hnext] at hnn
      have keep : ∀ (b : Nat) (o : AObj), h.next ≤ b → b < 8 ^ heapDepth → Keeps h { h with t := h.t.set b o, next := xh.next } := fun b o hb hb2 => ⟨rfl, hK.next, fun le a ha => by
        have hmo : heapMost = 8 ^ heapDepth := rfl
        have := W.next
        show (h.t.set b o).get a = _
        rw [get_set W.full _ _ _ hb2 (by omega), if_neg (by omega)]⟩
      split at e
      · rename_i b
        cases hble : Nat.ble h.next b with
        | false => simp [hble] at e
        | true =>
          simp only [hble, cond_true] at e
          have hle := Nat.le_of_ble_eq_true hble
          split at e
          · rename_i l hg
            cases hall2 : (r.all (mapThere l b)) with
            | false => simp [hall2] at e
            | true =>
              simp only [hall2, cond_true, Option.some.injEq, Prod.mk.injEq] at e
              obtain ⟨rfl, rfl⟩ := e
              rw [List.all_eq_true] at hall2
              cases V with
              | atom _ z => simp [atom] at z
              | map _ p hp =>
                have hO : isNone (xh.t.get b) = false ∧ isRo (xh.t.get b) = false ∧ OR φ1 w2 p (.map l) := by
                  rcases List.mem_cons.1 hx with z | z
                  · cases z
                    have := W1.live b p hp
                    rw [hg] at this ⊢
                    exact ⟨rfl, rfl, this⟩
                  · have h2 := hall2 _ z
                    unfold mapThere at h2
                    split at h2
                    · rename_i m hgm
                      have := W1.live b p hp
                      rw [hgm] at this ⊢
                      obtain ⟨o1, o2, es, cl, hh, M⟩ := this
                      exact ⟨rfl, rfl, o1, o2, es, cl, hh, M.same h2⟩
                    · cases h2
                obtain ⟨J, e2⟩ := W.join W1 hK hE hle hp hnn hO.2.2 (by intro _ _ _ z; cases z) hO.1 (fun _ => hO.2.1)
                rw [← hnext]
                exact ⟨_, w2, φ1, st2, J, e2, .map b p hp, keep b _ hle (W1.lt_most hp).2⟩
          · cases e
      · rename_i a len cap
        cases hble : (Nat.ble h.next a.block && a.spot.isNone) with
        | false => simp [hble] at e
        | true =>
          simp only [hble, cond_true] at e
          simp only [Bool.and_eq_true, Option.isNone_iff_eq_none] at hble
          have hle := Nat.le_of_ble_eq_true hble.1
          split at e
          · rename_i cc k hg
            cases hall2 : (r.all (rowThere cc k a.block)) with
            | false => simp [hall2] at e
            | true =>
              simp only [hall2, cond_true, Option.some.injEq, Prod.mk.injEq] at e
              obtain ⟨rfl, rfl⟩ := e
              rw [List.all_eq_true] at hall2
              have hgx : xh.t.get a.block = .cells cc k := by
                rcases List.mem_cons.1 hx with z | z
                · cases z; exact hg
                · have h2 := hall2 _ z
                  unfold rowThere at h2
                  split at h2
                  · rename_i d j hgd
                    simp only [Bool.and_eq_true, decide_eq_true_eq] at h2
                    rw [hgd, h2.1, eqAtoms_eq h2.2]
                  · cases h2
              cases V with
              | atom _ z => simp [atom] at z
              | junk a' c' => simp [junk] at hble
              | slice _ p _ _ cap' s1 hp hcap =>
                have hO := W1.live a.block p hp
                rw [hgx] at hO
                obtain ⟨J, e2⟩ := W.join W1 hK hE hle hp hnn hO (by intro _ _ _ z; cases z) (by rw [hgx]; rfl) (fun z => by rw [hgx]; exact z)
                rw [← hnext]
                exact ⟨_, w2, φ1, st2, J, e2, .slice a p len cap cap' s1 hp hcap, keep a.block _ hle (W1.lt_most hp).2⟩
          · cases e
      · simp only [Option.some.injEq, Prod.mk.injEq] at e
        obtain ⟨rfl, rfl⟩ := e
        rw [← hnext]
        exact ⟨_, w2, φ1, st2, W.join0 W1 hK hE hnn, hE, V, ⟨rfl, hK.next, fun _ _ _ => rfl⟩⟩
      · cases e

/-- The relation at the beginning of a call that is joined. -/
theorem join_rel {f : FuncId} {args : List Value} {args' : Array Value} {fr : AFrame} (W : WR w0 φ h w) (G : GR E.globals φ) (A : VRs φ args args'.toList) (hfr : enterE E f args false = some fr) (c : Frame) (cs : List Frame) :
    Rel E w0 (c :: cs) { h with floor := h.next } φ ⟨fr, [], { h with floor := h.next }⟩ (Frame.enter E.P f args' .normal) (c :: cs) w := by
  have hent := enter_rel h.next h.next A hfr
  have W0 : WR w0 φ { h with floor := h.next } w := { W with }
  exact ⟨φ, h.next, W0, G, Ext.refl _ _, Keeps.refl _, hent.1, .nil _ (Nat.le_refl _), Nat.le_refl _⟩
theorem join_sound (hm : E.P.follows .mixedOrders = true) (X : ExtOK E) (Y : SumOK E) {f : FuncId} {args : List Value} {args' : Array Value} {v : Value} {h' : AHeap} (W : WR w0 φ h w) (G : GR E.globals φ) (A : VRs φ args args'.toList)
    (e : joinE E f args h = some (v, h')) (c : Frame) (cs : List Frame) :
    ∃ v' w' phq, Steps E.P (lone (Frame.enter E.P f args' .normal) (c :: cs) w) (lone (c.finish v') cs w') ∧ WR w0 phq h' w' ∧ Ext h.next φ phq ∧ VR phq v v' ∧ Keeps h h' := by
  unfold joinE at e
  simp only [Option.bind_eq_some_iff] at e
  obtain ⟨fr, hfr, outs, houts, e⟩ := e
  exact join_core W G c cs (explore_sound hm X Y _ houts (join_rel W G A hfr c cs)) e
end
end Go.Ab
