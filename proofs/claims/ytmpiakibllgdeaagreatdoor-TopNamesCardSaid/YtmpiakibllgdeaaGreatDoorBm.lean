/-
  Regions that draw their order: their start in any order, and a step. No statement of the seat is proved here. Conditions: none.
-/
import Derived.Test.YtmpiakibllgdeaaGreatDoorBl
set_option linter.unusedVariables false
set_option linter.unusedSimpArgs false
namespace Go.Ab

/-! ### Any order -/
theorem nodup_len : ∀ {l m : List Nat}, l.Nodup → (∀ x ∈ l, x ∈ m) → l.length ≤ m.length
  | [], m, _, _ => by simp
  | a :: l, m, hn, hs => by
    rw [List.nodup_cons] at hn
    have hm : a ∈ m := hs a (by simp)
    have := nodup_len (l := l) (m := m.erase a) hn.2 (fun x hx => (List.mem_erase_of_ne (fun z : x = a => hn.1 (by rw [← z]; exact hx))).2 (hs x (by simp [hx])))
    rw [List.length_erase_of_mem hm] at this
    have := List.length_pos_of_mem hm
    simp; omega
structure Listed (ops : Array Oper) (listed : Array Bool) (acc : List Nat) : Prop where
  size : listed.size = ops.size
  iff : ∀ i, i < ops.size → (listed[i]? = some true ↔ i ∈ acc)
  lt : ∀ i ∈ acc, i < ops.size
  nodup : acc.Nodup
  deps : ∀ l1 i l2, acc.reverse = l1 ++ i :: l2 → ∀ o, ops[i]? = some o → ∀ e, Deps o e → e.on ∈ l1

theorem split_last {α : Type} {l l1 l2 : List α} {a x : α} (h : l ++ [a] = l1 ++ x :: l2) : (l1 = l ∧ x = a ∧ l2 = []) ∨ ∃ l3, l2 = l3 ++ [a] ∧ l = l1 ++ x :: l3 := by
  rcases List.eq_nil_or_concat l2 with rfl | ⟨l3, b, rfl⟩
  · left
    have := List.append_inj' h rfl
    simp at this
    exact ⟨this.1.symm, this.2.symm, rfl⟩
  · right
    refine ⟨l3, ?_, ?_⟩
    · have h' : l ++ [a] = (l1 ++ x :: l3) ++ [b] := by simpa using h
      have := List.append_inj' h' rfl
      simp at this
      rw [this.2]
      simp
    · have h' : l ++ [a] = (l1 ++ x :: l3) ++ [b] := by simpa using h
      exact (List.append_inj' h' rfl).1

theorem go_listed {ops : Array Oper} (hok : regionOk ops = true) : ∀ (fuel t : Nat) (listed : Array Bool) (acc : List Nat), Listed ops listed acc → fuel + acc.length = ops.size →
    ∃ listed' acc', Region.linearise.go .any ops fuel t listed acc = acc'.reverse ∧ Listed ops listed' acc' ∧ acc'.length = ops.size
  | 0, t, listed, acc, L, hf => ⟨listed, acc, rfl, L, by omega⟩
  | fuel + 1, t, listed, acc, L, hf => by
    unfold Region.linearise.go
    simp only
    generalize hrs : (List.range ops.size).filter (fun i => !listed.getD i true && ((ops[i]?).map (·.after.all fun e => !Region.binds .any e || listed.getD e.on false)).getD false) = rs
    have spec : ∀ i, i ∈ rs ↔ i < ops.size ∧ i ∉ acc ∧ ∃ o, ops[i]? = some o ∧ ∀ e, Deps o e → e.on ∈ acc := by
      intro i
      rw [← hrs]
      simp only [List.mem_filter, List.mem_range, Bool.and_eq_true, Bool.not_eq_true']
      constructor
      · rintro ⟨h1, h2, h3⟩
        have hl : i < listed.size := by rw [L.size]; exact h1
        have hg : listed[i]? = some false := by
          have : listed.getD i true = listed[i] := by simp [Array.getD_eq_getD_getElem?, hl]
          rw [Array.getElem?_eq_getElem hl, ← this, h2]
        obtain ⟨o, ho⟩ : ∃ o, ops[i]? = some o := ⟨ops[i], by simp [h1]⟩
        refine ⟨h1, fun z => ?_, o, ho, fun e hd => ?_⟩
        · rw [(L.iff i h1).2 z] at hg; cases hg
        · simp only [ho, Option.map_some, Option.getD_some] at h3
          rw [← Array.all_toList, List.all_eq_true] at h3
          have := h3 e hd.1
          rw [hd.2] at this
          simp only [Bool.not_true, Bool.false_or] at this
          have hlt : e.on < listed.size := by
            rcases Nat.lt_or_ge e.on listed.size with z | z
            · exact z
            · simp [Array.getD_eq_getD_getElem?, Array.getElem?_eq_none z] at this
          refine (L.iff e.on (by rw [← L.size]; exact hlt)).1 ?_
          rw [Array.getElem?_eq_getElem hlt]
          simpa [Array.getD_eq_getD_getElem?, hlt] using this
      · rintro ⟨h1, h2, o, ho, h3⟩
        have hl : i < listed.size := by rw [L.size]; exact h1
        refine ⟨h1, ?_, ?_⟩
        · have : listed.getD i true = listed[i] := by simp [Array.getD_eq_getD_getElem?, hl]
          rw [this]
          cases hx : listed[i] with
          | false => rfl
          | true => exact absurd ((L.iff i h1).1 (by rw [Array.getElem?_eq_getElem hl, hx])) h2
        · simp only [ho, Option.map_some, Option.getD_some]
          rw [← Array.all_toList, List.all_eq_true]
          intro e he
          cases hb : Region.binds .any e with
          | false => rfl
          | true =>
            have hin := h3 e ⟨he, hb⟩
            have hlt := L.lt _ hin
            have := (L.iff _ hlt).2 hin
            simp [Array.getD_eq_getD_getElem?, this]
    have hne : 0 < rs.length := by
      -- the least that is not listed may come
      have hex : ∃ i, i < ops.size ∧ i ∉ acc := by
        refine Classical.byContradiction fun hn => ?_
        have hall : ∀ i, i < ops.size → i ∈ acc := fun i hi => Classical.byContradiction fun z => hn ⟨i, hi, z⟩
        have : (List.range ops.size).length ≤ acc.length := nodup_len List.nodup_range (fun i hi => hall i (by simpa using hi))
        simp at this
        omega
      have : ∀ m, (∃ i, i < m ∧ i < ops.size ∧ i ∉ acc) → ∃ i, i < ops.size ∧ i ∉ acc ∧ ∀ j, j < i → j ∈ acc := by
        intro m
        induction m with
        | zero => rintro ⟨i, h, _⟩; omega
        | succ m ih =>
          rintro ⟨i, h1, h2, h3⟩
          by_cases hm : ∃ i, i < m ∧ i < ops.size ∧ i ∉ acc
          · exact ih hm
          · refine ⟨i, h2, h3, fun j hj => Classical.byContradiction fun z => hm ⟨j, by omega, by omega, z⟩⟩
      obtain ⟨i0, hi0⟩ := hex
      obtain ⟨i, h1, h2, h3⟩ := this (i0 + 1) ⟨i0, by omega, hi0⟩
      have : i ∈ rs := (spec i).2 ⟨h1, h2, ops[i], by simp [h1], fun e hd => h3 _ (regionOk_edge hok (by simp [h1]) hd)⟩
      exact List.length_pos_of_mem this
    have hlt : t % rs.length < rs.length := Nat.mod_lt _ hne
    rw [List.getElem?_eq_getElem hlt]
    simp only
    obtain ⟨h1, h2, o, ho, h3⟩ := (spec rs[t % rs.length]).1 (List.getElem_mem hlt)
    generalize rs[t % rs.length] = i at h1 h2 h3 ho
    refine go_listed hok fuel _ _ (i :: acc) ⟨by simpa using L.size, fun j hj => ?_, fun j hj => ?_, List.nodup_cons.2 ⟨h2, L.nodup⟩, fun l1 x l2 hl oo hoo e he => ?_⟩ (by simp; omega)
    · by_cases e : i = j
      · subst e
        have : i < listed.size := by rw [L.size]; exact h1
        simp [Array.getElem?_setIfInBounds_self_of_lt this]
      · rw [Array.getElem?_setIfInBounds_ne e, L.iff j hj]
        simp [Ne.symm e]
    · rcases List.mem_cons.1 hj with rfl | hj
      · exact h1
      · exact L.lt j hj
    · simp only [List.reverse_cons] at hl
      rcases split_last hl with ⟨rfl, rfl, _⟩ | ⟨l3, _, hl3⟩
      · rw [ho] at hoo; cases hoo
        simpa using h3 e he
      · exact L.deps l1 x l3 hl3 oo hoo e he

theorem linearise_ok {ops : Array Oper} (hok : regionOk ops = true) (t : Nat) :
    (Region.linearise .any ops t).Nodup ∧ (∀ j, j ∈ Region.linearise .any ops t ↔ j < ops.size) ∧
      ∀ l1 i l2, Region.linearise .any ops t = l1 ++ i :: l2 → ∀ o, ops[i]? = some o → ∀ e, Deps o e → e.on ∉ i :: l2 := by
  obtain ⟨listed, acc, h1, L, h2⟩ := go_listed hok ops.size t (Array.replicate ops.size false) [] ⟨by simp, fun i hi => by simp [Array.getElem?_replicate, hi], by simp, by simp, fun l1 i l2 h => by simp at h⟩ (by simp)
  have hn : (acc.reverse).Nodup := List.pairwise_reverse.2 (L.nodup.imp fun h => Ne.symm h)
  have e : Region.linearise .any ops t = acc.reverse := h1
  rw [e]
  refine ⟨hn, fun j => ⟨fun hj => L.lt j (by simpa using hj), fun hj => ?_⟩, fun l1 i l2 hl o ho ed hd => ?_⟩
  · refine Classical.byContradiction fun z => ?_
    have z' : j ∉ acc := by simpa using z
    have hsub : (j :: acc).length ≤ (List.range ops.size).length := nodup_len (List.nodup_cons.2 ⟨z', L.nodup⟩) (fun x hx => by
      rcases List.mem_cons.1 hx with rfl | hx
      · simpa using hj
      · simpa using L.lt x hx)
    simp at hsub
    omega
  · have hin := L.deps l1 i l2 hl o ho ed hd
    rw [hl, List.nodup_append] at hn
    intro z
    exact hn.2.2 _ hin _ z rfl

theorem numbered_sorted : ∀ (l : List Oper) (k : Nat), (numbered l k).Pairwise (fun a b => a.1 < b.1)
  | [], _ => .nil
  | o :: l, k => by
    refine .cons (fun p hp => ?_) (numbered_sorted l (k + 1))
    have := (numbered_mem l (k + 1) p.1 p.2).1 hp
    simp only; omega

theorem DrawR.start {φ : Phi} {lo hi n : Nat} {ops : Array Oper} {t : Tr Value} {ts : Array Value} (hok : regionOk ops = true) (T : TmpsR φ n t ts) (tp : Nat) :
    DrawR φ lo hi ops (numbered ops.toList 0) [] 0 n t ts (Region.linearise .any ops tp) := by
  obtain ⟨h1, h2, h3⟩ := linearise_ok hok tp
  refine { ok := hok, full := T.1, size := T.2.1, mem := fun p hp => ?_, all := fun j hj => ⟨ops[j], .inl ((numbered_mem _ _ _ _).2 ⟨Nat.zero_le _, by simp [hj]⟩)⟩, sep := fun j o o' _ hd => by simp at hd, sorted := numbered_sorted _ _,
           nodup := h1, lt := fun j hj => (h2 j).1 hj, leftIn := fun p hp => ?_, valid := h3, down := fun x hx hxl => absurd ((h2 x).2 hx) hxl, tmps := fun i hi _ => T.2.2 i hi, mask := fun j hj => by simp at hj, ghost := fun p hp => by simp at hp }
  · rcases hp with hp | hp
    · have := (numbered_mem ops.toList 0 p.1 p.2).1 hp
      simpa using this.2
    · simp at hp
  · have := (numbered_mem ops.toList 0 p.1 p.2).1 hp
    refine (h2 p.1).2 ?_
    exact lt_of_get (by simpa using this.2)

theorem recheck_spec {E : Env} {ops : Array Oper} {n mask : Nat} {t : Tr Value} {h : AHeap} : ∀ {done : List (Nat × Oper)}, recheck E ops n t h mask done = true → ∀ p ∈ done, mask.testBit p.1 = true ∨ checkOne E ops n t h p.2 = true
  | [], _, p, hp => by simp at hp
  | q :: done, hr, p, hp => by
    simp only [recheck, Bool.and_eq_true, Bool.or_eq_true] at hr
    rcases List.mem_cons.1 hp with rfl | hp
    · exact hr.1
    · exact recheck_spec hr.2 p hp

section
variable {E : Env} {w0 w : World} {h0 : AHeap} {φ0 : Phi} {base : List Frame}

/-- The start of a region that draws its order. -/
theorem begin_draw (hm : E.P.follows .mixedOrders = true) {S : AState} {out : AOut} {fr' : Frame} {cs' : List Frame} (R : Rel E w0 base h0 φ0 S fr' cs' w) (hr : S.fr.ret = false) {id : Nat} {ops : Array Oper} {k : List AItem} (htd : S.fr.todo = .code (.region id ops true) :: k)
    (e : astep E S = some out) : ∃ S' ∈ out.all, Goes E w0 base h0 φ0 fr' cs' w S' := by
  obtain ⟨φ, lo, W, G, hE, hK, F, St, hlo⟩ := R.ex
  obtain ⟨⟨fn, n, t, todo, defers, ret, deferred, round⟩, cs, h⟩ := S
  simp only at hr W F St hlo hK htd
  subst hr htd
  obtain ⟨fn', ts, todo', ds, mode, kind, r⟩ := fr'
  obtain ⟨f1, f2, f3, f4, f5, f6, f7⟩ := F
  simp only [Bool.false_eq_true, if_false] at f1 f2 f3 f4 f5 f6 f7
  subst f1 f2
  simp only [astep, astep.to] at e
  cases hok : regionOk ops with
  | false => simp [hok] at e
  | true =>
    simp only [hok, cond_true, Option.some.injEq] at e
    subst e
    cases f6 with
    | plain hk T =>
      cases hk with
      | cons a hk =>
        cases a with
        | code c =>
          refine ⟨_, List.mem_singleton.2 rfl, .one st_region_draw ⟨φ, lo, W.drewn, G, hE, hK, ⟨rfl, rfl, f3, f4, f5, ?_, fun z => by simp at z⟩, St, hlo⟩⟩
          have hs : ∀ tp, Region.schedule (E.P.follows .mixedOrders) ops tp = Region.linearise .any ops tp := fun tp => by
            unfold Region.schedule; rw [hm]; simp
          rw [hs]
          exact .draw (DrawR.start hok T _) hk

/-- A step in a region that draws its order. -/
theorem draw_sound (X : ExtOK E) (Y : SumOK E) {S : AState} {out : AOut} {fr' : Frame} {cs' : List Frame} (R : Rel E w0 base h0 φ0 S fr' cs' w) (hr : S.fr.ret = false) (hdr : isDraw S.fr.todo = true)
    (e : astep E S = some out) : ∃ S' ∈ out.all, Goes E w0 base h0 φ0 fr' cs' w S' := by
  obtain ⟨φ, lo, W, G, hE, hK, F, St, hlo⟩ := R.ex
  obtain ⟨⟨fn, n, t, todo, defers, ret, deferred, round⟩, cs, h⟩ := S
  simp only at hr W F St hlo hK hdr
  subst hr
  obtain ⟨fn', ts, todo', ds, mode, kind, r⟩ := fr'
  obtain ⟨f1, f2, f3, f4, f5, f6, f7⟩ := F
  simp only [Bool.false_eq_true, if_false] at f1 f2 f3 f4 f5 f6 f7
  subst f1 f2
  cases f6 with
  | plain hk _ => exfalso; rw [hk.notDraw] at hdr; cases hdr
  | @draw ops left done mask _ _ _ l k k' D hk =>
    simp only [astep, Option.bind_eq_some_iff] at e
    obtain ⟨g, hg, e⟩ := e
    cases hrc : recheck E ops n g.t g.h mask g.done with
    | false => simp [hrc] at e
    | true =>
      simp only [hrc, cond_true] at e
      obtain ⟨W1, K1, D1, wt⟩ := eager_sound left [] done t h g hg W hlo (by simpa using D) (by intro q hq; simp at hq)
      have hlo1 := Nat.le_trans hlo K1.next
      obtain ⟨φ2, w2, ts2, l2, steps, W2, S2, D2, fin⟩ := draw_run (E := E) (fn := fn') (k := k') (ds := ds) (kind := kind) (r := r) (cs := cs') l W1 G D1 (fun p hp hpl => by
        rcases recheck_spec hrc p hp with z | z
        · exact absurd hpl (D1.mask _ z)
        · exact z)
      have hE2 : Ext h0.next φ0 φ2 := ⟨hE.1.trans S2.1, fun a ha => (S2.2 a (Nat.lt_of_lt_of_le ha St.le)).trans (hE.2 a ha)⟩
      have St2 : StackR φ2 base h0.next cs cs' lo := St.mono S2.1 S2.2
      have G2 := G.mono S2.1
      rcases fin with rfl | ⟨i, o, l3, rfl, hio⟩
      · have hle : g.left = [] := by
          cases hgl : g.left with
          | nil => rfl
          | cons p _ => have := D2.leftIn p (by rw [hgl]; simp); simp at this
        rw [hle] at e
        simp only [Option.some.injEq] at e
        subst e
        refine ⟨_, List.mem_singleton.2 rfl, _, _, _, steps.trans (.one st_region_end), ⟨φ2, lo, W2, G2, hE2, hK.trans K1, ⟨rfl, rfl, f3, f4.mono S2.1, f5.mono S2.1, .plain (hk.mono S2.1) ⟨D2.full, D2.size, fun i hi => D2.tmps i hi (by simp)⟩, fun z => by simp at z⟩, St2, hlo1⟩⟩
      · obtain ⟨left', hleft⟩ := D2.first wt hio
        rw [hleft] at e
        simp only [Option.bind_eq_some_iff] at e
        obtain ⟨wd, hwd, e⟩ := e
        cases wd with
        | false => simp at e
        | true =>
          simp only [cond_true, Option.bind_eq_some_iff] at e
          obtain ⟨⟨nx, h2⟩, hop, e⟩ := e
          obtain ⟨S', rfl⟩ := nextE_out e
          have ho : ops[i]? = some o := D2.mem (i, o) (.inl hio)
          have hw := D2.head_wanted ho hwd
          have F2 : FrameR φ2 lo g.h.next ⟨fn', n, g.t, .draw ops ((i, o) :: left') g.done mask :: k, defers, false, deferred, round⟩ (fRun fn' ts2 (.inRegion ops (i :: l3) :: k') ds kind r) :=
            ⟨rfl, rfl, f3, f4.mono S2.1, f5.mono S2.1, .draw (hleft ▸ D2) (hk.mono S2.1), fun z => by simp at z⟩
          have Dn := hop_sound (E := E) (o := o) X W2 (evR_rho (ds := ds) G2 (D2.head_reads ho)) hop
          obtain ⟨fr3, cs3, w3, st3, R3⟩ := next_sound Y W2 G2 hE2 (hK.trans K1) F2 (fun ops2 left2 done2 mask2 k2 z => by
            simp only [List.cons.injEq, AItem.draw.injEq] at z
            obtain ⟨⟨rfl, rfl, rfl, rfl⟩, rfl⟩ := z
            exact ⟨i, o, left', l3, k', rfl, rfl⟩) St2 hlo1 ho hw (fun c z => by rw [z] at hop; exact hop_defer hop) Dn e
          exact ⟨S', List.mem_singleton.2 rfl, fr3, cs3, w3, steps.trans st3, R3⟩

/-- A step of the small machine is some steps of the model's. -/
theorem step_sound (hm : E.P.follows .mixedOrders = true) (X : ExtOK E) (Y : SumOK E) {S : AState} {out : AOut} {fr' : Frame} {cs' : List Frame} (R : Rel E w0 base h0 φ0 S fr' cs' w) (e : astep E S = some out) :
    (∃ S' ∈ out.all, Goes E w0 base h0 φ0 fr' cs' w S') ∨
    (∃ v h φ v', out = .done v h ∧ h = S.h ∧ WR w0 φ h w ∧ GR E.globals φ ∧ Ext h0.next φ0 φ ∧ Keeps h0 h ∧ VR φ v v' ∧ cs' = base ∧ fr'.leaving E.P w (.returned v') ∧ fr'.fn = S.fr.fn) := by
  cases hr : S.fr.ret with
  | true =>
    rcases ret_sound X R hr e with ⟨S', rfl, k⟩ | k
    · exact .inl ⟨S', List.mem_singleton.2 rfl, k⟩
    · exact .inr k
  | false =>
    left
    cases hdr : isDraw S.fr.todo with
    | true => exact draw_sound X Y R hr hdr e
    | false =>
      by_cases hx : ∃ id ops k, S.fr.todo = .code (.region id ops true) :: k
      · obtain ⟨id, ops, k, hx⟩ := hx
        exact begin_draw hm R hr hx e
      · exact run_sound X Y R hr hdr (fun id ops k z => hx ⟨id, ops, k, z⟩) e

/-- Many steps of the small machine. -/
theorem arun_sound (hm : E.P.follows .mixedOrders = true) (X : ExtOK E) (Y : SumOK E) : ∀ (m : Nat) {S S2 : AState} {fr' : Frame} {cs' : List Frame} {w : World}, Rel E w0 base h0 φ0 S fr' cs' w → arun E m S = some (.next S2) → Goes E w0 base h0 φ0 fr' cs' w S2
  | 0, S, S2, fr', cs', w, R, e => by
    simp only [arun, Option.some.injEq, AOut.next.injEq] at e
    subst e
    exact ⟨fr', cs', w, .refl _ _, R⟩
  | m + 1, S, S2, fr', cs', w, R, e => by
    simp only [arun] at e
    split at e
    · rename_i S1 hs
      rcases step_sound hm X Y R hs with ⟨S', hS, fr1, cs1, w1, st, R1⟩ | ⟨_, _, _, _, z, _⟩
      · have : S' = S1 := by simpa [AOut.all] using hS
        subst this
        obtain ⟨fr2, cs2, w2, st2, R2⟩ := arun_sound hm X Y m R1 e
        exact ⟨fr2, cs2, w2, st.trans st2, R2⟩
      · cases z
    · cases e
end
end Go.Ab
