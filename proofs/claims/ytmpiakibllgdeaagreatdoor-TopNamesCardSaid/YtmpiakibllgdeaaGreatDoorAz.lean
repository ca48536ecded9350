/-
  The small machine's operations that turn memory are the model's: delete, texts that share bytes, ranges over maps. No statement of the seat is proved here. Conditions: none.
-/
import Derived.Test.YtmpiakibllgdeaaGreatDoorAy
set_option linter.unusedVariables false
set_option linter.unusedSimpArgs false
namespace Go.Ab
section
variable {E : Env} {w0 w : World} {φ : Phi} {h h' : AHeap}

theorem MR.erase {l1 l2 : List (Value × Value)} {es : Array MapEntry} {clock idx : Nat} {k v0 : Value} {x : MapEntry} (M : MR φ (l1 ++ (k, v0) :: l2) es clock) (hx : es.toList[idx]? = some x) (hk : x.key = k) :
    MR φ (l1 ++ l2) (es.eraseIdxIfInBounds idx) clock := by
  have hlt : idx < es.size := by
    have := (List.getElem?_eq_some_iff.1 hx).1
    simpa using this
  have hes : (es.eraseIdxIfInBounds idx).toList = es.toList.eraseIdx idx := by
    simp [Array.eraseIdxIfInBounds, hlt]
  have hidx : ∀ {i : Nat} {y : MapEntry}, es.toList[i]? = some y → y.key = k → i = idx := fun {i y} hi hy => by
    have := M.keys'
    have h1 : (es.toList.map (·.key))[i]? = some k := by rw [List.getElem?_map, hi]; simp [hy]
    have h2 : (es.toList.map (·.key))[idx]? = some k := by rw [List.getElem?_map, hx]; simp [hk]
    obtain ⟨a1, a2⟩ := List.getElem?_eq_some_iff.1 h1
    obtain ⟨b1, b2⟩ := List.getElem?_eq_some_iff.1 h2
    rcases Nat.lt_trichotomy i idx with z | z | z
    · exact absurd (a2.trans b2.symm) (List.pairwise_iff_getElem.1 this i idx a1 b1 z)
    · exact z
    · exact absurd (b2.trans a2.symm) (List.pairwise_iff_getElem.1 this idx i b1 a1 z)
  have hout : ∀ k' u, (k', u) ∈ l1 ++ l2 → k' ≠ k := fun k' u hu e => by
    have := M.keys
    subst e
    rw [List.map_append, List.map_cons, List.nodup_append] at this
    obtain ⟨n1, n2, n3⟩ := this
    rw [List.nodup_cons] at n2
    rcases List.mem_append.1 hu with q | q
    · exact n3 k' (List.mem_map.2 ⟨_, q, rfl⟩) k' (by simp) rfl
    · exact n2.1 (List.mem_map.2 ⟨_, q, rfl⟩)
  have hsub : (es.toList.eraseIdx idx).Sublist es.toList := List.eraseIdx_sublist _ _
  have hsubl : (l1 ++ l2).Sublist (l1 ++ (k, v0) :: l2) := List.Sublist.append (List.Sublist.refl _) (List.sublist_cons_self _ _)
  have inl : ∀ p, p ∈ l1 ++ l2 → p ∈ l1 ++ (k, v0) :: l2 := fun p hp => hsubl.subset hp
  refine { len := ?_, fwd := fun k' u hu => ?_, bwd := fun e he => ?_, keys := (hsubl.map _).nodup M.keys, keys' := by rw [hes]; exact (hsub.map _).nodup M.keys', kind := ?_, borns := by rw [hes]; exact (hsub.map _).nodup M.borns, clock := fun e he => M.clock e (hsub.subset (hes ▸ he)) }
  · have h1 := M.len
    have h2 : (es.eraseIdxIfInBounds idx).size = (es.toList.eraseIdx idx).length := by rw [← hes, Array.length_toList]
    rw [h2, List.length_eraseIdx_of_lt (by simpa using hlt)]
    simp at h1 ⊢; omega
  · obtain ⟨e, he, hek, hev⟩ := M.fwd k' u (inl _ hu)
    obtain ⟨i, hi⟩ := List.mem_iff_getElem?.1 he
    refine ⟨e, ?_, hek, hev⟩
    rw [hes, List.mem_eraseIdx_iff_getElem?]
    exact ⟨i, fun z => by rw [z, hx] at hi; cases hi; exact hout _ _ hu (hek.symm.trans hk), hi⟩
  · rw [hes, List.mem_eraseIdx_iff_getElem?] at he
    obtain ⟨i, hi, hl⟩ := he
    obtain ⟨u, hu, huv⟩ := M.bwd e (List.mem_of_getElem? hl)
    refine ⟨u, ?_, huv⟩
    simp only [List.mem_append, List.mem_cons, Prod.mk.injEq] at hu ⊢
    rcases hu with q | q | q
    · exact .inl q
    · exact absurd (hidx hl q.1) hi
    · exact .inr q
  · obtain ⟨kd, q1, q2⟩ := M.kind
    exact ⟨kd, fun p hp => q1 p (inl p hp), fun e he => q2 e (hsub.subset (hes ▸ he))⟩

theorem delete_sound {t : TypeId} {ts : List TypeId} {b : Nat} {k k' : Value} {p : Pl} {l l' : List (Value × Value)} {kt et : TypeId} {ty : TypeId} (W : WR w0 φ h w) (hp : φ b = some p) (hk : VR φ k k') (hd : undE E t = some (.map kt et)) (hg : h.t.get b = .map l)
    (hko : keyOk E kt k = true) (hid : idle h b = true) (hdr : dropE k l = some l') (hput : h.put b (.map l') = some h') :
    ∃ w', (Builtin.delete_ (t :: ts).toArray ty [.map (some p.b), k'].toArray).run E.P w = .ok (.tuple #[]) w' ∧ WR w0 φ h' w' ∧ Keeps h h' := by
  obtain ⟨j, n, hu, rfl⟩ := keyOk_eq hko
  cases hk with | atom _ _ =>
  have hO := W.live b p hp
  rw [hg] at hO
  obtain ⟨o1, o2, es, clock, hh, M⟩ := hO
  have rd := run_und (E := E) (w := w) hd
  have rg := run_getObj (E := E) hh (by intro c e fz z; cases z)
  have rk := run_checkKey (E := E) (w := w) (b := es.isEmpty) (n := n) hu
  obtain ⟨hs1, hs2⟩ := dropE_spec l l' hdr
  have hes : ∀ e ∈ es.toList, ∃ m, e.key = .int j m := fun e he => by
    obtain ⟨u, hu', _⟩ := M.bwd e he
    obtain ⟨kd, q1, q2⟩ := M.kind
    cases l with
    | nil => simp at hu'
    | cons p0 l0 =>
      obtain ⟨m, hm⟩ := hs2 p0 l0 rfl
      obtain ⟨m', hm'⟩ := q1 p0 (by simp)
      rw [hm] at hm'; simp only [Value.int.injEq] at hm'
      obtain ⟨rfl, _⟩ := hm'
      exact q2 e he
  have fin : ∀ es', MR φ l' es' clock → (Builtin.delete_ (t :: ts).toArray ty [.map (some p.b), .int j n].toArray).run E.P w = .ok (.tuple #[]) { w with heap := w.heap.setIfInBounds p.b (.map es' clock) } →
      ∃ w', (Builtin.delete_ (t :: ts).toArray ty [.map (some p.b), .int j n].toArray).run E.P w = .ok (.tuple #[]) w' ∧ WR w0 φ h' w' ∧ Keeps h h' := fun es' M' r => by
    refine ⟨_, r, W.turnObj hp (by rw [hg]; rfl) (by intro c k z; rw [hg] at z; cases z) (by intro c k z; cases z) hput ⟨o1, o2, es', clock, ?_, M'⟩ (fun a' m left cur hne hit hs => idle_spec W hid a' m left cur hit hs)
      (by intro m left cur z; cases z) (fun l z => ⟨_, rfl⟩), W.keeps_put hp hput⟩
    have : p.b < w.heap.size := by
      rcases Nat.lt_or_ge p.b w.heap.size with z | z
      · exact z
      · rw [Array.getElem?_eq_none z] at hh; cases hh
    simp [Array.getElem?_setIfInBounds_self_of_lt this]
  rcases findNow_int j n es.toList 0 hes with ⟨f1, f2⟩ | ⟨idx, y, f1, f2, f3⟩
  · have hl' : l' = l := by
      rcases hs1 with ⟨l1, v0, l2, rfl, rfl⟩ | ⟨_, rfl⟩
      · obtain ⟨x, hx, hxk, _⟩ := M.fwd (.int j n) v0 (by simp)
        exact absurd hxk (f2 x hx)
      · rfl
    subst hl'
    refine fin es M ?_
    have rf : (Instr.findKey kt (.int j n) es.toList).run E.P w = .ok none w := by
      simp only [Instr.findKey, Sem.run_bind, run_und hu, Result.andThen_ok, f1, Sem.run_pure]
    have rs := run_setObj (E := E) (o' := .map es clock) hh (by intro c e fz z; cases z)
    simp only [Builtin.delete_, List.getElem?_toArray, List.getElem?_cons_zero, List.getElem?_cons_succ, Sem.run_bind, rd, Result.andThen_ok, rg, rk, rf, rs, Sem.run_pure]
  · rcases hs1 with ⟨l1, v0, l2, rfl, rfl⟩ | ⟨hno, rfl⟩
    · refine fin _ (M.erase f2 f3) ?_
      have rf : (Instr.findKey kt (.int j n) es.toList).run E.P w = .ok (some (idx, y.val)) w := by
        simp only [Instr.findKey, Sem.run_bind, run_und hu, Result.andThen_ok, f1, Sem.run_pure, Nat.zero_add]
      have rs := run_setObj (E := E) (o' := .map (es.eraseIdxIfInBounds idx) clock) hh (by intro c e fz z; cases z)
      simp only [Builtin.delete_, List.getElem?_toArray, List.getElem?_cons_zero, List.getElem?_cons_succ, Sem.run_bind, rd, Result.andThen_ok, rg, rk, rf, rs, Sem.run_pure]
    · obtain ⟨u, hu', _⟩ := M.bwd y (List.mem_of_getElem? f2)
      exact absurd f3 (hno _ hu')

theorem freeze_heap (w : World) (a : Addr) (n : Nat) : (w.freeze a n).heap.size = w.heap.size ∧ (∀ x, x ≠ a.block → (w.freeze a n).heap[x]? = w.heap[x]?) ∧ (w.freeze a n).os = w.os ∧ (w.freeze a n).tape = w.tape ∧ (w.freeze a n).output = w.output := by
  unfold World.freeze
  split
  · exact ⟨rfl, fun _ _ => rfl, rfl, rfl, rfl⟩
  · refine ⟨by simp, fun x hx => ?_, rfl, rfl, rfl⟩
    simp only [Array.getElem?_modify]
    rw [if_neg (fun z => hx z.symm)]

/-- Behind a row that the small machine strikes out the model's world may do with it what it likes. -/
theorem WR.drop {w' : World} {b : Nat} {p : Pl} (W : WR w0 φ h w) (hp : φ b = some p) (hn : isNone (h.t.get b) = false) (hr : isRo (h.t.get b) = false) (hnm : ∀ l, h.t.get b ≠ .map l) (hput : h.put b .none = some h')
    (hs : w'.heap.size = w.heap.size) (hb : ∀ x, x ≠ p.b → w'.heap[x]? = w.heap[x]?) (hos : w'.os = w.os) (ht : w'.tape = w.tape) (ho : w'.output = w.output) : WR w0 φ h' w' := by
  refine W.turn hput hp hn hr rfl hs hb hos ht ho trivial ?_ ?_ (by intro m l c z; cases z) (fun l z => absurd z (hnm l))
  · intro a' p' hne ha' hpb hn'
    exact absurd hpb.symm (W.disj b a' p p' (fun z => hne z.symm) hp ha' hn hn')
  · intro a' p' m left cur pm hne ha' hit hpm heq
    obtain ⟨_, ⟨l, hl⟩, _⟩ := W.busy a' p' m left cur ha' hit
    have hmb : m ≠ b := fun z => by rw [z] at hl; exact hnm l hl
    exact W.disj m b pm p hmb hpm hp (by rw [hl]; rfl) hn heq

theorem WR.busier (W : WR w0 φ h w) (x : Nat × Nat) : WR w0 φ { h with busy := x :: h.busy } w :=
  { W with busy := fun a p b l c ha hi => let ⟨z1, z2⟩ := W.busy a p b l c ha hi; ⟨List.mem_cons_of_mem _ z1, z2⟩ }

theorem range_sound {t : TypeId} {o : Operand} {nx : ANext} {ρ : Operand → Option Value} {rhq : Operand → Value} (W : WR w0 φ h w) (hr : RhoR φ ρ rhq) (e : hop E ρ h (.range t o) = some (nx, h')) :
    ∃ u u' w' phq, nx = .value u ∧ (Instr.range t (rhq o)).run E.P w = .ok u' w' ∧ WR w0 phq h' w' ∧ Ext h.next φ phq ∧ VR phq u u' ∧ Keeps h h' := by
  unfold hop at e
  simp only [Option.bind_eq_some_iff] at e
  obtain ⟨m, hm, d, hd, e⟩ := e
  have rd := run_und (E := E) (w := w) hd
  have hm' := hr o m hm
  generalize rhq o = m' at hm' ⊢
  split at e
  · simp only [Option.bind_eq_some_iff, Option.some.injEq, Prod.mk.injEq] at e
    obtain ⟨⟨a, h1⟩, hal, rfl, rfl⟩ := e
    cases hm' with | atom _ _ =>
    have := W.new hal (.mapIter none 0 #[] 0) ⟨w.heap.size, 0, 1, none⟩ rfl rfl (by intro m l c z; cases z) ⟨rfl, rfl, none, 0, #[], 0, pushed_new w _, rfl⟩
    refine ⟨.pointer (some ⟨a, 0, none⟩), .pointer (some ⟨w.heap.size, 0, none⟩), _, _, rfl, ?_, this.1, this.2, ?_, W.keeps_alloc hal⟩
    · simp only [Instr.range, Sem.run_bind, rd, Result.andThen_ok, Sem.run_pure, run_newObj]
      rfl
    · exact VR.ptr (φ := upd φ a ⟨w.heap.size, 0, 1, none⟩) ⟨a, 0, none⟩ ⟨w.heap.size, 0, 1, none⟩ rfl (upd_same _ _ _)
  · rename_i kt et b
    simp only [Option.bind_eq_some_iff, Option.some.injEq, Prod.mk.injEq] at e
    obtain ⟨l, hl, ⟨a, h1⟩, hal, rfl, rfl⟩ := e
    cases hm' with
    | atom _ q => simp [atom] at q
    | map _ p hp =>
      have hgm := getMap_some hl
      have hO := W.live b p hp
      rw [hgm] at hO
      obtain ⟨o1, o2, es, clock, hh, M⟩ := hO
      have rg := run_getObj (E := E) hh (by intro c e fz z; cases z)
      obtain ⟨e1, e2, e3⟩ := alloc_eq hal
      have W2 := W.busier (b, h.next)
      have hal2 : ({ h with busy := (b, h.next) :: h.busy } : AHeap).alloc (.iter (some b) l none) = some (a, { h1 with busy := (b, h.next) :: h.busy }) := by
        unfold AHeap.alloc at hal ⊢
        cases hb : Nat.blt h.next heapMost with
        | false => rw [hb] at hal; cases hal
        | true =>
          rw [hb] at hal
          simp only [cond_true, Option.some.injEq, Prod.mk.injEq] at hal ⊢
          obtain ⟨rfl, rfl⟩ := hal
          exact ⟨rfl, rfl⟩
      have hpl : p.b < w.heap.size := by
        rcases Nat.lt_or_ge p.b w.heap.size with z | z
        · exact z
        · rw [Array.getElem?_eq_none z] at hh; cases hh
      have hfr : φ a = none := W.fresh a (by omega)
      have hsub : Sub φ (upd φ a ⟨w.heap.size, 0, 1, none⟩) := Sub.upd hfr
      have := W2.new hal2 (.mapIter (some p.b) clock #[] clock) ⟨w.heap.size, 0, 1, none⟩ rfl rfl (by
          intro m l2 c z; cases z
          exact ⟨List.mem_cons_self, ⟨l, hgm⟩, by rw [hp]; rfl⟩)
        ⟨rfl, rfl, some p.b, clock, #[], clock, pushed_new w _, p, hsub _ _ hp, rfl,
          ⟨es, clock, by rw [pushed_old w _ hpl]; exact hh, rfl, rfl, M.borns, M.keys', M.clock, fun k v hkv => by
            obtain ⟨e, z1, z2, z3⟩ := M.fwd k v hkv
            exact ⟨e, z1, z2, z3.mono hsub, by simp⟩, fun e he _ => by
            obtain ⟨v, z1, z2⟩ := M.bwd e he
            exact ⟨v, z1, z2.mono hsub⟩, M.keys, fun k v z => by cases z⟩⟩
      have K := W.keeps_alloc hal
      refine ⟨.pointer (some ⟨a, 0, none⟩), .pointer (some ⟨w.heap.size, 0, none⟩), World.pushed w (.mapIter (some p.b) clock #[] clock), _, rfl, ?_, ?_, this.2, ?_, ⟨K.floor, K.next, K.same⟩⟩
      · simp only [Instr.range, Sem.run_bind, rd, Result.andThen_ok, rg, Sem.run_pure, run_newObj]
        rfl
      · have hbz : ({ h1 with busy := (b, a) :: h1.busy } : AHeap) = { h1 with busy := (b, h.next) :: h.busy } := by rw [e1, e3]
        rw [hbz]
        exact this.1
      · exact VR.ptr (φ := upd φ a ⟨w.heap.size, 0, 1, none⟩) ⟨a, 0, none⟩ ⟨w.heap.size, 0, 1, none⟩ rfl (upd_same _ _ _)
  · cases e
end
end Go.Ab
