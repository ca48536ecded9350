/-
  The next entry of a map, in any order, on both sides. No statement of the seat is proved here. Conditions: none.
-/
import Derived.Test.YtmpiakibllgdeaaGreatDoorBf
import Derived.Laws.IdiomRangeMap
set_option linter.unusedVariables false
set_option linter.unusedSimpArgs false
namespace Go.Ab

theorem inj_of_nodup {α β : Type} (f : α → β) : ∀ {l : List α}, (l.map f).Nodup → ∀ {a b : α}, a ∈ l → b ∈ l → f a = f b → a = b
  | x :: l, hn, a, b, ha, hb, e => by
    have hn' : f x ∉ l.map f ∧ (l.map f).Nodup := List.nodup_cons.1 hn
    rcases List.mem_cons.1 ha with h1 | h1 <;> rcases List.mem_cons.1 hb with h2 | h2
    · rw [h1, h2]
    · exact absurd (List.mem_map.2 ⟨b, h2, by rw [← e, h1]⟩ : f x ∈ l.map f) hn'.1
    · exact absurd (List.mem_map.2 ⟨a, h1, by rw [e, h2]⟩ : f x ∈ l.map f) hn'.1
    · exact inj_of_nodup f hn'.2 h1 h2 e

/-- Each of those left may be the next one. -/
theorem picks_spec : ∀ (l pre : List (Value × Value)) (x : Value × Value), x ∈ l → ∃ r, (x, r) ∈ picks pre l ∧ ∃ a b, l = a ++ x :: b ∧ r = pre ++ a ++ b
  | y :: l, pre, x, h => by
    rcases List.mem_cons.1 h with rfl | h
    · exact ⟨pre ++ l, by simp [picks], [], l, rfl, by simp⟩
    · obtain ⟨r, h1, a, b, rfl, h2⟩ := picks_spec l (pre ++ [y]) x h
      exact ⟨r, by simp [picks, h1], y :: a, b, by simp, by simp [h2]⟩

section
variable {E : Env} {w0 w : World} {φ : Phi} {h h' : AHeap}

theorem run_nextMap {P : Program} {b bm clock : Nat} {seen : Array Nat} {es : Array MapEntry} (ty : TypeId) (hi : w.heap[b]? = some (.mapIter (some bm) clock seen clock)) (hb : w.heap[bm]? = some (.map es clock)) (hold : ∀ x ∈ es.toList, x.born < clock) :
    ((∀ x ∈ es.toList, x.born ∈ seen.toList) ∧ (Instr.next (.pointer (some ⟨b, 0, none⟩)) false ty).run P w = .ok (.tuple #[.bool false]) w) ∨
    ∃ x ∈ es.toList, x.born ∉ seen.toList ∧ ∃ d, (Instr.next (.pointer (some ⟨b, 0, none⟩)) false ty).run P w = .ok (.tuple #[.bool true, x.key, x.val]) { w with drawn := d, heap := w.heap.setIfInBounds b (.mapIter (some bm) clock (seen.push x.born) clock) } := by
  simp only [Instr.next, getObj, Sem.run_bind, Sem.run, hi, hb, Result.andThen, next_test_false seen es clock clock hold (Nat.le_refl _), Bool.false_eq_true, if_false]
  have hmem : ∀ x ∈ (Array.filter (fun e => !seen.contains e.born) es).toList, x.born < clock ∧ x ∈ es.toList ∧ x.born ∉ seen.toList := fun x hx => by
    simp at hx; exact ⟨hold x (by simpa using hx.1), by simpa using hx.1, by simpa using hx.2⟩
  have hmem' : ∀ x ∈ es.toList, x.born ∉ seen.toList → x ∈ (Array.filter (fun e => !seen.contains e.born) es).toList := fun x hx hn => by
    simp at hx hn ⊢; exact ⟨hx, hn⟩
  generalize Array.filter (fun e => !seen.contains e.born) es = L at hmem hmem' ⊢
  have e1 : L.filter (fun x => decide (x.born < clock)) = L := Array.filter_eq_self.2 (fun x hx => by simpa using (hmem x (by simpa using hx)).1)
  have e2 : L.filter (fun x => decide (x.born ≥ clock)) = #[] := by
    rw [Array.filter_eq_empty_iff]
    intro x hx
    have := (hmem x (by simpa using hx)).1
    simp
    omega
  simp only [e1, e2, Array.append_empty]
  by_cases h0 : L.size = 0
  · left
    have : L = #[] := Array.eq_empty_of_size_eq_zero h0
    subst this
    refine ⟨fun x hx => ?_, ?_⟩
    · by_cases hs : x.born ∈ seen.toList
      · exact hs
      · have := hmem' x hx hs
        simp at this
    · simp [choose, Sem.run, Question.forced]
  · right
    have hne : L.isEmpty = false := by simp [Array.isEmpty, h0]
    simp only [hne, Bool.false_eq_true, if_false, Array.empty_append, Array.size_map]
    have hch : ∃ (j : Nat) (d : Nat), j < L.size ∧ (choose (Question.mapNext L.size)).run P w = .ok j { w with drawn := d } := by
      by_cases hf : L.size ≤ 1
      · exact ⟨0, w.drawn, by omega, by simp [choose, Sem.run, Question.forced, hf]⟩
      · exact ⟨_, w.drawn + 1, Nat.mod_lt _ (by omega), by
          simp only [choose, Sem.run, Question.forced, decide_eq_true_eq, hf, if_false, Question.cut]
          rfl⟩
    obtain ⟨j, d, hj, hrun⟩ := hch
    have := hmem L[j] (by simp)
    refine ⟨L[j], this.2.1, this.2.2, d, ?_⟩
    have hset : ∀ (o' : Obj), (setObj b o').run P { w with drawn := d } = .ok () { w with drawn := d, heap := w.heap.setIfInBounds b o' } := fun o' => by
      simp only [setObj, Sem.run, hi]
    simp only [hrun, Array.getElem?_map, Array.getElem?_eq_getElem hj, Option.map_some, Sem.run_bind, hset, Result.andThen]
    rfl

theorem WR.withDrawn (W : WR w0 φ h w) (d : Nat) : WR w0 φ h { w with drawn := d } := by
  exact { W with live := fun a p hp => (W.live a p hp).mono (Sub.refl φ) (fun _ => rfl) (fun _ _ _ _ _ _ => rfl) }

theorem WR.turnIter {a b : Nat} {p pm : Pl} {left rest : List (Value × Value)} {cur : Option (Value × Value)} {x : Value × Value} {clock : Nat} {seen : Array Nat} {es : Array MapEntry} {e : MapEntry} (W : WR w0 φ h w) (hp : φ a = some p) (hg : h.t.get a = .iter (some b) left cur)
    (hpm : φ b = some pm) (ho : p.o = 0 ∧ p.r = 1) (hh : w.heap[p.b]? = some (.mapIter (some pm.b) clock seen clock)) (hm : w.heap[pm.b]? = some (.map es clock)) (I : IterR φ w pm left cur clock seen clock)
    (he : e ∈ es.toList) (hs : e.born ∉ seen.toList) (hx : x ∈ left) (hxk : e.key = x.1) (hxv : VR φ x.2 e.val)
    (h1 : ∀ y ∈ rest, y ∈ left ∧ y.1 ≠ x.1) (h2 : ∀ y ∈ left, y = x ∨ y ∈ rest) (h3 : (rest.map (·.1)).Nodup)
    (ep : h.put a (.iter (some b) rest (some x)) = some h') :
    WR w0 φ h' { w with heap := w.heap.setIfInBounds p.b (.mapIter (some pm.b) clock (seen.push e.born) clock) } ∧ Keeps h h' := by
  obtain ⟨es2, cl2, r1, r2, r3, r4, r5, r6, r7, r8, r9, r10⟩ := I.es
  rw [hm] at r1
  simp only [Option.some.injEq, Obj.map.injEq] at r1
  obtain ⟨rfl, rfl⟩ := r1
  have hne : pm.b ≠ p.b := fun z => by rw [z, hh] at hm; cases hm
  refine ⟨W.turnObj hp (by rw [hg]; rfl) (by rw [hg]; intro _ _ z; cases z) (by intro _ _ z; cases z) ep ⟨ho.1, ho.2, _, _, _, _, heap_set hh, pm, hpm, rfl, ?_⟩ ?_ ?_ (by rw [hg]; intro _ z; cases z), W.keeps_put hp ep⟩
  · refine ⟨es, clock, ?_, rfl, rfl, r4, r5, r6, fun k v hkv => ?_, fun e' he' hn => ?_, h3, fun k v hc => ?_⟩
    · show (w.heap.setIfInBounds p.b _)[pm.b]? = _
      rw [Array.getElem?_setIfInBounds_ne (Ne.symm hne)]; exact hm
    · obtain ⟨q1, q2⟩ := h1 _ hkv
      obtain ⟨e', u1, u2, u3, u4⟩ := r7 k v q1
      refine ⟨e', u1, u2, u3, ?_⟩
      simp only [Array.toList_push, List.mem_append, List.mem_singleton, not_or]
      refine ⟨u4, fun z => ?_⟩
      have := inj_of_nodup _ r4 u1 he z
      rw [this, hxk] at u2
      exact q2 u2.symm
    · simp only [Array.toList_push, List.mem_append, List.mem_singleton, not_or] at hn
      obtain ⟨v, u1, u2⟩ := r8 e' he' hn.1
      refine ⟨v, ?_, u2⟩
      rcases h2 _ u1 with z | z
      · have : e'.key = e.key := by rw [hxk, ← z]
        exact absurd (congrArg (·.born) (inj_of_nodup _ r5 he' he this)) hn.2
      · exact z
    · simp only [Option.some.injEq] at hc
      subst hc
      exact ⟨e, he, by simp, hxk, hxv⟩
  · intro a' m l2 c2 hne' hi2 hs2 heq
    obtain ⟨q, hq⟩ := Option.isSome_iff_exists.1 hs2
    obtain ⟨_, ⟨l3, hl3⟩, _⟩ := W.busy a' q m l2 c2 hq hi2
    rw [heq, hg] at hl3
    cases hl3
  · intro m l2 c2 hi2
    simp only [AObj.iter.injEq, Option.some.injEq] at hi2
    obtain ⟨rfl, _, _⟩ := hi2
    exact W.busy a p b left cur hp hg

/-- The states that may come next. -/
def AOut.all : AOut → List AState
  | .next s => [s]
  | .fork l => l
  | .done _ _ => []

theorem forkE_spec {fr : AFrame} {cs : List AFrame} {a b : Nat} : ∀ {l : List ((Value × Value) × List (Value × Value))} {out : List AState}, forkE E fr cs h a b l = some out → ∀ x ∈ l,
    ∃ h2 fr2, h.put a (.iter (some b) x.2 (some x.1)) = some h2 ∧ finishE fr (.tuple #[.bool true, x.1.1, x.1.2]) = some fr2 ∧ (⟨fr2, cs, h2⟩ : AState) ∈ out
  | y :: l, out, e, x, hx => by
    simp only [forkE, Option.bind_eq_some_iff, Option.some.injEq] at e
    obtain ⟨h2, hp, fr2, hf, o2, ho, rfl⟩ := e
    rcases List.mem_cons.1 hx with rfl | hx
    · exact ⟨h2, fr2, hp, hf, by simp⟩
    · obtain ⟨h3, fr3, q1, q2, q3⟩ := forkE_spec ho x hx
      exact ⟨h3, fr3, q1, q2, by simp [q3]⟩

theorem put_busy {a : Nat} {o : AObj} (e : h.put a o = some h') (l : List (Nat × Nat)) : ({ h with busy := l } : AHeap).put a o = some { h' with busy := l } := by
  unfold AHeap.put at e ⊢
  cases hb : Nat.blt a h.floor with
  | true => simp [hb] at e
  | false =>
    simp only [hb, cond_false, Option.some.injEq] at e ⊢
    subst e; rfl

theorem nexts_sound {base : List Frame} {h0 : AHeap} {φ0 : Phi} {lo : Nat} {fr : AFrame} {cs : List AFrame} {cs' : List Frame} {fn : FuncId} {ts : Array Value} {k : List Item} {ds : List Deferred} {kind : CallKind} {r : Option Nat}
    {ops : Array Oper} {i : Nat} {rest : List Nat} {o : Oper} {it : Operand} {v : Value} {out : AOut}
    (W : WR w0 φ h w) (G : GR E.globals φ) (hE : Ext h0.next φ0 φ) (hK : Keeps h0 h)
    (F : FrameR φ lo h.next fr (fRun fn ts (.inRegion ops (i :: rest) :: k) ds kind r)) (H : HeadOK fr.todo (.inRegion ops (i :: rest) :: k)) (St : StackR φ base h0.next cs cs' lo) (hlo : lo ≤ h.next)
    (ho : ops[i]? = some o) (hw : Region.wanted o (yielded ops ts) = true) (hop : o.op = .next it false)
    (V : VR φ v ((Act.mk ts ds).eval it)) (e : rangeE E fr cs h v = some out) :
    ∃ S ∈ out.all, Goes E w0 base h0 φ0 (fRun fn ts (.inRegion ops (i :: rest) :: k) ds kind r) cs' w S := by
  have nodef : r = none ∨ ∀ c, o.op ≠ .defer c := .inr fun c z => by rw [hop] at z; cases z
  unfold rangeE at e
  split at e
  · rename_i ad
    generalize hxe : (Act.mk ts ds).eval it = x' at V
    have hoff : ∀ {P : Program} {u : Value} {w2 : World} {n : Nat}, n = 0 → ∀ {bb : Nat}, x' = .pointer (some ⟨bb, n, none⟩) → (Instr.next (.pointer (some ⟨bb, 0, none⟩)) false o.type).run P w = .ok u w2 → (execOp (Act.mk ts ds).eval o).run P w = .ok (.value u) w2 := by
      intro P u w2 n hn bb hx hr
      subst hn
      simp only [execOp, hop, hxe, hx, Sem.run_bind, hr, Result.andThen_ok, Sem.run_pure]
    split at e
    · rename_i hs hof hg
      simp only [Option.bind_eq_some_iff, Option.some.injEq] at e
      obtain ⟨fr2, hf, rfl⟩ := e
      refine ⟨_, List.mem_singleton.2 rfl, ?_⟩
      cases V with
      | atom _ z => simp [atom] at z
      | ptr _ p s1 hp =>
        have hO := W.live _ p hp
        rw [hg] at hO
        obtain ⟨o1, o2, m', since, seen, st, hh, rfl⟩ := hO
        have run : (Instr.next (.pointer (some ⟨p.b, 0, none⟩)) false o.type).run E.P w = .ok (.tuple #[.bool false]) w := by
          simp only [Instr.next, Sem.run_bind, gget hh (by intro _ _ _ z; cases z), Result.andThen_ok, Sem.run_pure]
        exact .one (st_value ho hw nodef (hoff (by omega) rfl run)) ⟨φ, lo, W, G, hE, hK, finish_rel' F H (.tuple _ _ (.cons (.atom _ rfl) .nil)) hf, St, hlo⟩
    · rename_i b left cur hs hof hg
      cases V with
      | atom _ z => simp [atom] at z
      | ptr _ p s1 hp =>
        have hO := W.live _ p hp
        rw [hg] at hO
        obtain ⟨o1, o2, m', since, seen, st, hh, pm, hpm, rfl, I⟩ := hO
        obtain ⟨es, cl, r1, rfl, rfl, r4, r5, r6, r7, r8, r9, r10⟩ := I.es
        have hz : p.o + ad.off = 0 := by omega
        -- one that is left on the model's side is left here
        have key : ∀ x ∈ es.toList, x.born ∉ seen.toList → ∃ v, (x.key, v) ∈ left ∧ VR φ v x.val ∧ VR φ x.key x.key := fun x hx hn => by
          obtain ⟨v, u1, u2⟩ := r8 x hx hn
          refine ⟨v, u1, u2, ?_⟩
          obtain ⟨_, ⟨l, hl⟩, _⟩ := W.busy ad.block p b left cur hp hg
          have hm := W.live b pm hpm
          rw [hl] at hm
          obtain ⟨_, _, es2, cl2, hh2, M⟩ := hm
          rw [r1] at hh2
          simp only [Option.some.injEq, Obj.map.injEq] at hh2
          obtain ⟨rfl, rfl⟩ := hh2
          obtain ⟨kd, q1, q2⟩ := M.kind
          obtain ⟨nn, hn⟩ := q2 x hx
          rw [hn]
          exact .atom _ rfl
        split at e
        · simp only [Option.bind_eq_some_iff, Option.some.injEq] at e
          obtain ⟨h1, hput, fr2, hf, rfl⟩ := e
          refine ⟨_, List.mem_singleton.2 rfl, ?_⟩
          rcases run_nextMap (P := E.P) o.type hh r1 r6 with ⟨_, run⟩ | ⟨x, hx, hn, _⟩
          · have W1 := W.drop hp (by rw [hg]; rfl) (by rw [hg]; rfl) (by rw [hg]; intro _ z; cases z) hput rfl (fun _ _ => rfl) rfl rfl rfl
            have K1 := W.keeps_put hp hput
            have hb2 : ∀ a q b2 l2 c2, φ a = some q → h1.t.get a = .iter (some b2) l2 c2 → (b2, a) ∈ h1.busy.filter (fun p => !Nat.beq p.2 ad.block) ∧ (∃ l, h1.t.get b2 = .map l) ∧ (φ b2).isSome = true := by
              intro a q b2 l2 c2 ha hi
              obtain ⟨z1, z2⟩ := W1.busy a q b2 l2 c2 ha hi
              refine ⟨List.mem_filter.2 ⟨z1, ?_⟩, z2⟩
              have : a ≠ ad.block := fun z => by
                obtain ⟨rfl, _⟩ := put_eq hput
                rw [z] at hi
                change (h.t.set ad.block .none).get ad.block = _ at hi
                rw [get_set W.full _ _ _ (W.lt_most hp).2 (W.lt_most hp).2, if_pos rfl] at hi
                cases hi
              have : Nat.beq a ad.block = false := by rw [Bool.eq_false_iff]; intro z; exact this (Nat.eq_of_beq_eq_true z)
              simp [this]
            have W2 : WR w0 φ { h1 with busy := h1.busy.filter fun p => !Nat.beq p.2 ad.block } w := { W1 with busy := hb2 }
            have K2 : Keeps h { h1 with busy := h1.busy.filter fun p => !Nat.beq p.2 ad.block } := ⟨K1.floor, K1.next, K1.same⟩
            exact .one (st_value ho hw nodef (hoff hz rfl run)) ⟨φ, lo, W2, G, hE, hK.trans K2, finish_rel' (F.wide K1.next) H (.tuple _ _ (.cons (.atom _ rfl) .nil)) hf, St, Nat.le_trans hlo K1.next⟩
          · obtain ⟨v, u1, _⟩ := key x hx hn
            simp at u1
        · rename_i x0
          simp only [Option.bind_eq_some_iff, Option.some.injEq] at e
          obtain ⟨h1, hput, fr2, hf, rfl⟩ := e
          refine ⟨_, List.mem_singleton.2 rfl, ?_⟩
          rcases run_nextMap (P := E.P) o.type hh r1 r6 with ⟨hall, _⟩ | ⟨x, hx, hn, d, run⟩
          · obtain ⟨e1, u1, _, _, u4⟩ := r7 x0.1 x0.2 (by simp)
            exact absurd (hall e1 u1) u4
          · obtain ⟨v, u1, u2, u3⟩ := key x hx hn
            have hxx : (x.key, v) = x0 := by simpa using u1
            subst hxx
            obtain ⟨W1, K1⟩ := W.turnIter hp hg hpm ⟨o1, o2⟩ hh r1 I hx hn u1 rfl u2 (by simp) (by simp) (by simp) hput
            exact .one (st_value ho hw nodef (hoff hz rfl run)) ⟨φ, lo, W1.withDrawn d, G, hE, hK.trans K1, finish_rel' (F.wide K1.next) H (.tuple _ _ (.cons (.atom _ rfl) (.cons u3 (.cons u2 .nil)))) hf, St, Nat.le_trans hlo K1.next⟩
        · rename_i hl1 hl2
          simp only [Option.bind_eq_some_iff, Option.some.injEq] at e
          obtain ⟨l, hfork, rfl⟩ := e
          rcases run_nextMap (P := E.P) o.type hh r1 r6 with ⟨hall, _⟩ | ⟨x, hx, hn, d, run⟩
          · exfalso
            cases left with
            | nil => exact hl1 rfl
            | cons x0 l0 =>
              obtain ⟨e1, v1, _, _, v4⟩ := r7 x0.1 x0.2 (by simp)
              exact v4 (hall e1 v1)
          · obtain ⟨v, u1, u2, u3⟩ := key x hx hn
            obtain ⟨rr, p1, a, b2, rfl, rfl⟩ := picks_spec left [] (x.key, v) u1
            obtain ⟨h1, fr2, hput, hf, hmem⟩ := forkE_spec hfork _ p1
            refine ⟨_, hmem, ?_⟩
            have r9' : (a.map (·.1) ++ x.key :: b2.map (·.1)).Nodup := by simpa using r9
            rw [List.nodup_append] at r9'
            obtain ⟨n1, n2, n3⟩ := r9'
            rw [List.nodup_cons] at n2
            obtain ⟨W1, K1⟩ := W.turnIter (rest := [] ++ a ++ b2) hp hg hpm ⟨o1, o2⟩ hh r1 I hx hn u1 rfl u2 (fun y hy => by
              simp only [List.nil_append, List.mem_append] at hy
              refine ⟨by rcases hy with hy | hy <;> simp [hy], fun z => ?_⟩
              rcases hy with hy | hy
              · exact n3 y.1 (List.mem_map.2 ⟨y, hy, rfl⟩) x.key (by simp) z
              · exact n2.1 (List.mem_map.2 ⟨y, hy, z⟩)) (fun y hy => by
              simp only [List.mem_append, List.mem_cons] at hy
              rcases hy with hy | hy | hy
              · exact .inr (by simp [hy])
              · exact .inl hy
              · exact .inr (by simp [hy])) (by
              simp only [List.nil_append, List.map_append]
              rw [List.nodup_append]
              exact ⟨n1, n2.2, fun y hy z hz => n3 y hy z (by simp [hz])⟩) hput
            exact .one (st_value ho hw nodef (hoff hz rfl run)) ⟨φ, lo, W1.withDrawn d, G, hE, hK.trans K1, finish_rel' (F.wide K1.next) H (.tuple _ _ (.cons (.atom _ rfl) (.cons u3 (.cons u2 .nil)))) hf, St, Nat.le_trans hlo K1.next⟩
    · cases e
  · cases e
end
end Go.Ab
