/-
  Steps of the model's machine, for frames of any kind. No statement of the seat is proved here. Conditions: none.
-/
import Derived.Test.YtmpiakibllgdeaaGreatDoorBc
set_option linter.unusedVariables false
set_option linter.unusedSimpArgs false
namespace Go.Ab
section
variable {P : Program} {fn : FuncId} {ts : Array Value} {k : List Item} {ds : List Deferred} {kind : CallKind} {r : Option Nat} {cs : List Frame} {w w' : World}

/-- A frame that runs. -/
abbrev fRun (fn : FuncId) (ts : Array Value) (todo : List Item) (ds : List Deferred) (kind : CallKind) (r : Option Nat) : Frame := { fn, tmps := ts, todo, defers := ds, mode := .run, kind, roundOf := r }

theorem st_skip : step P (lone (fRun fn ts (.code .skip :: k) ds kind r) cs w) = .next (lone (fRun fn ts k ds kind r) cs w) := step_lone_go (by simp [stepG, stepG.exec])
theorem st_inBlock {id : Nat} : step P (lone (fRun fn ts (.inBlock id :: k) ds kind r) cs w) = .next (lone (fRun fn ts k ds kind r) cs w) := step_lone_go (by simp [stepG, stepG.exec])
theorem st_inScope {c : Code} : step P (lone (fRun fn ts (.inScope c :: k) ds kind r) cs w) = .next (lone (fRun fn ts k ds kind r) cs w) := step_lone_go (by simp [stepG, stepG.exec])
theorem st_seq {a b : Code} : step P (lone (fRun fn ts (.code (.seq a b) :: k) ds kind r) cs w) = .next (lone (fRun fn ts (.code a :: .code b :: k) ds kind r) cs w) := step_lone_go (by simp [stepG, stepG.exec])
theorem st_block {id : Nat} {c : Code} : step P (lone (fRun fn ts (.code (.block id c) :: k) ds kind r) cs w) = .next (lone (fRun fn ts (.code c :: .inBlock id :: k) ds kind r) cs w) := step_lone_go (by simp [stepG, stepG.exec])
theorem st_loop {c : Code} : step P (lone (fRun fn ts (.code (.loop c) :: k) ds kind r) cs w) = .next (lone (fRun fn ts (.code c :: .inLoop c :: k) ds kind r) cs w) := step_lone_go (by simp [stepG, stepG.exec])
theorem st_inLoop {c : Code} : step P (lone (fRun fn ts (.inLoop c :: k) ds kind r) cs w) = .next (lone (fRun fn ts (.code c :: .inLoop c :: k) ds kind r) cs w) := step_lone_go (by simp [stepG, stepG.exec])
theorem st_scope {c : Code} : step P (lone (fRun fn ts (.code (.scope c) :: k) ds kind r) cs w) = .next (lone (fRun fn ts (.code c :: .inScope c :: k) ds kind r) cs w) := step_lone_go (by simp [stepG, stepG.exec])
theorem st_cond {c : Operand} {a b : Code} {t : Bool} (h : (Act.mk ts ds).eval c = .bool t) :
    step P (lone (fRun fn ts (.code (.cond c a b) :: k) ds kind r) cs w) = .next (lone (fRun fn ts (.code (if t then a else b) :: k) ds kind r) cs w) := by
  have he : Frame.eval (fRun fn ts (.code (.cond c a b) :: k) ds kind r) c = .bool t := by rw [← h]; cases c <;> rfl
  exact step_lone_go (by
    simp only [fRun] at he
    simp [stepG, stepG.exec, he])
theorem st_exit {id : Nat} {k' : List Item} (h : exitTo id k = some k') : step P (lone (fRun fn ts (.code (.exit id) :: k) ds kind r) cs w) = .next (lone (fRun fn ts k' ds kind r) cs w) := step_lone_go (by simp [stepG, stepG.exec, h])
theorem st_region {id : Nat} {ops : Array Oper} : step P (lone (fRun fn ts (.code (.region id ops false) :: k) ds kind r) cs w) = .next (lone (fRun fn ts (.inRegion ops (List.range ops.size) :: k) ds kind r) cs w) := step_lone_go (by simp [stepG, stepG.exec])
theorem st_region_draw {id : Nat} {ops : Array Oper} : step P (lone (fRun fn ts (.code (.region id ops true) :: k) ds kind r) cs w) =
    .next (lone (fRun fn ts (.inRegion ops (Region.schedule (P.follows .mixedOrders) ops (w.tape w.drawn (.order fn id))) :: k) ds kind r) cs { w with drawn := w.drawn + 1 }) :=
  step_lone_go (by simp [stepG, stepG.exec, choose, Sem.run, Question.forced, Question.cut])
theorem st_region_end {ops : Array Oper} : step P (lone (fRun fn ts (.inRegion ops [] :: k) ds kind r) cs w) = .next (lone (fRun fn ts k ds kind r) cs w) := step_lone_go (by simp [stepG, stepG.exec])
theorem st_end_none : step P (lone (fRun fn ts [] ds kind none) cs w) = .next (lone { fRun fn ts [] ds kind none with mode := .returning } cs w) := step_lone_go (by simp [stepG, stepG.exec])
theorem st_ret_none : step P (lone (fRun fn ts (.code .ret :: k) ds kind none) cs w) = .next (lone { fRun fn ts (.code .ret :: k) ds kind none with mode := .returning } cs w) := step_lone_go (by simp [stepG, stepG.exec])

theorem st_unwanted {ops : Array Oper} {i : Nat} {rest : List Nat} (h : ((ops[i]?).map (Region.wanted · (yielded ops ts))).getD false = false) :
    step P (lone (fRun fn ts (.inRegion ops (i :: rest) :: k) ds kind r) cs w) = .next (lone ((fRun fn ts (.inRegion ops (i :: rest) :: k) ds kind r).finish undef) cs w) :=
  step_lone_go (by
    have h' := h
    simp [stepG, stepG.exec, h'])

theorem stepG_op' {ops : Array Oper} {i : Nat} {rest : List Nat} {o : Oper} (ho : ops[i]? = some o) (hw : Region.wanted o (yielded ops ts) = true) (hd : r = none ∨ ∀ c, o.op ≠ .defer c) :
    stepG P true { frame := fRun fn ts (.inRegion ops (i :: rest) :: k) ds kind r, callers := cs, status := .running, dying := none } w =
      stepG.apply P true (fRun fn ts (.inRegion ops (i :: rest) :: k) ds kind r) cs none (execOp (Act.mk ts ds).eval o) w := by
  have he : Frame.eval (fRun fn ts (.inRegion ops (i :: rest) :: k) ds kind r) = (Act.mk ts ds).eval := by funext c; cases c <;> rfl
  simp only [fRun] at he
  rcases hd with rfl | hd
  · simp [stepG, stepG.exec, stepG.oper, Frame.oper?, ho, hw, he]
  · cases r with
    | none => simp [stepG, stepG.exec, stepG.oper, Frame.oper?, ho, hw, he]
    | some l =>
      simp only [stepG, stepG.exec, ho, Option.map_some, hw, Option.getD_some, if_true, stepG.oper, Frame.oper?]
      rw [he]
      cases hop : o.op <;> first | rfl | exact absurd hop (hd _)

theorem st_value {ops : Array Oper} {i : Nat} {rest : List Nat} {o : Oper} {v : Value} (ho : ops[i]? = some o) (hw : Region.wanted o (yielded ops ts) = true) (hd : r = none ∨ ∀ c, o.op ≠ .defer c)
    (hr : (execOp (Act.mk ts ds).eval o).run P w = .ok (.value v) w') :
    step P (lone (fRun fn ts (.inRegion ops (i :: rest) :: k) ds kind r) cs w) = .next (lone ((fRun fn ts (.inRegion ops (i :: rest) :: k) ds kind r).finish v) cs w') :=
  step_lone_go (by rw [stepG_op' ho hw hd]; simp [stepG.apply, hr])
theorem st_skipped {ops : Array Oper} {i : Nat} {rest : List Nat} {o : Oper} (ho : ops[i]? = some o) (hw : Region.wanted o (yielded ops ts) = true) (hd : r = none ∨ ∀ c, o.op ≠ .defer c)
    (hr : (execOp (Act.mk ts ds).eval o).run P w = .ok .skip w') :
    step P (lone (fRun fn ts (.inRegion ops (i :: rest) :: k) ds kind r) cs w) = .next (lone ((fRun fn ts (.inRegion ops (i :: rest) :: k) ds kind r).finish undef) cs w') :=
  step_lone_go (by rw [stepG_op' ho hw hd]; simp [stepG.apply, hr])
theorem st_enter {ops : Array Oper} {i : Nat} {rest : List Nat} {o : Oper} {f : FuncId} {args : Array Value} (ho : ops[i]? = some o) (hw : Region.wanted o (yielded ops ts) = true) (hd : r = none ∨ ∀ c, o.op ≠ .defer c)
    (hr : (execOp (Act.mk ts ds).eval o).run P w = .ok (.enter f args) w') :
    step P (lone (fRun fn ts (.inRegion ops (i :: rest) :: k) ds kind r) cs w) = .next (lone (Frame.enter P f args .normal) (fRun fn ts (.inRegion ops (i :: rest) :: k) ds kind r :: cs) w') :=
  step_lone_go (by rw [stepG_op' ho hw hd]; simp [stepG.apply, hr])
theorem st_round {ops : Array Oper} {i : Nat} {rest : List Nat} {o : Oper} {l : Nat} {f : FuncId} {tm : Array Value} {a b : Code} (ho : ops[i]? = some o) (hw : Region.wanted o (yielded ops ts) = true) (hd : r = none ∨ ∀ c, o.op ≠ .defer c)
    (hr : (execOp (Act.mk ts ds).eval o).run P w = .ok (.round l f tm a b) w') :
    step P (lone (fRun fn ts (.inRegion ops (i :: rest) :: k) ds kind r) cs w) = .next (lone (Frame.round l f tm a b .normal) (fRun fn ts (.inRegion ops (i :: rest) :: k) ds kind r :: cs) w') :=
  step_lone_go (by rw [stepG_op' ho hw hd]; simp [stepG.apply, hr])
theorem st_defer {ops : Array Oper} {i : Nat} {rest : List Nat} {o : Oper} {d : Deferred} (ho : ops[i]? = some o) (hw : Region.wanted o (yielded ops ts) = true)
    (hr : (execOp (Act.mk ts ds).eval o).run P w = .ok (.defer d) w') :
    step P (lone (fRun fn ts (.inRegion ops (i :: rest) :: k) ds kind none) cs w) = .next (lone ((fRun fn ts (.inRegion ops (i :: rest) :: k) (d :: ds) kind none).finish undef) cs w') :=
  step_lone_go (by rw [stepG_op' ho hw (.inl rfl)]; simp [stepG.apply, hr])
theorem st_recover {ops : Array Oper} {i : Nat} {rest : List Nat} {o : Oper} {c : Frame} (ho : ops[i]? = some o) (hw : Region.wanted o (yielded ops ts) = true) (hc : c.mode = .returning)
    (hr : (execOp (Act.mk ts ds).eval o).run P w = .ok .recover w') :
    step P (lone (fRun fn ts (.inRegion ops (i :: rest) :: k) ds .deferred none) (c :: cs) w) = .next (lone ((fRun fn ts (.inRegion ops (i :: rest) :: k) ds .deferred none).finish .nilIface) (c :: cs) w') :=
  step_lone_go (by rw [stepG_op' ho hw (.inl rfl)]; simp [stepG.apply, hr, tryRecover, hc])

/-! ### A frame that leaves -/
theorem st_return_normal {todo : List Item} {func : Func} {v : Value} {c : Frame} (hf : P.funcs[fn]? = some func) (hr : (results func ts).run P w = .ok v w) :
    step P (lone { fn, tmps := ts, todo, defers := [], mode := .returning, kind := .normal, roundOf := r } (c :: cs) w) = .next (lone (c.finish v) cs w) :=
  step_lone_go (by simp [stepG, unwind, doReturn, hf, hr])
theorem st_return_deferred {todo : List Item} {func : Func} {v : Value} {c : Frame} (hf : P.funcs[fn]? = some func) (hr : (results func ts).run P w = .ok v w) (hc : ∀ chain, c.mode ≠ .panicking chain) :
    step P (lone { fn, tmps := ts, todo, defers := [], mode := .returning, kind := .deferred, roundOf := r } (c :: cs) w) = .next (lone c cs w) :=
  step_lone_go (by
    cases hm : c.mode with
    | panicking ch => exact absurd hm (hc ch)
    | run => simp [stepG, unwind, doReturn, hf, hr, hm]
    | returning => simp [stepG, unwind, doReturn, hf, hr, hm])
theorem gget {b : Nat} {o : Obj} (hh : w.heap[b]? = some o) (hn : ∀ c e fz, o ≠ .cells c e fz) : (getObj b).run P w = .ok o w := by
  show Sem.run P (.getObj b .pure) w = _
  simp only [Sem.run, hh]
theorem gset {b : Nat} {o o' : Obj} (hh : w.heap[b]? = some o) (hn : ∀ c e fz, o ≠ .cells c e fz) : (setObj b o').run P w = .ok () { w with heap := w.heap.setIfInBounds b o' } := by
  show Sem.run P (.setObj b o' (.pure ())) w = _
  simp only [Sem.run, hh]
theorem st_collected {todo : List Item} {b : Nat} {l : List Deferred} (hh : w.heap[b]? = some (.deferred (some l))) :
    step P (lone { fn, tmps := ts, todo, defers := { target := .collected b, args := #[] } :: ds, mode := .returning, kind, roundOf := r } cs w) =
      .next (lone { fn, tmps := ts, todo, defers := l ++ ds, mode := .returning, kind, roundOf := r } cs { w with heap := w.heap.setIfInBounds b (.deferred none) }) := by
  have hg : (Instr.takeDeferred b).run P w = .ok l { w with heap := w.heap.setIfInBounds b (.deferred none) } := by
    unfold Instr.takeDeferred
    simp only [Sem.run_bind, gget hh (by intro _ _ _ z; cases z), Result.andThen_ok, gset hh (by intro _ _ _ z; cases z), Sem.run_pure]
  exact step_lone_go (by simp [stepG, unwind, hg])
theorem st_deferred_call {todo : List Item} {fnv : Fn} {cap args : Array Value} {f : FuncId} {a : Array Value} (hi : (invoke (.fn fnv cap) args).run P w = .ok (.enter f a) w') :
    step P (lone { fn, tmps := ts, todo, defers := { target := .fn fnv cap, args := args } :: ds, mode := .returning, kind, roundOf := r } cs w) =
      .next (lone (Frame.enter P f a .deferred) ({ fn, tmps := ts, todo, defers := ds, mode := .returning, kind, roundOf := r } :: cs) w') :=
  step_lone_go (by simp [stepG, unwind, callDeferred, hi])
end
end Go.Ab

/-
  Guards, what comes ahead, finishing and entering of frames: the small machine's and the model's. No statement of the seat is proved here. Conditions: none.
-/
set_option linter.unusedVariables false
set_option linter.unusedSimpArgs false
namespace Go.Ab

theorem VR.bool_inv {φ : Phi} {v : Value} {b : Bool} (h : VR φ v (.bool b)) : v = .bool b := by cases h; rfl
theorem VR.bool {φ : Phi} {v' : Value} {b : Bool} (h : VR φ (.bool b) v') : v' = .bool b := by cases h; rfl

theorem wanted_rel {φ : Phi} {ops : Array Oper} {n : Nat} {t : Tr Value} {ts : Array Value} {o : Oper} {b : Bool} (hs : ts.size = n)
    (hv : ∀ j want g d, o.guard = some (j, want) → ops[j]? = some g → g.dst = some d → d < n → VR φ (t.get d) (ts.getD d undef)) (e : wantedE ops n t o = some b) :
    Region.wanted o (yielded ops ts) = b := by
  unfold wantedE at e
  unfold Region.wanted
  cases hg : o.guard with
  | none => simpa [hg] using e
  | some p =>
    obtain ⟨j, want⟩ := p
    simp only [hg, Option.bind_eq_some_iff, Array.getElem?_toList] at e
    obtain ⟨g, hj, d, hd, e⟩ := e
    cases hb : Nat.blt d n with
    | false => simp [hb] at e
    | true =>
      have hdn : d < n := by simpa [Nat.blt_eq] using hb
      have V := hv j want g d hg hj hd hdn
      simp only [hb, cond_true] at e
      have hx : ts[d]? = some (ts.getD d undef) := by
        have : d < ts.size := hs ▸ hdn
        simp [Array.getD_eq_getD_getElem?, this]
      simp only [yielded, hj, Option.bind_some, hd, hx]
      generalize ts.getD d undef = v' at V
      split at e
      · rename_i x hx
        rw [hx] at V
        rw [V.bool]
        simpa using e
      · rename_i hx
        cases v' with
        | bool b => exact absurd V.bool_inv (hx b)
        | _ => simpa using e

/-! ### What comes ahead -/
inductive Before (ops : Array Oper) : Nat → Nat → Prop
  | dep {i : Nat} {o : Oper} {e : Edge} : ops[i]? = some o → Deps o e → Before ops i e.on
  | trans {i j : Nat} {o : Oper} {e : Edge} : ops[i]? = some o → Deps o e → Before ops e.on j → Before ops i j

theorem maskOf_sound (acc : List Nat) (o : Oper) (j : Nat) (h : (maskOf acc o).testBit j = true) : ∃ e, Deps o e ∧ (j = e.on ∨ (acc.getD e.on 0).testBit j = true) := by
  unfold maskOf at h
  have : ∀ (l : List Edge) (s : Nat), (l.foldl (fun s e => bif Region.binds .any e then s ||| 2 ^ e.on ||| acc.getD e.on 0 else s) s).testBit j = true →
      s.testBit j = true ∨ ∃ e ∈ l, Region.binds .any e = true ∧ (j = e.on ∨ (acc.getD e.on 0).testBit j = true) := by
    intro l
    induction l with
    | nil => intro s h; exact .inl h
    | cons e l ih =>
      intro s h
      simp only [List.foldl_cons] at h
      rcases ih _ h with h | ⟨e', h1, h2⟩
      · cases hb : Region.binds .any e with
        | false => simp only [hb, cond_false] at h; exact .inl h
        | true =>
          simp only [hb, cond_true, Nat.testBit_or, Bool.or_eq_true] at h
          rcases h with (h | h) | h
          · exact .inl h
          · rw [Nat.testBit_two_pow] at h
            exact .inr ⟨e, by simp, hb, .inl (by simpa using (of_decide_eq_true h).symm)⟩
          · exact .inr ⟨e, by simp, hb, .inr h⟩
      · exact .inr ⟨e', by simp [h1], h2⟩
  rcases this _ 0 h with h | ⟨e, h1, h2, h3⟩
  · simp at h
  · exact ⟨e, ⟨h1, h2⟩, h3⟩
theorem masksFrom_sound (ops : Array Oper) : ∀ (r : List Oper) (acc : List Nat), ops.toList.drop acc.length = r → (∀ i j, (acc.getD i 0).testBit j = true → Before ops i j) →
    ∀ i j, ((masksFrom acc r).getD i 0).testBit j = true → Before ops i j
  | [], acc, _, h => h
  | o :: r, acc, hd, h => by
    unfold masksFrom
    have ho : ops[acc.length]? = some o := by
      have := congrArg (fun x => x[0]?) hd
      simpa [List.getElem?_drop] using this
    refine masksFrom_sound ops r _ ?_ ?_
    · have := congrArg List.tail hd
      simpa [List.tail_drop] using this
    · intro i j hb
      rw [List.getD_eq_getElem?_getD, List.getElem?_append] at hb
      split at hb
      · rw [← List.getD_eq_getElem?_getD] at hb; exact h i j hb
      · rename_i hi
        by_cases e : i = acc.length
        · subst e
          simp only [Nat.sub_self, List.getElem?_cons_zero, Option.getD_some] at hb
          obtain ⟨e, h1, h2⟩ := maskOf_sound acc o j hb
          rcases h2 with rfl | h2
          · exact .dep ho h1
          · exact .trans ho h1 (h _ _ h2)
        · rw [List.getElem?_eq_none (by simp; omega)] at hb
          simp at hb
theorem masks_sound {ops : Array Oper} {i j : Nat} (h : ((masks ops.toList).getD i 0).testBit j = true) : Before ops i j :=
  masksFrom_sound ops ops.toList [] (by simp) (by simp) i j h

section
variable {φ : Phi} {lo hi : Nat} {ops : Array Oper} {left done : List (Nat × Oper)} {mask n : Nat} {t : Tr Value} {ts : Array Value} {l : List Nat}

theorem lt_of_get {o : Oper} {i : Nat} (h : ops[i]? = some o) : i < ops.size := by
  rcases Nat.lt_or_ge i ops.size with k | k
  · exact k
  · rw [Array.getElem?_eq_none k] at h; cases h
theorem DrawR.before (D : DrawR φ lo hi ops left done mask n t ts l) {x j : Nat} (h : Before ops x j) (hx : x ∉ l) : j ∉ l := by
  induction h with
  | dep ho hd => exact D.down _ (lt_of_get ho) hx _ ho _ hd
  | trans ho hd _ ih => exact ih (D.down _ (lt_of_get ho) hx _ ho _ hd)
theorem DrawR.before_head {i : Nat} {l' : List Nat} (D : DrawR φ lo hi ops left done mask n t ts (i :: l')) {j : Nat} (h : Before ops i j) : j ∉ i :: l' := by
  cases h with
  | dep ho hd => exact D.valid [] i l' rfl _ ho _ hd
  | trans ho hd k => exact D.before k (D.valid [] i l' rfl _ ho _ hd)
end

/-! ### Finishing -/
theorem numbered_mem : ∀ (l : List Oper) (k i : Nat) (o : Oper), (i, o) ∈ numbered l k ↔ k ≤ i ∧ l[i - k]? = some o
  | [], k, i, o => by simp [numbered]
  | x :: l, k, i, o => by
    simp only [numbered, List.mem_cons, Prod.mk.injEq, numbered_mem l (k + 1) i o]
    constructor
    · rintro (⟨rfl, rfl⟩ | ⟨h1, h2⟩)
      · simp
      · refine ⟨by omega, ?_⟩
        have : i - k = (i - (k + 1)) + 1 := by omega
        rw [this]; simpa using h2
    · rintro ⟨h1, h2⟩
      by_cases e : i = k
      · subst e; simp at h2; exact .inl ⟨rfl, h2.symm⟩
      · refine .inr ⟨by omega, ?_⟩
        have : i - k = (i - (k + 1)) + 1 := by omega
        rw [this] at h2; simpa using h2

theorem regionOk_at {ops : Array Oper} (h : regionOk ops = true) {i : Nat} {o : Oper} (ho : ops[i]? = some o) : opOk (numbered ops.toList 0) (masks ops.toList) i o = true := by
  unfold regionOk at h
  rw [List.all_eq_true] at h
  exact h (i, o) ((numbered_mem _ _ _ _).2 ⟨Nat.zero_le _, by simpa using ho⟩)

/-- Each temporary is written by one operation. -/
theorem regionOk_dst {ops : Array Oper} (h : regionOk ops = true) {i j : Nat} {o p : Oper} {d : Tmp} (ho : ops[i]? = some o) (hp : ops[j]? = some p) (hd : o.dst = some d) (hd' : p.dst = some d) : i = j := by
  have k := regionOk_at h ho
  unfold opOk at k
  simp only [Bool.and_eq_true, List.all_eq_true] at k
  have := k.1.2 (j, p) ((numbered_mem _ _ _ _).2 ⟨Nat.zero_le _, by simpa using hp⟩)
  simp only [hd', hd, Bool.and_eq_true] at this
  have := this.1.1.1
  simp at this
  omega

theorem finish_rel' {φ : Phi} {lo hi : Nat} {fr fr2 : AFrame} {fr' : Frame} {v v' : Value} (F : FrameR φ lo hi fr fr') (hd : HeadOK fr.todo fr'.todo) (hv : VR φ v v') (e : finishE fr v = some fr2) :
    FrameR φ lo hi fr2 (fr'.finish v') := by
  cases hdr : isDraw fr.todo with
  | false => exact finish_rel F hdr hv e
  | true =>
    obtain ⟨fn, n, tmps, todo, defers, ret, deferred, round⟩ := fr
    obtain ⟨fn', tmps', todo', defers', mode', kind', round'⟩ := fr'
    obtain ⟨h1, h2, h3, h4, h5, h6, h7⟩ := F
    simp only at h1 h2 h3 h4 h5 h6 hd hdr
    cases h6 with
    | plain hk ht =>
      exfalso
      cases hk with
      | nil => simp [isDraw] at hdr
      | cons a b => cases a <;> simp [isDraw] at hdr
    | @draw ops left done mask _ _ _ l k k' D hk =>
      obtain ⟨i, o, left', l', k2, rfl, hl⟩ := hd _ _ _ _ _ rfl
      simp only [List.cons.injEq, Item.inRegion.injEq, true_and] at hl
      obtain ⟨rfl, rfl⟩ := hl
      unfold finishE at e
      simp only [Option.bind_eq_some_iff, Option.some.injEq] at e
      obtain ⟨t2, ht2, rfl⟩ := e
      have ho : ops[i]? = some o := D.mem (i, o) (.inl (by simp))
      have hil : i ∉ l' := (List.nodup_cons.1 D.nodup).1
      have hso := List.pairwise_cons.1 D.sorted
      have hts : (Frame.finish { fn := fn', tmps := tmps', todo := .inRegion ops (i :: l') :: k', defers := defers', mode := mode', kind := kind', roundOf := round' } v') =
          { fn := fn', tmps := putDst tmps' o.dst v', todo := .inRegion ops l' :: k', defers := defers', mode := mode', kind := kind', roundOf := round' } := by
        cases hdst : o.dst <;> simp [Frame.finish, ho, hdst, putDst]
      rw [hts]
      refine ⟨h1, h2, h3, h4, h5, .draw ?_ hk, fun hr => absurd (h7 hr) (by simp [isDraw])⟩
      have hfull : Full (tDepth n) t2 ∧ ∀ d : Nat, o.dst = some d → d < n ∧ t2 = tmps.set d v := by
        unfold setDst at ht2
        split at ht2
        · rename_i hn
          simp only [Option.some.injEq] at ht2; subst ht2; exact ⟨D.full, by simp [hn]⟩
        · rename_i d hd2
          cases hb : Nat.blt d n with
          | false => simp [hb] at ht2
          | true =>
            simp only [hb, cond_true, Option.some.injEq] at ht2
            subst ht2
            refine ⟨D.full.set _ _, fun d' hd' => ?_⟩
            rw [hd2] at hd'; cases hd'
            exact ⟨by simpa [Nat.blt_eq] using hb, rfl⟩
      have hnone : o.dst = none → t2 = tmps := fun hn => by
        unfold setDst at ht2; rw [hn] at ht2; simpa using ht2.symm
      have hlog : n < 8 ^ tDepth n := lt_tDepth n
      have hget : ∀ d : Nat, d < n → o.dst ≠ some d → t2.get d = tmps.get d ∧ (putDst tmps' o.dst v').getD d undef = tmps'.getD d undef := by
        intro d hdn hne
        cases hdst : o.dst with
        | none => rw [hnone hdst]; exact ⟨rfl, by simp [putDst]⟩
        | some d' =>
          have hdd : d' ≠ d := fun z => hne (by rw [hdst, z])
          obtain ⟨hd'n, rfl⟩ := hfull.2 d' hdst
          refine ⟨by rw [get_set D.full _ _ _ (by omega) (by omega), if_neg (Ne.symm hdd)], ?_⟩
          simp [putDst, Array.getD_eq_getD_getElem?, Array.getElem?_setIfInBounds_ne hdd]
      refine { ok := D.ok, full := hfull.1, size := ?_, mem := fun p hp => D.mem p ?_, all := fun j hj => ?_, sep := fun j a b ha hb => ?_, sorted := hso.2,
               nodup := (List.nodup_cons.1 D.nodup).2, lt := fun j hj => D.lt j (by simp [hj]), leftIn := fun p hp => ?_, valid := fun l1 x l2 hl oo hoo e he => ?_,
               down := fun x hx hxl oo hoo e he => ?_, tmps := fun d hdn hj => ?_, mask := fun j hj => ?_, ghost := fun p hp hpl ha d a hd2 hdn hv2 => ?_ }
      · have := D.size
        cases o.dst <;> simp [putDst, this]
      · rcases hp with hp | hp
        · exact .inl (by simp [hp])
        · rcases List.mem_cons.1 hp with rfl | hp
          · exact .inl (by simp)
          · exact .inr hp
      · obtain ⟨oo, h | h⟩ := D.all j hj
        · rcases List.mem_cons.1 h with h | h
          · exact ⟨oo, .inr (by rw [h]; simp)⟩
          · exact ⟨oo, .inl h⟩
        · exact ⟨oo, .inr (by simp [h])⟩
      · rcases List.mem_cons.1 hb with hb | hb
        · cases hb
          have := hso.1 _ ha
          simp at this
        · exact D.sep j a b (by simp [ha]) hb
      · have := D.leftIn p (by simp [hp])
        rcases List.mem_cons.1 this with h | h
        · have := hso.1 p hp
          simp only at this; omega
        · exact h
      · exact D.valid (i :: l1) x l2 (by simp [hl]) oo hoo e he
      · by_cases hxi : x = i
        · subst hxi
          have := D.valid [] x l' rfl oo hoo e he
          exact fun z => this (by simp [z])
        · have := D.down x hx (by simp [hxi, hxl]) oo hoo e he
          exact fun z => this (by simp [z])
      · change d < n at hdn
        by_cases hod : o.dst = some d
        · obtain ⟨_, rfl⟩ := hfull.2 d hod
          rw [get_set D.full _ _ _ (by omega) (by omega), if_pos rfl]
          have hz : d < tmps'.size := by have := D.size; omega
          simp only [hod, putDst, Array.getD_eq_getD_getElem?, Array.getElem?_setIfInBounds_self_of_lt hz, Option.getD_some]
          exact hv
        · obtain ⟨e1, e2⟩ := hget d hdn hod
          rw [e1, e2]
          refine D.tmps d hdn fun j hjl oo hoo => ?_
          rcases List.mem_cons.1 hjl with rfl | hjl
          · rw [ho] at hoo; cases hoo; exact hod
          · exact hj j hjl oo hoo
      · simp only [Nat.testBit_or, Bool.or_eq_true] at hj
        rcases hj with (hj | hj) | hj
        · exact fun z => D.mask j hj (by simp [z])
        · exact fun z => D.before_head (masks_sound hj) (by simp [z])
        · rw [Nat.testBit_two_pow] at hj
          have : i = j := of_decide_eq_true hj
          subst this; exact hil
      · rcases List.mem_cons.1 hp with rfl | hp
        · exact absurd hpl hil
        · have hpo := D.mem p (.inr hp)
          have hpi : p.1 ≠ i := fun z => hil (z ▸ hpl)
          have hod : o.dst ≠ some d := fun z => hpi (regionOk_dst D.ok hpo ho hd2 z)
          rw [(hget d hdn hod).1] at hv2
          exact D.ghost p hp (by simp [hpl]) ha d a hd2 hdn hv2

/-! ### Entering -/
theorem putArgs_rel {φ : Phi} {n : Nat} : ∀ (l l' : List Value) (k : Nat) (t : Tr Value) (pre : List Value), VRs φ l l' → Full (tDepth n) t → pre.length = k → k + l.length ≤ n → (∀ i, k ≤ i → i < n → t.get i = undef) → (∀ i, i < k → VR φ (t.get i) (pre.getD i undef)) →
    TmpsR φ n (putArgs l k t) ((pre ++ l').toArray ++ Array.replicate (n - (k + l.length)) undef)
  | [], _, k, t, pre, .nil, ft, hp, hk, hu, hv => by
    refine ⟨ft, by simp; omega, fun i hi => ?_⟩
    simp only [putArgs, List.append_nil, List.length_nil, Nat.add_zero]
    by_cases h : i < k
    · have := hv i h
      rw [Array.getD_eq_getD_getElem?, Array.getElem?_append_left (by simp; omega)]
      simpa [List.getD_eq_getElem?_getD] using this
    · rw [hu i (by omega) hi, Array.getD_eq_getD_getElem?, Array.getElem?_append_right (by simp; omega)]
      rw [Array.getElem?_replicate, if_pos (by simp at hk; simp; omega)]
      exact .tuple _ _ .nil
  | v :: l, _, k, t, pre, .cons (v' := v') (l' := l') a b, ft, hp, hk, hu, hv => by
    have hlog : n < 8 ^ tDepth n := lt_tDepth n
    simp only [List.length_cons] at hk
    have := putArgs_rel l l' (k + 1) (t.set k v) (pre ++ [v']) b (ft.set _ _) (by simp [hp]) (by omega) (fun i h1 h2 => by
      rw [get_set ft _ _ _ (by omega) (by omega), if_neg (by omega)]; exact hu i (by omega) h2) (fun i h => by
      rw [get_set ft _ _ _ (by omega) (by omega)]
      by_cases e : i = k
      · subst e
        rw [if_pos rfl, List.getD_eq_getElem?_getD, List.getElem?_append_right (by omega)]
        simpa [hp] using a
      · rw [if_neg e]
        have := hv i (by omega)
        rw [List.getD_eq_getElem?_getD] at this
        rw [List.getD_eq_getElem?_getD, List.getElem?_append_left (by omega)]
        exact this)
    simp only [putArgs, List.length_cons]
    have hh : n - (k + (l.length + 1)) = n - (k + 1 + l.length) := by omega
    rw [hh]
    simpa using this

theorem enter_rel {E : Env} {φ : Phi} {f : FuncId} {args : List Value} {args' : Array Value} {d : Bool} {fr : AFrame} (lo hi : Nat) (ha : VRs φ args args'.toList) (e : enterE E f args d = some fr) :
    FrameR φ lo hi fr (Frame.enter E.P f args' (if d then .deferred else .normal)) ∧ fr.fn = f := by
  unfold enterE at e
  simp only [Option.bind_eq_some_iff] at e
  obtain ⟨fn, hf, body, hb, e⟩ := e
  cases hn : Nat.ble args.length fn.ntmps with
  | false => simp [hn] at e
  | true =>
    simp only [hn, cond_true, Option.some.injEq] at e
    subst e
    have hlen := ha.length
    have hle : args.length ≤ fn.ntmps := by simpa using hn
    have ht := putArgs_rel (φ := φ) (n := fn.ntmps) args args'.toList 0 (Tr.mk (tDepth fn.ntmps) undef) [] ha (Full.mk _ _) rfl (by omega) (fun i _ _ => get_mk _ _ _) (fun i h => by omega)
    refine ⟨⟨rfl, rfl, rfl, .nil, .none, .plain ?_ ?_, fun _ => rfl⟩, rfl⟩
    · simp only [Frame.enter, hf, Option.bind_some, hb, Option.getD_some]
      exact .cons (.code body) .nil
    · simp only [Frame.enter, hf, Option.map_some, Option.getD_some]
      have hs : args'.size = args.length := by simpa using hlen.symm
      rw [hs]
      simpa using ht
end Go.Ab
