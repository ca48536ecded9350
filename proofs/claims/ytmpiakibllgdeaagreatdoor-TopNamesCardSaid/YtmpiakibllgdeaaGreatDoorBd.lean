/-
  Steps of the model's machine, for frames of any kind. No statement of the seat is proved here. Conditions: none.
-/
import Derived.Test.YtmpiakibllgdeaaGreatDoorBc
set_option linter.unusedVariables false
set_option linter.unusedSimpArgs false
namespace Go.Ab
section
variable {P : Program} {fn : FuncId} {ts : Array Value} {k : List Item} {ds : List Deferred} {kind : CallKind} {r : Option Nat} {cs : List Frame} {w w' : World}

/-- A frame that runs. -/
abbrev fRun (fn : FuncId) (ts : Array Value) (todo : List Item) (ds : List Deferred) (kind : CallKind) (r : Option Nat) : Frame := { fn, tmps := ts, todo, defers := ds, mode := .run, kind, roundOf := r }

theorem st_skip : step P (lone (fRun fn ts (.code .skip :: k) ds kind r) cs w) = .next (lone (fRun fn ts k ds kind r) cs w) := step_lone_go (by simp [stepG, stepG.exec])
theorem st_inBlock {id : Nat} : step P (lone (fRun fn ts (.inBlock id :: k) ds kind r) cs w) = .next (lone (fRun fn ts k ds kind r) cs w) := step_lone_go (by simp [stepG, stepG.exec])
theorem st_inScope {c : Code} : step P (lone (fRun fn ts (.inScope c :: k) ds kind r) cs w) = .next (lone (fRun fn ts k ds kind r) cs w) := step_lone_go (by simp [stepG, stepG.exec])
theorem st_seq {a b : Code} : step P (lone (fRun fn ts (.code (.seq a b) :: k) ds kind r) cs w) = .next (lone (fRun fn ts (.code a :: .code b :: k) ds kind r) cs w) := step_lone_go (by simp [stepG, stepG.exec])
theorem st_block {id : Nat} {c : Code} : step P (lone (fRun fn ts (.code (.block id c) :: k) ds kind r) cs w) = .next (lone (fRun fn ts (.code c :: .inBlock id :: k) ds kind r) cs w) := step_lone_go (by simp [stepG, stepG.exec])
theorem st_loop {c : Code} : step P (lone (fRun fn ts (.code (.loop c) :: k) ds kind r) cs w) = .next (lone (fRun fn ts (.code c :: .inLoop c :: k) ds kind r) cs w) := step_lone_go (by simp [stepG, stepG.exec])
theorem st_inLoop {c : Code} : step P (lone (fRun fn ts (.inLoop c :: k) ds kind r) cs w) = .next (lone (fRun fn ts (.code c :: .inLoop c :: k) ds kind r) cs w) := step_lone_go (by simp [stepG, stepG.exec])
theorem st_scope {c : Code} : step P (lone (fRun fn ts (.code (.scope c) :: k) ds kind r) cs w) = .next (lone (fRun fn ts (.code c :: .inScope c :: k) ds kind r) cs w) := step_lone_go (by simp [stepG, stepG.exec])
theorem st_cond {c : Operand} {a b : Code} {t : Bool} (h : (Act.mk ts ds).eval c = .bool t) :
    step P (lone (fRun fn ts (.code (.cond c a b) :: k) ds kind r) cs w) = .next (lone (fRun fn ts (.code (if t then a else b) :: k) ds kind r) cs w) := by
  have he : Frame.eval (fRun fn ts (.code (.cond c a b) :: k) ds kind r) c = .bool t := by rw [← h]; cases c <;> rfl
  exact step_lone_go (by
    simp only [fRun] at he
    simp [stepG, stepG.exec, he])
theorem st_exit {id : Nat} {k' : List Item} (h : exitTo id k = some k') : step P (lone (fRun fn ts (.code (.exit id) :: k) ds kind r) cs w) = .next (lone (fRun fn ts k' ds kind r) cs w) := step_lone_go (by simp [stepG, stepG.exec, h])
theorem st_region {id : Nat} {ops : Array Oper} : step P (lone (fRun fn ts (.code (.region id ops false) :: k) ds kind r) cs w) = .next (lone (fRun fn ts (.inRegion ops (List.range ops.size) :: k) ds kind r) cs w) := step_lone_go (by simp [stepG, stepG.exec])
theorem st_region_draw {id : Nat} {ops : Array Oper} : step P (lone (fRun fn ts (.code (.region id ops true) :: k) ds kind r) cs w) =
    .next (lone (fRun fn ts (.inRegion ops (Region.schedule (P.follows .mixedOrders) ops (w.tape w.drawn (.order fn id))) :: k) ds kind r) cs { w with drawn := w.drawn + 1 }) :=
  step_lone_go (by simp [stepG, stepG.exec, choose, Sem.run, Question.forced, Question.cut])
theorem st_region_end {ops : Array Oper} : step P (lone (fRun fn ts (.inRegion ops [] :: k) ds kind r) cs w) = .next (lone (fRun fn ts k ds kind r) cs w) := step_lone_go (by simp [stepG, stepG.exec])
theorem st_end_none : step P (lone (fRun fn ts [] ds kind none) cs w) = .next (lone { fRun fn ts [] ds kind none with mode := .returning } cs w) := step_lone_go (by simp [stepG, stepG.exec])
theorem st_ret_none : step P (lone (fRun fn ts (.code .ret :: k) ds kind none) cs w) = .next (lone { fRun fn ts (.code .ret :: k) ds kind none with mode := .returning } cs w) := step_lone_go (by simp [stepG, stepG.exec])

theorem st_unwanted {ops : Array Oper} {i : Nat} {rest : List Nat} (h : ((ops[i]?).map (Region.wanted · (yielded ops ts))).getD false = false) :
    step P (lone (fRun fn ts (.inRegion ops (i :: rest) :: k) ds kind r) cs w) = .next (lone ((fRun fn ts (.inRegion ops (i :: rest) :: k) ds kind r).finish undef) cs w) :=
  step_lone_go (by
    have h' := h
    simp [stepG, stepG.exec, h'])

theorem stepG_op' {ops : Array Oper} {i : Nat} {rest : List Nat} {o : Oper} (ho : ops[i]? = some o) (hw : Region.wanted o (yielded ops ts) = true) (hd : r = none ∨ ∀ c, o.op ≠ .defer c) :
    stepG P true { frame := fRun fn ts (.inRegion ops (i :: rest) :: k) ds kind r, callers := cs, status := .running, dying := none } w =
      stepG.apply P true (fRun fn ts (.inRegion ops (i :: rest) :: k) ds kind r) cs none (execOp (Act.mk ts ds).eval o) w := by
  have he : Frame.eval (fRun fn ts (.inRegion ops (i :: rest) :: k) ds kind r) = (Act.mk ts ds).eval := by funext c; cases c <;> rfl
  simp only [fRun] at he
  rcases hd with rfl | hd
  · simp [stepG, stepG.exec, stepG.oper, Frame.oper?, ho, hw, he]
  · cases r with
    | none => simp [stepG, stepG.exec, stepG.oper, Frame.oper?, ho, hw, he]
    | some l =>
      simp only [stepG, stepG.exec, ho, Option.map_some, hw, Option.getD_some, if_true, stepG.oper, Frame.oper?]
      rw [he]
      cases hop : o.op <;> first | rfl | exact absurd hop (hd _)

theorem st_value {ops : Array Oper} {i : Nat} {rest : List Nat} {o : Oper} {v : Value} (ho : ops[i]? = some o) (hw : Region.wanted o (yielded ops ts) = true) (hd : r = none ∨ ∀ c, o.op ≠ .defer c)
    (hr : (execOp (Act.mk ts ds).eval o).run P w = .ok (.value v) w') :
    step P (lone (fRun fn ts (.inRegion ops (i :: rest) :: k) ds kind r) cs w) = .next (lone ((fRun fn ts (.inRegion ops (i :: rest) :: k) ds kind r).finish v) cs w') :=
  step_lone_go (by rw [stepG_op' ho hw hd]; simp [stepG.apply, hr])
theorem st_skipped {ops : Array Oper} {i : Nat} {rest : List Nat} {o : Oper} (ho : ops[i]? = some o) (hw : Region.wanted o (yielded ops ts) = true) (hd : r = none ∨ ∀ c, o.op ≠ .defer c)
    (hr : (execOp (Act.mk ts ds).eval o).run P w = .ok .skip w') :
    step P (lone (fRun fn ts (.inRegion ops (i :: rest) :: k) ds kind r) cs w) = .next (lone ((fRun fn ts (.inRegion ops (i :: rest) :: k) ds kind r).finish undef) cs w') :=
  step_lone_go (by rw [stepG_op' ho hw hd]; simp [stepG.apply, hr])
theorem st_enter {ops : Array Oper} {i : Nat} {rest : List Nat} {o : Oper} {f : FuncId} {args : Array Value} (ho : ops[i]? = some o) (hw : Region.wanted o (yielded ops ts) = true) (hd : r = none ∨ ∀ c, o.op ≠ .defer c)
    (hr : (execOp (Act.mk ts ds).eval o).run P w = .ok (.enter f args) w') :
    step P (lone (fRun fn ts (.inRegion ops (i :: rest) :: k) ds kind r) cs w) = .next (lone (Frame.enter P f args .normal) (fRun fn ts (.inRegion ops (i :: rest) :: k) ds kind r :: cs) w') :=
  step_lone_go (by rw [stepG_op' ho hw hd]; simp [stepG.apply, hr])
theorem st_round {ops : Array Oper} {i : Nat} {rest : List Nat} {o : Oper} {l : Nat} {f : FuncId} {tm : Array Value} {a b : Code} (ho : ops[i]? = some o) (hw : Region.wanted o (yielded ops ts) = true) (hd : r = none ∨ ∀ c, o.op ≠ .defer c)
    (hr : (execOp (Act.mk ts ds).eval o).run P w = .ok (.round l f tm a b) w') :
    step P (lone (fRun fn ts (.inRegion ops (i :: rest) :: k) ds kind r) cs w) = .next (lone (Frame.round l f tm a b .normal) (fRun fn ts (.inRegion ops (i :: rest) :: k) ds kind r :: cs) w') :=
  step_lone_go (by rw [stepG_op' ho hw hd]; simp [stepG.apply, hr])
theorem st_defer {ops : Array Oper} {i : Nat} {rest : List Nat} {o : Oper} {d : Deferred} (ho : ops[i]? = some o) (hw : Region.wanted o (yielded ops ts) = true)
    (hr : (execOp (Act.mk ts ds).eval o).run P w = .ok (.defer d) w') :
    step P (lone (fRun fn ts (.inRegion ops (i :: rest) :: k) ds kind none) cs w) = .next (lone ((fRun fn ts (.inRegion ops (i :: rest) :: k) (d :: ds) kind none).finish undef) cs w') :=
  step_lone_go (by rw [stepG_op' ho hw (.inl rfl)]; simp [stepG.apply, hr])
theorem st_recover {ops : Array Oper} {i : Nat} {rest : List Nat} {o : Oper} {c : Frame} (ho : ops[i]? = some o) (hw : Region.wanted o (yielded ops ts) = true) (hc : c.mode = .returning)
    (hr : (execOp (Act.mk ts ds).eval o).run P w = .ok .recover w') :
    step P (lone (fRun fn ts (.inRegion ops (i :: rest) :: k) ds .deferred none) (c :: cs) w) = .next (lone ((fRun fn ts (.inRegion ops (i :: rest) :: k) ds .deferred none).finish .nilIface) (c :: cs) w') :=
  step_lone_go (by rw [stepG_op' ho hw (.inl rfl)]; simp [stepG.apply, hr, tryRecover, hc])

/-! ### A frame that leaves -/
theorem st_return_normal {todo : List Item} {func : Func} {v : Value} {c : Frame} (hf : P.funcs[fn]? = some func) (hr : (results func ts).run P w = .ok v w) :
    step P (lone { fn, tmps := ts, todo, defers := [], mode := .returning, kind := .normal, roundOf := r } (c :: cs) w) = .next (lone (c.finish v) cs w) :=
  step_lone_go (by simp [stepG, unwind, doReturn, hf, hr])
theorem st_return_deferred {todo : List Item} {func : Func} {v : Value} {c : Frame} (hf : P.funcs[fn]? = some func) (hr : (results func ts).run P w = .ok v w) (hc : ∀ chain, c.mode ≠ .panicking chain) :
    step P (lone { fn, tmps := ts, todo, defers := [], mode := .returning, kind := .deferred, roundOf := r } (c :: cs) w) = .next (lone c cs w) :=
  step_lone_go (by
    cases hm : c.mode with
    | panicking ch => exact absurd hm (hc ch)
    | run => simp [stepG, unwind, doReturn, hf, hr, hm]
    | returning => simp [stepG, unwind, doReturn, hf, hr, hm])
theorem gget {b : Nat} {o : Obj} (hh : w.heap[b]? = some o) (hn : ∀ c e fz, o ≠ .cells c e fz) : (getObj b).run P w = .ok o w := by
  show Sem.run P (.getObj b .pure) w = _
  simp only [Sem.run, hh]
theorem gset {b : Nat} {o o' : Obj} (hh : w.heap[b]? = some o) (hn : ∀ c e fz, o ≠ .cells c e fz) : (setObj b o').run P w = .ok () { w with heap := w.heap.setIfInBounds b o' } := by
  show Sem.run P (.setObj b o' (.pure ())) w = _
  simp only [Sem.run, hh]
theorem st_collected {todo : List Item} {b : Nat} {l : List Deferred} (hh : w.heap[b]? = some (.deferred (some l))) :
    step P (lone { fn, tmps := ts, todo, defers := { target := .collected b, args := #[] } :: ds, mode := .returning, kind, roundOf := r } cs w) =
      .next (lone { fn, tmps := ts, todo, defers := l ++ ds, mode := .returning, kind, roundOf := r } cs { w with heap := w.heap.setIfInBounds b (.deferred none) }) := by
  have hg : (Instr.takeDeferred b).run P w = .ok l { w with heap := w.heap.setIfInBounds b (.deferred none) } := by
    unfold Instr.takeDeferred
    simp only [Sem.run_bind, gget hh (by intro _ _ _ z; cases z), Result.andThen_ok, gset hh (by intro _ _ _ z; cases z), Sem.run_pure]
  exact step_lone_go (by simp [stepG, unwind, hg])
theorem st_deferred_call {todo : List Item} {fnv : Fn} {cap args : Array Value} {f : FuncId} {a : Array Value} (hi : (invoke (.fn fnv cap) args).run P w = .ok (.enter f a) w') :
    step P (lone { fn, tmps := ts, todo, defers := { target := .fn fnv cap, args := args } :: ds, mode := .returning, kind, roundOf := r } cs w) =
      .next (lone (Frame.enter P f a .deferred) ({ fn, tmps := ts, todo, defers := ds, mode := .returning, kind, roundOf := r } :: cs) w') :=
  step_lone_go (by simp [stepG, unwind, callDeferred, hi])
end
end Go.Ab
