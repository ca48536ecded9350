/-
  The small machine's operations that turn no memory are the model's: put together. No statement of the seat is proved here. Conditions: none.
-/
import Derived.Test.YtmpiakibllgdeaaGreatDoorAq
set_option linter.unusedVariables false
set_option linter.unusedSimpArgs false
namespace Go.Ab
section
variable {E : Env} {w0 w : World} {φ : Phi} {h : AHeap}

theorem VR.cells {v v' : Value} (hv : VR φ v v') : VRs φ v.cells.toList v'.cells.toList := by
  cases hv with
  | atom v k =>
    cases v <;> first
      | exact .cons (.atom _ k) .nil
      | (simp [Ab.atom] at k; done)
  | ptr a p s e => exact .cons (.ptr a p s e) .nil
  | slice a p l c c' s e k => exact .cons (.slice a p l c c' s e k) .nil
  | junk a c => exact .cons (.junk a c) .nil
  | map r p e => exact .cons (.map r p e) .nil
  | func f f' a b a' b' x y z => exact .cons (.func f f' a b a' b' x y z) .nil
  | iface t v v' x => exact .cons (.iface t v v' x) .nil
  | agg a a' x => exact x
  | tuple a a' x => exact .cons (.tuple a a' x) .nil

/-- Cells put one by one into an array, from a place on. -/
theorem foldl_set (off : Nat) : ∀ (vs : List Value) (k : Nat) (cs : Array Value), off + k + vs.length ≤ cs.size →
    ((vs.zipIdx k).foldl (fun cs (x : Value × Nat) => cs.setIfInBounds (off + x.2) x.1) cs).size = cs.size ∧
    ∀ i, ((vs.zipIdx k).foldl (fun cs (x : Value × Nat) => cs.setIfInBounds (off + x.2) x.1) cs)[i]? = if off + k ≤ i ∧ i < off + k + vs.length then vs[i - (off + k)]? else cs[i]?
  | [], k, cs, _ => by
    refine ⟨rfl, fun i => ?_⟩
    simp only [List.zipIdx_nil, List.foldl_nil, List.length_nil, Nat.add_zero]
    rw [if_neg (by omega)]
  | v :: vs, k, cs, hl => by
    simp only [List.length_cons] at hl
    obtain ⟨h1, h2⟩ := foldl_set off vs (k + 1) (cs.setIfInBounds (off + k) v) (by simp; omega)
    simp only [List.zipIdx_cons, List.foldl_cons]
    refine ⟨by rw [h1]; simp, fun i => ?_⟩
    rw [h2 i]
    by_cases e1 : off + (k + 1) ≤ i ∧ i < off + (k + 1) + vs.length
    · rw [if_pos e1, if_pos (by simp; omega)]
      have : i - (off + k) = (i - (off + (k + 1))) + 1 := by omega
      rw [this, List.getElem?_cons_succ]
    · rw [if_neg e1]
      by_cases e2 : i = off + k
      · subst e2
        rw [if_pos (by simp), Nat.sub_self, List.getElem?_cons_zero]
        rw [Array.getElem?_setIfInBounds_self_of_lt (by omega)]
      · rw [if_neg (by simp; omega), Array.getElem?_setIfInBounds_ne (by omega)]

theorem fill_rel {place : Nat → Option (Nat × Nat)} : ∀ (parts parts' : List (Nat × Value)) (cs : List Value) (cs' : Array Value) (out : List Value),
    PartsR φ parts parts' → VRs φ cs cs'.toList → fillE place cs parts = some out → ∃ out', Instr.fill place cs' parts' = some out' ∧ VRs φ out out'.toList
  | [], _, cs, cs', out, .nil, hc, e => by
    simp only [fillE, Option.some.injEq] at e
    subst e
    exact ⟨cs', rfl, hc⟩
  | (i, v) :: parts, _, cs, cs', out, .cons (v' := v') (l' := l') hv hp, hc, e => by
    simp only [fillE, Option.bind_eq_some_iff] at e
    obtain ⟨⟨off, size⟩, hpl, e⟩ := e
    have hcl := hv.cells
    have hlen := hcl.length
    cases hb : (Nat.beq v.cells.toList.length size && !Nat.beq size 0) with
    | false => simp only [hb, cond_false] at e; cases e
    | true =>
      simp only [hb, cond_true, Option.bind_eq_some_iff] at e
      obtain ⟨cs2, hs, e⟩ := e
      simp only [Bool.and_eq_true, Bool.not_eq_true', Nat.beq_eq] at hb
      have hsz : v.cells.toList.length = size := hb.1
      have hs0 : size ≠ 0 := fun z => by have := hb.2; rw [z] at this; simp at this
      obtain ⟨s1, s2, s3⟩ := splice_get _ _ _ _ hs
      have hl := hc.length
      have hfit : off + v'.cells.size ≤ cs'.size ∨ v'.cells.size = 0 := by
        rcases s3 with z | z
        · left
          have : v'.cells.size = v.cells.toList.length := by rw [hlen]; simp
          have : cs'.size = cs.length := by rw [hl]; simp
          omega
        · right
          have : v'.cells.toList.length = 0 := by rw [← hlen, z]; rfl
          simpa using this
      have hnew : ∃ cs2', VRs φ cs2 cs2'.toList ∧ Instr.fill place cs' ((i, v') :: l') = Instr.fill place cs2' l' := by
        have hsize' : v'.cells.size = size := by
          have : v'.cells.toList.length = size := by rw [← hlen, hsz]
          simpa using this
        have hz : off + v'.cells.size ≤ cs'.size := by omega
        · obtain ⟨f1, f2⟩ := foldl_set off v'.cells.toList 0 cs' (by simpa using hz)
          let cs2' : Array Value := (v'.cells.toList.zipIdx 0).foldl (fun cs (x : Value × Nat) => cs.setIfInBounds (off + x.2) x.1) cs'
          refine ⟨cs2', ?_, ?_⟩
          · refine VRs.of_get _ _ (by simp [f1, cs2', s1, hl]) (fun k a b ha hb => ?_)
            rw [s2 k] at ha
            have hb' : cs2'[k]? = some b := by simpa using hb
            rw [f2 k] at hb'
            simp only [Nat.add_zero] at hb'
            have hlen' : v'.cells.toList.length = v.cells.toList.length := hlen.symm
            by_cases hk : off ≤ k ∧ k < off + v.cells.toList.length
            · rw [if_pos hk] at ha
              rw [if_pos (by omega)] at hb'
              obtain ⟨b2, q1, q2⟩ := hcl.get ha
              rw [q1] at hb'; cases hb'; exact q2
            · rw [if_neg hk] at ha
              rw [if_neg (by omega)] at hb'
              obtain ⟨b2, q1, q2⟩ := hc.get ha
              have : cs'[k]? = some b2 := by simpa using q1
              rw [this] at hb'; cases hb'; exact q2
          · have hno : ¬ (v'.cells.size ≠ size || decide (off + v'.cells.size > cs'.size)) = true := by
              simp only [hsize', ne_eq, not_true, decide_false, Bool.false_or, decide_eq_true_eq]
              omega
            simp only [Instr.fill, hpl]
            rw [if_neg hno]
            congr 1
            show _ = (v'.cells.toList.zipIdx 0).foldl _ cs'
            rw [← Array.foldl_toList]
            simp [Array.toList_zipIdx]
      obtain ⟨cs2', n1, n2⟩ := hnew
      obtain ⟨out', o1, o2⟩ := fill_rel parts l' cs2 cs2' out hp n1 e
      exact ⟨out', by rw [n2]; exact o1, o2⟩

theorem run_places : ∀ (fs : List Field) (ps : List (Nat × Nat)), placesE E fs = some ps →
    (fs.mapM fun f => do pure (f.offset, ← sizeOf f.type) : Sem (List (Nat × Nat))).run E.P w = .ok ps w
  | [], ps, e => by simp [placesE] at e; subst e; simp
  | f :: fs, ps, e => by
    simp only [placesE, Option.bind_eq_some_iff, Option.some.injEq] at e
    obtain ⟨n, hn, l, hl, rfl⟩ := e
    have := run_places fs l hl
    simp only [List.mapM_cons, Sem.run_bind, run_size hn, Result.andThen_ok, this, Sem.run_pure]

theorem evO_rel {ρ : Operand → Option Value} {rhq : Operand → Value} (hr : RhoR φ ρ rhq) {x : Option Operand} {v : Option Value} (e : evO ρ x = some v) : OptR φ v (x.map rhq) := by
  cases x with
  | none => simp [evO] at e; subst e; exact .none
  | some x =>
    simp only [evO, Option.bind_eq_some_iff, Option.some.injEq] at e
    obtain ⟨v, hv, rfl⟩ := e
    exact .some (hr x v hv)

theorem run_lenE {argTypes : List TypeId} {args args' : List Value} {ty : TypeId} {v : Value} (W : WR w0 φ h w) (ha : VRs φ args args') (e : lenE E h argTypes args = some v) :
    ∃ v', (Builtin.len_ argTypes.toArray ty args'.toArray).run E.P w = .ok v' w ∧ VR φ v v' := by
  unfold lenE at e
  split at e
  · rename_i t ts x
    simp only [Option.bind_eq_some_iff] at e
    obtain ⟨d, hd, e⟩ := e
    have rd := run_und (E := E) (w := w) hd
    cases ha with
    | cons hx hn =>
      cases hn
      split at e
      · cases hx with | atom _ _ =>
        simp only [Option.some.injEq] at e; subst e
        exact ⟨_, by simp [Builtin.len_, rd, goInt], .atom _ rfl⟩
      · simp only [Option.some.injEq] at e; subst e
        cases hx with
        | atom _ _ => exact ⟨_, by simp [Builtin.len_, rd, goInt], .atom _ rfl⟩
        | slice => exact ⟨_, by simp [Builtin.len_, rd, goInt], .atom _ rfl⟩
        | junk => exact ⟨_, by simp [Builtin.len_, rd, goInt], .atom _ rfl⟩
      · rename_i kt et m
        simp only [Option.bind_eq_some_iff, Option.some.injEq] at e
        obtain ⟨l, hl, rfl⟩ := e
        cases hx with
        | atom _ k =>
          cases m with
          | none =>
            have : l = [] := by simpa [getMap] using hl.symm
            subst this
            exact ⟨_, by simp [Builtin.len_, rd, goInt], .atom _ rfl⟩
          | some b => simp [atom] at k
        | map _ p hp =>
          have := W.live _ p hp
          rw [getMap_some hl] at this
          obtain ⟨_, _, es, clock, hh, M⟩ := this
          have rg := run_getObj (E := E) hh (by intro c e fz z; cases z)
          exact ⟨_, by simp [Builtin.len_, rd, goInt, rg, M.len], .atom _ rfl⟩
      · cases e
  · cases e

theorem run_minmax {mx : Bool} {args args' : List Value} {v : Value} (ha : VRs φ args args') (e : minmaxE mx args = some v) (at_ : Array TypeId) (ty : TypeId) :
    ((if mx then Builtin.max_ at_ ty args'.toArray else Builtin.min_ at_ ty args'.toArray)).run E.P w = .ok v w ∧ VR φ v v := by
  unfold minmaxE at e
  split at e
  · cases ha with
    | cons h1 h2 =>
      cases h2 with
      | cons h2 h3 =>
        cases h3
        cases h1 with | atom _ _ =>
        cases h2 with | atom _ _ =>
        simp only [Option.some.injEq] at e
        subst e
        refine ⟨?_, .atom _ rfl⟩
        cases mx with
        | true => simp [Builtin.max_, Builtin.max2]
        | false => simp [Builtin.min_, Builtin.min2]
  · cases e

theorem data_bare {b : Builtin} (hq : Nat.beq b.ctorIdx 20 = true) (ts : Array TypeId) (ty : TypeId) (cs : Array Bool) (a : Addr) (len c : Nat) :
    builtin b ts ty cs #[.slice (some a) len c] = (do
      let v ← (if c ≠ 0 then pure (.pointer (some a))
        else do
          if (← viewAt a.block).isSome then pure (.pointer (some a))
          else pure (.pointer (some ⟨← newObj (.view a (← elemOf ty)), 0, none⟩)) : Sem Value)
      pure (.value v)) := by
  cases b <;> first | exact Bool.noConfusion hq | rfl

theorem run_lightB {b : Builtin} {argTypes : List TypeId} {args args' : List Value} {ty : TypeId} {v : Value} (W : WR w0 φ h w) (ha : VRs φ args args') (e : lightB E h b argTypes args = some v) :
    ∃ v', (∀ cs, (builtin b argTypes.toArray ty cs args'.toArray).run E.P w = .ok (.value v') w) ∧ VR φ v v' := by
  unfold lightB at e
  split at e
  · obtain ⟨v', r, hv⟩ := run_lenE (ty := ty) W ha e
    exact ⟨v', fun cs => by simp only [builtin, Sem.run_bind, r, Result.andThen_ok, Sem.run_pure], hv⟩
  · obtain ⟨r, hv⟩ := run_minmax (E := E) (w := w) ha e argTypes.toArray ty
    simp only [Bool.false_eq_true, if_false] at r
    exact ⟨v, fun cs => by simp only [builtin, Sem.run_bind, r, Result.andThen_ok, Sem.run_pure], hv⟩
  · obtain ⟨r, hv⟩ := run_minmax (E := E) (w := w) ha e argTypes.toArray ty
    simp only [if_true] at r
    exact ⟨v, fun cs => by simp only [builtin, Sem.run_bind, r, Result.andThen_ok, Sem.run_pure], hv⟩
  · split at e
    · rename_i t ts len cap
      simp only [Option.bind_eq_some_iff] at e
      obtain ⟨d, hd, e⟩ := e
      have rd := run_und (E := E) (w := w) hd
      cases ha with
      | cons hx hn =>
        cases hn
        cases hx with | atom _ _ =>
        split at e
        · simp only [Option.some.injEq] at e; subst e
          exact ⟨.int .i64 cap, fun cs => by simp [builtin, Builtin.cap_, rd, goInt], .atom _ rfl⟩
        · cases e
    · cases e
  · cases hq : Nat.beq b.ctorIdx 20 with
    | false => simp [hq] at e
    | true =>
    simp only [hq, cond_true] at e
    split at e
    · rename_i a len c
      split at e
      · rename_i hs
        simp only [Option.some.injEq] at e; subst e
        cases ha with
        | cons hx hn =>
          cases hn
          cases hx with
          | atom _ k => simp [atom] at k
          | slice _ p _ _ cap' s1 h1 hc =>
            refine ⟨.pointer (some ⟨p.b, p.o + a.off, none⟩), ?_, .ptr a p s1 h1⟩
            have hc0 : cap' ≠ 0 := by
              unfold CapR at hc
              split at hc <;> omega
            intro cs
            have hA : ([Value.slice (some ⟨p.b, p.o + a.off, none⟩) len cap'] : List Value).toArray = #[.slice (some ⟨p.b, p.o + a.off, none⟩) len cap'] := rfl
            rw [hA]
            simp only [data_bare hq, ne_eq, hc0, not_false_eq_true, if_true, Sem.run_bind, Sem.run_pure, Result.andThen_ok]
      · cases e
    · cases e

theorem lop_sound {ρ : Operand → Option Value} {rhq : Operand → Value} {o : Oper} {v : Value} (W : WR w0 φ h w) (hr : RhoR φ ρ rhq) (e : lop E ρ h o.op = some v) :
    ∃ v', (execOp rhq o).run E.P w = .ok (.value v') w ∧ VR φ v v' := by
  obtain ⟨dst, op, type, pos, after, guard⟩ := o
  simp only at e
  unfold lop at e
  split at e
  · exact ⟨_, rfl, hr _ _ e⟩
  · exact ⟨_, rfl, hr _ _ e⟩
  · rename_i c a b
    simp only [Option.bind_eq_some_iff] at e
    obtain ⟨cv, hc, e⟩ := e
    have hcr := hr c cv hc
    split at e
    · cases hcr' : rhq c with
      | bool t =>
        rw [hcr'] at hcr; cases hcr with | atom _ _ =>
        exact ⟨rhq a, by simp [execOp, asBool, hcr'], hr _ _ e⟩
      | _ => rw [hcr'] at hcr; cases hcr
    · cases hcr' : rhq c with
      | bool t =>
        rw [hcr'] at hcr; cases hcr with | atom _ _ =>
        exact ⟨rhq b, by simp [execOp, asBool, hcr'], hr _ _ e⟩
      | _ => rw [hcr'] at hcr; cases hcr
    · cases e
  · rename_i t parts
    simp only [Option.bind_eq_some_iff] at e
    obtain ⟨z, hz, vs, hvs, d, hd, e⟩ := e
    have rz := run_zero (E := E) (w := w) hz
    have rd := run_und (E := E) (w := w) hd
    have hp := evParts_rel hr _ hvs
    have hzr : VRs φ z.cells.toList z.cells.toList := (VR.const rz.2 : VR φ z z).cells
    split at e
    · rename_i fs
      simp only [Option.bind_eq_some_iff, Option.some.injEq] at e
      obtain ⟨ps, hps, cs, hcs, rfl⟩ := e
      obtain ⟨out', o1, o2⟩ := fill_rel _ _ _ _ _ hp hzr hcs
      refine ⟨.agg out', ?_, .agg _ _ (by simpa using o2)⟩
      have rp := run_places (E := E) (w := w) fs.toList ps hps
      have hpl : (fun (i : Nat) => ps.toArray[i]?) = (fun (i : Nat) => ps[i]?) := by funext i; simp
      simp only [execOp, Instr.build, Sem.run_bind, rz.1, rd, Result.andThen_ok, Array.mapM_eq_mapM_toList, Sem.run_map, rp, Array.toList_map, hpl]
      rw [show (List.map (fun (x : Nat × Operand) => match x with | (i, x) => (i, rhq x)) parts.toList) = List.map (fun p => (p.1, rhq p.2)) parts.toList from rfl, o1]
      rfl
    · rename_i n elem
      simp only [Option.bind_eq_some_iff, Option.some.injEq] at e
      obtain ⟨size, hsz, cs, hcs, rfl⟩ := e
      obtain ⟨out', o1, o2⟩ := fill_rel _ _ _ _ _ hp hzr hcs
      refine ⟨.agg out', ?_, .agg _ _ (by simpa using o2)⟩
      simp only [execOp, Instr.build, Sem.run_bind, rz.1, rd, Result.andThen_ok, run_size hsz, Array.toList_map]
      rw [show (List.map (fun (x : Nat × Operand) => match x with | (i, x) => (i, rhq x)) parts.toList) = List.map (fun p => (p.1, rhq p.2)) parts.toList from rfl, o1]
      rfl
    · cases e
  · rename_i x
    simp only [Option.bind_eq_some_iff] at e
    obtain ⟨v0, hv0, e⟩ := e
    have hx := hr x v0 hv0
    split at e
    · rename_i ad
      simp only [Option.some.injEq] at e; subst e
      generalize hxe : rhq x = x' at hx
      cases hx with
      | atom _ k => simp [atom] at k
      | ptr _ p s1 h1 => exact ⟨.pointer (some ⟨p.b, p.o + ad.off, none⟩), by simp [execOp, hxe], .ptr ad p s1 h1⟩
    · cases e
  · rename_i op xt x y yt
    simp only [Option.bind_eq_some_iff] at e
    obtain ⟨a, ha, b, hb, e⟩ := e
    obtain ⟨g, v', r, hv⟩ := run_binE W (hr x a ha) (hr y b hb) e
    exact ⟨v', by simp only [execOp, Sem.run_bind, g, r, Result.andThen_ok, Sem.run_pure], hv⟩
  · rename_i op t x
    simp only [Option.bind_eq_some_iff] at e
    obtain ⟨a, ha, e⟩ := e
    obtain ⟨r, hv⟩ := run_unE (E := E) (w := w) (hr x a ha) e
    exact ⟨v, by simp only [execOp, Sem.run_bind, r, Result.andThen_ok, Sem.run_pure], hv⟩
  · rename_i s d x
    simp only [Option.bind_eq_some_iff] at e
    obtain ⟨a, ha, e⟩ := e
    obtain ⟨v', r, hv⟩ := run_convE W (hr x a ha) e
    exact ⟨v', by simp only [execOp, Sem.run_bind, r, Result.andThen_ok, Sem.run_pure], hv⟩
  · rename_i t x
    simp only [Option.bind_eq_some_iff] at e
    obtain ⟨a, ha, d, hd, e⟩ := e
    have rd := run_und (E := E) (w := w) hd
    split at e
    · cases e
    · rename_i hni
      simp only [Option.some.injEq] at e; subst e
      refine ⟨.iface t (rhq x), ?_, .iface _ _ _ (hr x a ha)⟩
      simp only [execOp, Instr.makeInterface, Sem.run_bind, rd, Result.andThen_ok]
      cases d <;> first | rfl | exact absurd rfl (hni _)
  · rename_i fn first captured
    cases hy : isYield fn with
    | true => simp [hy] at e
    | false =>
      simp only [hy, cond_false, Option.bind_eq_some_iff, Option.some.injEq] at e
      obtain ⟨a, ha, b, hb, rfl⟩ := e
      refine ⟨.func fn (first.map rhq) (captured.map rhq), rfl, .func _ _ _ _ _ _ (.same _ (by cases fn <;> simp_all [isYield, notYield])) ?_ ?_⟩
      · simpa using evs_rel hr _ ha
      · simpa using evs_rel hr _ hb
  · rename_i t x lo hi mx
    simp only [Option.bind_eq_some_iff] at e
    obtain ⟨a, ha, lo', hlo, hi', hhi, mx', hmx, e⟩ := e
    obtain ⟨v', r, hv⟩ := run_sliceE W (hr x a ha) (evO_rel hr hlo) (evO_rel hr hhi) (evO_rel hr hmx) e
    exact ⟨v', by simp only [execOp, Sem.run_bind, r, Result.andThen_ok, Sem.run_pure], hv⟩
  · rename_i t x i
    simp only [Option.bind_eq_some_iff] at e
    obtain ⟨a, ha, d, hd, e⟩ := e
    have rd := run_und (E := E) (w := w) hd
    have hx := hr x a ha
    split at e
    · rename_i fs ad
      split at e
      · cases e
      · rename_i hs
        simp only [Option.bind_eq_some_iff] at e
        obtain ⟨f, hf, n, hn, e⟩ := e
        cases hb : Nat.beq n 0 with
        | true => simp [hb] at e
        | false =>
          simp only [hb, cond_false, Option.some.injEq] at e
          subst e
          have hn0 : n ≠ 0 := fun z => by subst z; simp at hb
          generalize hxe : rhq x = x' at hx
          cases hx with
          | atom _ k => simp [atom] at k
          | ptr _ p s1 h1 =>
            refine ⟨_, ?_, .ptr (addrAdd ad f.offset) p rfl h1⟩
            have hf' : fs[i]? = some f := by simpa using hf
            simp only [execOp, hxe, Instr.fieldAt, Sem.run_bind, rd, Result.andThen_ok, hf', Instr.sureAddr, Sem.run_pure, fieldPlace, run_size hn, hn0, if_false, Sem.run_ite, add_eq]
            simp [addrAdd, Nat.add_assoc]
    · cases e
  · rename_i t x i
    simp only [Option.bind_eq_some_iff] at e
    obtain ⟨a, ha, d, hd, e⟩ := e
    have rd := run_und (E := E) (w := w) hd
    have hx := hr x a ha
    split at e
    · rename_i fs cs
      simp only [Option.bind_eq_some_iff] at e
      obtain ⟨f, hf, e⟩ := e
      generalize hxe : rhq x = x' at hx
      cases hx with
      | atom _ k => simp [atom] at k
      | agg _ cs' hcs =>
        obtain ⟨v', r, hv⟩ := run_part (E := E) (w := w) e hcs
        refine ⟨v', ?_, hv⟩
        have hf' : fs[i]? = some f := by simpa using hf
        simp only [execOp, hxe, Instr.field, Sem.run_bind, rd, Result.andThen_ok, hf', asAgg, Sem.run_pure, r]
    · cases e
  · rename_i t x ix
    simp only [Option.bind_eq_some_iff] at e
    obtain ⟨a, ha, i, hi, e⟩ := e
    obtain ⟨v', r, hv⟩ := run_indexAddrE (E := E) (w := w) (hr x a ha) (hr ix i hi) e
    exact ⟨v', by simp only [execOp, Sem.run_bind, r, Result.andThen_ok, Sem.run_pure], hv⟩
  · rename_i t x ix
    simp only [Option.bind_eq_some_iff] at e
    obtain ⟨a, ha, i, hi, e⟩ := e
    obtain ⟨v', r, hv⟩ := run_indexE (E := E) (w := w) (hr x a ha) (hr ix i hi) e
    exact ⟨v', by simp only [execOp, Sem.run_bind, r, Result.andThen_ok, Sem.run_pure], hv⟩
  · rename_i t x k ok
    simp only [Option.bind_eq_some_iff] at e
    obtain ⟨a, ha, i, hi, e⟩ := e
    obtain ⟨v', r, hv⟩ := run_lookupE W (hr x a ha) (hr k i hi) e
    exact ⟨v', by simp only [execOp, Sem.run_bind, r, Result.andThen_ok, Sem.run_pure], hv⟩
  · rename_i t i
    simp only [Option.bind_eq_some_iff] at e
    obtain ⟨a, ha, e⟩ := e
    have hx := hr t a ha
    split at e
    · rename_i vs
      generalize hxe : rhq t = x' at hx
      cases hx with
      | atom _ k => simp [atom] at k
      | tuple _ vs' hvs =>
        obtain ⟨v', q1, q2⟩ := hvs.get e
        have q1' : vs'[i]? = some v' := by simpa using q1
        exact ⟨v', by simp [execOp, hxe, Instr.extract, q1'], q2⟩
    · cases e
  · rename_i t a
    simp only [Option.bind_eq_some_iff] at e
    obtain ⟨v0, hv0, e⟩ := e
    have hx := hr a v0 hv0
    split at e
    · split at e
      · rename_i ad hs
        generalize hxe : rhq a = x' at hx
        cases hx with
        | atom _ k => simp [atom] at k
        | ptr _ p s1 h1 =>
          obtain ⟨v', r, hv⟩ := run_loadVar W h1 e
          exact ⟨v', by simp only [execOp, hxe, Instr.loadAt, Instr.sureAddr, Sem.run_bind, Sem.run_pure, Result.andThen_ok, r], hv⟩
      · cases e
    · cases e
  · rename_i c
    split at e
    · rename_i b hb
      simp only [Option.bind_eq_some_iff] at e
      obtain ⟨args, ha, e⟩ := e
      have hargs := evs_rel hr _ ha
      obtain ⟨v', r, hv⟩ := run_lightB (ty := type) W hargs e
      refine ⟨v', ?_, hv⟩
      simp only [execOp, resolve, hb, Sem.run_bind, Sem.run_pure, Result.andThen_ok, invoke]
      have : (List.map rhq c.args.toList).toArray = c.args.map rhq := by apply Array.ext'; simp
      rw [this] at r
      exact r _
    · cases e
  · cases e
end
end Go.Ab
