/-
  Every operation of the small machine is the model's. No statement of the seat is proved here. Conditions: none.
-/
import Derived.Test.YtmpiakibllgdeaaGreatDoorBa
import Derived.Laws.MakeOwn
set_option linter.unusedVariables false
set_option linter.unusedSimpArgs false
namespace Go.Ab
section
variable {E : Env} {w0 w : World} {φ : Phi} {h h' : AHeap}

theorem resolve_sound {ρ : Operand → Option Value} {rhq : Operand → Value} {c : Call} {d : Target × List Value} (type : TypeId) (hr : RhoR φ ρ rhq) (hb : ∀ b, c.callee ≠ .builtin b) (e : resolveE ρ c = some d) :
    ∃ d', (resolve rhq c type).run E.P w = .ok d' w ∧ DefR φ { target := d.1, args := d.2.toArray } d' := by
  unfold resolveE at e
  simp only [Option.bind_eq_some_iff] at e
  obtain ⟨args, hargs, e⟩ := e
  have ha := evs_rel hr _ hargs
  have hma : (c.args.map rhq).toList = c.args.toList.map rhq := by simp
  split at e
  · rename_i recv name hc
    simp only [Option.bind_eq_some_iff, Option.some.injEq] at e
    obtain ⟨r, hrv, rfl⟩ := e
    refine ⟨{ target := .fn (.method name) #[], args := #[rhq recv] ++ c.args.map rhq }, ?_, .fn _ _ _ _ _ _ (.same _ rfl) .nil ?_⟩
    · simp only [resolve, hc, Sem.run_pure]
    · simpa using VRs.cons (hr recv r hrv) ha
  · rename_i f hc
    simp only [Option.bind_eq_some_iff] at e
    obtain ⟨v, hv, e⟩ := e
    split at e
    · rename_i fn first captured
      simp only [Option.some.injEq] at e
      subst e
      have hx := hr f _ hv
      generalize hfe : rhq f = x' at hx
      cases hx with
      | atom _ k => simp [atom] at k
      | func _ fn' _ _ a' b' hfn h1 h2 =>
        refine ⟨{ target := .fn fn' b', args := a' ++ c.args.map rhq }, ?_, .fn _ _ _ _ _ _ hfn h2 ?_⟩
        · simp only [resolve, hc, hfe, Deferred.ofValue, Sem.run_pure]
        · simpa using h1.append ha
    · cases e
  · rename_i b hc; exact absurd hc (hb b)

theorem fill_zero {z : Value} (hz : constOk z = true) (n : Nat) : VRs φ (List.replicate n z.cells.toList).flatten ((Array.range (n * z.cells.size)).map fun i => z.cells[i % z.cells.size]!).toList := by
  rw [range_cells]
  exact VRs.replicate (VR.const hz : VR φ z z).cells n

theorem text_bare {b : Builtin} (hq : Nat.beq b.ctorIdx 21 = true) (pt : TypeId) (ts : List TypeId) (ty : TypeId) (cs : Array Bool) (a : Addr) (k : IntKind) (n : Int) : ∃ (r1 r2 : Sem PUnit) (r3 : Sem Value),
    builtin b (pt :: ts).toArray ty cs #[.pointer (some a), .int k n] = (do
      let v ← (do
        let m ← asInt (.int k n)
        if m < 0 then r1
        if m > IntKind.i64.max then r2
        if m = 0 then pure (.string .empty)
        else if ← variablesAt a (← elemOf pt) m.toNat then do
          let s ← loadBytes a .empty m.toNat
          freeze a m.toNat
          pure (.string s)
        else r3 : Sem Value)
      pure (.value v)) := by
  cases b <;> first | exact Bool.noConfusion hq | exact ⟨_, _, _, rfl⟩

theorem heavyB_sound {b : Builtin} {argTypes : List TypeId} {args args' : List Value} {ty : TypeId} {nx : ANext} (W : WR w0 φ h w) (ha : VRs φ args args') (e : heavyB E h b argTypes args = some (nx, h')) (cs : Array Bool) :
    Done E w0 φ h w (builtin b argTypes.toArray ty cs args'.toArray) nx h' := by
  unfold heavyB at e
  split at e
  · simp only [Option.bind_eq_some_iff, Option.some.injEq, Prod.mk.injEq] at e
    obtain ⟨⟨v, h1⟩, hap, rfl, rfl⟩ := e
    obtain ⟨v', w', phq, r, a, b, c, d⟩ := append_sound (ty := ty) W ha hap
    exact ⟨.value v', w', phq, by simp only [builtin, Sem.run_bind, r, Result.andThen_ok, Sem.run_pure], a, b, .value c, d⟩
  · simp only [Option.bind_eq_some_iff, Option.some.injEq, Prod.mk.injEq] at e
    obtain ⟨⟨v, h1⟩, hap, rfl, rfl⟩ := e
    obtain ⟨v', w', phq, r, a, b, c, d⟩ := copy_sound (ty := ty) W ha hap
    exact ⟨.value v', w', phq, by simp only [builtin, Sem.run_bind, r, Result.andThen_ok, Sem.run_pure], a, b, .value c, d⟩
  · simp only [Option.some.injEq, Prod.mk.injEq] at e
    obtain ⟨rfl, rfl⟩ := e
    exact ⟨.recover, w, φ, rfl, W, Ext.refl _ _, .recover, Keeps.refl h⟩
  · split at e
    · rename_i t ts b k
      simp only [Option.bind_eq_some_iff] at e
      obtain ⟨d, hd, e⟩ := e
      split at e
      · rename_i kt et l hg
        cases hko : (keyOk E kt k && idle h b) with
        | false => simp [hko] at e
        | true =>
          simp only [hko, cond_true, Option.bind_eq_some_iff, Option.some.injEq, Prod.mk.injEq] at e
          obtain ⟨l', hdr, h1, hput, rfl, rfl⟩ := e
          simp only [Bool.and_eq_true] at hko
          cases ha with
          | @cons _ m' _ _ hm ha =>
          cases ha with
          | @cons _ k' _ _ hk ha =>
          cases ha
          cases hm with
          | atom _ q => simp [atom] at q
          | map _ p hp =>
            obtain ⟨w', r, a, b⟩ := delete_sound (ts := ts) (ty := ty) W hp hk hd hg hko.1 hko.2 hdr hput
            exact ⟨.value (.tuple #[]), w', φ, by simp only [builtin, Sem.run_bind, r, Result.andThen_ok, Sem.run_pure], a, Ext.refl _ _, .value (.tuple _ _ .nil), b⟩
      · cases e
    · cases e
  · cases hq : Nat.beq b.ctorIdx 21 with
    | false => simp [hq] at e
    | true =>
    simp only [hq, cond_true] at e
    split at e
    · rename_i pt ts a k n
      split at e
      · rename_i hs
        simp only [Option.bind_eq_some_iff] at e
        obtain ⟨d, hd, e⟩ := e
        split at e
        · rename_i u c et hg
          simp only [Option.bind_eq_some_iff] at e
          obtain ⟨s, hsz, e⟩ := e
          cases hb : (Nat.beq et u && Nat.beq s 1 && Nat.blt n 100000) with
          | false => simp [hb] at e
          | true =>
            simp only [hb, cond_true, Option.bind_eq_some_iff, Option.some.injEq, Prod.mk.injEq] at e
            obtain ⟨l, hcut, bs, hbs, h1, hput, rfl, rfl⟩ := e
            simp only [Bool.and_eq_true, Nat.beq_eq, Nat.blt_eq] at hb
            obtain ⟨⟨b1, b2⟩, b3⟩ := hb
            subst b1; subst b2
            cases ha with
            | @cons _ p' _ _ hp' ha =>
            cases ha with
            | @cons _ n' _ _ hn' ha =>
            cases ha
            cases hn' with | atom _ _ =>
            cases hp' with
            | atom _ q => simp [atom] at q
            | ptr _ p s1 hp =>
              obtain ⟨l', r1, r2, r3⟩ := W.loads (E := E) hp hg hcut
              obtain ⟨ns, e1, e2⟩ := bytesOf_eq _ _ hbs
              have hl' := r2.ints e1
              obtain ⟨c', et', fz, hh, C⟩ := W.row hp hg
              obtain ⟨k1, k2⟩ := C.kind
              subst k1
              have hlen : l.length = n + 1 := (cut_length hcut).elim (fun q => q.1) (fun q => q.1)
              have hcl := cut_eq hcut
              have hfz := freeze_heap w ⟨p.b, p.o + a.off, none⟩ (n + 1)
              have Wd := W.drop (w' := w.freeze ⟨p.b, p.o + a.off, none⟩ (n + 1)) hp (by rw [hg]; rfl) (by rw [hg]; rfl) (by intro l z; rw [hg] at z; cases z) hput hfz.1 hfz.2.1 hfz.2.2.1 hfz.2.2.2.1 hfz.2.2.2.2
              have hsh : w.shape? p.b = some (et', c'.size) := by simp [World.shape?, hh]
              have hcs : E.P.cellsOf et' = 1 := by
                unfold sizeE at hsz
                unfold Program.cellsOf
                rw [hsz]; rfl
              have hvar : (variablesAt ⟨p.b, p.o + a.off, none⟩ et' (n + 1)).run E.P w = .ok true w := by
                have hd : ∃ k, E.P.depth = k + 2 := ⟨2 * (E.P.types.size + Made.depth), rfl⟩
                obtain ⟨k, hk⟩ := hd
                have hfit := C.fits
                have hlen2 := C.len
                simp only [List.length_drop] at hcl
                have hlies : liesAt E.P (k + 2) et' (c'.size / 1) (p.o + a.off) et' (n + 1) = true := by
                  unfold liesAt
                  rw [hk]
                  unfold rowAt
                  simp only [hcs, Nat.div_one, Nat.mod_one]
                  have hsl : sameLayout E.P (k + 2) et' et' = true := by unfold sameLayout; simp
                  have hle : p.o + a.off + (n + 1) ≤ c'.size := by omega
                  simp [hsl, hle]
                simp only [variablesAt, Sem.run_bind, run_program, Result.andThen_ok, run_shape, hsh, Sem.run_pure, hcs]
                rw [hk, hlies]
              have hload : ∀ (xs : List Int) (off : Nat) (acc : ByteArray), (∀ (j : Nat) v, (xs.map (Value.int .u8))[j]? = some v → w.cell? ⟨p.b, off + j, none⟩ = some v) →
                  (loadBytes ⟨p.b, off, none⟩ acc xs.length).run E.P w = .ok ⟨acc.data ++ (xs.map fun n => UInt8.ofNat n.toNat).toArray⟩ w := by
                intro xs
                induction xs with
                | nil => intro off acc _; simp [loadBytes]
                | cons x xs ih =>
                  intro off acc hx
                  have h0 := hx 0 (.int .u8 x) rfl
                  simp only [Nat.add_zero] at h0
                  have ih' := ih (off + 1) (acc.push x.toNat.toUInt8) (fun j v hj => by
                    have := hx (j + 1) v (by simpa using hj)
                    rwa [show off + (j + 1) = off + 1 + j by omega] at this)
                  simp only [List.length_cons, loadBytes, Sem.run_bind, run_load, h0, Result.andThen_ok, add_eq, ih']
                  simp [ByteArray.push]
              have hns : ns.length = n + 1 := by rw [← hlen, e1]; simp
              have hlb := hload ns (p.o + a.off) .empty (fun j v hj => by rw [← hl'] at hj; exact r3 j v hj)
              rw [hns] at hlb
              refine ⟨.value (.string ⟨bs.toArray⟩), _, φ, ?_, Wd, Ext.refl _ _, .value (.atom _ rfl), W.keeps_put hp hput⟩
              have rpt := run_und (E := E) (w := w) hd
              have hA : ([Value.pointer (some ⟨p.b, p.o + a.off, none⟩), Value.int k (Int.ofNat (n + 1))] : List Value).toArray = #[.pointer (some ⟨p.b, p.o + a.off, none⟩), .int k (Int.ofNat (n + 1))] := rfl
              rw [hA]
              have hn1 : ¬ ((n : Int) + 1 < 0) := by omega
              have hn2 : ¬ ((n : Int) + 1 > IntKind.i64.max) := by
                unfold IntKind.max IntKind.signed IntKind.bits; simp; omega
              have hn3 : ¬ ((n : Int) + 1 = 0) := by omega
              have hel : (elemOf pt).run E.P w = .ok et' w := by simp [elemOf, rpt]
              have htn : ((n : Int) + 1).toNat = n + 1 := by omega
              obtain ⟨r1, r2, r3', hU⟩ := text_bare hq pt ts ty cs ⟨p.b, p.o + a.off, none⟩ k (Int.ofNat (n + 1))
              rw [hU]
              simp only [asInt, asIntOf, Sem.run_bind, Sem.run_pure, Result.andThen_ok, Int.ofNat_eq_natCast, Int.natCast_add, Int.natCast_one, hn1, hn2, hn3, if_false, Sem.run_ite, hel, htn, hvar, if_true, hlb, run_freeze]
              rw [e2]
              simp [ByteArray.empty, ByteArray.emptyWithCapacity]
              rfl
        · cases e
      · cases e
    · cases e

theorem WR.refreeze {w' : World} {b : Nat} {p : Pl} {c : List Value} {t : TypeId} {c' : Array Value} {et : TypeId} {fz : Nat × Nat} (W : WR w0 φ h w) (hp : φ b = some p) (hg : h.t.get b = .cells c (.row t)) (hh : w.heap[p.b]? = some (.cells c' et fz))
    (hn : w'.heap[p.b]? = some (.cells c' et (if fz.1 == fz.2 then (c'.size, c'.size + 1) else (min fz.1 c'.size, max fz.2 (c'.size + 1)))))
    (hk : w'.heap.size = w.heap.size ∧ (∀ x, x ≠ p.b → w'.heap[x]? = w.heap[x]?) ∧ w'.os = w.os ∧ w'.tape = w.tape ∧ w'.output = w.output) : WR w0 φ h w' := by
  obtain ⟨k1, k2, k3, k4, k5⟩ := hk
  have hlv := W.live b p hp
  rw [hg] at hlv
  obtain ⟨c0, e0, f0, hh0, C⟩ := hlv
  rw [hh] at hh0
  simp only [Option.some.injEq, Obj.cells.injEq] at hh0
  obtain ⟨rfl, rfl, rfl⟩ := hh0
  obtain ⟨q1, q2, q3⟩ := C.kind
  refine { W with live := fun a q ha => ?_, size := k1 ▸ W.size, base := fun x hx => ?_, os := k3.trans W.os, tape := k4.trans W.tape, output := k5.trans W.output }
  · by_cases hab : a = b
    · subst hab
      rw [hp] at ha; cases ha
      rw [hg]
      have hfit := C.fits
      refine ⟨c', et, _, hn, ⟨⟨q1, q2, ?_⟩, C.fits, C.len, C.cells, fun _ j h1 h2 => ?_⟩⟩
      · right
        split
        · exact Nat.le_refl _
        · rename_i hne
          simp at hne
          simp only []
          rcases q3 with z | z
          · exact absurd z hne
          · omega
      · split
        · simp only []; omega
        · rename_i hne
          simp at hne
          rcases q3 with z | z
          · exact absurd z hne
          · simp only []; omega
    · have hl := W.live a q ha
      cases hz : isNone (h.t.get a) with
      | true =>
        cases ho : h.t.get a <;> simp [ho, isNone] at hz
        trivial
      | false =>
        have hd := W.disj b a p q (fun z => hab z.symm) hp ha (by rw [hg]; rfl) hz
        refine OR.mono (Sub.refl φ) hl (fun _ => k2 _ (fun z => hd z.symm)) (fun m left cur pm ho hpm => k2 _ fun heq => ?_)
        obtain ⟨_, ⟨l, hl2⟩, _⟩ := W.busy a q m left cur ha ho
        have hmb : m ≠ b := fun z => by rw [z, hg] at hl2; cases hl2
        exact W.disj m b pm p hmb hpm hp (by rw [hl2]; rfl) (by rw [hg]; rfl) heq
  · have := W.own b p hp (by rw [hg]; rfl) (by rw [hg]; rfl)
    rw [k2 x (by omega)]; exact W.base x hx

theorem find_born : ∀ (es : List MapEntry) (e : MapEntry), (es.map (·.born)).Nodup → e ∈ es → es.find? (·.born == e.born) = some e
  | [], _, _, h => by simp at h
  | x :: es, e, hn, h => by
    simp only [List.map_cons, List.nodup_cons] at hn
    rcases List.mem_cons.1 h with rfl | h
    · simp
    · have : x.born ≠ e.born := fun z => hn.1 (by rw [z]; exact List.mem_map.2 ⟨e, h, rfl⟩)
      rw [List.find?_cons_of_neg (by simpa using this)]
      exact find_born es e hn.2 h

theorem hop_sound {ρ : Operand → Option Value} {rhq : Operand → Value} {o : Oper} {nx : ANext} (X : ExtOK E) (W : WR w0 φ h w) (hr : RhoR φ ρ rhq) (e : hop E ρ h o.op = some (nx, h')) :
    Done E w0 φ h w (execOp rhq o) nx h' := by
  obtain ⟨dst, op, type, pos, after, guard⟩ := o
  simp only at e
  cases op with
  | alloc el =>
    simp only [hop, Option.bind_eq_some_iff, Option.some.injEq, Prod.mk.injEq] at e
    obtain ⟨z, hz, ⟨b, h1⟩, hal, rfl, rfl⟩ := e
    have rz := run_zero (E := E) (w := w) hz
    obtain ⟨phq, r, a, b', c, d⟩ := newVar_sound (E := E) W (VR.const rz.2 : VR φ z z) hal
    exact ⟨.value (.pointer (some ⟨w.heap.size, 0, none⟩)), _, phq, by simp only [execOp, Instr.alloc, Sem.run_bind, rz.1, Result.andThen_ok, r, Sem.run_pure], a, b', .value c, d⟩
  | box el x =>
    simp only [hop, Option.bind_eq_some_iff, Option.some.injEq, Prod.mk.injEq] at e
    obtain ⟨v, hv, ⟨b, h1⟩, hal, rfl, rfl⟩ := e
    obtain ⟨phq, r, a, b', c, d⟩ := newVar_sound (E := E) W (hr x v hv) hal
    exact ⟨.value (.pointer (some ⟨w.heap.size, 0, none⟩)), _, phq, by simp only [execOp, Instr.box, Sem.run_bind, Result.andThen_ok, r, Sem.run_pure], a, b', .value c, d⟩
  | buildSlice t len parts =>
    simp only [hop, Option.bind_eq_some_iff] at e
    obtain ⟨vs, hvs, d, hd, e⟩ := e
    have rd := run_und (E := E) (w := w) hd
    split at e
    · rename_i elem
      simp only [Option.bind_eq_some_iff] at e
      obtain ⟨size, hsz, z, hz, e⟩ := e
      cases hb : (Nat.blt (len * size) 100000 && Nat.beq z.cells.toList.length size) with
      | false => simp only [hb, cond_false] at e; cases e
      | true =>
        simp only [hb, cond_true, Option.bind_eq_some_iff, Option.some.injEq, Prod.mk.injEq] at e
        obtain ⟨cs, hcs, ⟨b, h1⟩, hal, rfl, rfl⟩ := e
        simp only [Bool.and_eq_true, Nat.blt_eq, Nat.beq_eq] at hb
        have rz := run_zero (E := E) (w := w) hz
        have hzs : z.cells.size = size := by simpa using hb.2
        have hp := evParts_rel hr _ hvs
        have hfz := fill_zero (φ := φ) rz.2 len
        have hbase : ∃ base : Array Value, base = ((Array.range (len * size)).map ((if len * size = 0 then (#[] : Array Value) else z.cells)[· % (if len * size = 0 then (#[] : Array Value) else z.cells).size]!)) ∧ VRs φ (List.replicate len z.cells.toList).flatten base.toList := by
          refine ⟨_, rfl, ?_⟩
          by_cases h0 : len * size = 0
          · have : (List.replicate len z.cells.toList).flatten = [] := by
              rw [← List.length_eq_zero_iff]; simp [hzs, h0]
            rw [this]
            simp [h0]
            exact .nil
          · simp only [h0, if_false]
            rw [← hzs]
            exact hfz
        obtain ⟨base, hbe, hbr⟩ := hbase
        obtain ⟨out', o1, o2⟩ := fill_rel _ _ _ _ _ hp hbr hcs
        obtain ⟨phq, r, a, b', c, dd⟩ := newRow_sound (E := E) (n := len) (cap := len) W o2 hal
        refine ⟨.value (.slice (some ⟨w.heap.size, 0, none⟩) len len), _, phq, ?_, a, b', .value c, dd⟩
        have hle : ¬ (len * size > 2 ^ 24) := by omega
        simp only [execOp, Instr.buildSlice, Sem.run_bind, rd, Result.andThen_ok, run_size hsz, hle, if_false, Array.toList_map]
        subst hbe
        by_cases h0 : len * size = 0
        · simp only [h0, if_true] at o1
          simp only [h0, if_true, Sem.run_bind, Sem.run_pure, Result.andThen_ok, o1, r]
        · simp only [h0, if_false] at o1
          simp only [h0, if_false, Sem.run_bind, Sem.run_pure, Result.andThen_ok, rz.1, o1, r]
    · cases e
  | store t a x =>
    simp only [hop, Option.bind_eq_some_iff] at e
    obtain ⟨v, hv, y, hy, e⟩ := e
    split at e
    · rename_i ad
      split at e
      · rename_i hs
        simp only [Option.bind_eq_some_iff, Option.some.injEq, Prod.mk.injEq] at e
        obtain ⟨h1, hst, rfl, rfl⟩ := e
        unfold storeE at hst
        simp only [Option.bind_eq_some_iff] at hst
        obtain ⟨n, hn, hst⟩ := hst
        cases hb : (Nat.beq y.cells.toList.length n && y.cells.toList.all oneCell) with
        | false => simp only [hb, cond_false] at hst; cases hst
        | true =>
          simp only [hb, cond_true] at hst
          simp only [Bool.and_eq_true, Nat.beq_eq] at hb
          have hx := hr a _ hv
          have hyr := hr x y hy
          generalize hxe : rhq a = a' at hx
          cases hx with
          | atom _ k => simp [atom] at k
          | ptr _ p s1 hp =>
            obtain ⟨w', r, W', _, _, _⟩ := W.stores' (E := E) hp hyr.cells hb.2 hst
            have hl : (rhq x).cells.size = n := by
              have := hyr.cells.length
              rw [hb.1] at this
              simpa using this.symm
            refine ⟨.skip, w', φ, ?_, W', Ext.refl _ _, .skip, W.keeps_store hp hst⟩
            simp only [execOp, hxe, Instr.storeAt, Instr.sureAddr, storeVar, Sem.run_bind, Sem.run_pure, Result.andThen_ok, run_size hn, hl, ne_eq, not_true, if_false, Sem.run_ite, r]
      · cases e
    · cases e
  | convert s d x =>
    simp only [hop, Option.bind_eq_some_iff] at e
    obtain ⟨v, hv, u, hu, e⟩ := e
    cases hb : Nat.beq s d with
    | false => simp [hb] at e
    | true =>
      simp only [hb, cond_true] at e
      have hsd : s = d := by simpa using hb
      subst hsd
      split at e
      · rename_i el a len cap
        simp only [Option.bind_eq_some_iff] at e
        obtain ⟨ue, hue, e⟩ := e
        split at e
        · rename_i c rt hs hg
          simp only [Option.some.injEq, Prod.mk.injEq] at e
          obtain ⟨rfl, rfl⟩ := e
          have hx := hr x _ hv
          generalize hxe : rhq x = x' at hx
          cases hx with
          | atom _ k => simp [atom] at k
          | junk => simp [junk] at hs
          | slice _ p _ _ cap' s1 hp hcap =>
            obtain ⟨c', et, fz, hh, C⟩ := W.row hp hg
            have hsh : w.shape? p.b = some (et, c'.size) := by simp [World.shape?, hh]
            have rs := run_und (E := E) (w := w) hu
            have re := run_und (E := E) (w := w) hue
            refine ⟨.value (.slice (some ⟨p.b, p.o + a.off, none⟩) len cap'), w.freeze ⟨p.b, c'.size, none⟩ 1, φ, ?_, ?_, Ext.refl _ _, .value (.slice a p len cap cap' s1 hp hcap), Keeps.refl h⟩
            · simp only [execOp, hxe, convert, Sem.run_bind, rs, re, Result.andThen_ok, beq_self_eq_true, markStringish, run_shape, hsh, run_freeze, Sem.run_pure]
            · refine W.refreeze hp hg hh (w' := w.freeze ⟨p.b, c'.size, none⟩ 1) ?_ (freeze_heap w _ _)
              simp only [World.freeze, Nat.one_ne_zero, if_false, Array.getElem?_modify, if_true, hh, Option.map_some]
        · cases e
      · cases e
  | makeMap t r =>
    simp only [hop, Option.bind_eq_some_iff] at e
    obtain ⟨d, hd, e⟩ := e
    split at e
    · rename_i kt et
      simp only [Option.bind_eq_some_iff] at e
      obtain ⟨rv, hrv, e⟩ := e
      have rd := run_und (E := E) (w := w) hd
      have ho := evO_rel hr hrv
      generalize hre : r.map rhq = r' at ho
      cases hb : hintOk rv with
      | false => simp only [hb, cond_false] at e; cases e
      | true =>
        simp only [hb, cond_true, Option.bind_eq_some_iff, Option.some.injEq, Prod.mk.injEq] at e
        obtain ⟨⟨b, h1⟩, hal, rfl, rfl⟩ := e
        have := W.new hal (.map #[] 0) ⟨w.heap.size, 0, 1, none⟩ rfl rfl (by intro m l c z; cases z) ⟨rfl, rfl, #[], 0, pushed_new w _,
          { len := rfl, fwd := by simp, bwd := by simp, keys := by simp, keys' := by simp, kind := ⟨.i64, by simp, by simp⟩, borns := by simp, clock := by simp }⟩
        refine ⟨.value (.map (some w.heap.size)), _, _, ?_, this.1, this.2, .value (.map b ⟨w.heap.size, 0, 1, none⟩ (upd_same _ _ _)), W.keeps_alloc hal⟩
        have hex : execOp rhq { dst := dst, op := Op.makeMap t r, type := type, pos := pos, after := after, guard := guard } = (do pure (.value (← Instr.makeMap t r')) : Sem Next) := by rw [← hre]; rfl
        rw [hex]
        cases ho with
        | none => rfl
        | @some v v' hv =>
          cases v <;> first | (simp [hintOk] at hb; done) | skip
          cases hv with | atom _ _ =>
          simp only [Instr.makeMap, Sem.run_bind, rd, asInt, asIntOf, Sem.run_pure, Result.andThen_ok, run_newObj]; rfl
    · cases e
  | makeSlice t l c =>
    simp only [hop, Option.bind_eq_some_iff] at e
    obtain ⟨lv, hl, cv, hc, d, hd, e⟩ := e
    have rd := run_und (E := E) (w := w) hd
    have hlr := hr l _ hl
    have hcr := hr c _ hc
    generalize hle : rhq l = l' at hlr
    generalize hce : rhq c = c' at hcr
    split at e
    · rename_i elem n m
      simp only [Option.bind_eq_some_iff] at e
      obtain ⟨size, hsz, bytes, hby, z, hz, e⟩ := e
      cases hb : (Nat.ble n m && Nat.blt m 100000 && Nat.blt bytes 100000 && Nat.beq z.cells.toList.length size) with
      | false => simp only [hb, cond_false] at e; cases e
      | true =>
        simp only [hb, cond_true, Option.bind_eq_some_iff, Option.some.injEq, Prod.mk.injEq] at e
        obtain ⟨⟨b, h1⟩, hal, rfl, rfl⟩ := e
        simp only [Bool.and_eq_true, Nat.blt_eq, Nat.beq_eq, Nat.ble_eq] at hb
        obtain ⟨⟨⟨b1, b2⟩, b3⟩, b4⟩ := hb
        cases hlr with | atom _ _ =>
        cases hcr with | atom _ _ =>
        have rz := run_zero (E := E) (w := w) hz
        have hzs : z.cells.size = size := by simpa using b4
        unfold zeroE at hz
        unfold sizeE at hsz
        unfold bytesE at hby
        cases hi : E.P.info? elem with
        | none => simp [hi] at hsz
        | some i =>
          simp only [hi, Option.map_some, Option.some.injEq] at hsz hby
          simp only [hi, Option.bind_some, Option.bind_eq_some_iff] at hz
          obtain ⟨z', hz', hz⟩ := hz
          have hzz : z' = z := by
            cases hq : constOk z' with
            | false => simp [hq] at hz
            | true => simpa [hq] using hz
          subst hzz
          have hbm : bytes * m ≤ 100000 * 100000 := Nat.mul_le_mul (by omega) (by omega)
          have hbi : (i.bytes : Int) * (m : Int) ≤ 281474976710656 := by
            rw [hby]
            have : ((bytes * m : Nat) : Int) ≤ 10000000000 := by omega
            push_cast at this
            omega
          have hrun := run_make (P := E.P) w t elem i z' hd hi hz' .i64 .i64 (n : Int) (m : Int) (by omega) (by omega) hbi (by omega)
          have hmc : (madeCells z'.cells (m * i.size)).toList = (List.replicate m z'.cells.toList).flatten := by
            rw [hsz, ← hzs]
            exact range_cells z'.cells m
          obtain ⟨phq, r, a, b', c, dd⟩ := newRow_sound (E := E) (n := n) (cap := m) (c' := madeCells z'.cells (m * i.size)) W (by rw [hmc]; exact VRs.replicate (VR.const rz.2 : VR φ z' z').cells m) hal
          refine ⟨.value (.slice (some ⟨w.heap.size, 0, none⟩) n m), _, phq, ?_, a, b', .value c, dd⟩
          simp only [execOp, hle, hce, Sem.run_bind]
          have hrun' : (Instr.makeSlice t (.int .i64 (Int.ofNat n)) (.int .i64 (Int.ofNat m))).run E.P w = .ok (.slice (some ⟨w.heap.size, 0, none⟩) n m) (World.pushed w (.cells (madeCells z'.cells (m * i.size)) elem)) := by
            have := hrun
            simp only [Int.toNat_natCast] at this
            exact this
          rw [hrun']
          rfl
    · cases e
  | mapUpdate t m k v =>
    simp only [hop] at e
    obtain ⟨rfl, w', r, a, b⟩ := mapPut_sound W hr e
    exact ⟨.skip, w', φ, by simp only [execOp, Sem.run_bind, r, Result.andThen_ok, Sem.run_pure], a, Ext.refl _ _, .skip, b⟩
  | insert t m k v =>
    simp only [hop] at e
    obtain ⟨rfl, w', r, a, b⟩ := mapPut_sound W hr e
    exact ⟨.skip, w', φ, by simp only [execOp, Sem.run_bind, r, Result.andThen_ok, Sem.run_pure], a, Ext.refl _ _, .skip, b⟩
  | call c =>
    simp only [hop] at e
    cases hc : c.callee with
    | builtin b =>
      simp only [hc, Option.bind_eq_some_iff] at e
      obtain ⟨args, hargs, e⟩ := e
      have ha := evs_rel hr _ hargs
      obtain ⟨nx', w', phq, r, q⟩ := heavyB_sound (ty := type) W ha e (c.args.map fun | .const _ => true | _ => false)
      refine ⟨nx', w', phq, ?_, q⟩
      have : (List.map rhq c.args.toList).toArray = c.args.map rhq := by apply Array.ext'; simp
      rw [this] at r
      simp only [execOp, resolve, hc, Sem.run_bind, Sem.run_pure, Result.andThen_ok, invoke]
      exact r
    | value f =>
      simp only [hc, Option.bind_eq_some_iff, Option.some.injEq, Prod.mk.injEq] at e
      obtain ⟨d, hd, nx1, hnx, rfl, rfl⟩ := e
      obtain ⟨d', r, hdr⟩ := resolve_sound (E := E) (w := w) type hr (by intro b z; rw [hc] at z; cases z) hd
      obtain ⟨nx', r2, hx⟩ := invoke_sound X W hdr hnx
      exact ⟨nx', w, φ, by simp only [execOp, Sem.run_bind, r, Result.andThen_ok, r2], W, Ext.refl _ _, hx, Keeps.refl h⟩
    | invoke rc name =>
      simp only [hc, Option.bind_eq_some_iff, Option.some.injEq, Prod.mk.injEq] at e
      obtain ⟨d, hd, nx1, hnx, rfl, rfl⟩ := e
      obtain ⟨d', r, hdr⟩ := resolve_sound (E := E) (w := w) type hr (by intro b z; rw [hc] at z; cases z) hd
      obtain ⟨nx', r2, hx⟩ := invoke_sound X W hdr hnx
      exact ⟨nx', w, φ, by simp only [execOp, Sem.run_bind, r, Result.andThen_ok, r2], W, Ext.refl _ _, hx, Keeps.refl h⟩
  | range t x =>
    obtain ⟨u, u', w', phq, rfl, r, a, b, c, d⟩ := range_sound W hr e
    exact ⟨.value u', w', phq, by simp only [execOp, Sem.run_bind, r, Result.andThen_ok, Sem.run_pure], a, b, .value c, d⟩
  | entry it =>
    simp only [hop, Option.bind_eq_some_iff] at e
    obtain ⟨v, hv, e⟩ := e
    have hx := hr it v hv
    generalize hxe : rhq it = x' at hx
    split at e
    · rename_i a
      split at e
      · rename_i m left pr hs ho hg
        simp only [Option.some.injEq, Prod.mk.injEq] at e
        obtain ⟨rfl, rfl⟩ := e
        cases hx with
        | atom _ k => simp [atom] at k
        | ptr _ p s1 hp =>
          have hO := W.live a.block p hp
          rw [hg] at hO
          obtain ⟨o1, o2, m', since, seen, st, hh, pm, hpm, rfl, I⟩ := hO
          obtain ⟨es, cl, r1, r2, r3, r4, r5, r6, r7, r8, r9, r10⟩ := I.es
          obtain ⟨ent, e1, e2, e3, e4⟩ := r10 pr.1 pr.2 rfl
          have rg := run_getObj (E := E) hh (by intro c e fz z; cases z)
          have rg2 := run_getObj (E := E) r1 (by intro c e fz z; cases z)
          have hf : es.find? (·.born == ent.born) = some ent := by rw [← Array.find?_toList]; exact find_born _ _ r4 e1
          refine ⟨.value (.tuple #[ent.key, ent.val]), w, φ, ?_, W, Ext.refl _ _, ?_, Keeps.refl h⟩
          · have hz : p.o + a.off = 0 := by omega
            simp only [execOp, hxe, hz, Instr.entry, Sem.run_bind, rg, Result.andThen_ok, e2, rg2, r3, bne_self_eq_false, Bool.false_eq_true, if_false, hf, Sem.run_pure, Sem.run_ite]
          · have hk : VR φ pr.1 ent.key := by
              rw [e3]
              obtain ⟨_, ⟨l, hl⟩, _⟩ := W.busy a.block p m left (some pr) hp hg
              have hm := W.live m pm hpm
              rw [hl] at hm
              obtain ⟨_, _, es2, cl2, hh2, M⟩ := hm
              rw [r1] at hh2
              simp only [Option.some.injEq, Obj.map.injEq] at hh2
              obtain ⟨rfl, rfl⟩ := hh2
              obtain ⟨kd, q1, q2⟩ := M.kind
              obtain ⟨nn, hn⟩ := q2 ent e1
              rw [← e3, hn]
              exact .atom _ rfl
            exact .value (.tuple _ _ (.cons hk (.cons e4 .nil)))
      · cases e
    · cases e
  | defer c =>
    simp only [hop] at e
    cases hc : c.callee with
    | builtin b => simp only [hc] at e; cases e
    | value f =>
      simp only [hc, Option.bind_eq_some_iff, Option.some.injEq, Prod.mk.injEq] at e
      obtain ⟨d, hd, rfl, rfl⟩ := e
      obtain ⟨d', r, hdr⟩ := resolve_sound (E := E) (w := w) type hr (by intro b z; rw [hc] at z; cases z) hd
      exact ⟨.defer d', w, φ, by simp only [execOp, Sem.run_bind, r, Result.andThen_ok, Sem.run_pure], W, Ext.refl _ _, .defer hdr, Keeps.refl h⟩
    | invoke rc name =>
      simp only [hc, Option.bind_eq_some_iff, Option.some.injEq, Prod.mk.injEq] at e
      obtain ⟨d, hd, rfl, rfl⟩ := e
      obtain ⟨d', r, hdr⟩ := resolve_sound (E := E) (w := w) type hr (by intro b z; rw [hc] at z; cases z) hd
      exact ⟨.defer d', w, φ, by simp only [execOp, Sem.run_bind, r, Result.andThen_ok, Sem.run_pure], W, Ext.refl _ _, .defer hdr, Keeps.refl h⟩
  | _ => simp [hop] at e
end
end Go.Ab
