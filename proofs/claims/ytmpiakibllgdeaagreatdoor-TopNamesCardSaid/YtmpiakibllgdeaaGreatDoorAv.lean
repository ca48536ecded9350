/-
  The small machine's operations that turn memory are the model's: append, copy. No statement of the seat is proved here. Conditions: none.
-/
import Derived.Test.YtmpiakibllgdeaaGreatDoorAu
set_option linter.unusedVariables false
set_option linter.unusedSimpArgs false
namespace Go.Ab
section
variable {E : Env} {w0 w : World} {φ : Phi} {h h' : AHeap}

theorem extract_all (s : ByteArray) : s.extract 0 s.size = s := by
  obtain ⟨d⟩ := s
  simp [ByteArray.extract, ByteArray.copySlice, ByteArray.size]
theorem strBytes_first (s : ByteArray) : (s.extract 0 s.size).data.map (fun b => Value.int .u8 b.toNat) = (strBytes s).toArray := by
  rw [extract_all]
  apply Array.ext'
  simp [strBytes]

theorem strBytes_atoms (s : ByteArray) : (strBytes s).all atom = true := by
  simp only [strBytes, List.all_map]
  exact List.all_eq_true.2 (fun _ _ => rfl)
/-- What is appended: its kind, how many, their cells. -/
inductive NewR (E : Env) (size : Nat) (z : Value) : TypeDesc → Value → Nat → List Value → (World → Prop) → Prop
  | nil (e : TypeId) : NewR E size z (.slice e) (.slice none 0 0) 0 [] (fun _ => True)
  | slice (e : TypeId) (b : Addr) (n cap : Nat) (news : List Value) : news.length = n * size →
      NewR E size z (.slice e) (.slice (some b) n cap) n news (fun w => ∀ j v, news[j]? = some v → w.cell? (b.add j) = some v)
  | string (s : ByteArray) : NewR E size z .string (.string s) s.size (strBytes s) (fun _ => True)
theorem NewR.first {xd : TypeDesc} {x : Value} {n size : Nat} {z : Value} {news : List Value} {Q : World → Prop} (N : NewR E size z xd x n news Q) (q : Q w) : (Builtin.firstCells size n x).run E.P w = .ok news.toArray w := by
  cases N with
  | nil e => exact run_firstCells_none w size 0 0 0
  | slice e b n cap news hl => exact run_firstCells_some w size n b n cap news hl q
  | string s => simp only [Builtin.firstCells, Sem.run_pure, strBytes_first]
theorem NewR.len {xd : TypeDesc} {x : Value} {n size : Nat} {z : Value} {news : List Value} {Q : World → Prop} (N : NewR E size z xd x n news Q) : (Builtin.lenOf x).run E.P w = .ok n w := by
  cases N <;> rfl

theorem run_append_in {st xt ty elem : TypeId} {size : Nat} {z x : Value} {a : Addr} {sLen sCap n : Nat} {news : List Value} {w' : World} {xd : TypeDesc} {Q : World → Prop} (hst : undE E st = some (.slice elem)) (hxt : undE E xt = some xd) (hsz : sizeE E elem = some size)
    (N : NewR E size z xd x n news Q) (q : Q w) (hle : sLen + n ≤ sCap) (hs : (storeCells (a.add (sLen * size)) news).run E.P w = .ok () w') :
    (Builtin.append_ #[st, xt] ty #[.slice (some a) sLen sCap, x]).run E.P w = .ok (.slice (some a) (sLen + n) sCap) w' := by
  have hf := N.first (E := E) q
  have hl := N.len (E := E) (w := w)
  have hx := run_und (E := E) (w := w) hxt
  have hxd : ∀ k, xd ≠ .int k := fun k e => by subst e; cases N
  unfold Builtin.append_
  simp only [List.getElem?_toArray, List.getElem?_cons_zero, List.getElem?_cons_succ, Sem.run_bind, run_und hst, Result.andThen_ok, run_size hsz, hx]
  cases N with
  | nil e => simp only [Nat.add_zero] at hle; simp [hl, hle, hf, hs]
  | slice e b n cap news hlen => simp [hl, hle, hf, hs]
  | string s => simp [hl, hle, hf, hs]

theorem run_append_none {st xt ty elem : TypeId} {size : Nat} {z x : Value} {xd : TypeDesc} {Q : World → Prop} (hst : undE E st = some (.slice elem)) (hxt : undE E xt = some xd) (hsz : sizeE E elem = some size)
    (N : NewR E size z xd x 0 [] Q) (q : Q w) :
    (Builtin.append_ #[st, xt] ty #[.slice none 0 0, x]).run E.P w = .ok (.slice none 0 0) w := by
  have hf := N.first (E := E) q
  have hl := N.len (E := E) (w := w)
  have hx := run_und (E := E) (w := w) hxt
  have hxd : ∀ k, xd ≠ .int k := fun k e => by subst e; cases N
  unfold Builtin.append_
  simp only [List.getElem?_toArray, List.getElem?_cons_zero, List.getElem?_cons_succ, Sem.run_bind, run_und hst, Result.andThen_ok, run_size hsz, hx]
  cases xd <;> first | exact absurd rfl (hxd _) | simp [hl, hf]

theorem run_append_grow' {st xt ty elem : TypeId} {size bytes : Nat} {z x : Value} {base : Option Addr} {sLen sCap n : Nat} {olds news : List Value} {xd : TypeDesc} {Q : World → Prop} (hst : undE E st = some (.slice elem)) (hxt : undE E xt = some xd) (hsz : sizeE E elem = some size)
    (hby : bytesE E elem = some bytes) (hz : zeroE E elem = some z)
    (N : NewR E size z xd x n news Q) (q : Q w.drew) (hgt : sCap < sLen + n) (hsm : sLen + n < 100000) (hbs : bytes < 100000) (hb0 : bytes ≠ 0)
    (ho : (Builtin.firstCells size sLen (.slice base sLen sCap)).run E.P w.drew = .ok olds.toArray w.drew) :
    ∃ cap', sLen + n ≤ cap' ∧ (Builtin.append_ #[st, xt] ty #[.slice base sLen sCap, x]).run E.P w =
      .ok (.slice (some ⟨w.heap.size, 0, none⟩) (sLen + n) cap') (w.drew.alloc (.cells (olds.toArray ++ news.toArray ++ Builtin.zeroCells z.cells (cap' - (sLen + n))) elem)) := by
  have hf := N.first (E := E) q
  have hl := N.len (E := E) (w := w)
  have hx := run_und (E := E) (w := w) hxt
  refine ⟨grownCap w (sLen + n) sCap elem, ?_, ?_⟩
  · unfold grownCap Question.cut; exact Nat.le_add_right _ _
  unfold bytesE at hby
  cases hi : E.P.info? elem with
  | none => simp [hi] at hby
  | some i =>
    simp [hi] at hby
    have hn : ¬ (sLen + n ≤ sCap) := by omega
    have h63 : ¬ (9223372036854775807 < ((sLen : Int) + (n : Int))) := by omega
    have hnx := nextslicecap_le hgt
    have h48 : ¬ (281474976710656 < Builtin.nextslicecap (sLen + n) sCap * i.bytes) := by
      rw [hby]
      have : Builtin.nextslicecap (sLen + n) sCap * bytes ≤ (2 * (sLen + n)) * bytes := Nat.mul_le_mul_right _ hnx
      have h2 : (2 * (sLen + n)) * bytes ≤ 200000 * 100000 := Nat.mul_le_mul (by omega) (by omega)
      omega
    unfold Builtin.append_
    simp only [List.getElem?_toArray, List.getElem?_cons_zero, List.getElem?_cons_succ, Sem.run_bind, run_und hst, Result.andThen_ok, run_size hsz, hx]
    have rz := fun w => (run_zero (E := E) (w := w) hz).1
    cases N with
    | nil e => simp only [Nat.add_zero, Int.natCast_zero, Int.add_zero] at hn h63 h48; simp [hl, hn, h63, h48, typeInfo, hi, Question.forced, ho, hf, rz, newRow, grownCap]
    | slice e b n cap news hlen => simp [hl, hn, h63, h48, typeInfo, hi, Question.forced, ho, hf, rz, newRow, grownCap]; congr 2; apply Array.ext'; simp [List.append_assoc]
    | string s => simp [hl, hn, h63, h48, typeInfo, hi, Question.forced, ho, hf, rz, newRow, grownCap]; congr 2; apply Array.ext'; simp [List.append_assoc]

theorem zero_rel {z : Value} (hz : constOk z = true) (n : Nat) : VRs φ (List.replicate n z.cells.toList).flatten (Builtin.zeroCells z.cells n).toList := by
  have h1 : VRs φ z.cells.toList z.cells.toList := (VR.const hz : VR φ z z).cells
  have := VRs.replicate h1 n
  rw [show (Builtin.zeroCells z.cells n).toList = (List.replicate n z.cells.toList).flatten from range_cells z.cells n]
  exact this

theorem run_append_zeros {st xt ty elem : TypeId} {size bytes : Nat} {z : Value} {n : Nat} {k : IntKind} (hst : undE E st = some (.slice elem)) (hxt : undE E xt = some (.int k)) (hsz : sizeE E elem = some size)
    (hby : bytesE E elem = some bytes) (hz : zeroE E elem = some z) (hzs : z.cells.size = size) (hs0 : size ≠ 0) (hn0 : 0 < n) (hsm : n < 100000) (hbs : bytes < 100000) (hb0 : bytes ≠ 0) :
    ∃ cap', n ≤ cap' ∧ (Builtin.append_ #[st, xt] ty #[.slice none 0 0, .int .i64 (Int.ofNat n)]).run E.P w =
      .ok (.slice (some ⟨w.heap.size, 0, none⟩) n cap') (w.drew.alloc (.cells (Builtin.zeroCells z.cells n ++ Builtin.zeroCells z.cells (cap' - n)) elem)) := by
  have hx := run_und (E := E) (w := w) hxt
  refine ⟨grownCap w n 0 elem, ?_, ?_⟩
  · unfold grownCap Question.cut; exact Nat.le_add_right _ _
  unfold bytesE at hby
  cases hi : E.P.info? elem with
  | none => simp [hi] at hby
  | some i =>
    simp [hi] at hby
    have hn : ¬ (n ≤ 0) := by omega
    have hn' : n ≠ 0 := by omega
    have h63 : ¬ (9223372036854775807 < (n : Int)) := by omega
    have hw : IntKind.i64.wrap (n : Int) = n := by
      unfold IntKind.wrap IntKind.bits IntKind.signed
      simp only
      have : (n : Int) % 2 ^ 64 = n := by omega
      rw [this]
      rw [if_neg (by simp; omega)]
    have h0 : ¬ ((n : Int) < 0) := by omega
    have h48 : ¬ (281474976710656 < Builtin.nextslicecap n 0 * i.bytes) := by
      rw [hby, nextslicecap_zero hn0]
      have h2 : n * bytes ≤ 100000 * 100000 := Nat.mul_le_mul (by omega) (by omega)
      omega
    have h48' : ¬ ((281474976710656 : Int) < (n : Int) * (i.bytes : Int)) := by
      rw [hby]
      have h2 : n * bytes ≤ 100000 * 100000 := Nat.mul_le_mul (by omega) (by omega)
      have : ((n * bytes : Nat) : Int) ≤ 10000000000 := by omega
      push_cast at this
      omega
    have rz := fun w => (run_zero (E := E) (w := w) hz).1
    unfold Builtin.append_
    simp only [List.getElem?_toArray, List.getElem?_cons_zero, List.getElem?_cons_succ, Sem.run_bind, run_und hst, Result.andThen_ok, run_size hsz, hx]
    have hns : ¬ (n * size = 0) := Nat.mul_ne_zero hn' hs0
    simp [hw, h0, hn', h63, h48, h48', typeInfo, hi, Question.forced, Builtin.firstCells, rz, newRow, grownCap, asInt, asIntOf, hs0, hns]

theorem appended_kind {k : AKind} {b size : Nat} (hk : kindGrow k = true) : ∃ e s, k = .grow e s := by
  cases k <;> first | exact ⟨_, _, rfl⟩ | (simp [kindGrow] at hk; done)

/-- A new row that an append has made. -/
theorem grown_new {b : Nat} {c c' : List Value} {elem : TypeId} {size need cap' : Nat} {z : Value} (W : WR w0 φ h w) (e : h.alloc (.cells c (.grow elem size)) = some (b, h')) (hc : VRs φ c c') (hl : c.length = need * size)
    (hz : constOk z = true) (hzs : z.cells.size = size) (hcap : need ≤ cap') :
    ∃ phq, WR w0 phq h' (w.drew.alloc (.cells (c'.toArray ++ Builtin.zeroCells z.cells (cap' - need)) elem)) ∧ Ext h.next φ phq ∧ VR phq (.slice (some ⟨b, 0, none⟩) need need) (.slice (some ⟨w.heap.size, 0, none⟩) need cap') ∧ Keeps h h' := by
  have hsz : (c'.toArray ++ Builtin.zeroCells z.cells (cap' - need)).size = cap' * size := by
    have := hc.length
    simp only [Array.size_append, List.size_toArray, Builtin.zeroCells, Array.size_map, Array.size_range, hzs, ← this, hl, ← Nat.add_mul]
    congr 1; omega
  have W' := W.drewn
  have := W'.newCells e (c'.toArray ++ Builtin.zeroCells z.cells (cap' - need)) elem (cap' * size) (some size) (by simp) ⟨rfl, rfl⟩ (by rw [hsz]; exact Nat.le_refl _) (by rw [hl]; exact Nat.mul_le_mul_right _ hcap)
    (fun i v hv => by
      obtain ⟨v', h1, h2⟩ := hc.get hv
      refine ⟨v', ?_, h2⟩
      have : i < c'.length := by
        rcases Nat.lt_or_ge i c'.length with q | q
        · exact q
        · rw [List.getElem?_eq_none q] at h1; cases h1
      rw [Array.getElem?_append_left (by simpa using this)]
      simpa using h1)
  obtain ⟨a1, a2, a3, a4, _⟩ := this
  refine ⟨_, a1, a2, ?_, W.keeps_alloc e⟩
  have := VR.slice (φ := upd φ b ⟨w.heap.size, 0, cap' * size, some size⟩) ⟨b, 0, none⟩ ⟨w.heap.size, 0, cap' * size, some size⟩ need need cap' rfl a3 (by unfold CapR; simp only; omega)
  exact this

theorem append_sound {argTypes : List TypeId} {args args' : List Value} {ty : TypeId} {v : Value} (W : WR w0 φ h w) (ha : VRs φ args args') (e : appendE E argTypes args h = some (v, h')) :
    DoneV E w0 φ h w (Builtin.append_ argTypes.toArray ty args'.toArray) v h' := by
  unfold appendE at e
  split at e
  · rename_i st xt base len cap x
    simp only [Option.bind_eq_some_iff] at e
    obtain ⟨d, hst, e⟩ := e
    split at e
    · rename_i elem
      simp only [Option.bind_eq_some_iff] at e
      obtain ⟨size, hsz, bytes, hby, xd, hxt, ⟨n, news⟩, hnew, z, hz, e⟩ := e
      cases hg : (Nat.beq z.cells.toList.length size && news.all oneCell && Nat.blt (len + n) 100000 && Nat.blt bytes 100000 && !Nat.beq bytes 0) with
      | false => simp only [hg, Bool.not_false, cond_true] at e; cases e
      | true =>
        simp only [hg, Bool.not_true, cond_false] at e
        simp only [Bool.and_eq_true, Nat.blt_eq, Nat.beq_eq, Bool.not_eq_true'] at hg
        obtain ⟨⟨⟨⟨g1, g2⟩, g3⟩, g4⟩, g5⟩ := hg
        have g5' : bytes ≠ 0 := fun q => by rw [q] at g5; simp at g5
        have hzc := (run_zero (E := E) (w := w) hz).2
        have hzs : z.cells.size = size := by simpa using g1
        cases ha with
        | @cons _ s' _ _ hs ha =>
        cases ha with
        | @cons _ x' _ _ hx ha =>
        cases ha
        have hA : ∀ a b : Value, [a, b].toArray = #[a, b] := fun _ _ => rfl
        have hT : [st, xt].toArray = #[st, xt] := rfl
        rw [hA, hT]
        have plain : (∀ k, xd ≠ .int k) → ∃ news' Q, NewR E size z xd x' n news' Q ∧ (∀ w', (∀ q, w'.cell? q = w.cell? q) → Q w') ∧ VRs φ news news' ∧ news.length = n * size := by
          intro hni
          split at hnew
          · exact absurd rfl (hni _)
          · rename_i e1 _
            simp only [Option.some.injEq, Prod.mk.injEq] at hnew
            obtain ⟨rfl, rfl⟩ := hnew
            cases hx with | atom _ _ =>
            exact ⟨[], _, .nil _, fun _ _ => trivial, .nil, by simp⟩
          · rename_i e1 b l bcap _
            split at hnew
            · simp only [Option.some.injEq, Prod.mk.injEq] at hnew
              obtain ⟨rfl, rfl⟩ := hnew
              cases hx with
              | atom _ k => simp [atom] at k
              | slice => exact ⟨[], _, .slice _ _ 0 _ [] (by simp), fun _ _ j u hj => by simp at hj, .nil, by simp⟩
              | junk => exact ⟨[], _, .slice _ _ 0 _ [] (by simp), fun _ _ j u hj => by simp at hj, .nil, by simp⟩
            · split at hnew
              · cases hnew
              · rename_i hsp
                simp only [Option.bind_eq_some_iff, Option.some.injEq, Prod.mk.injEq] at hnew
                obtain ⟨c, hc, cs, hcut, rfl, rfl⟩ := hnew
                cases hx with
                | atom _ k => simp [atom] at k
                | slice _ p _ _ cap' s1 h1 h2 =>
                  obtain ⟨l', r1, r2, r3⟩ := W.loads (E := E) h1 (getCells_eq hc) hcut
                  have hlen := (cut_length hcut).elim (fun q => q.1) (fun q => q.1)
                  exact ⟨l', _, .slice _ _ _ _ l' (by rw [← r2.length]; exact hlen), fun w' hw j u hj => by rw [add_eq, hw]; exact r3 j u hj, r2, hlen⟩
          · rename_i s
            cases hb : Nat.beq size 1 with
            | false => simp [hb] at hnew
            | true =>
              simp only [hb, cond_true, Option.some.injEq, Prod.mk.injEq] at hnew
              obtain ⟨rfl, rfl⟩ := hnew
              have h1 : size = 1 := by simpa using hb
              cases hx with | atom _ _ =>
              refine ⟨_, _, .string s, fun _ _ => trivial, VRs.atoms (strBytes_atoms s), ?_⟩
              rw [h1]; simp [strBytes]
          · cases hnew
        cases base with
        | none =>
          cases hs with
          | atom _ k =>
            obtain ⟨rfl, rfl⟩ : len = 0 ∧ cap = 0 := by
              cases len <;> cases cap <;> first | exact ⟨rfl, rfl⟩ | (simp [atom] at k; done)
            simp only at e
            cases hint : (match xd with | .int _ => true | _ => false) with
            | true =>
              have : ∃ k, xd = .int k := by cases xd <;> simp at hint; exact ⟨_, rfl⟩
              obtain ⟨k, rfl⟩ := this
              split at hnew
              · rename_i k' m heq _
                simp only [Option.bind_eq_some_iff] at hnew
                obtain ⟨z', hz', hnew⟩ := hnew
                rw [hz] at hz'; cases hz'
                cases hbb : (Nat.blt m 100000 && !Nat.beq size 0) with
                | false => simp [hbb] at hnew
                | true =>
                  simp only [hbb, cond_true, Option.some.injEq, Prod.mk.injEq] at hnew
                  obtain ⟨rfl, rfl⟩ := hnew
                  simp only [Bool.and_eq_true, Bool.not_eq_true'] at hbb
                  have hs0 : size ≠ 0 := fun q => by rw [q] at hbb; simp at hbb
                  cases hx with | atom _ _ =>
                  simp only [Option.bind_eq_some_iff, Option.some.injEq, Prod.mk.injEq] at e
                  obtain ⟨⟨b, h1⟩, hal, rfl, rfl⟩ := e
                  obtain ⟨cap', hcap, hrun⟩ := run_append_zeros (E := E) (w := w) (ty := ty) (n := m + 1) hst hxt hsz hby hz hzs hs0 (by omega) (by omega) g4 g5'
                  have hzr := zero_rel (φ := φ) hzc (m + 1)
                  obtain ⟨phq, q1, q2, q3, q4⟩ := grown_new W hal hzr (by simp [hzs]) hzc hzs hcap
                  exact ⟨_, _, phq, by rw [hrun], by simpa using q1, q2, q3, q4⟩
              all_goals first
                | (cases hnew; done)
                | (rename_i heq; cases heq; done)
                | (rename_i heq _; cases heq; done)
                | (rename_i heq _ _; cases heq; done)
            | false =>
              obtain ⟨news', Q, N, hQ, hnr, hnl⟩ := plain (fun k q => by rw [q] at hint; simp at hint)
              cases n with
              | zero =>
                simp only [Option.some.injEq, Prod.mk.injEq] at e
                obtain ⟨rfl, rfl⟩ := e
                have hn' : news' = [] := by
                  have := hnr.length
                  rw [hnl, Nat.zero_mul] at this
                  exact List.length_eq_zero_iff.1 this.symm
                subst hn'
                refine ⟨_, w, φ, run_append_none (E := E) (ty := ty) hst hxt hsz N (hQ w fun _ => rfl), W, Ext.refl _ _, .atom _ rfl, Keeps.refl h⟩
              | succ n =>
                simp only [Option.bind_eq_some_iff, Option.some.injEq, Prod.mk.injEq] at e
                obtain ⟨⟨b, h1⟩, hal, rfl, rfl⟩ := e
                obtain ⟨cap', hcap, hrun⟩ := run_append_grow' (E := E) (w := w) (ty := ty) (olds := []) hst hxt hsz hby hz N (hQ _ fun _ => rfl) (sLen := 0) (sCap := 0) (base := none) (by omega) g3 g4 g5' (run_firstCells_none _ _ _ _ _)
                obtain ⟨phq, q1, q2, q3, q4⟩ := grown_new W hal hnr hnl hzc hzs (by simpa using hcap)
                refine ⟨_, _, phq, ?_, q1, q2, q3, q4⟩
                rw [hrun]
                simp
        | some a =>
          simp only at e
          split at e
          · cases e
          · rename_i hsp
            simp only [Option.bind_eq_some_iff] at e
            obtain ⟨c, hc, e⟩ := e
            obtain ⟨news', Q, N, hQ, hnr, hnl⟩ := plain (fun k q => by
              subst q
              split at hnew <;> first
                | (cases hnew; done)
                | (rename_i heq; cases heq; done)
                | (rename_i heq _; cases heq; done)
                | (rename_i heq _ _; cases heq; done)
                | (simp_all; done))
            cases hs with
            | atom _ k => simp [atom] at k
            | junk => simp [junk] at hsp
            | slice _ p _ _ cap' s1 h1 hcap =>
              cases hle : Nat.ble (len + n) cap with
              | true =>
                simp only [hle, cond_true, Option.bind_eq_some_iff, Option.some.injEq, Prod.mk.injEq] at e
                obtain ⟨h1', hst', rfl, rfl⟩ := e
                have hle' : len + n ≤ cap := by simpa using hle
                have hcc : cap ≤ cap' := by unfold CapR at hcap; split at hcap <;> omega
                obtain ⟨w', r, W', _, _, _⟩ := W.stores' (E := E) h1 hnr g2 hst'
                refine ⟨_, w', φ, run_append_in (E := E) (ty := ty) hst hxt hsz N (hQ w fun _ => rfl) (by omega) (by rw [add_eq, Nat.add_assoc]; exact r), W', Ext.refl _ _, .slice a p _ _ cap' s1 h1 hcap, W.keeps_store h1 hst'⟩
              | false =>
                simp only [hle, cond_false, Option.bind_eq_some_iff] at e
                obtain ⟨old, hold, e⟩ := e
                have hgt : cap < len + n := by
                  rcases Nat.lt_or_ge cap (len + n) with q | q
                  · exact q
                  · have : Nat.ble (len + n) cap = true := by simpa using q
                    rw [this] at hle; cases hle
                obtain ⟨old', r1, r2, r3⟩ := W.loads (E := E) h1 (getCells_eq hc) hold
                have holdl : old.length = len * size := by rcases cut_length hold with ⟨q, _⟩ | ⟨q, _⟩ <;> exact q
                have hoc : (Builtin.firstCells size len (.slice (some ⟨p.b, p.o + a.off, none⟩) len cap')).run E.P w.drew = .ok old'.toArray w.drew :=
                  run_firstCells_some w.drew size len _ len cap' old' (by rw [← r2.length]; exact holdl) (fun j u hj => by rw [add_eq]; exact r3 j u hj)
                have grow : cap' < len + n → ∀ {b : Nat} {h1 : AHeap} {hh : AHeap}, WR w0 φ hh w → hh.alloc (.cells (old ++ news) (.grow elem size)) = some (b, h1) → hh.next = h.next → Keeps h hh →
                    DoneV E w0 φ h w (Builtin.append_ #[st, xt] ty #[.slice (some ⟨p.b, p.o + a.off, none⟩) len cap', x']) (.slice (some ⟨b, 0, none⟩) (len + n) (len + n)) h1 := by
                  intro hgt' b h1 hh W1 hal hnx hk
                  obtain ⟨cap2, hcap2, hrun⟩ := run_append_grow' (E := E) (w := w) (ty := ty) hst hxt hsz hby hz N (hQ _ fun _ => rfl) hgt' g3 g4 g5' hoc
                  obtain ⟨phq, q1, q2, q3, q4⟩ := grown_new W1 hal (r2.append hnr) (by simp [holdl, hnl, Nat.add_mul]) hzc hzs hcap2
                  refine ⟨_, _, phq, ?_, q1, hnx ▸ q2, q3, hk.trans q4⟩
                  rw [hrun]
                  simp
                split at e
                · rename_i ge gs hkind
                  cases hss : (Nat.beq gs size && Nat.beq ge elem) with
                  | false => simp [hss] at e
                  | true =>
                    simp only [hss, cond_true, Option.bind_eq_some_iff, Option.some.injEq, Prod.mk.injEq] at e
                    obtain ⟨hp1, hput, ⟨b, h2⟩, hal, rfl, rfl⟩ := e
                    simp only [Bool.and_eq_true, Nat.beq_eq] at hss
                    obtain ⟨hss1, hss2⟩ := hss
                    subst hss1
                    subst hss2
                    have hgc := getCells_eq hc
                    rw [hkind] at hgc
                    obtain ⟨c', et, fz, hh, C⟩ := W.row h1 hgc
                    obtain ⟨k1, k2⟩ := C.kind
                    subst k1
                    have hcap2 := hcap
                    unfold CapR at hcap2
                    simp only [k2] at hcap2
                    by_cases hin : len + n ≤ cap'
                    · have hmul : (len + n) * gs ≤ cap' * gs := Nat.mul_le_mul_right _ hin
                      rw [Nat.add_mul] at hmul
                      have hnl' : news'.length = n * gs := by rw [← hnr.length]; exact hnl
                      have hfit := C.fits
                      obtain ⟨c'', s1', s2, s3, s4, s5, s6, s7, s8⟩ := setCells_heap p.b news' (p.o + a.off + len * gs) w c' et fz hh
                      have hrun : (storeCells ⟨p.b, p.o + a.off + len * gs, none⟩ news').run E.P w = .ok () (w.setCells p.b (p.o + a.off + len * gs) news') := by
                        have := run_storeCells_cells (P := E.P) p.b (p.o + a.off + len * gs) news' 0 w (fun j hj => by
                            rw [cell_of_heap hh, Nat.add_zero, Array.getElem?_eq_getElem (by omega)]; rfl)
                          (fun j hj => by
                            have := C.soft (by simp) (p.o + a.off + len * gs + j) (by omega) (by omega)
                            simp only [World.frozen?, hh, Nat.add_zero]
                            simpa using this)
                          (oneCells_rel hnr g2)
                        simpa using this
                      obtain ⟨m1, m2, m3, m4⟩ := W.move (w' := w.setCells p.b (p.o + a.off + len * gs) news') (p2 := ⟨p.b, p.o + a.off, p.r - a.off, some gs⟩) (c2 := old ++ news) h1 hgc hput hal hh rfl (by simp) (by simp; omega) rfl s1' s2
                        (fun i hi => by rw [s3, if_neg (by omega)]) s5 s4 s6 s7 s8 (by simp [holdl, hnl]; omega)
                        (fun i u hu => by
                          by_cases hi : i < len * gs
                          · rw [List.getElem?_append_left (by omega)] at hu
                            obtain ⟨q1, q2⟩ := cut_get hold hu
                            obtain ⟨u', q3, q4⟩ := C.cells _ _ q1
                            refine ⟨u', ?_, q4⟩
                            simp only
                            rw [s3, if_neg (by omega), Nat.add_assoc]
                            exact q3
                          · rw [List.getElem?_append_right (by omega)] at hu
                            obtain ⟨u', q3, q4⟩ := hnr.get hu
                            refine ⟨u', ?_, q4⟩
                            have : i - old.length < news'.length := by
                              rcases Nat.lt_or_ge (i - old.length) news'.length with q | q
                              · exact q
                              · rw [List.getElem?_eq_none q] at q3; cases q3
                            simp only
                            rw [s3, if_pos (by omega)]
                            rw [← q3]; congr 1; omega)
                      have hv := VR.slice (φ := upd φ b ⟨p.b, p.o + a.off, p.r - a.off, some gs⟩) ⟨b, 0, none⟩ ⟨p.b, p.o + a.off, p.r - a.off, some gs⟩ (len + n) (len + n) cap' rfl (upd_same _ _ _)
                        (by unfold CapR; simp only; omega)
                      exact ⟨_, _, _, run_append_in (E := E) (ty := ty) hst hxt hsz N (hQ w fun _ => rfl) hin (by rw [add_eq]; exact hrun), m1, m2, hv, m4⟩
                    · have K := W.keeps_put h1 hput
                      exact grow (by omega) (W.strike hput h1 (by intro l z; rw [hgc] at z; cases z)) hal (by rw [(put_eq hput).1]) K
                · cases e
                · rename_i hk1 hk2
                  simp only [Option.bind_eq_some_iff, Option.some.injEq, Prod.mk.injEq] at e
                  obtain ⟨⟨b, h2⟩, hal, rfl, rfl⟩ := e
                  obtain ⟨c', et, fz, hh, C⟩ := W.row h1 (getCells_eq hc)
                  have hg : p.g = none := getGrow_none C.kind (by
                    cases hk : c.2 with
                    | grow e s => exact absurd hk (hk1 e s)
                    | _ => rfl)
                  unfold CapR at hcap
                  simp only [hg] at hcap
                  subst hcap
                  exact grow hgt W hal rfl (Keeps.refl h)
    · cases e
  · cases e
end
end Go.Ab
