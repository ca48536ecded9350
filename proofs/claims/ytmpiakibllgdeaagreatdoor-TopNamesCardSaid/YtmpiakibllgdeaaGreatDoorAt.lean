/-
  The small machine's operations that turn memory are the model's: cells. No statement of the seat is proved here. Conditions: none.
-/
import Derived.Test.YtmpiakibllgdeaaGreatDoorAs
import Derived.Room.Entries
set_option linter.unusedVariables false
set_option linter.unusedSimpArgs false
namespace Go.Ab
inductive NxR (φ : Phi) : ANext → Next → Prop
  | value {v v' : Value} : VR φ v v' → NxR φ (.value v) (.value v')
  | skip : NxR φ (.value undef) .skip
  | enter (f : FuncId) {args : List Value} {args' : Array Value} : VRs φ args args'.toList → NxR φ (.enter f args) (.enter f args')
  | round (l : Nat) (p : Pl) (f : FuncId) (n : Nat) (t : Tr Value) (t' : Array Value) (a b : Code) : φ l = some p → TmpsR φ n t t' → NxR φ (.round l f n t a b) (.round p.b f t' a b)
  | defer {d d' : Deferred} : DefR φ d d' → NxR φ (.defer d) (.defer d')
  | recover : NxR φ .recover .recover

section
variable {E : Env} {w0 w : World} {φ : Phi} {h h' : AHeap}

/-- A new row of cells on both sides. -/
theorem WR.newCells {b : Nat} {c : List Value} {k : AKind} (W : WR w0 φ h w) (e : h.alloc (.cells c k) = some (b, h')) (c' : Array Value) (et : TypeId) (r : Nat) (g : Option Nat)
    (hk : k ≠ .ro) (hK : KR k ⟨w.heap.size, 0, r, g⟩ c.length c'.size et (0, 0)) (hr : r ≤ c'.size) (hlen : c.length ≤ r)
    (hc : ∀ (i : Nat) v, c[i]? = some v → ∃ v', c'[i]? = some v' ∧ VR φ v v') :
    WR w0 (upd φ b ⟨w.heap.size, 0, r, g⟩) h' (World.pushed w (.cells c' et)) ∧ Ext h.next φ (upd φ b ⟨w.heap.size, 0, r, g⟩) ∧ upd φ b ⟨w.heap.size, 0, r, g⟩ b = some ⟨w.heap.size, 0, r, g⟩ ∧ b = h.next ∧ h'.next = h.next + 1 ∧ h'.floor = h.floor ∧ h'.busy = h.busy := by
  obtain ⟨e1, e2, e3⟩ := alloc_eq e
  have hfr : φ b = none := W.fresh b (by omega)
  have := W.new e (.cells c' et) ⟨w.heap.size, 0, r, g⟩ rfl (by cases k <;> first | rfl | exact absurd rfl hk) (by intro m l cu z; cases z)
    ⟨c', et, (0, 0), pushed_new w _, ⟨hK, by simpa using hr, hlen, fun i v hv => by
      obtain ⟨v', h1, h2⟩ := hc i v hv
      exact ⟨v', by simpa using h1, h2.mono (Sub.upd hfr)⟩, fun _ j _ _ => by simp⟩⟩
  exact ⟨this.1, this.2, upd_same _ _ _, e1, by rw [e3], by rw [e3], by rw [e3]⟩

theorem setCells_heap (b : Nat) : ∀ (vs : List Value) (o : Nat) (w : World) (c' : Array Value) (e : TypeId) (fz : Nat × Nat), w.heap[b]? = some (.cells c' e fz) →
    ∃ c'', (w.setCells b o vs).heap[b]? = some (.cells c'' e fz) ∧ c''.size = c'.size ∧
      (∀ i, c''[i]? = if o ≤ i ∧ i < o + vs.length ∧ i < c'.size then vs[i - o]? else c'[i]?) ∧
      (∀ x, x ≠ b → (w.setCells b o vs).heap[x]? = w.heap[x]?) ∧ (w.setCells b o vs).heap.size = w.heap.size ∧
      (w.setCells b o vs).os = w.os ∧ (w.setCells b o vs).tape = w.tape ∧ (w.setCells b o vs).output = w.output
  | [], o, w, c', e, fz, hh => ⟨c', hh, rfl, fun i => by rw [if_neg (by simp; omega)], fun _ _ => rfl, rfl, rfl, rfl, rfl⟩
  | v :: vs, o, w, c', e, fz, hh => by
    have h1 : (w.setCell ⟨b, o, none⟩ v).heap[b]? = some (.cells (c'.setIfInBounds o v) e fz) := by
      simp only [World.setCell, Array.getElem?_modify, hh]
      simp
    obtain ⟨c'', g1, g2, g3, g4, g5, g6, g7, g8⟩ := setCells_heap b vs (o + 1) (w.setCell ⟨b, o, none⟩ v) _ e fz h1
    refine ⟨c'', g1, by simpa using g2, fun i => ?_, fun x hx => ?_, ?_, g6, g7, g8⟩
    · rw [g3 i]
      simp only [Array.size_setIfInBounds, List.length_cons]
      by_cases e1 : o + 1 ≤ i ∧ i < o + 1 + vs.length ∧ i < c'.size
      · rw [if_pos e1, if_pos (by omega)]
        have : i - o = (i - (o + 1)) + 1 := by omega
        rw [this, List.getElem?_cons_succ]
      · rw [if_neg e1]
        by_cases e2 : i = o
        · subst e2
          by_cases hi : i < c'.size
          · rw [if_pos (by omega), Nat.sub_self, List.getElem?_cons_zero, Array.getElem?_setIfInBounds_self_of_lt hi]
          · rw [if_neg (by omega), Array.getElem?_eq_none (by simp; omega), Array.getElem?_eq_none (by omega)]
        · rw [if_neg (by omega), Array.getElem?_setIfInBounds_ne (by omega)]
    · show ((w.setCell ⟨b, o, none⟩ v).setCells b (o + 1) vs).heap[x]? = _
      rw [g4 x hx]
      simp only [World.setCell, Array.getElem?_modify]
      rw [if_neg (by exact fun z => hx z.symm)]
    · show ((w.setCell ⟨b, o, none⟩ v).setCells b (o + 1) vs).heap.size = _
      rw [g5]
      simp [World.setCell]

theorem oneCell_rel {v v' : Value} (hv : VR φ v v') (h : oneCell v = true) : v'.oneCell' = true := by
  cases hv with
  | atom _ k => cases v <;> first | rfl | (simp [oneCell] at h; done)
  | agg => simp [oneCell] at h
  | tuple => simp [oneCell] at h
  | ptr => rfl
  | slice => rfl
  | junk => rfl
  | map => rfl
  | func => rfl
  | iface => rfl
theorem oneCells_rel : ∀ {l l' : List Value}, VRs φ l l' → l.all oneCell = true → ∀ v ∈ l', v.oneCell' = true
  | _, _, .nil, _ => by simp
  | _, _, .cons a b, h => by
    simp only [List.all_cons, Bool.and_eq_true] at h
    intro v hv
    rcases List.mem_cons.1 hv with rfl | hv
    · exact oneCell_rel a h.1
    · exact oneCells_rel b h.2 v hv

/-- Cells that the small machine turns are turned. -/
theorem WR.stores {b off : Nat} {p : Pl} {vs vs' : List Value} (W : WR w0 φ h w) (hp : φ b = some p) (hvs : VRs φ vs vs') (hone : vs.all oneCell = true) (e : storeCellsE h b off vs = some h') :
    ∃ w', (storeCells ⟨p.b, p.o + off, none⟩ vs').run E.P w = .ok () w' ∧ WR w0 φ h' w' ∧ h'.next = h.next ∧ h'.floor = h.floor ∧ h'.busy = h.busy ∧ h.floor ≤ b ∨ (vs = [] ∧ h' = h) := by
  cases vs with
  | nil =>
    simp only [storeCellsE, Option.some.injEq] at e
    exact ⟨w, .inr ⟨rfl, e.symm⟩⟩
  | cons v vs =>
    cases hg : h.t.get b with
    | cells c g =>
      cases hro : (decide (g = .ro)) with
      | true =>
        have : g = .ro := by simpa using hro
        subst this
        simp only [storeCellsE, hg] at e
        cases e
      | false =>
        have hnr : g ≠ .ro := by simpa using hro
        have e' : (splice c off (v :: vs)).bind (fun c => h.put b (.cells c g)) = some h' := by
          simp only [storeCellsE, hg] at e
          cases g <;> first | exact e | exact absurd rfl hnr
        simp only [Option.bind_eq_some_iff] at e'
        obtain ⟨c2, hs, hput⟩ := e'
        obtain ⟨s1, s2, s3⟩ := splice_get _ _ _ _ hs
        have s3' : off + (v :: vs).length ≤ c.length := by
          rcases s3 with z | z
          · exact z
          · cases z
        obtain ⟨c', et, fz, hh, C⟩ := W.row hp hg
        have hlen : (v :: vs).length = vs'.length := hvs.length
        have hfit := C.fits
        have hcl := C.len
        obtain ⟨c'', g1, g2, g3, g4, g5, g6, g7, g8⟩ := setCells_heap p.b vs' (p.o + off) w c' et fz hh
        have hrun : (storeCells ⟨p.b, p.o + off, none⟩ vs').run E.P w = .ok () (w.setCells p.b (p.o + off) vs') := by
          have := run_storeCells_cells (P := E.P) p.b (p.o + off) vs' 0 w (fun j hj => by
              rw [cell_of_heap hh, Nat.add_zero, Array.getElem?_eq_getElem (by omega)]; rfl)
            (fun j hj => by
              have := C.soft hnr (p.o + off + j) (by omega) (by omega)
              simp only [World.frozen?, hh, Nat.add_zero]
              simpa using this)
            (oneCells_rel hvs hone)
          simpa using this
        refine ⟨_, .inl ⟨hrun, ?_, ?_, ?_, ?_, ?_⟩⟩
        · have kinds : ∀ x, w.heap[p.b]? = some x → ∃ a b c, x = .cells a b c := fun x hx => by rw [hh] at hx; cases hx; exact ⟨_, _, _, rfl⟩
          refine W.turn hput hp (by rw [hg]; rfl) (by rw [hg]; cases g <;> first | rfl | exact absurd rfl hnr) (by cases g <;> first | rfl | exact absurd rfl hnr) g5 g4 g6 g7 g8 ?_ ?_ ?_ (by intro m l cu z; cases z) (by intro l z; rw [hg] at z; cases z)
          · refine ⟨c'', et, fz, g1, ⟨?_, by rw [g2]; exact hfit, by rw [s1]; exact hcl, fun i u hu => ?_, C.soft⟩⟩
            · rw [s1, g2]; exact C.kind
            · rw [s2 i] at hu
              rw [g3 (p.o + i)]
              by_cases hi : off ≤ i ∧ i < off + (v :: vs).length
              · rw [if_pos hi] at hu
                rw [if_pos (by omega)]
                obtain ⟨u', q1, q2⟩ := hvs.get hu
                exact ⟨u', by rw [show p.o + i - (p.o + off) = i - off by omega]; exact q1, q2⟩
              · rw [if_neg hi] at hu
                rw [if_neg (by omega)]
                exact C.cells i u hu
          · intro a' p' hne ha' hb' hn'
            have hl := W.live a' p' ha'
            have hd := W.disj3 b a' p p' (fun z => hne z.symm) hp ha' (by rw [hg]; rfl) hn'
            cases ho : h.t.get a' with
            | none => rw [ho] at hn'; simp [isNone] at hn'
            | cells d k =>
              rw [ho] at hl
              obtain ⟨d', et', fz', hh', D⟩ := hl
              rw [hb', hh] at hh'
              simp only [Option.some.injEq, Obj.cells.injEq] at hh'
              obtain ⟨rfl, rfl, rfl⟩ := hh'
              refine ⟨c'', et, fz, by rw [hb']; exact g1, ⟨by rw [g2]; exact D.kind, by rw [g2]; exact D.fits, D.len, fun i u hu => ?_, D.soft⟩⟩
              obtain ⟨u', q1, q2⟩ := D.cells i u hu
              refine ⟨u', ?_, q2⟩
              have hi : i < d.length := by
                rcases Nat.lt_or_ge i d.length with z | z
                · exact z
                · rw [List.getElem?_eq_none z] at hu; cases hu
              have := D.len
              rw [g3, if_neg ?_]
              · exact q1
              · rcases hd with hd | hd | hd
                · exact absurd hb'.symm hd
                · omega
                · omega
            | map l => rw [ho] at hl; obtain ⟨_, _, _, _, x, _⟩ := hl; rw [hb'] at x; obtain ⟨_, _, _, z⟩ := kinds _ x; cases z
            | iter m l cu => rw [ho] at hl; obtain ⟨_, _, _, _, _, _, x, _⟩ := hl; rw [hb'] at x; obtain ⟨_, _, _, z⟩ := kinds _ x; cases z
            | loop l => rw [ho] at hl; obtain ⟨_, _, _, x, _⟩ := hl; rw [hb'] at x; obtain ⟨_, _, _, z⟩ := kinds _ x; cases z
            | deferred d => rw [ho] at hl; obtain ⟨_, _, _, x, _⟩ := hl; rw [hb'] at x; obtain ⟨_, _, _, z⟩ := kinds _ x; cases z
          · intro a' p' m left cur pm hne ha' hit hpm heq
            have hl := W.live a' p' ha'
            rw [hit] at hl
            obtain ⟨_, _, _, _, _, _, _, pm', q1, _, q3⟩ := hl
            rw [hpm] at q1; cases q1
            obtain ⟨es, cl, r1, _⟩ := q3.es
            rw [heq] at r1
            obtain ⟨_, _, _, z⟩ := kinds _ r1; cases z
        · rw [(put_eq hput).1]
        · rw [(put_eq hput).1]
        · rw [(put_eq hput).1]
        · exact (put_eq hput).2
    | none => simp only [storeCellsE, hg] at e; cases e
    | map l => simp only [storeCellsE, hg] at e; cases e
    | iter m l cu => simp only [storeCellsE, hg] at e; cases e
    | loop l => simp only [storeCellsE, hg] at e; cases e
    | deferred d => simp only [storeCellsE, hg] at e; cases e

/-- The same, an empty row too. -/
theorem WR.stores' {b off : Nat} {p : Pl} {vs vs' : List Value} (W : WR w0 φ h w) (hp : φ b = some p) (hvs : VRs φ vs vs') (hone : vs.all oneCell = true) (e : storeCellsE h b off vs = some h') :
    ∃ w', (storeCells ⟨p.b, p.o + off, none⟩ vs').run E.P w = .ok () w' ∧ WR w0 φ h' w' ∧ h'.next = h.next ∧ h'.floor = h.floor ∧ h'.busy = h.busy := by
  obtain ⟨w', ⟨a, b, c, d, e', _⟩ | ⟨rfl, rfl⟩⟩ := W.stores (E := E) hp hvs hone e
  · exact ⟨w', a, b, c, d, e'⟩
  · cases hvs
    exact ⟨w, rfl, W, rfl, rfl, rfl⟩
end
end Go.Ab
