/-
  The small machine's operations that turn memory are the model's: append. No statement of the seat is proved here. Conditions: none.
-/
import Derived.Test.YtmpiakibllgdeaaGreatDoorAt
set_option linter.unusedVariables false
set_option linter.unusedSimpArgs false
namespace Go.Ab
structure Keeps (h h' : AHeap) : Prop where
  floor : h'.floor = h.floor
  next : h.next ≤ h'.next
  same : h.floor ≤ h.next → ∀ a, a < h.floor → h'.t.get a = h.t.get a
theorem Keeps.refl (h : AHeap) : Keeps h h := ⟨rfl, Nat.le_refl _, fun _ _ _ => rfl⟩
theorem Keeps.trans {a b c : AHeap} (h : Keeps a b) (k : Keeps b c) : Keeps a c :=
  ⟨k.floor.trans h.floor, Nat.le_trans h.next k.next, fun le x hx => by
    have := h.next
    rw [k.same (by rw [h.floor]; omega) x (by rw [h.floor]; exact hx), h.same le x hx]⟩
section
variable {E : Env} {w0 w : World} {φ : Phi} {h h' : AHeap}
theorem WR.keeps_alloc {b : Nat} {o : AObj} (W : WR w0 φ h w) (e : h.alloc o = some (b, h')) : Keeps h h' := by
  obtain ⟨rfl, hlt, rfl⟩ := alloc_eq e
  refine ⟨rfl, Nat.le_succ _, fun le a ha => ?_⟩
  have hm : heapMost = 8 ^ heapDepth := rfl
  show (h.t.set h.next o).get a = _
  rw [get_set W.full _ _ _ (by omega) (by omega), if_neg (by omega)]
theorem WR.keeps_put {b : Nat} {o : AObj} {p : Pl} (W : WR w0 φ h w) (hp : φ b = some p) (e : h.put b o = some h') : Keeps h h' := by
  obtain ⟨rfl, hf⟩ := put_eq e
  refine ⟨rfl, Nat.le_refl _, fun le a ha => ?_⟩
  have hm : heapMost = 8 ^ heapDepth := rfl
  have := W.next
  show (h.t.set b o).get a = _
  rw [get_set W.full _ _ _ (W.lt_most hp).2 (by omega), if_neg (by omega)]
theorem WR.keeps_store {b off : Nat} {vs : List Value} {p : Pl} (W : WR w0 φ h w) (hp : φ b = some p) (e : storeCellsE h b off vs = some h') : Keeps h h' := by
  unfold storeCellsE at e
  split at e
  · simp only [Option.some.injEq] at e; subst e; exact Keeps.refl h
  · split at e
    · cases e
    · simp only [Option.bind_eq_some_iff] at e
      obtain ⟨c, _, e⟩ := e
      exact W.keeps_put hp e
    · cases e

def Done (E : Env) (w0 : World) (φ : Phi) (h : AHeap) (w : World) (s : Sem Next) (nx : ANext) (h' : AHeap) : Prop :=
  ∃ nx' w' phq, s.run E.P w = .ok nx' w' ∧ WR w0 phq h' w' ∧ Ext h.next φ phq ∧ NxR phq nx nx' ∧ Keeps h h'
/-- The same of an operation that gives a value. -/
def DoneV (E : Env) (w0 : World) (φ : Phi) (h : AHeap) (w : World) (s : Sem Value) (v : Value) (h' : AHeap) : Prop :=
  ∃ v' w' phq, s.run E.P w = .ok v' w' ∧ WR w0 phq h' w' ∧ Ext h.next φ phq ∧ VR phq v v' ∧ Keeps h h'

theorem VRs.replicate {l l' : List Value} (hl : VRs φ l l') : ∀ n, VRs φ (List.replicate n l).flatten (List.replicate n l').flatten
  | 0 => .nil
  | n + 1 => by simp only [List.replicate_succ, List.flatten_cons]; exact hl.append (VRs.replicate hl n)

theorem flatten_get (l : List Value) (hl : 0 < l.length) : ∀ (n i : Nat), i < n * l.length → (List.replicate n l).flatten[i]? = l[i % l.length]?
  | 0, i, h => by simp at h
  | n + 1, i, h => by
    simp only [List.replicate_succ, List.flatten_cons]
    by_cases hi : i < l.length
    · rw [List.getElem?_append_left hi, Nat.mod_eq_of_lt hi]
    · rw [List.getElem?_append_right (by omega), flatten_get l hl n (i - l.length) (by rw [Nat.add_mul] at h; omega)]
      congr 1
      exact (Nat.mod_eq_sub_mod (by omega)).symm
theorem range_cells (z : Array Value) (n : Nat) : ((Array.range (n * z.size)).map fun i => z[i % z.size]!).toList = (List.replicate n z.toList).flatten := by
  apply List.ext_getElem?
  intro i
  by_cases hi : i < n * z.size
  · have hz : 0 < z.size := by
      rcases Nat.eq_zero_or_pos z.size with e | e
      · rw [e] at hi; omega
      · exact e
    rw [flatten_get z.toList (by simpa using hz) n i (by simpa using hi)]
    have hm : i % z.size < z.size := Nat.mod_lt _ hz
    simp [hi, hm]
  · rw [List.getElem?_eq_none (by simpa using hi), List.getElem?_eq_none (by simpa using hi)]

/-- A row that grows: the small machine gives it a new number, the model's world has it in the place where it was. -/
theorem WR.move {w' : World} {h1 h2 : AHeap} {b b' : Nat} {p p2 : Pl} {c c2 : List Value} {e : TypeId} {s : Nat} {c' c'' : Array Value} {fz : Nat × Nat} (W : WR w0 φ h w) (hp : φ b = some p) (hg : h.t.get b = .cells c (.grow e s))
    (hput : h.put b .none = some h1) (hal : h1.alloc (.cells c2 (.grow e s)) = some (b', h2)) (hh : w.heap[p.b]? = some (.cells c' e fz))
    (hb2 : p2.b = p.b) (ho2 : p.o ≤ p2.o) (hr2 : p2.o + p2.r ≤ p.o + p.r) (hg2 : p2.g = some s)
    (hh' : w'.heap[p.b]? = some (.cells c'' e fz)) (hsz : c''.size = c'.size) (hout : ∀ i, (i < p.o ∨ p.o + p.r ≤ i) → c''[i]? = c'[i]?)
    (hs : w'.heap.size = w.heap.size) (hb : ∀ x, x ≠ p.b → w'.heap[x]? = w.heap[x]?) (hos : w'.os = w.os) (ht : w'.tape = w.tape) (hout' : w'.output = w.output)
    (hlen : c2.length ≤ p2.r) (hc2 : ∀ (i : Nat) v, c2[i]? = some v → ∃ v', c''[p2.o + i]? = some v' ∧ VR φ v v') :
    WR w0 (upd φ b' p2) h2 w' ∧ Ext h.next φ (upd φ b' p2) ∧ b' = h.next ∧ Keeps h h2 := by
  have W1 := W.strike hput hp (by intro l z; rw [hg] at z; cases z)
  have K1 := W.keeps_put hp hput
  have K2 := W1.keeps_alloc hal
  obtain ⟨e1, e2, e3⟩ := alloc_eq hal
  obtain ⟨q1, q2⟩ := put_eq hput
  have hn1 : h1.next = h.next := by rw [q1]
  have hfr : φ b' = none := W.fresh b' (by omega)
  have hsub : Sub φ (upd φ b' p2) := Sub.upd hfr
  have hmost : heapMost = 8 ^ heapDepth := rfl
  have hbn : b ≠ b' := fun z => by rw [z] at hp; rw [hp] at hfr; cases hfr
  have gnew : h2.t.get b' = .cells c2 (.grow e s) := by
    rw [e3]; show (h1.t.set h1.next _).get b' = _
    rw [get_set W1.full _ _ _ (by omega) (by omega), if_pos e1]
  have gstr : h2.t.get b = .none := by
    rw [e3]; show (h1.t.set h1.next _).get b = _
    rw [get_set W1.full _ _ _ (by omega) (W.lt_most hp).2, if_neg (by omega), q1]
    show (h.t.set b .none).get b = _
    rw [get_set W.full _ _ _ (W.lt_most hp).2 (W.lt_most hp).2, if_pos rfl]
  have gold : ∀ x q, x ≠ b → x ≠ b' → φ x = some q → h2.t.get x = h.t.get x := fun x q hx hx' hq => by
    rw [e3]; show (h1.t.set h1.next _).get x = _
    rw [get_set W1.full _ _ _ (by omega) (W.lt_most hq).2, if_neg (by omega), q1]
    show (h.t.set b .none).get x = _
    rw [get_set W.full _ _ _ (W.lt_most hp).2 (W.lt_most hq).2, if_neg hx]
  obtain ⟨c0, et0, fz0, hh0, C⟩ := W.row hp hg
  rw [hh] at hh0
  simp only [Option.some.injEq, Obj.cells.injEq] at hh0
  obtain ⟨rfl, rfl, rfl⟩ := hh0
  have kinds : ∀ x, w.heap[p.b]? = some x → ∃ a b c, x = .cells a b c := fun x hx => by rw [hh] at hx; cases hx; exact ⟨_, _, _, rfl⟩
  refine ⟨{ full := by rw [e3]; exact W1.full.set _ _, next := by rw [e3]; show h1.next + 1 ≤ _; omega, fresh := fun a ha => ?_, live := fun a q ha => ?_, own := fun a q ha hn hr => ?_, disj := fun a a' q q' hne ha ha' hn hn' => ?_,
            busy := fun a q bb left cur ha hi => ?_, size := hs ▸ W.size, base := fun x hx => ?_, os := hos.trans W.os, tape := ht.trans W.tape, output := hout'.trans W.output }, ⟨hsub, fun a ha => upd_other _ _ (by omega)⟩, by omega, K1.trans K2⟩
  · have : h1.next + 1 ≤ a := by rw [e3] at ha; exact ha
    rw [upd_other _ _ (by omega)]
    exact W.fresh a (by omega)
  · by_cases hx : a = b'
    · subst hx
      rw [upd_same] at ha; cases ha
      rw [gnew]
      refine ⟨c'', e, fz, by rw [hb2]; exact hh', ⟨⟨rfl, hg2⟩, by rw [hsz]; have := C.fits; omega, hlen, fun i v hv => ?_, fun _ j h1 h2 => C.soft (by simp) j (by omega) (by omega)⟩⟩
      obtain ⟨v', z1, z2⟩ := hc2 i v hv
      exact ⟨v', z1, z2.mono hsub⟩
    · rw [upd_other _ _ hx] at ha
      by_cases hx2 : a = b
      · subst hx2; rw [gstr]; trivial
      · rw [gold a q hx2 hx ha]
        have hl := W.live a q ha
        cases ho : h.t.get a with
        | none => trivial
        | cells d k =>
          have hd := W.disj3 b a p q (fun z => hx2 z.symm) hp ha (by rw [hg]; rfl) (by rw [ho]; rfl)
          rw [ho] at hl
          by_cases eb : q.b = p.b
          · obtain ⟨d', et', fz', hhd, D⟩ := hl
            rw [eb, hh] at hhd
            simp only [Option.some.injEq, Obj.cells.injEq] at hhd
            obtain ⟨rfl, rfl, rfl⟩ := hhd
            refine ⟨c'', e, fz, by rw [eb]; exact hh', ⟨by rw [hsz]; exact D.kind, by rw [hsz]; exact D.fits, D.len, fun i u hu => ?_, D.soft⟩⟩
            obtain ⟨u', r1, r2⟩ := D.cells i u hu
            have hi : i < d.length := by
              rcases Nat.lt_or_ge i d.length with z | z
              · exact z
              · rw [List.getElem?_eq_none z] at hu; cases hu
            have := D.len
            refine ⟨u', ?_, r2.mono hsub⟩
            rw [hout _ ?_]
            · exact r1
            · rcases hd with hd | hd | hd
              · exact absurd eb.symm hd
              · omega
              · omega
          · exact OR.mono hsub hl (fun _ => hb _ eb) (fun _ _ _ _ z _ => by cases z)
        | map l =>
          rw [ho] at hl
          refine OR.mono hsub hl (fun _ => hb _ fun eb => ?_) (fun _ _ _ _ z _ => by cases z)
          obtain ⟨_, _, _, _, x, _⟩ := hl; rw [eb] at x; obtain ⟨_, _, _, z⟩ := kinds _ x; cases z
        | iter m l cu =>
          rw [ho] at hl
          refine OR.mono hsub hl (fun _ => hb _ fun eb => ?_) (fun b3 left cur pm z hpm => hb _ fun eb => ?_)
          · obtain ⟨_, _, _, _, _, _, x, _⟩ := hl; rw [eb] at x; obtain ⟨_, _, _, z⟩ := kinds _ x; cases z
          · cases z
            obtain ⟨_, _, _, _, _, _, _, pm', q1, _, q3⟩ := hl
            rw [hpm] at q1; cases q1
            obtain ⟨es, cl, r1, _⟩ := q3.es
            rw [eb] at r1
            obtain ⟨_, _, _, z⟩ := kinds _ r1; cases z
        | loop l =>
          rw [ho] at hl
          refine OR.mono hsub hl (fun _ => hb _ fun eb => ?_) (fun _ _ _ _ z _ => by cases z)
          obtain ⟨_, _, _, x, _⟩ := hl; rw [eb] at x; obtain ⟨_, _, _, z⟩ := kinds _ x; cases z
        | deferred d =>
          rw [ho] at hl
          refine OR.mono hsub hl (fun _ => hb _ fun eb => ?_) (fun _ _ _ _ z _ => by cases z)
          obtain ⟨_, _, _, x, _⟩ := hl; rw [eb] at x; obtain ⟨_, _, _, z⟩ := kinds _ x; cases z
  · by_cases hx : a = b'
    · subst hx
      rw [upd_same] at ha; cases ha
      rw [hb2]
      exact W.own b p hp (by rw [hg]; rfl) (by rw [hg]; rfl)
    · rw [upd_other _ _ hx] at ha
      by_cases hx2 : a = b
      · subst hx2; rw [gstr] at hn; simp [isNone] at hn
      · rw [gold a q hx2 hx ha] at hn hr
        exact W.own a q ha hn hr
  · have side : ∀ a q, a ≠ b' → φ a = some q → isNone (h2.t.get a) = false → p2.b ≠ q.b := fun a q hx ha hn => by
      by_cases hx2 : a = b
      · subst hx2; rw [gstr] at hn; simp [isNone] at hn
      · rw [gold a q hx2 hx ha] at hn
        rw [hb2]
        exact W.disj b a p q (fun z => hx2 z.symm) hp ha (by rw [hg]; rfl) hn
    by_cases hx : a = b' <;> by_cases hx' : a' = b'
    · exact absurd (hx.trans hx'.symm) hne
    · subst hx
      rw [upd_same] at ha; cases ha
      rw [upd_other _ _ hx'] at ha'
      exact side a' q' hx' ha' hn'
    · subst hx'
      rw [upd_same] at ha'; cases ha'
      rw [upd_other _ _ hx] at ha
      exact fun z => side a q hx ha hn z.symm
    · rw [upd_other _ _ hx] at ha
      rw [upd_other _ _ hx'] at ha'
      by_cases hy : a = b
      · subst hy; rw [gstr] at hn; simp [isNone] at hn
      · by_cases hy' : a' = b
        · subst hy'; rw [gstr] at hn'; simp [isNone] at hn'
        · rw [gold a q hy hx ha] at hn
          rw [gold a' q' hy' hx' ha'] at hn'
          exact W.disj a a' q q' hne ha ha' hn hn'
  · by_cases hx : a = b'
    · subst hx; rw [gnew] at hi; cases hi
    · rw [upd_other _ _ hx] at ha
      by_cases hx2 : a = b
      · subst hx2; rw [gstr] at hi; cases hi
      · rw [gold a q hx2 hx ha] at hi
        obtain ⟨z1, ⟨l, z2⟩, z3⟩ := W.busy a q bb left cur ha hi
        obtain ⟨pb, hpb⟩ := Option.isSome_iff_exists.1 z3
        refine ⟨by rw [e3]; show (bb, a) ∈ h1.busy; rw [q1]; exact z1, ⟨l, ?_⟩, by rw [hsub _ _ hpb]; rfl⟩
        rw [gold bb pb (fun z => by rw [z, hg] at z2; cases z2) (fun z => by rw [z, hfr] at hpb; cases hpb) hpb]
        exact z2
  · have := W.own b p hp (by rw [hg]; rfl) (by rw [hg]; rfl)
    rw [hb x (by omega)]; exact W.base x hx

theorem WR.drewn (W : WR w0 φ h w) : WR w0 φ h { w with drawn := w.drawn + 1 } :=
  { W with live := fun a p ha => OR.mono (Sub.refl φ) (W.live a p ha) (fun _ => rfl) (fun _ _ _ _ _ _ => rfl) }
end
end Go.Ab
