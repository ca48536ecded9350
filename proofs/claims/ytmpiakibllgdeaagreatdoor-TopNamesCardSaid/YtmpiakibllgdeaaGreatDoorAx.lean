/-
  The small machine's operations that turn memory are the model's: the rest of them. No statement of the seat is proved here. Conditions: none.
-/
import Derived.Test.YtmpiakibllgdeaaGreatDoorAv
set_option linter.unusedVariables false
set_option linter.unusedSimpArgs false
namespace Go.Ab
section
variable {E : Env} {w0 w : World} {φ : Phi} {h h' : AHeap}

/-- A new variable. -/
theorem newVar_sound {b : Nat} {t : TypeId} {v v' : Value} (W : WR w0 φ h w) (hv : VR φ v v') (e : h.alloc (.cells v.cells.toList (.var t)) = some (b, h')) :
    ∃ phq, (newVar t v').run E.P w = .ok ⟨w.heap.size, 0, none⟩ (World.pushed w (.cells v'.cells t)) ∧ WR w0 phq h' (World.pushed w (.cells v'.cells t)) ∧ Ext h.next φ phq ∧ VR phq (.pointer (some ⟨b, 0, none⟩)) (.pointer (some ⟨w.heap.size, 0, none⟩)) ∧ Keeps h h' := by
  have hc := hv.cells
  have hl : v.cells.toList.length = v'.cells.size := by rw [hc.length]; simp
  have := W.newCells e v'.cells t v'.cells.size none (by simp) ⟨rfl, rfl, rfl, hl.symm, hl.symm, Nat.le_refl _⟩ (Nat.le_refl _) (by rw [hl]; exact Nat.le_refl _)
    (fun i u hu => by obtain ⟨u', h1, h2⟩ := hc.get hu; exact ⟨u', by simpa using h1, h2⟩)
  obtain ⟨a1, a2, a3, a4, _⟩ := this
  refine ⟨_, rfl, a1, a2, ?_, W.keeps_alloc e⟩
  exact VR.ptr (φ := upd φ b ⟨w.heap.size, 0, v'.cells.size, none⟩) ⟨b, 0, none⟩ ⟨w.heap.size, 0, v'.cells.size, none⟩ rfl a3

/-- A new row that is not appended to. -/
theorem newRow_sound {b n cap : Nat} {t : TypeId} {c : List Value} {c' : Array Value} (W : WR w0 φ h w) (hc : VRs φ c c'.toList) (e : h.alloc (.cells c (.row t)) = some (b, h')) :
    ∃ phq, (newRow t c').run E.P w = .ok ⟨w.heap.size, 0, none⟩ (World.pushed w (.cells c' t)) ∧ WR w0 phq h' (World.pushed w (.cells c' t)) ∧ Ext h.next φ phq ∧ VR phq (.slice (some ⟨b, 0, none⟩) n cap) (.slice (some ⟨w.heap.size, 0, none⟩) n cap) ∧ Keeps h h' := by
  have hl : c.length = c'.size := by rw [hc.length]; simp
  have := W.newCells e c' t c'.size none (by simp) ⟨rfl, rfl, .inl rfl⟩ (Nat.le_refl _) (by rw [hl]; exact Nat.le_refl _)
    (fun i u hu => by obtain ⟨u', h1, h2⟩ := hc.get hu; exact ⟨u', by simpa using h1, h2⟩)
  obtain ⟨a1, a2, a3, a4, _⟩ := this
  refine ⟨_, rfl, a1, a2, ?_, W.keeps_alloc e⟩
  exact VR.slice (φ := upd φ b ⟨w.heap.size, 0, c'.size, none⟩) ⟨b, 0, none⟩ ⟨w.heap.size, 0, c'.size, none⟩ n cap cap rfl a3 (by unfold CapR; simp)

theorem copy_sound {argTypes : List TypeId} {args args' : List Value} {ty : TypeId} {v : Value} (W : WR w0 φ h w) (ha : VRs φ args args') (e : copyE E argTypes args h = some (v, h')) :
    DoneV E w0 φ h w (Builtin.copy_ argTypes.toArray ty args'.toArray) v h' := by
  unfold copyE at e
  split at e
  · rename_i dt ts a dLen dCap b sLen sCap
    simp only [Option.bind_eq_some_iff] at e
    obtain ⟨d, hd, e⟩ := e
    split at e
    · rename_i elem
      simp only [Option.bind_eq_some_iff] at e
      obtain ⟨size, hsz, e⟩ := e
      cases ha with
      | @cons _ s' _ _ hs ha =>
      cases ha with
      | @cons _ x' _ _ hx ha =>
      cases ha
      have rd := run_und (E := E) (w := w) hd
      have rs := run_size (E := E) (w := w) hsz
      split at e
      · rename_i hm
        simp only [Option.some.injEq, Prod.mk.injEq] at e
        obtain ⟨rfl, rfl⟩ := e
        refine ⟨.int .i64 0, w, φ, ?_, W, Ext.refl _ _, .atom _ rfl, Keeps.refl h⟩
        have fin : ∀ (A B : Addr) (c1 c2 : Nat), (Builtin.copy_ (dt :: ts).toArray ty [.slice (some A) dLen c1, .slice (some B) sLen c2].toArray).run E.P w = .ok (.int .i64 0) w := fun A B c1 c2 => by
          simp only [Builtin.copy_, List.getElem?_toArray, List.getElem?_cons_zero, List.getElem?_cons_succ, Sem.run_bind, rd, Result.andThen_ok, Builtin.lenOf, Sem.run_pure, rs]
          rw [hm]
          simp [Builtin.firstCells, loadCells, loadCellsFrom, storeCells, goInt]
        cases hs with
        | atom _ k => simp [atom] at k
        | slice => cases hx with
          | atom _ k => simp [atom] at k
          | slice => exact fin _ _ _ _
          | junk => exact fin _ _ _ _
        | junk => cases hx with
          | atom _ k => simp [atom] at k
          | slice => exact fin _ _ _ _
          | junk => exact fin _ _ _ _
      · rename_i n hm
        split at e
        · rename_i hs1 hs2
          simp only [Option.bind_eq_some_iff] at e
          obtain ⟨c, hc, new, hcut, e⟩ := e
          cases hone : new.all oneCell with
          | false => simp [hone] at e
          | true =>
            simp only [hone, cond_true, Option.bind_eq_some_iff, Option.some.injEq, Prod.mk.injEq] at e
            obtain ⟨h1, hst, rfl, rfl⟩ := e
            cases hs with
            | atom _ k => simp [atom] at k
            | junk => simp [junk] at hs1
            | slice _ p _ _ cap' q1 q2 q3 =>
              cases hx with
              | atom _ k => simp [atom] at k
              | junk => simp [junk] at hs2
              | slice _ p2 _ _ cap2 r1 r2 r3 =>
                obtain ⟨l', u1, u2, u3⟩ := W.loads (E := E) r2 (getCells_eq hc) hcut
                obtain ⟨w', v1, v2, _, _, _⟩ := W.stores' (E := E) q2 u2 hone hst
                refine ⟨.int .i64 ((n + 1 : Nat) : Int), w', φ, ?_, v2, Ext.refl _ _, .atom _ rfl, W.keeps_store q2 hst⟩
                simp only [Builtin.copy_, List.getElem?_toArray, List.getElem?_cons_zero, List.getElem?_cons_succ, Sem.run_bind, rd, Result.andThen_ok, Builtin.lenOf, Sem.run_pure, rs]
                rw [hm]
                simp only [Builtin.firstCells, u1, Result.andThen_ok, v1, goInt]
        · cases e
    · cases e
  · cases e

theorem run_setObj {b : Nat} {o o' : Obj} (hh : w.heap[b]? = some o) (hn : ∀ c e fz, o ≠ .cells c e fz) : (setObj b o').run E.P w = .ok () { w with heap := w.heap.setIfInBounds b o' } := by
  show Sem.run E.P (.setObj b o' (.pure ())) w = _
  simp only [Sem.run, hh]

/-- An object that is no row of cells is turned on both sides. -/
theorem WR.turnObj {b : Nat} {p : Pl} {o : AObj} {o' : Obj} (W : WR w0 φ h w) (hp : φ b = some p) (hn : isNone (h.t.get b) = false) (hnc : ∀ c k, h.t.get b ≠ .cells c k) (hoc : ∀ c k, o ≠ .cells c k) (e : h.put b o = some h')
    (hO : OR φ { w with heap := w.heap.setIfInBounds p.b o' } p o) (hiter : ∀ a' m left cur, a' ≠ b → h.t.get a' = .iter (some m) left cur → (φ a').isSome → m ≠ b) (hob : ∀ m left cur, o = .iter (some m) left cur → (m, b) ∈ h.busy ∧ (∃ l, h.t.get m = .map l) ∧ (φ m).isSome = true) (hmk : ∀ l, h.t.get b = .map l → ∃ l', o = .map l') :
    WR w0 φ h' { w with heap := w.heap.setIfInBounds p.b o' } := by
  have hb0 := W.live b p hp
  have hlt := hb0.lt hn
  have hr : isRo (h.t.get b) = false := by
    cases hg : h.t.get b with
    | cells c k => exact absurd hg (hnc c k)
    | _ => rfl
  have single : p.o = 0 ∧ p.r = 1 ∧ ∃ x, w.heap[p.b]? = some x ∧ ∀ c e fz, x ≠ .cells c e fz := by
    cases hg : h.t.get b with
    | none => rw [hg] at hn; simp [isNone] at hn
    | cells c k => exact absurd hg (hnc c k)
    | map l => rw [hg] at hb0; obtain ⟨a, b, _, _, c, _⟩ := hb0; exact ⟨a, b, _, c, by intro _ _ _ z; cases z⟩
    | iter m l cu => rw [hg] at hb0; obtain ⟨a, b, _, _, _, _, c, _⟩ := hb0; exact ⟨a, b, _, c, by intro _ _ _ z; cases z⟩
    | loop l => rw [hg] at hb0; obtain ⟨a, b, _, c, _⟩ := hb0; exact ⟨a, b, _, c, by intro _ _ _ z; cases z⟩
    | deferred d => rw [hg] at hb0; obtain ⟨a, b, _, c, _⟩ := hb0; exact ⟨a, b, _, c, by intro _ _ _ z; cases z⟩
  obtain ⟨so, sr, x, hx, hxc⟩ := single
  refine W.turn e hp hn hr (by cases o <;> first | rfl | exact absurd rfl (hoc _ _)) (by simp) (fun y hy => by simp [Array.getElem?_setIfInBounds_ne (Ne.symm hy)]) rfl rfl rfl hO ?_ ?_ hob hmk
  · intro a' p' hne ha' hpb hn'
    exfalso
    have hl := W.live a' p' ha'
    have hd := W.disj3 b a' p p' (fun z => hne z.symm) hp ha' hn hn'
    cases ho : h.t.get a' with
    | none => rw [ho] at hn'; simp [isNone] at hn'
    | cells d k => rw [ho] at hl; obtain ⟨_, _, _, q, _⟩ := hl; rw [hpb, hx] at q; exact hxc _ _ _ (Option.some.inj q)
    | map l => rw [ho] at hl; obtain ⟨a, b, _⟩ := hl; rcases hd with d | d | d <;> first | exact d hpb.symm | omega
    | iter m l cu => rw [ho] at hl; obtain ⟨a, b, _⟩ := hl; rcases hd with d | d | d <;> first | exact d hpb.symm | omega
    | loop l => rw [ho] at hl; obtain ⟨a, b, _⟩ := hl; rcases hd with d | d | d <;> first | exact d hpb.symm | omega
    | deferred d => rw [ho] at hl; obtain ⟨a, b, _⟩ := hl; rcases hd with d | d | d <;> first | exact d hpb.symm | omega
  · intro a' p' m left cur pm hne ha' hit hpm heq
    have hmb : m ≠ b := hiter a' m left cur hne hit (by rw [ha']; rfl)
    have hl := W.live a' p' ha'
    rw [hit] at hl
    obtain ⟨_, _, _, _, _, _, _, pm', q1, _, q3⟩ := hl
    rw [hpm] at q1; cases q1
    obtain ⟨_, ⟨l2, hl2⟩, _⟩ := W.busy a' p' m left cur ha' hit
    have hm2 := W.live m pm hpm
    rw [hl2] at hm2
    obtain ⟨mo, mr, _⟩ := hm2
    rcases W.disj3 m b pm p hmb hpm hp (by rw [hl2]; rfl) hn with d | d | d
    · exact d heq
    · omega
    · omega

end
end Go.Ab
