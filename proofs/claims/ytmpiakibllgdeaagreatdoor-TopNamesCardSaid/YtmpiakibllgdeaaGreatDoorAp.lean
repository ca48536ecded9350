/-
  The small machine's operations that turn no memory are the model's: slicing, indices. No statement of the seat is proved here. Conditions: none.
-/
import Derived.Test.YtmpiakibllgdeaaGreatDoorAn
set_option linter.unusedVariables false
set_option linter.unusedSimpArgs false
namespace Go.Ab
inductive OptR (φ : Phi) : Option Value → Option Value → Prop
  | none : OptR φ none none
  | some {v v' : Value} : VR φ v v' → OptR φ (some v) (some v')
section
variable {E : Env} {w0 w : World} {φ : Phi} {h : AHeap}
theorem boundE_opt {x x' : Option Value} {lo n : Nat} (hx : OptR φ x x') (e : boundE x lo = some n) : (x' = none ∧ n = lo) ∨ ∃ k, x' = some (.int k (Int.ofNat n)) := by
  cases hx with
  | none => exact boundE_rel (φ := φ) (fun v hv => by cases hv) (fun _ => rfl) e
  | some hv => exact boundE_rel (φ := φ) (fun v hv' => by cases hv'; exact ⟨_, rfl, hv⟩) (fun z => by cases z) e
theorem OptR.isNone {x x' : Option Value} (hx : OptR φ x x') : x'.isNone = x.isNone := by cases hx <;> rfl

theorem getGrow_none {p : Pl} {k : AKind} {n size : Nat} {e : TypeId} {fz : Nat × Nat} (K : KR k p n size e fz) (hk : kindGrow k = false) : p.g = none := by
  cases k with
  | var t => exact K.2.1
  | row t => exact K.2.1
  | grow t s => simp [kindGrow] at hk
  | ro => exact K

theorem run_arrSlice {n : Nat} {elem : TypeId} {a : Addr} {p : Pl} {l u m : Nat} {v : Value} (W : WR w0 φ h w) (hs : a.spot = none) (hp : φ a.block = some p) (e : arrSlice E h n elem a l u m = some v) :
    ∃ size, sizeE E elem = some size ∧ l ≤ u ∧ u ≤ m ∧ m ≤ n ∧ VR φ v (.slice (some (if m = l then ⟨p.b, p.o + a.off, none⟩ else (⟨p.b, p.o + a.off, none⟩ : Addr).add (l * size))) (u - l) (m - l)) := by
  unfold arrSlice at e
  rw [hs] at e
  simp only [Option.bind_eq_some_iff] at e
  obtain ⟨c, hc, e⟩ := e
  cases hk : kindGrow c.2 with
  | true => simp [hk] at e
  | false =>
    simp only [hk, cond_false, Option.bind_eq_some_iff] at e
    obtain ⟨size, hsz, e⟩ := e
    cases hb : (Nat.ble l u && Nat.ble u m && Nat.ble m n) with
    | false => simp [hb] at e
    | true =>
      simp only [hb, cond_true, Option.some.injEq] at e
      subst e
      simp only [Bool.and_eq_true, Nat.ble_eq] at hb
      obtain ⟨c', et, fz, hh, C⟩ := W.row hp (getCells_eq hc)
      have hg := getGrow_none C.kind hk
      have hcap : ∀ off, CapR p off (m - l) (m - l) := fun off => by unfold CapR; simp [hg]
      refine ⟨size, hsz, hb.1.1, hb.1.2, hb.2, ?_⟩
      by_cases hml : m = l
      · subst hml
        simp only [Nat.beq_refl, cond_true, if_true]
        exact .slice a p _ _ _ hs hp (hcap _)
      · have : Nat.beq m l = false := by
          cases hx : Nat.beq m l with
          | true => simp at hx; exact absurd hx hml
          | false => rfl
        simp only [this, cond_false, hml, if_false, add_eq]
        have := VR.slice (φ := φ) (addrAdd a (l * size)) p (u - l) (m - l) (m - l) rfl hp (hcap _)
        rw [Nat.add_assoc]
        exact this

theorem run_sliceE {t : TypeId} {x x' v : Value} {lo hi mx lo' hi' mx' : Option Value} (W : WR w0 φ h w) (hx : VR φ x x') (hlo : OptR φ lo lo') (hhi : OptR φ hi hi') (hmx : OptR φ mx mx')
    (e : sliceE E h t x lo hi mx = some v) : ∃ v', (Instr.sliceAt t x' lo' hi' mx').run E.P w = .ok v' w ∧ VR φ v v' := by
  unfold sliceE at e
  cases hno : (hi.isNone && mx.isSome) with
  | true => simp [hno] at e
  | false =>
    simp only [hno, cond_false, Option.bind_eq_some_iff] at e
    obtain ⟨l, hl, d, hd, e⟩ := e
    have bl := boundE_opt hlo hl
    have rd := run_und (E := E) (w := w) hd
    have hno' : ¬ (hi' = none ∧ mx' ≠ none) := by
      rintro ⟨a, b⟩
      cases hhi <;> cases hmx <;> simp_all
    split at e
    · rename_i s
      simp only [Option.bind_eq_some_iff] at e
      obtain ⟨u, hu, e⟩ := e
      have bu := boundE_opt hhi hu
      cases hb : (Nat.ble l u && Nat.ble u s.size && mx.isNone) with
      | false => simp [hb] at e
      | true =>
        simp only [hb, cond_true, Option.some.injEq] at e
        subst e
        simp only [Bool.and_eq_true, Nat.ble_eq] at hb
        cases hx with
        | atom _ _ =>
        have hm' : mx' = none := by cases hmx <;> simp_all
        subst hm'
        refine ⟨_, ?_, .atom _ rfl⟩
        have := run_bounds (E := E) (w := w) (isSlice := false) (len := s.size) (cap := s.size) (m := s.size) (mx := none) bl bu (.inl ⟨rfl, rfl⟩) (by simp) hb.1.1 (fun _ => hb.1.2) (fun _ => hb.1.2) (Nat.le_refl _)
        simp only [Instr.sliceAt, Sem.run_bind, rd, Result.andThen_ok, Instr.slice, Option.isSome_none, Bool.false_eq_true, if_false, this, Sem.run_pure, Sem.run_ite]
    · rename_i elem
      simp only [Option.bind_eq_some_iff] at e
      obtain ⟨u, hu, m, hm, size, hsz, e⟩ := e
      have bu := boundE_opt hhi hu
      have bm := boundE_opt hmx hm
      cases hb : (Nat.beq l 0 && Nat.beq u 0 && Nat.beq m 0) with
      | false => simp [hb] at e
      | true =>
        simp only [hb, cond_true, Option.some.injEq] at e
        subst e
        simp only [Bool.and_eq_true, Nat.beq_eq] at hb
        obtain ⟨⟨rfl, rfl⟩, rfl⟩ := hb
        cases hx with
        | atom _ k =>
          have := run_bounds (E := E) (w := w) (isSlice := true) (len := 0) (cap := 0) bl bu bm hno' (Nat.le_refl _) (fun _ => Nat.le_refl _) (fun _ => Nat.le_refl _) (Nat.le_refl _)
          refine ⟨.slice none 0 0, ?_, .atom _ rfl⟩
          simp only [Instr.sliceAt, Sem.run_bind, rd, Result.andThen_ok, Instr.slice, this, run_size hsz, Sem.run_pure, if_true]
    · rename_i elem a len cap
      simp only [Option.bind_eq_some_iff] at e
      obtain ⟨u, hu, m, hm, e⟩ := e
      have bu := boundE_opt hhi hu
      have bm := boundE_opt hmx hm
      cases hb : (Nat.ble l u && Nat.ble u m && Nat.ble m cap) with
      | false => simp [hb] at e
      | true =>
        simp only [hb, Bool.not_true, cond_false] at e
        simp only [Bool.and_eq_true, Nat.ble_eq] at hb
        obtain ⟨⟨b1, b2⟩, b3⟩ := hb
        split at e
        · cases e
        · rename_i hsp
          simp only [Option.bind_eq_some_iff] at e
          obtain ⟨c, hc, size, hsz, e⟩ := e
          cases hx with
          | atom _ k => simp [atom] at k
          | junk => simp [junk] at hsp
          | slice _ p _ _ cap' s1 h1 hcap =>
            obtain ⟨c', et, fz, hh, C⟩ := W.row h1 (getCells_eq hc)
            have rsz := run_size (E := E) (w := w) hsz
            have fin : ∀ m', ((mx' = none ∧ m' = cap') ∨ ∃ k, mx' = some (.int k (Int.ofNat m'))) → u ≤ m' → m' ≤ cap' →
                (Instr.sliceAt t (.slice (some ⟨p.b, p.o + a.off, none⟩) len cap') lo' hi' mx').run E.P w =
                  .ok (.slice (if m' = l then some ⟨p.b, p.o + a.off, none⟩ else some ⟨p.b, p.o + a.off + l * size, none⟩) (u - l) (m' - l)) w := fun m' hm' x1 x2 => by
              have := run_bounds (E := E) (w := w) (isSlice := true) (len := len) (cap := cap') bl bu hm' hno' b1 (fun _ => x1) (fun _ => x1) x2
              simp only [Instr.sliceAt, Sem.run_bind, rd, Result.andThen_ok, Instr.slice, this, rsz, Sem.run_pure, Option.map_some, add_eq]
            have geq : ∀ {x y : Value}, x = y → VR φ v x → VR φ v y := fun e h => e ▸ h
            split at e
            · rename_i te s hk
              have hmx' : mx' = none := by cases hmx; rfl
              have hm0 : m = cap := by
                unfold boundE at hm
                simpa using hm.symm
              subst hm0
              have K := C.kind
              rw [hk] at K
              obtain ⟨_, hg⟩ := K
              cases hss : Nat.beq s size with
              | false => simp [hss] at e
              | true =>
                simp only [hss, cond_true] at e
                obtain rfl : s = size := by simpa using hss
                have hcap2 := hcap
                unfold CapR at hcap2
                simp only [hg] at hcap2
                cases hbb : (Nat.blt l m || Nat.beq l 0) with
                | true =>
                  simp only [hbb, cond_true, Option.some.injEq] at e
                  subst e
                  refine ⟨_, fin cap' (.inl ⟨hmx', rfl⟩) (by omega) (Nat.le_refl _), ?_⟩
                  have hv := VR.slice (φ := φ) (addrAdd a (l * s)) p (u - l) (m - l) (cap' - l) rfl h1 (hcap.rest hg (by omega))
                  simp only [Bool.or_eq_true, Nat.blt_eq, Nat.beq_eq] at hbb
                  rcases hbb with z | z
                  · rw [if_neg (by omega), Nat.add_assoc]; exact hv
                  · subst z
                    simp only [Nat.zero_mul, Nat.add_zero, ite_self]
                    simpa [addrAdd] using hv
                | false =>
                  simp only [hbb, cond_false, Option.some.injEq] at e
                  subst e
                  simp only [Bool.or_eq_false_iff] at hbb
                  have hlm : ¬ l < m := fun z => by
                    have : Nat.blt l m = true := by simpa [Nat.blt_eq] using z
                    rw [this] at hbb; exact absurd hbb.1 (by simp)
                  have hu' : u - l = 0 := by omega
                  refine ⟨_, fin cap' (.inl ⟨hmx', rfl⟩) (by omega) (Nat.le_refl _), ?_⟩
                  rw [hu']
                  split <;> exact .junk _ _
            · rename_i te s vm hk
              have K := C.kind
              rw [hk] at K
              obtain ⟨_, hg⟩ := K
              cases hss : Nat.beq s size with
              | false => simp [hss] at e
              | true =>
                simp only [hss, cond_true, Option.some.injEq] at e
                obtain rfl : s = size := by simpa using hss
                subst e
                have hcap2 := hcap
                unfold CapR at hcap2
                simp only [hg] at hcap2
                have hm' : mx' ≠ none := by cases hmx; simp
                refine ⟨_, fin m (bm.imp (fun z => absurd z.1 hm') id) b2 (by omega), ?_⟩
                by_cases hml : m = l
                · subst hml
                  simp only [Nat.beq_refl, cond_true, if_true]
                  have := VR.slice (φ := φ) a p (u - m) (m - m) (m - m) s1 h1 (by unfold CapR; simp only [hg]; refine ⟨Nat.le_refl _, ?_⟩; rw [Nat.sub_self, Nat.zero_mul]; have := Nat.zero_le (cap' * s); omega)
                  exact this
                · have : Nat.beq m l = false := by
                    cases hx : Nat.beq m l with
                    | true => simp at hx; exact absurd hx hml
                    | false => rfl
                  simp only [this, cond_false, hml, if_false]
                  rw [Nat.add_assoc]
                  exact VR.slice (φ := φ) (addrAdd a (l * s)) p (u - l) (m - l) (m - l) rfl h1 (hcap.slice (.inr hg) (by omega) b3)
            · rename_i mx0 x0 mx1 hn1 hn2
              simp only [Option.some.injEq] at e
              subst e
              have hg : p.g = none := by
                refine getGrow_none C.kind ?_
                cases hk : c.2 with
                | grow te s =>
                  cases hmm : mx0 with
                  | none => exact absurd hmm (fun z => hn1 te s hk z)
                  | some vm => exact absurd hmm (fun z => hn2 te s vm hk z)
                | _ => rfl
              have hcap2 := hcap
              unfold CapR at hcap2
              simp only [hg] at hcap2
              subst hcap2
              refine ⟨_, fin m bm b2 b3, ?_⟩
              by_cases hml : m = l
              · subst hml
                simp only [Nat.beq_refl, cond_true, if_true]
                exact VR.slice (φ := φ) a p (u - m) (m - m) (m - m) s1 h1 (by unfold CapR; simp only [hg])
              · have : Nat.beq m l = false := by
                  cases hx : Nat.beq m l with
                  | true => simp at hx; exact absurd hx hml
                  | false => rfl
                simp only [this, cond_false, hml, if_false]
                rw [Nat.add_assoc]
                exact VR.slice (φ := φ) (addrAdd a (l * size)) p (u - l) (m - l) (m - l) rfl h1 (hcap.slice (.inl hg) (by omega) b3)
    · rename_i n elem a
      simp only [Option.bind_eq_some_iff] at e
      obtain ⟨u, hu, m, hm, e⟩ := e
      have bu := boundE_opt hhi hu
      have bm := boundE_opt hmx hm
      cases hx with
      | atom _ k => simp [atom] at k
      | ptr _ p s1 h1 =>
        obtain ⟨size, hsz, b1, b2, b3, hv⟩ := run_arrSlice W s1 h1 e
        have rsz := run_size (E := E) (w := w) hsz
        have := run_bounds (E := E) (w := w) (isSlice := false) (len := n) (cap := n) bl bu bm hno' b1 (fun _ => b2) (fun _ => b2) b3
        refine ⟨_, ?_, hv⟩
        simp only [Instr.sliceAt, Sem.run_bind, rd, Result.andThen_ok, Instr.sureAddr, this, rsz, Sem.run_pure]
    · cases e

theorem run_indexAddrE {t : TypeId} {x x' ix ix' v : Value} (hx : VR φ x x') (hi : VR φ ix ix') (e : indexAddrE E t x ix = some v) :
    ∃ v', (Instr.indexAt t x' ix').run E.P w = .ok v' w ∧ VR φ v v' := by
  simp only [indexAddrE, Option.bind_eq_some_iff] at e
  obtain ⟨d, hd, e⟩ := e
  have rd := run_und (E := E) (w := w) hd
  split at e
  · rename_i n elem a k i
    split at e
    · cases e
    · rename_i hs
      cases hb : Nat.blt i n with
      | false => simp [hb] at e
      | true =>
        simp only [hb, cond_true, Option.bind_eq_some_iff, Option.some.injEq] at e
        obtain ⟨s, hsz, rfl⟩ := e
        have hlt : i < n := by simpa [Nat.blt_eq] using hb
        cases hi with | atom _ _ =>
        cases hx with
        | atom _ k => simp [atom] at k
        | ptr _ p s1 h1 =>
          have hc : (0 : Int) ≤ Int.ofNat i ∧ Int.ofNat i < (n : Int) := ⟨Int.natCast_nonneg i, Int.ofNat_lt.2 hlt⟩
          refine ⟨_, ?_, .ptr (addrAdd a (i * s)) p rfl h1⟩
          simp only [Instr.indexAt, asIntOf, Sem.run_bind, Sem.run_pure, Result.andThen_ok, rd, Instr.sureAddr, hc, and_self, if_true, run_size hsz, Sem.run_ite, add_eq]
          simp [addrAdd, Nat.add_assoc]
  · rename_i elem a len cap k i
    split at e
    · cases e
    · rename_i hs
      cases hb : Nat.blt i len with
      | false => simp [hb] at e
      | true =>
        simp only [hb, cond_true, Option.bind_eq_some_iff, Option.some.injEq] at e
        obtain ⟨s, hsz, rfl⟩ := e
        have hlt : i < len := by simpa [Nat.blt_eq] using hb
        cases hi with | atom _ _ =>
        cases hx with
        | atom _ k => simp [atom] at k
        | junk => simp [junk] at hs
        | slice _ p _ _ cap' s1 h1 _ =>
          have hc : (0 : Int) ≤ Int.ofNat i ∧ Int.ofNat i < (len : Int) := ⟨Int.natCast_nonneg i, Int.ofNat_lt.2 hlt⟩
          refine ⟨_, ?_, .ptr (addrAdd a (i * s)) p rfl h1⟩
          simp only [Instr.indexAt, asIntOf, Sem.run_bind, Sem.run_pure, Result.andThen_ok, rd, hc, and_self, if_true, run_size hsz, Sem.run_ite, add_eq]
          simp [addrAdd, Nat.add_assoc]
  · cases e

theorem run_indexE {t : TypeId} {x x' ix ix' v : Value} (hx : VR φ x x') (hi : VR φ ix ix') (e : indexE E t x ix = some v) :
    ∃ v', (Instr.index t x' ix').run E.P w = .ok v' w ∧ VR φ v v' := by
  simp only [indexE, Option.bind_eq_some_iff] at e
  obtain ⟨d, hd, e⟩ := e
  have rd := run_und (E := E) (w := w) hd
  split at e
  · rename_i n elem cs k i
    cases hb : Nat.blt i n with
    | false => simp [hb] at e
    | true =>
      simp only [hb, cond_true, Option.bind_eq_some_iff] at e
      obtain ⟨s, hsz, e⟩ := e
      have hlt : i < n := by simpa [Nat.blt_eq] using hb
      cases hi with | atom _ _ =>
      cases hx with
      | atom _ k => simp [atom] at k
      | agg _ cs' hr =>
        have hc : (0 : Int) ≤ Int.ofNat i ∧ Int.ofNat i < (n : Int) := ⟨Int.natCast_nonneg i, Int.ofNat_lt.2 hlt⟩
        obtain ⟨v', r, hv⟩ := run_part (E := E) (w := w) e hr
        refine ⟨v', ?_, hv⟩
        simp only [Instr.index, asIntOf, Sem.run_bind, Sem.run_pure, Result.andThen_ok, rd, hc, and_self, if_true, run_size hsz, Sem.run_ite]
        exact r
  · rename_i s k i
    simp only [Option.bind_eq_some_iff, Option.some.injEq] at e
    obtain ⟨b, hb, rfl⟩ := e
    cases hi with | atom _ _ =>
    cases hx with | atom _ _ =>
    refine ⟨_, ?_, .atom _ rfl⟩
    have hc : (0 : Int) ≤ Int.ofNat i := Int.natCast_nonneg i
    have hget : s[i]? = some b := by
      have hi : i < s.data.toList.length := (List.getElem?_eq_some_iff.1 hb).1
      have hi' : i < s.size := by simpa using hi
      rw [getElem?_pos s i hi']
      have := (List.getElem?_eq_some_iff.1 hb).2
      rw [← this]
      rfl
    have hc' : (0 : Int) ≤ (i : Int) := hc
    simp only [Instr.index, asIntOf, Sem.run_bind, Sem.run_pure, Result.andThen_ok, rd, Int.ofNat_eq_natCast, hc', if_true, Int.toNat_natCast, hget]
  · cases e
end
end Go.Ab
