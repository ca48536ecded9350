/-
  PROVED HERE: harrowtop.works returns true, at every world in which crc.half has its table.
-/
import Derived.Test.YtmpiakibllgdeaaGreatDoorZ1
import Derived.Test.YtmpiakibllgdeaaGreatDoorZ2
import Derived.Test.YtmpiakibllgdeaaGreatDoorZ3
import Derived.Test.YtmpiakibllgdeaaGreatDoorCt
import Derived.Below
set_option linter.unusedVariables false
set_option maxRecDepth 100000
namespace Go.Ab
open Go.Proofs

/-- What stands in the heap at the beginning. -/
def h0 : AHeap := { t := (Tr.mk heapDepth .none).set 1 (.cells halfCells .ro), next := 5, floor := 0, busy := [] }
theorem start : ((enterE EE 4 [] false).map fun fr => (⟨fr, [], h0⟩ : AState)) = some S0 := by kernel_rfl
def isTrue : Option AOut → Bool
  | some (.done (.bool true) _) => true
  | _ => false
theorem finish : isTrue (astep EE S18) = true := by kernel_rfl
theorem S18_fn : S18.fr.fn = 4 := by kernel_rfl

/-- The places at the beginning: the package's variables. -/
def φ0 (r : Nat) : Phi := fun a => if a < 5 then some ⟨a, 0, r, none⟩ else none

theorem start_rel {W : World} {base : List Frame} {fr : AFrame} (hfr : enterE EE 4 [] false = some fr) (hT : ∀ i : Nat, i < 16 → W.cell? ⟨1, i, none⟩ = some (.int .u32 (halfN.getD i 0 : Nat))) :
    Rel EE W base h0 (φ0 16) ⟨fr, [], h0⟩ (Frame.enter EE.P 4 #[] .normal) base W := by
  have hl16 : halfN.length = 16 := rfl
  obtain ⟨c', e, fz, hh⟩ : ∃ c' e fz, W.heap[1]? = some (.cells c' e fz) := by
    have := hT 0 (by omega)
    unfold World.cell? at this
    split at this
    · rename_i c e fz h
      exact ⟨c, e, fz, h⟩
    · cases this
  have hcell : ∀ i : Nat, i < 16 → c'[i]? = some (.int .u32 (halfN.getD i 0 : Nat)) := fun i hi => by
    have := hT i hi
    rw [cell_of_heap hh] at this
    exact this
  have hsz : 16 ≤ c'.size := by
    have := hcell 15 (by omega)
    rcases Nat.lt_or_ge 15 c'.size with h | h
    · omega
    · rw [Array.getElem?_eq_none h] at this; cases this
  have g1 : h0.t.get 1 = .cells halfCells .ro := by
    show ((Tr.mk heapDepth AObj.none).set 1 _).get 1 = _
    rw [get_set (Full.mk _ _) _ _ _ (by decide) (by decide), if_pos rfl]
  have g2 : ∀ a, a < 5 → a ≠ 1 → h0.t.get a = .none := fun a ha hne => by
    show ((Tr.mk heapDepth AObj.none).set 1 _).get a = _
    rw [get_set (Full.mk _ _) _ _ _ (by decide) (by show a < 32768; omega), if_neg hne, get_mk]
  have hφ : ∀ a p, φ0 16 a = some p → a < 5 ∧ p = ⟨a, 0, 16, none⟩ := fun a p h => by
    unfold φ0 at h
    split at h
    · exact ⟨‹_›, (Option.some.inj h).symm⟩
    · cases h
  have only : ∀ a p, φ0 16 a = some p → isNone (h0.t.get a) = false → a = 1 := fun a p h hn => by
    obtain ⟨ha, _⟩ := hφ a p h
    by_cases e : a = 1
    · exact e
    · rw [g2 a ha e] at hn; simp [isNone] at hn
  have W0 : WR W (φ0 16) h0 W := by
    refine { full := (Full.mk _ _).set _ _, next := by decide, fresh := fun a ha => ?_, live := fun a p ha => ?_, own := fun a p ha hn hr => ?_, disj := fun a a' p p' hne ha ha' hn hn' => ?_, busy := fun a p b left cur ha hi => ?_,
             size := Nat.le_refl _, base := fun _ _ => rfl, os := rfl, tape := rfl, output := rfl }
    · have : ¬ a < 5 := by have : 5 ≤ a := ha; omega
      simp [φ0, this]
    · obtain ⟨h5, rfl⟩ := hφ a p ha
      by_cases e1 : a = 1
      · subst e1
        rw [g1]
        refine ⟨c', e, fz, hh, ⟨rfl, by show 0 + 16 ≤ _; omega, by show halfCells.length ≤ 16; decide, fun i v hi => ?_, fun z => absurd rfl z⟩⟩
        have hi16 : i < 16 := by
          rcases Nat.lt_or_ge i 16 with z | z
          · exact z
          · rw [List.getElem?_eq_none (by show halfCells.length ≤ i; exact z)] at hi; cases hi
        refine ⟨v, ?_, ?_⟩
        · show c'[0 + i]? = some v
          rw [Nat.zero_add, hcell i hi16, ← hi]
          unfold halfCells
          rw [List.getElem?_map, List.getElem?_eq_getElem (by omega), List.getD_eq_getElem?_getD, List.getElem?_eq_getElem (by omega)]
          rfl
        · unfold halfCells at hi
          rw [List.getElem?_map, List.getElem?_eq_getElem (by omega)] at hi
          cases hi
          exact .atom _ rfl
      · rw [g2 a h5 e1]; trivial
    · obtain rfl := only a p ha hn
      rw [g1] at hr; simp [isRo] at hr
    · exact absurd ((only a p ha hn).trans (only a' p' ha' hn').symm) hne
    · have := only a p ha (by rw [hi]; rfl)
      subst this
      rw [g1] at hi; cases hi
  have G : GR EE.globals (φ0 16) := fun g hg => ⟨⟨g, 0, 16, none⟩, by have : g < 5 := hg; simp [φ0, this], rfl, rfl⟩
  have hent := enter_rel (φ := φ0 16) (args := []) (args' := #[]) h0.next h0.next .nil hfr
  exact ⟨φ0 16, h0.next, W0, G, Ext.refl _ _, Keeps.refl _, hent.1, .nil _ (Nat.le_refl _), Nat.le_refl _⟩

theorem chain {w0 w : World} {base : List Frame} {h0' : AHeap} {φ : Phi} {fr' : Frame} {cs' : List Frame} (R0 : Rel EE w0 base h0' φ S0 fr' cs' w) : Goes EE w0 base h0' φ fr' cs' w S18 := by
  obtain ⟨a1, b1, c1, t1, R1⟩ := part_goes part1 sound R0
  obtain ⟨a2, b2, c2, t2, R2⟩ := part_goes part2 sound R1
  obtain ⟨a3, b3, c3, t3, R3⟩ := part_goes part3 sound R2
  obtain ⟨a4, b4, c4, t4, R4⟩ := part_goes part4 sound R3
  obtain ⟨a5, b5, c5, t5, R5⟩ := part_goes part5 sound R4
  obtain ⟨a6, b6, c6, t6, R6⟩ := part_goes part6 sound R5
  obtain ⟨a7, b7, c7, t7, R7⟩ := part_goes part7 sound R6
  obtain ⟨a8, b8, c8, t8, R8⟩ := part_goes part8 sound R7
  obtain ⟨a9, b9, c9, t9, R9⟩ := part_goes part9 sound R8
  obtain ⟨a10, b10, c10, t10, R10⟩ := part_goes part10 sound R9
  obtain ⟨a11, b11, c11, t11, R11⟩ := part_goes part11 sound R10
  obtain ⟨a12, b12, c12, t12, R12⟩ := part_goes part12 sound R11
  obtain ⟨a13, b13, c13, t13, R13⟩ := part_goes part13 sound R12
  obtain ⟨a14, b14, c14, t14, R14⟩ := part_goes part14 sound R13
  obtain ⟨a15, b15, c15, t15, R15⟩ := part_goes part15 sound R14
  obtain ⟨a16, b16, c16, t16, R16⟩ := part_goes part16 sound R15
  obtain ⟨a17, b17, c17, t17, R17⟩ := part_goes part17 sound R16
  obtain ⟨a18, b18, c18, t18, R18⟩ := part_goes part18 sound R17
  exact ⟨_, _, _, ((((((((((((((((t1.trans t2).trans t3).trans t4).trans t5).trans t6).trans t7).trans t8).trans t9).trans t10).trans t11).trans t12).trans t13).trans t14).trans t15).trans t16).trans t17).trans t18, R18⟩

theorem works_any (W : World) (hT : ∀ i : Nat, i < 16 → W.cell? ⟨1, i, none⟩ = some (.int .u32 (halfN.getD i 0 : Nat))) :
    Calls Tryz.prog 4 #[] W fun e w' => e = .returned (.bool true) ∧ RowKit.Below W.heap.size W w' := by
  intro cs
  have hs := start
  cases hfr : enterE EE 4 [] false with
  | none => rw [hfr] at hs; cases hs
  | some fr =>
    rw [hfr] at hs
    simp only [Option.map_some, Option.some.injEq] at hs
    have R0 := start_rel (base := cs) hfr hT
    rw [hs] at R0
    obtain ⟨fr2, cs2, w2, st, R2⟩ := chain R0
    have hf := finish
    cases hst : astep EE S18 with
    | none => rw [hst] at hf; cases hf
    | some out =>
      rw [hst] at hf
      rcases step_sound sound.1 sound.2.1 sound.2.2 R2 hst with ⟨S', hS, _⟩ | ⟨v, h, φ, v', rfl, z2, W2, G, hE, hK, V, rfl, hl, hfn⟩
      · unfold isTrue at hf
        split at hf
        · rename_i heq
          cases heq
          simp [AOut.all] at hS
        · cases hf
      · unfold isTrue at hf
        split at hf
        · rename_i heq
          cases heq
          have hv : v' = .bool true := by cases V; rfl
          subst hv
          refine ⟨.returned (.bool true), w2, fr2, ⟨rfl, ⟨W2.os, W2.tape, W2.output, W2.size, W2.base⟩⟩, st, ?_, hl⟩
          rw [hfn, S18_fn]
        · cases hf
end Go.Ab
