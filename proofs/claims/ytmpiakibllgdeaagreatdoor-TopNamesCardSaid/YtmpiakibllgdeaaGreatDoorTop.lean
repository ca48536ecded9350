/-
  PROVED: harrowtop.TopNames returns true at every uint8, and its argument reads behind the call as before, as a card tied to the program's text (Rows.TopNamesCardSaid). No condition.
-/
import Derived.Test.YtmpiakibllgdeaaGreatDoorWk
import Derived.Test.YtmpiakibllgdeaaGreatDoorSays
import Derived.Test.YtmpiakibllgdeaaGreatDoorFct
import Derived.Test.YtmpiakibllgdeaaGreatDoorTie
import Derived.Test.YtmpiakibllgdeaaGreatDoorCards
import Derived.ChangeSame
import Derived.ChangeVars
import Derived.JoinedOf
import Derived.LaidLaws
import Derived.LaidMore
import Derived.Lay
import Derived.SevenTiedAt
import Derived.SizedLaws
import Derived.Stop.Joined
namespace Go.Proofs.YtmpiakibllgdeaaGreatDoor.topNames
open Go.ChangeShapes Go.WideShapes Go.ChangeAt Go.RowKit
set_option linter.unusedVariables false

theorem own : ownKnob Tryz.prog.godebug = none := by kernel_rfl
theorem laidOut : laidOutB Tryz.prog = true := by kernel_rfl
theorem and255 (n : Int) : bits .and .u8 n 255 = n % 256 := by
  have h : (BitVec.ofInt 8 255).toNat = 2 ^ 8 - 1 := by decide
  have key : (BitVec.ofInt 8 n &&& BitVec.ofInt 8 255).toNat = (n % ((2 ^ 8 : Nat) : Int)).toNat % 2 ^ 8 := by
    rw [BitVec.toNat_and, BitVec.toNat_ofInt, h, Nat.and_two_pow_sub_one_eq_mod]
  show IntKind.u8.wrap ((BitVec.ofInt 8 n &&& BitVec.ofInt 8 255).toNat : Nat) = n % 256
  rw [key, IntKind.wrap_u8]
  omega
attribute [local go_sem] and255

/-- crc's table stands in its variable. -/
theorem half_cell {W : World} (h : laidMetH Tryz.prog Rows.topNamesRow.laid W) (r : Nat) (hr : r < 16) : W.cell? ⟨1, r, none⟩ = some (.int .u32 (Ab.halfN.getD r 0 : Nat)) := by
  rw [MakeChecks.laidMetH_plain _ _ _ (by kernel_rfl)] at h
  obtain ⟨ps, ⟨g, t, cs, fuel, p, q, hg, ht, hv, hd, _, _⟩, _, _⟩ := h
  obtain rfl := Option.some.inj (Eq.trans (a := some 1) (Eq.symm (by kernel_rfl)) hg)
  obtain rfl := Option.some.inj ((show (Tryz.prog.globals[1]?).map (·.type) = some 338 by kernel_rfl).symm.trans ht)
  obtain ⟨xs, m, _, ex, _, hl, hel⟩ := DataW.trod_array Tryz.underlying338 hd
  have c5 : Tryz.prog.cellsOf 114 = 1 := by kernel_rfl
  have hE := hel r hr
  rw [c5, Nat.mul_one, List.getElem?_eq_getElem (by omega)] at hE
  obtain ⟨z, e1, e2, _⟩ := DataW.trod_int Tryz.underlying114 hE
  have hlen : Ab.halfN.length = 16 := by kernel_rfl
  have e3 : (xs.map (·.1)) = Ab.halfN.map fun n => .lit (.int .u32 (n : Nat)) := (DataW.agg.inj (Prod.mk.inj ex).1).symm
  have e4 : (xs.map (·.1))[r]? = (Ab.halfN.map fun n => (DataW.lit (.int .u32 (n : Nat)) : DataW Unit))[r]? := by rw [e3]
  rw [List.getElem?_map, List.getElem?_map, List.getElem?_eq_getElem (by omega : r < xs.length), List.getElem?_eq_getElem (by omega : r < Ab.halfN.length), e2] at e4
  have hz : z = (Ab.halfN.getD r 0 : Nat) := by
    simp only [Option.map_some, Option.some.injEq, DataW.lit.injEq, Lit.int.injEq, true_and] at e4
    rw [e4, List.getD, List.getElem?_eq_getElem (by omega : r < Ab.halfN.length)]; rfl
  rw [World.var?_cell hg hv r, ← hz]
  have : cs.toList[r]? = some (.int .u32 z) := by
    have h0 : ((cs.toList.drop r).take 1)[0]? = some (.int .u32 z) := by rw [e1]; rfl
    simpa using h0
  simpa using this

set_option maxRecDepth 100000 in
theorem walk (x : Int) (hx0 : 0 ≤ x) (hx1 : x < 256) (W : World) (hT : ∀ i : Nat, i < 16 → W.cell? ⟨1, i, none⟩ = some (.int .u32 (Ab.halfN.getD i 0 : Nat))) :
    Calls Tryz.prog 3 #[.int .u8 x] W fun e w' => e = .returned (.bool true) ∧ Below W.heap.size W w' := by
  have HT := Lib.hid hT
  clear hT
  have hmod : x % 256 = x := by omega
  go_enter Tryz.func3, Tryz.ntmps3
  go_wp2_with fail
  refine (Ab.works_any W HT.out).mono ?_
  rintro e w1 ⟨rfl, hb⟩
  have HB := Lib.hid hb
  clear hb
  go_wp2_with fail
  refine (error_any 12 _ (.inr (.inr (.inr (.inr rfl))))).mono ?_
  rintro e w' ⟨rfl, rfl⟩
  have he : (etxt 12).toList = [101, 114, 114, 111, 114, 32, 49, 50] := by rw [ByteArray.toList_eq]; kernel_rfl
  generalize (etxt 12) = txt at *
  go_wp2_with fail
  go_ret
  exact ⟨rfl, HB.out⟩
theorem door_met (os : Os) (args : Array Value) : laidMetH Tryz.prog Rows.topNamesRow.laid ((World.doorLaid Tryz.prog 29 os).forCall (fun _ _ => 0) ⟨#[], args, []⟩).memory :=
  laidMetH_of_parts3 (fuel := 8) (laidMet_of_run' 8 (by kernel_rfl) (by kernel_rfl)) (by kernel_rfl) (by kernel_rfl)
set_option maxRecDepth 100000 in
theorem lifted (os : Os) (started : os.Started) (H : Type) (enc : TypeId × Value → H) :
    ReturnsInHanded {} Tryz.checked os 3 .any (fun w args => (Rows.topNamesSpec.pre enc Tryz.prog Tryz.f3 Rows.topNamesRow.domain false w args ∧ laidMetH Tryz.prog Rows.topNamesRow.laid w) ∧ sizedMet enc Tryz.prog Tryz.f3 (OpenSpec.ofChange Rows.topNamesSpec) false w args)
      (Rows.topNamesSpec.post enc Tryz.prog Tryz.f3 false true false false) := by
  refine returnsInHanded_of_change_and (C := Tryz.checked) (X := fun w _ => laidMetH Tryz.prog Rows.topNamesRow.laid w) (fun _ _ _ hh h => h.of_heap hh) own started (by kernel_rfl) Tryz.func3
    (ChangeSpec.witness_shaped (enc := enc) (C := Tryz.checked) (os := os) (X := fun w _ => laidMetH Tryz.prog Rows.topNamesRow.laid w) false (World.doorLaid Tryz.prog 29 os) #[.int .u8 0] 8 rfl (World.shaped_of_RefB (by kernel_rfl) (by kernel_rfl)) (by kernel_rfl) (by kernel_rfl) (by kernel_rfl) (door_met os _)) ?_
  intro W base args ds gs before hval0 hW _ hwt hL _
  have hval : ∀ (j : Nat) t v, Tryz.f3.params[j]? = some t → args[j]? = some v → Value.okWide Tryz.prog W .any base t v := hval0
  have hW' := hW
  obtain ⟨p, q, hA0, hV, rfl, hfz, hnd⟩ := hW
  have hA : DataW.TrodAll enc Tryz.prog W 0 (fun _ => true) true Tryz.f3.params.toList args.toList ds p := hA0
  rw [Tryz.params3] at hA hval
  obtain ⟨v0, d0, rfl, rfl, h0⟩ := trodAll_one hA
  obtain ⟨rfl, rfl⟩ := trodVars_none hV
  obtain ⟨x, rfl, rfl, rfl, wx⟩ := open_int Tryz.underlying5 (hval 0 5 v0 rfl rfl) h0
  have hx : 0 ≤ x ∧ x < 256 := by have := bounds_u8 wx; omega
  clear hA0 hval0
  refine (walk x hx.1 hx.2 W (half_cell hL)).mono fun e W' ⟨he, bel⟩ => ?_
  subst he
  exact ⟨_, rfl, _, _, _, [], _, [], hW', trodAll_mk1 (shut_bool Tryz.underlying4 _), trodAll_mk1 (shut_int Tryz.underlying5 wx), rfl, bel.frame _, fun h => by cases h⟩

theorem over : Rows.topNamesRow.holds Tryz.pinned (OpenSpec.ofChange Rows.topNamesSpec) :=
  OpenClaim.holds_of_wide 3 Tryz.f3 rfl rfl rfl rfl rfl rfl rfl ⟨rfl, rfl, rfl, rfl, rfl⟩ rfl rfl rfl rfl rfl named3 Tryz.func3 joined instNo wrapNo
    (fun os started H enc _ => lifted os started H enc)
theorem card : Claim7.holds Tryz.pinned (.plain (OpenSpec.ofChange Rows.topNamesSpec)) Rows.topNamesCard :=
  Claim7.holds_tied_plain_at .later [] [.data, .data, .data, .data] true (true, "842118d1e5aa2b0c18d8575672f9552e5f114e9adcf855ddbda8827e4ee14e1a") true
    over (fun _ h => by cases h) wfText (fun _ h => by cases h) topNames_row_tie rfl ⟨rfl, rfl⟩ main_is rfl
    (fun f fn hf hfn => by
      obtain rfl : f = 3 := Option.some.inj (named3.symm.trans hf) |>.symm
      obtain rfl : fn = Tryz.f3 := (Option.some.inj (Tryz.func3.symm.trans hfn)).symm
      exact ⟨looksNo, fun j t ht => by
        rw [Tryz.params3] at ht
        have hm : t ∈ [5] := by simpa using Array.mem_of_getElem? ht
        exact (show Tryz.prog.wantsStandIn t = false by simpa using List.all_eq_true.1 noStand t hm)⟩)
    goes

/-- THE STATEMENT. -/
theorem proved : Rows.TopNamesCardSaid := card
#print axioms proved
end Go.Proofs.YtmpiakibllgdeaaGreatDoor.topNames
