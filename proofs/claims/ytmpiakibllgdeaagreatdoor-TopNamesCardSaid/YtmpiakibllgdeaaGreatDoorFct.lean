/-
  Closed facts of the row TopNames: no statement is proved here. Conditions: none.
-/
import Derived.Test.YtmpiakibllgdeaaGreatDoorTie
import Derived.Test.YtmpiakibllgdeaaGreatDoorCards
import Derived.ChangeSame
import Derived.ChangeVars
import Derived.JoinedOf
import Derived.LaidLaws
import Derived.LaidMore
import Derived.Lay
import Derived.SevenTiedAt
import Derived.SizedLaws
import Derived.Stop.Joined
namespace Go.Proofs.YtmpiakibllgdeaaGreatDoor.topNames

set_option maxHeartbeats 40000000 in
theorem joined : joinedFacts Tryz.prog 3 Tryz.f3 Rows.topNamesSpec Rows.topNamesRow = true := by
  simp only [joinedFacts, Bool.and_eq_true]
  repeat' (refine And.intro ?_ ?_)
  all_goals (as_aux_lemma => kernel_rfl)
theorem goes : false = Rows.topNamesRow.goesBy Tryz.prog := by kernel_rfl
theorem wfText : OpenClaim.wfByText (OpenSpec.ofChange Rows.topNamesSpec) Rows.topNamesRow = true := by kernel_rfl
theorem main_is : Tryz.pinned.checked.prog.mainIs = some ((true, "842118d1e5aa2b0c18d8575672f9552e5f114e9adcf855ddbda8827e4ee14e1a").fst, (true, "842118d1e5aa2b0c18d8575672f9552e5f114e9adcf855ddbda8827e4ee14e1a").snd.toList) := by kernel_rfl
theorem looksNo : true = Tryz.prog.looks [] := by kernel_rfl
theorem named3 : Tryz.prog.funcNamed Rows.topNamesRow.func = some 3 := by kernel_rfl
theorem wrapNo : Func.isWrapper Tryz.prog Tryz.f3 Rows.topNamesRow.wrapper Rows.topNamesRow.mainSum := by
  unfold Func.isWrapper
  first | (rw [if_pos (by decide +kernel)]; kernel_rfl) | (rw [if_neg (by decide +kernel)]; exact ⟨rfl, rfl⟩)
theorem instNo : Func.isInstance Tryz.prog Tryz.f3 Rows.topNamesRow.origin Rows.topNamesRow.targs := of_decide_eq_true (by kernel_rfl)
theorem noStand : ([5].all fun u => !Tryz.prog.wantsStandIn u) = true := by kernel_rfl
end Go.Proofs.YtmpiakibllgdeaaGreatDoor.topNames
