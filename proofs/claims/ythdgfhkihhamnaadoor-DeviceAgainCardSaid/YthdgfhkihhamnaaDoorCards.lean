/-
  DERIVED. GIVEN WITH THE SEED: THE CARDS: each row of YthdgfhkihhamnaaDoorRows.lean that lists a variable, with what it lists TIED to the program's text (the seventh form; the later family's looks); each row that meets fmt, with fmt's text TOLD by the authors' own Lean function (tested against real Go, not proved from fmt's source: count such statements apart). THE CARD IS WHAT COUNTS. Prove the row's statement (the work); the ties are given (YthdgfhkihhamnaaDoorTie.lean); close each card by the builder's one call (the guide's Derived/Test/ToyasCard.lean, 'card_holds'). Laid BY PROGRAM, IN A SANDBOX (cutbox-door.mjs). By AI agents, Wed Nov 11 2026. No macro, syntax, notation, axiom, sorry.
-/
import Derived.Test.YthdgfhkihhamnaaDoorRows
import GoSem.ClaimSeven
namespace Go.Proofs.YthdgfhkihhamnaaDoor
namespace Rows

/-- THE TIED CARD OF 'harrowlaw01.DeviceAgain'. -/
def deviceAgainCard : Claim7 := { stood := { row := deviceAgainRow, standIns := [], harness := (true, "39a4a9c07adb2854db245564f486879dc83493ed199322e46c67718c7a6c8f45"), looks := false }, kinds := [], alts := [], laidByText := true, laidKinds := [.data, .data, .data], laidTests := true, laidLooks := .later }
def DeviceAgainCardSaid : Prop := Claim7.holds Tryd.pinned (.plain (OpenSpec.ofChange deviceAgainSpec)) deviceAgainCard

/-- THE SECOND FORM's CARD OF 'harrowlaw01.DeviceAgain'. -/
def deviceAgainUptoCard : Claim7 := { stood := { row := deviceAgainUptoRow, standIns := [], harness := (true, "39a4a9c07adb2854db245564f486879dc83493ed199322e46c67718c7a6c8f45"), looks := false }, kinds := [], alts := [], laidByText := true, laidKinds := [.data, .data, .data], laidTests := true, laidLooks := .later }
def DeviceAgainUptoCardSaid : Prop := Claim7.holds Tryd.pinned (.plain (OpenSpec.upto deviceAgainSpec)) deviceAgainUptoCard
end Rows
end Go.Proofs.YthdgfhkihhamnaaDoor
