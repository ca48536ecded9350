/-
  No cell of these rows narrows 'for every input' (looked for: loops, veiled, ifaces, maps, wideKeys, modest, calm, conditions, laid).
  DERIVED. THE GIVEN ROWS OF THIS SEAT. 4 by the template 'for every input the law returns true; each argument reads behind the call as it read before'; 0 by the template 'total and deterministic' (their statements: YtcgjlbgmjlafnaaTotals.lean).
  GIVEN WITH THE SEED: the statements are not yours to turn. If you find one false, say at which input.
  Laid BY PROGRAM, IN A SANDBOX (cutbox-rows.mjs): the forced cells as the released guide's own fill.sh prints them over the translation 5cdfc1cc65d3557c… (all of the seat's roots in one cut). By AI agents, Wed Nov 11 2026. No macro, syntax, notation, axiom, sorry.
-/
import Derived.Test.YtcgjlbgmjlafnaaChecked
import GoSem.Claim
import GoSem.ClaimJoined
import GoSem.ClaimMapViews
import Derived.JoinedTies
import Derived.KernelRfl
namespace Go.Proofs.Ytcgjlbgmjlafnaa
/- THE CELL 'sum', in the pinned program and in every row, IS THE sha256 OF THE DUMP (.gsa) THAT YtcgjlbgmjlafnaaProg.lean LOADS. Nothing in Lean hashes anything: it is a label: what it is worth is what the hold of that sum in a sandbox is worth. -/
noncomputable def Try.pinned : Pinned := { name := "ytcgjlbgmjlafnaa", sum := "5cdfc1cc65d3557cd1b625c7974f15b73d28081be97b8bc699ba6a6bf68f557e", checked := Try.checked }
namespace Rows
def none {H : Type} : Left H := { results := [], args := [] }

/-- 'harrowlaw07.TableNone': WHATEVER THE INPUT: true; the input reads as it did. -/
def tableNoneSpec : ChangeSpec := { name := "tableNone", fn := fun _ => fun
  | [d1, d2, d3, d4] => { results := [.lit (.bool true)], args := [d1, d2, d3, d4] }
  | _ => none }
def tableNoneRow : OpenClaim := { program := "ytcgjlbgmjlafnaa", sum := "5cdfc1cc65d3557cd1b625c7974f15b73d28081be97b8bc699ba6a6bf68f557e", func := "harrow/harrowlaw07.TableNone", spec := "tableNone", apart := false }
def TableNoneSaid : Prop := tableNoneRow.holds Try.pinned (OpenSpec.ofChange tableNoneSpec)

/-- ITS FALSE NEIGHBOUR: 'it returns false'. Refute it at one input. -/
def tableNoneWrong : ChangeSpec := { name := "tableNone", fn := fun _ => fun
  | [d1, d2, d3, d4] => { results := [.lit (.bool false)], args := [d1, d2, d3, d4] }
  | _ => none }
def TableNoneWrongFalsely : Prop := tableNoneRow.holds Try.pinned (OpenSpec.ofChange tableNoneWrong)

/-- 'harrowlaw07.TableMoves': WHATEVER THE INPUT: true; the input reads as it did. -/
def tableMovesSpec : ChangeSpec := { name := "tableMoves", fn := fun _ => fun
  | [d] => { results := [.lit (.bool true)], args := [d] }
  | _ => none }
def tableMovesRow : OpenClaim := { program := "ytcgjlbgmjlafnaa", sum := "5cdfc1cc65d3557cd1b625c7974f15b73d28081be97b8bc699ba6a6bf68f557e", func := "harrow/harrowlaw07.TableMoves", spec := "tableMoves", apart := false }
def TableMovesSaid : Prop := tableMovesRow.holds Try.pinned (OpenSpec.ofChange tableMovesSpec)

/-- ITS FALSE NEIGHBOUR: 'it returns false'. Refute it at one input. -/
def tableMovesWrong : ChangeSpec := { name := "tableMoves", fn := fun _ => fun
  | [d] => { results := [.lit (.bool false)], args := [d] }
  | _ => none }
def TableMovesWrongFalsely : Prop := tableMovesRow.holds Try.pinned (OpenSpec.ofChange tableMovesWrong)

/-- 'harrowlaw07.TableFull': WHATEVER THE INPUT: true; the input reads as it did. -/
def tableFullSpec : ChangeSpec := { name := "tableFull", fn := fun _ => fun
  | [d1, d2, d3] => { results := [.lit (.bool true)], args := [d1, d2, d3] }
  | _ => none }
def tableFullRow : OpenClaim := { program := "ytcgjlbgmjlafnaa", sum := "5cdfc1cc65d3557cd1b625c7974f15b73d28081be97b8bc699ba6a6bf68f557e", func := "harrow/harrowlaw07.TableFull", spec := "tableFull", apart := false }
def TableFullSaid : Prop := tableFullRow.holds Try.pinned (OpenSpec.ofChange tableFullSpec)

/-- ITS FALSE NEIGHBOUR: 'it returns false'. Refute it at one input. -/
def tableFullWrong : ChangeSpec := { name := "tableFull", fn := fun _ => fun
  | [d1, d2, d3] => { results := [.lit (.bool false)], args := [d1, d2, d3] }
  | _ => none }
def TableFullWrongFalsely : Prop := tableFullRow.holds Try.pinned (OpenSpec.ofChange tableFullWrong)

/-- 'harrowlaw07.TableTurned': WHATEVER THE INPUT: true; the input reads as it did. -/
def tableTurnedSpec : ChangeSpec := { name := "tableTurned", fn := fun _ => fun
  | [d] => { results := [.lit (.bool true)], args := [d] }
  | _ => none }
def tableTurnedRow : OpenClaim := { program := "ytcgjlbgmjlafnaa", sum := "5cdfc1cc65d3557cd1b625c7974f15b73d28081be97b8bc699ba6a6bf68f557e", func := "harrow/harrowlaw07.TableTurned", spec := "tableTurned", unfollowed := true, recurses := true, apart := false }
def TableTurnedSaid : Prop := tableTurnedRow.holds Try.pinned (OpenSpec.ofChange tableTurnedSpec)

/-- ITS FALSE NEIGHBOUR: 'it returns false'. Refute it at one input. -/
def tableTurnedWrong : ChangeSpec := { name := "tableTurned", fn := fun _ => fun
  | [d] => { results := [.lit (.bool false)], args := [d] }
  | _ => none }
def TableTurnedWrongFalsely : Prop := tableTurnedRow.holds Try.pinned (OpenSpec.ofChange tableTurnedWrong)

/- THE SECOND FORM. 'bulk': how many values and letters a reading holds, each counted each time it is reached (what is shared counts as often as it is met; a slice's spare places count too). A statement '..UptoSaid' is the law's where the arguments, and the package variables that the reading takes, are together of bulk at most 1048576: NARROWER than '..Said'. Prove '..Said' where nothing that the law and all that it calls make is longer than what came in: it says more and counts as full. Else prove '..UptoSaid'. A law counts once. -/
mutual
def uptoBulk {H : Type} : DataW H → Nat
  | .lit (.string bytes) => bytes.length + 1
  | .lit _ => 1
  | .nil => 1
  | .ptr d => uptoBulk d + 1
  | .slice elems spare => uptoBulkAll elems + uptoBulkAll spare + 1
  | .agg parts => uptoBulkAll parts + 1
  | .iface _ d => uptoBulk d + 1
  | .map entries => uptoBulkEntries entries + 1
  | .held _ => 1
def uptoBulkAll {H : Type} : List (DataW H) → Nat
  | [] => 0
  | d :: r => uptoBulk d + uptoBulkAll r
def uptoBulkEntries {H : Type} : List (Lit × DataW H) → Nat
  | [] => 0
  | x :: r => uptoBulkEntry x + uptoBulkEntries r
def uptoBulkEntry {H : Type} : Lit × DataW H → Nat
  | (.string bytes, d) => bytes.length + uptoBulk d + 1
  | (_, d) => uptoBulk d + 1
 end
def uptoSmall : (H : Type) → List (DataW H) → Bool := fun _ ds => decide (uptoBulkAll ds ≤ 1048576)
def OpenSpec.upto (s : _root_.Go.ChangeSpec) : _root_.Go.OpenSpec := { _root_.Go.OpenSpec.ofChange s with cond := some uptoSmall }

/-- 'harrowlaw07.TableNone', WHERE WHAT IT READS IS OF BULK AT MOST 1048576: true; the input reads as it did. -/
def tableNoneUptoRow : OpenClaim := { program := "ytcgjlbgmjlafnaa", sum := "5cdfc1cc65d3557cd1b625c7974f15b73d28081be97b8bc699ba6a6bf68f557e", func := "harrow/harrowlaw07.TableNone", spec := "tableNone", apart := false, narrowed := true }
def TableNoneUptoSaid : Prop := tableNoneUptoRow.holds Try.pinned (OpenSpec.upto tableNoneSpec)

/-- 'harrowlaw07.TableMoves', WHERE WHAT IT READS IS OF BULK AT MOST 1048576: true; the input reads as it did. -/
def tableMovesUptoRow : OpenClaim := { program := "ytcgjlbgmjlafnaa", sum := "5cdfc1cc65d3557cd1b625c7974f15b73d28081be97b8bc699ba6a6bf68f557e", func := "harrow/harrowlaw07.TableMoves", spec := "tableMoves", apart := false, narrowed := true }
def TableMovesUptoSaid : Prop := tableMovesUptoRow.holds Try.pinned (OpenSpec.upto tableMovesSpec)

/-- 'harrowlaw07.TableFull', WHERE WHAT IT READS IS OF BULK AT MOST 1048576: true; the input reads as it did. -/
def tableFullUptoRow : OpenClaim := { program := "ytcgjlbgmjlafnaa", sum := "5cdfc1cc65d3557cd1b625c7974f15b73d28081be97b8bc699ba6a6bf68f557e", func := "harrow/harrowlaw07.TableFull", spec := "tableFull", apart := false, narrowed := true }
def TableFullUptoSaid : Prop := tableFullUptoRow.holds Try.pinned (OpenSpec.upto tableFullSpec)

/-- 'harrowlaw07.TableTurned', WHERE WHAT IT READS IS OF BULK AT MOST 1048576: true; the input reads as it did. -/
def tableTurnedUptoRow : OpenClaim := { program := "ytcgjlbgmjlafnaa", sum := "5cdfc1cc65d3557cd1b625c7974f15b73d28081be97b8bc699ba6a6bf68f557e", func := "harrow/harrowlaw07.TableTurned", spec := "tableTurned", unfollowed := true, recurses := true, apart := false, narrowed := true }
def TableTurnedUptoSaid : Prop := tableTurnedUptoRow.holds Try.pinned (OpenSpec.upto tableTurnedSpec)

end Rows
end Go.Proofs.Ytcgjlbgmjlafnaa
