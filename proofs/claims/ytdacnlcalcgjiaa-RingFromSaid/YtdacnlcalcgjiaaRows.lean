/-
  No cell of these rows narrows 'for every input' (looked for: loops, veiled, ifaces, maps, wideKeys, modest, calm, conditions, laid).
  DERIVED. THE GIVEN ROWS OF THIS SEAT. 5 by the template 'for every input the law returns true; each argument reads behind the call as it read before'; 0 by the template 'total and deterministic' (their statements: YtdacnlcalcgjiaaTotals.lean).
  GIVEN WITH THE SEED: the statements are not yours to turn. If you find one false, say at which input.
  Laid BY PROGRAM, IN A SANDBOX (cutbox-rows.mjs): the forced cells as the released guide's own fill.sh prints them over the translation 9a7b2c90fbe3c5e3… (all of the seat's roots in one cut). By AI agents, Wed Nov 11 2026. No macro, syntax, notation, axiom, sorry.
-/
import Derived.Test.YtdacnlcalcgjiaaChecked
import GoSem.Claim
import GoSem.ClaimJoined
import GoSem.ClaimMapViews
import Derived.JoinedTies
import Derived.KernelRfl
namespace Go.Proofs.Ytdacnlcalcgjiaa
/- THE CELL 'sum', in the pinned program and in every row, IS THE sha256 OF THE DUMP (.gsa) THAT YtdacnlcalcgjiaaProg.lean LOADS. Nothing in Lean hashes anything: it is a label: what it is worth is what the hold of that sum in a sandbox is worth. -/
noncomputable def Try.pinned : Pinned := { name := "ytdacnlcalcgjiaa", sum := "9a7b2c90fbe3c5e38b79c1d2c3328696036eb065c61207a0017120884b905d1e", checked := Try.checked }
namespace Rows
def none {H : Type} : Left H := { results := [], args := [] }

/-- 'harrowlaw06.RingGoes': WHATEVER THE INPUT: true; the input reads as it did. -/
def ringGoesSpec : ChangeSpec := { name := "ringGoes", fn := fun _ => fun
  | [d1, d2, d3, d4] => { results := [.lit (.bool true)], args := [d1, d2, d3, d4] }
  | _ => none }
def ringGoesRow : OpenClaim := { program := "ytdacnlcalcgjiaa", sum := "9a7b2c90fbe3c5e38b79c1d2c3328696036eb065c61207a0017120884b905d1e", func := "harrow/harrowlaw06.RingGoes", spec := "ringGoes", apart := false }
def RingGoesSaid : Prop := ringGoesRow.holds Try.pinned (OpenSpec.ofChange ringGoesSpec)

/-- ITS FALSE NEIGHBOUR: 'it returns false'. Refute it at one input. -/
def ringGoesWrong : ChangeSpec := { name := "ringGoes", fn := fun _ => fun
  | [d1, d2, d3, d4] => { results := [.lit (.bool false)], args := [d1, d2, d3, d4] }
  | _ => none }
def RingGoesWrongFalsely : Prop := ringGoesRow.holds Try.pinned (OpenSpec.ofChange ringGoesWrong)

/-- 'harrowlaw06.RingKeeps': WHATEVER THE INPUT: true; the input reads as it did. -/
def ringKeepsSpec : ChangeSpec := { name := "ringKeeps", fn := fun _ => fun
  | [d1, d2] => { results := [.lit (.bool true)], args := [d1, d2] }
  | _ => none }
def ringKeepsRow : OpenClaim := { program := "ytdacnlcalcgjiaa", sum := "9a7b2c90fbe3c5e38b79c1d2c3328696036eb065c61207a0017120884b905d1e", func := "harrow/harrowlaw06.RingKeeps", spec := "ringKeeps", apart := false }
def RingKeepsSaid : Prop := ringKeepsRow.holds Try.pinned (OpenSpec.ofChange ringKeepsSpec)

/-- ITS FALSE NEIGHBOUR: 'it returns false'. Refute it at one input. -/
def ringKeepsWrong : ChangeSpec := { name := "ringKeeps", fn := fun _ => fun
  | [d1, d2] => { results := [.lit (.bool false)], args := [d1, d2] }
  | _ => none }
def RingKeepsWrongFalsely : Prop := ringKeepsRow.holds Try.pinned (OpenSpec.ofChange ringKeepsWrong)

/-- 'harrowlaw06.RingLens': WHATEVER THE INPUT: true; the input reads as it did. -/
def ringLensSpec : ChangeSpec := { name := "ringLens", fn := fun _ => fun
  | [d] => { results := [.lit (.bool true)], args := [d] }
  | _ => none }
def ringLensRow : OpenClaim := { program := "ytdacnlcalcgjiaa", sum := "9a7b2c90fbe3c5e38b79c1d2c3328696036eb065c61207a0017120884b905d1e", func := "harrow/harrowlaw06.RingLens", spec := "ringLens", apart := false }
def RingLensSaid : Prop := ringLensRow.holds Try.pinned (OpenSpec.ofChange ringLensSpec)

/-- ITS FALSE NEIGHBOUR: 'it returns false'. Refute it at one input. -/
def ringLensWrong : ChangeSpec := { name := "ringLens", fn := fun _ => fun
  | [d] => { results := [.lit (.bool false)], args := [d] }
  | _ => none }
def RingLensWrongFalsely : Prop := ringLensRow.holds Try.pinned (OpenSpec.ofChange ringLensWrong)

/-- 'harrowlaw06.RingTurns': WHATEVER THE INPUT: true; the input reads as it did. -/
def ringTurnsSpec : ChangeSpec := { name := "ringTurns", fn := fun _ => fun
  | [d1, d2, d3] => { results := [.lit (.bool true)], args := [d1, d2, d3] }
  | _ => none }
def ringTurnsRow : OpenClaim := { program := "ytdacnlcalcgjiaa", sum := "9a7b2c90fbe3c5e38b79c1d2c3328696036eb065c61207a0017120884b905d1e", func := "harrow/harrowlaw06.RingTurns", spec := "ringTurns", apart := false }
def RingTurnsSaid : Prop := ringTurnsRow.holds Try.pinned (OpenSpec.ofChange ringTurnsSpec)

/-- ITS FALSE NEIGHBOUR: 'it returns false'. Refute it at one input. -/
def ringTurnsWrong : ChangeSpec := { name := "ringTurns", fn := fun _ => fun
  | [d1, d2, d3] => { results := [.lit (.bool false)], args := [d1, d2, d3] }
  | _ => none }
def RingTurnsWrongFalsely : Prop := ringTurnsRow.holds Try.pinned (OpenSpec.ofChange ringTurnsWrong)

/-- 'harrowlaw06.RingFrom': WHATEVER THE INPUT: true; the input reads as it did. -/
def ringFromSpec : ChangeSpec := { name := "ringFrom", fn := fun _ => fun
  | [d1, d2, d3, d4] => { results := [.lit (.bool true)], args := [d1, d2, d3, d4] }
  | _ => none }
def ringFromRow : OpenClaim := { program := "ytdacnlcalcgjiaa", sum := "9a7b2c90fbe3c5e38b79c1d2c3328696036eb065c61207a0017120884b905d1e", func := "harrow/harrowlaw06.RingFrom", spec := "ringFrom", unfollowed := true, recurses := true, apart := false }
def RingFromSaid : Prop := ringFromRow.holds Try.pinned (OpenSpec.ofChange ringFromSpec)

/-- ITS FALSE NEIGHBOUR: 'it returns false'. Refute it at one input. -/
def ringFromWrong : ChangeSpec := { name := "ringFrom", fn := fun _ => fun
  | [d1, d2, d3, d4] => { results := [.lit (.bool false)], args := [d1, d2, d3, d4] }
  | _ => none }
def RingFromWrongFalsely : Prop := ringFromRow.holds Try.pinned (OpenSpec.ofChange ringFromWrong)

/- THE SECOND FORM. 'bulk': how many values and letters a reading holds, each counted each time it is reached (what is shared counts as often as it is met; a slice's spare places count too). A statement '..UptoSaid' is the law's where the arguments, and the package variables that the reading takes, are together of bulk at most 1048576: NARROWER than '..Said'. Prove '..Said' where nothing that the law and all that it calls make is longer than what came in: it says more and counts as full. Else prove '..UptoSaid'. A law counts once. -/
mutual
def uptoBulk {H : Type} : DataW H → Nat
  | .lit (.string bytes) => bytes.length + 1
  | .lit _ => 1
  | .nil => 1
  | .ptr d => uptoBulk d + 1
  | .slice elems spare => uptoBulkAll elems + uptoBulkAll spare + 1
  | .agg parts => uptoBulkAll parts + 1
  | .iface _ d => uptoBulk d + 1
  | .map entries => uptoBulkEntries entries + 1
  | .held _ => 1
def uptoBulkAll {H : Type} : List (DataW H) → Nat
  | [] => 0
  | d :: r => uptoBulk d + uptoBulkAll r
def uptoBulkEntries {H : Type} : List (Lit × DataW H) → Nat
  | [] => 0
  | x :: r => uptoBulkEntry x + uptoBulkEntries r
def uptoBulkEntry {H : Type} : Lit × DataW H → Nat
  | (.string bytes, d) => bytes.length + uptoBulk d + 1
  | (_, d) => uptoBulk d + 1
 end
def uptoSmall : (H : Type) → List (DataW H) → Bool := fun _ ds => decide (uptoBulkAll ds ≤ 1048576)
def OpenSpec.upto (s : _root_.Go.ChangeSpec) : _root_.Go.OpenSpec := { _root_.Go.OpenSpec.ofChange s with cond := some uptoSmall }

/-- 'harrowlaw06.RingGoes', WHERE WHAT IT READS IS OF BULK AT MOST 1048576: true; the input reads as it did. -/
def ringGoesUptoRow : OpenClaim := { program := "ytdacnlcalcgjiaa", sum := "9a7b2c90fbe3c5e38b79c1d2c3328696036eb065c61207a0017120884b905d1e", func := "harrow/harrowlaw06.RingGoes", spec := "ringGoes", apart := false, narrowed := true }
def RingGoesUptoSaid : Prop := ringGoesUptoRow.holds Try.pinned (OpenSpec.upto ringGoesSpec)

/-- 'harrowlaw06.RingKeeps', WHERE WHAT IT READS IS OF BULK AT MOST 1048576: true; the input reads as it did. -/
def ringKeepsUptoRow : OpenClaim := { program := "ytdacnlcalcgjiaa", sum := "9a7b2c90fbe3c5e38b79c1d2c3328696036eb065c61207a0017120884b905d1e", func := "harrow/harrowlaw06.RingKeeps", spec := "ringKeeps", apart := false, narrowed := true }
def RingKeepsUptoSaid : Prop := ringKeepsUptoRow.holds Try.pinned (OpenSpec.upto ringKeepsSpec)

/-- 'harrowlaw06.RingLens', WHERE WHAT IT READS IS OF BULK AT MOST 1048576: true; the input reads as it did. -/
def ringLensUptoRow : OpenClaim := { program := "ytdacnlcalcgjiaa", sum := "9a7b2c90fbe3c5e38b79c1d2c3328696036eb065c61207a0017120884b905d1e", func := "harrow/harrowlaw06.RingLens", spec := "ringLens", apart := false, narrowed := true }
def RingLensUptoSaid : Prop := ringLensUptoRow.holds Try.pinned (OpenSpec.upto ringLensSpec)

/-- 'harrowlaw06.RingTurns', WHERE WHAT IT READS IS OF BULK AT MOST 1048576: true; the input reads as it did. -/
def ringTurnsUptoRow : OpenClaim := { program := "ytdacnlcalcgjiaa", sum := "9a7b2c90fbe3c5e38b79c1d2c3328696036eb065c61207a0017120884b905d1e", func := "harrow/harrowlaw06.RingTurns", spec := "ringTurns", apart := false, narrowed := true }
def RingTurnsUptoSaid : Prop := ringTurnsUptoRow.holds Try.pinned (OpenSpec.upto ringTurnsSpec)

/-- 'harrowlaw06.RingFrom', WHERE WHAT IT READS IS OF BULK AT MOST 1048576: true; the input reads as it did. -/
def ringFromUptoRow : OpenClaim := { program := "ytdacnlcalcgjiaa", sum := "9a7b2c90fbe3c5e38b79c1d2c3328696036eb065c61207a0017120884b905d1e", func := "harrow/harrowlaw06.RingFrom", spec := "ringFrom", unfollowed := true, recurses := true, apart := false, narrowed := true }
def RingFromUptoSaid : Prop := ringFromUptoRow.holds Try.pinned (OpenSpec.upto ringFromSpec)

end Rows
end Go.Proofs.Ytdacnlcalcgjiaa
