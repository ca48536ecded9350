/-
  No cell of these rows narrows 'for every input' (looked for: loops, veiled, ifaces, maps, wideKeys, modest, calm, conditions, laid).
  DERIVED. THE GIVEN ROWS OF THIS SEAT. 5 by the template 'for every input the law returns true; each argument reads behind the call as it read before'; 0 by the template 'total and deterministic' (their statements: YthdgfhkihhamnaaTotals.lean).
  GIVEN WITH THE SEED: the statements are not yours to turn. If you find one false, say at which input.
  Laid BY PROGRAM, IN A SANDBOX (cutbox-rows.mjs): the forced cells as the released guide's own fill.sh prints them over the translation 87330d4cbf31fb88… (all of the seat's roots in one cut). By AI agents, Wed Nov 11 2026. No macro, syntax, notation, axiom, sorry.
-/
import Derived.Test.YthdgfhkihhamnaaChecked
import GoSem.Claim
import GoSem.ClaimJoined
import GoSem.ClaimMapViews
import Derived.JoinedTies
import Derived.KernelRfl
namespace Go.Proofs.Ythdgfhkihhamnaa
/- THE CELL 'sum', in the pinned program and in every row, IS THE sha256 OF THE DUMP (.gsa) THAT YthdgfhkihhamnaaProg.lean LOADS. Nothing in Lean hashes anything: it is a label: what it is worth is what the hold of that sum in a sandbox is worth. -/
noncomputable def Try.pinned : Pinned := { name := "ythdgfhkihhamnaa", sum := "87330d4cbf31fb8874bc64c355301516eefd354fb4f81759951c454a289b77de", checked := Try.checked }
namespace Rows
def none {H : Type} : Left H := { results := [], args := [] }

/-- 'harrowlaw01.DeviceArgs': WHATEVER THE INPUT: true; the input reads as it did. -/
def deviceArgsSpec : ChangeSpec := { name := "deviceArgs", fn := fun _ => fun
  | [d1, d2, d3] => { results := [.lit (.bool true)], args := [d1, d2, d3] }
  | _ => none }
def deviceArgsRow : OpenClaim := { program := "ythdgfhkihhamnaa", sum := "87330d4cbf31fb8874bc64c355301516eefd354fb4f81759951c454a289b77de", func := "harrow/harrowlaw01.DeviceArgs", spec := "deviceArgs", unfollowed := true, recurses := true, apart := false }
def DeviceArgsSaid : Prop := deviceArgsRow.holds Try.pinned (OpenSpec.ofChange deviceArgsSpec)

/-- ITS FALSE NEIGHBOUR: 'it returns false'. Refute it at one input. -/
def deviceArgsWrong : ChangeSpec := { name := "deviceArgs", fn := fun _ => fun
  | [d1, d2, d3] => { results := [.lit (.bool false)], args := [d1, d2, d3] }
  | _ => none }
def DeviceArgsWrongFalsely : Prop := deviceArgsRow.holds Try.pinned (OpenSpec.ofChange deviceArgsWrong)

/-- 'harrowlaw01.DeviceLast': WHATEVER THE INPUT: true; the input reads as it did. -/
def deviceLastSpec : ChangeSpec := { name := "deviceLast", fn := fun _ => fun
  | [d1, d2] => { results := [.lit (.bool true)], args := [d1, d2] }
  | _ => none }
def deviceLastRow : OpenClaim := { program := "ythdgfhkihhamnaa", sum := "87330d4cbf31fb8874bc64c355301516eefd354fb4f81759951c454a289b77de", func := "harrow/harrowlaw01.DeviceLast", spec := "deviceLast", unfollowed := true, recurses := true, apart := false }
def DeviceLastSaid : Prop := deviceLastRow.holds Try.pinned (OpenSpec.ofChange deviceLastSpec)

/-- ITS FALSE NEIGHBOUR: 'it returns false'. Refute it at one input. -/
def deviceLastWrong : ChangeSpec := { name := "deviceLast", fn := fun _ => fun
  | [d1, d2] => { results := [.lit (.bool false)], args := [d1, d2] }
  | _ => none }
def DeviceLastWrongFalsely : Prop := deviceLastRow.holds Try.pinned (OpenSpec.ofChange deviceLastWrong)

/-- 'harrowlaw01.DeviceKept': WHATEVER THE INPUT: true; the input reads as it did. -/
def deviceKeptSpec : ChangeSpec := { name := "deviceKept", fn := fun _ => fun
  | [d1, d2, d3] => { results := [.lit (.bool true)], args := [d1, d2, d3] }
  | _ => none }
def deviceKeptRow : OpenClaim := { program := "ythdgfhkihhamnaa", sum := "87330d4cbf31fb8874bc64c355301516eefd354fb4f81759951c454a289b77de", func := "harrow/harrowlaw01.DeviceKept", spec := "deviceKept", unfollowed := true, recurses := true, apart := false }
def DeviceKeptSaid : Prop := deviceKeptRow.holds Try.pinned (OpenSpec.ofChange deviceKeptSpec)

/-- ITS FALSE NEIGHBOUR: 'it returns false'. Refute it at one input. -/
def deviceKeptWrong : ChangeSpec := { name := "deviceKept", fn := fun _ => fun
  | [d1, d2, d3] => { results := [.lit (.bool false)], args := [d1, d2, d3] }
  | _ => none }
def DeviceKeptWrongFalsely : Prop := deviceKeptRow.holds Try.pinned (OpenSpec.ofChange deviceKeptWrong)

/-- 'harrowlaw01.DeviceFlushed': WHATEVER THE INPUT: true; the input reads as it did. -/
def deviceFlushedSpec : ChangeSpec := { name := "deviceFlushed", fn := fun _ => fun
  | [d1, d2, d3] => { results := [.lit (.bool true)], args := [d1, d2, d3] }
  | _ => none }
def deviceFlushedRow : OpenClaim := { program := "ythdgfhkihhamnaa", sum := "87330d4cbf31fb8874bc64c355301516eefd354fb4f81759951c454a289b77de", func := "harrow/harrowlaw01.DeviceFlushed", spec := "deviceFlushed", unfollowed := true, recurses := true, apart := false }
def DeviceFlushedSaid : Prop := deviceFlushedRow.holds Try.pinned (OpenSpec.ofChange deviceFlushedSpec)

/-- ITS FALSE NEIGHBOUR: 'it returns false'. Refute it at one input. -/
def deviceFlushedWrong : ChangeSpec := { name := "deviceFlushed", fn := fun _ => fun
  | [d1, d2, d3] => { results := [.lit (.bool false)], args := [d1, d2, d3] }
  | _ => none }
def DeviceFlushedWrongFalsely : Prop := deviceFlushedRow.holds Try.pinned (OpenSpec.ofChange deviceFlushedWrong)

/-- 'harrowlaw01.DeviceOwn': WHATEVER THE INPUT: true; the input reads as it did. -/
def deviceOwnSpec : ChangeSpec := { name := "deviceOwn", fn := fun _ => fun
  | [d1, d2] => { results := [.lit (.bool true)], args := [d1, d2] }
  | _ => none }
def deviceOwnRow : OpenClaim := { program := "ythdgfhkihhamnaa", sum := "87330d4cbf31fb8874bc64c355301516eefd354fb4f81759951c454a289b77de", func := "harrow/harrowlaw01.DeviceOwn", spec := "deviceOwn", unfollowed := true, recurses := true, apart := false }
def DeviceOwnSaid : Prop := deviceOwnRow.holds Try.pinned (OpenSpec.ofChange deviceOwnSpec)

/-- ITS FALSE NEIGHBOUR: 'it returns false'. Refute it at one input. -/
def deviceOwnWrong : ChangeSpec := { name := "deviceOwn", fn := fun _ => fun
  | [d1, d2] => { results := [.lit (.bool false)], args := [d1, d2] }
  | _ => none }
def DeviceOwnWrongFalsely : Prop := deviceOwnRow.holds Try.pinned (OpenSpec.ofChange deviceOwnWrong)

/- THE SECOND FORM. 'bulk': how many values and letters a reading holds, each counted each time it is reached (what is shared counts as often as it is met; a slice's spare places count too). A statement '..UptoSaid' is the law's where the arguments, and the package variables that the reading takes, are together of bulk at most 1048576: NARROWER than '..Said'. Prove '..Said' where nothing that the law and all that it calls make is longer than what came in: it says more and counts as full. Else prove '..UptoSaid'. A law counts once. -/
mutual
def uptoBulk {H : Type} : DataW H → Nat
  | .lit (.string bytes) => bytes.length + 1
  | .lit _ => 1
  | .nil => 1
  | .ptr d => uptoBulk d + 1
  | .slice elems spare => uptoBulkAll elems + uptoBulkAll spare + 1
  | .agg parts => uptoBulkAll parts + 1
  | .iface _ d => uptoBulk d + 1
  | .map entries => uptoBulkEntries entries + 1
  | .held _ => 1
def uptoBulkAll {H : Type} : List (DataW H) → Nat
  | [] => 0
  | d :: r => uptoBulk d + uptoBulkAll r
def uptoBulkEntries {H : Type} : List (Lit × DataW H) → Nat
  | [] => 0
  | x :: r => uptoBulkEntry x + uptoBulkEntries r
def uptoBulkEntry {H : Type} : Lit × DataW H → Nat
  | (.string bytes, d) => bytes.length + uptoBulk d + 1
  | (_, d) => uptoBulk d + 1
 end
def uptoSmall : (H : Type) → List (DataW H) → Bool := fun _ ds => decide (uptoBulkAll ds ≤ 1048576)
def OpenSpec.upto (s : _root_.Go.ChangeSpec) : _root_.Go.OpenSpec := { _root_.Go.OpenSpec.ofChange s with cond := some uptoSmall }

/-- 'harrowlaw01.DeviceArgs', WHERE WHAT IT READS IS OF BULK AT MOST 1048576: true; the input reads as it did. -/
def deviceArgsUptoRow : OpenClaim := { program := "ythdgfhkihhamnaa", sum := "87330d4cbf31fb8874bc64c355301516eefd354fb4f81759951c454a289b77de", func := "harrow/harrowlaw01.DeviceArgs", spec := "deviceArgs", unfollowed := true, recurses := true, apart := false, narrowed := true }
def DeviceArgsUptoSaid : Prop := deviceArgsUptoRow.holds Try.pinned (OpenSpec.upto deviceArgsSpec)

/-- 'harrowlaw01.DeviceLast', WHERE WHAT IT READS IS OF BULK AT MOST 1048576: true; the input reads as it did. -/
def deviceLastUptoRow : OpenClaim := { program := "ythdgfhkihhamnaa", sum := "87330d4cbf31fb8874bc64c355301516eefd354fb4f81759951c454a289b77de", func := "harrow/harrowlaw01.DeviceLast", spec := "deviceLast", unfollowed := true, recurses := true, apart := false, narrowed := true }
def DeviceLastUptoSaid : Prop := deviceLastUptoRow.holds Try.pinned (OpenSpec.upto deviceLastSpec)

/-- 'harrowlaw01.DeviceKept', WHERE WHAT IT READS IS OF BULK AT MOST 1048576: true; the input reads as it did. -/
def deviceKeptUptoRow : OpenClaim := { program := "ythdgfhkihhamnaa", sum := "87330d4cbf31fb8874bc64c355301516eefd354fb4f81759951c454a289b77de", func := "harrow/harrowlaw01.DeviceKept", spec := "deviceKept", unfollowed := true, recurses := true, apart := false, narrowed := true }
def DeviceKeptUptoSaid : Prop := deviceKeptUptoRow.holds Try.pinned (OpenSpec.upto deviceKeptSpec)

/-- 'harrowlaw01.DeviceFlushed', WHERE WHAT IT READS IS OF BULK AT MOST 1048576: true; the input reads as it did. -/
def deviceFlushedUptoRow : OpenClaim := { program := "ythdgfhkihhamnaa", sum := "87330d4cbf31fb8874bc64c355301516eefd354fb4f81759951c454a289b77de", func := "harrow/harrowlaw01.DeviceFlushed", spec := "deviceFlushed", unfollowed := true, recurses := true, apart := false, narrowed := true }
def DeviceFlushedUptoSaid : Prop := deviceFlushedUptoRow.holds Try.pinned (OpenSpec.upto deviceFlushedSpec)

/-- 'harrowlaw01.DeviceOwn', WHERE WHAT IT READS IS OF BULK AT MOST 1048576: true; the input reads as it did. -/
def deviceOwnUptoRow : OpenClaim := { program := "ythdgfhkihhamnaa", sum := "87330d4cbf31fb8874bc64c355301516eefd354fb4f81759951c454a289b77de", func := "harrow/harrowlaw01.DeviceOwn", spec := "deviceOwn", unfollowed := true, recurses := true, apart := false, narrowed := true }
def DeviceOwnUptoSaid : Prop := deviceOwnUptoRow.holds Try.pinned (OpenSpec.upto deviceOwnSpec)

end Rows
end Go.Proofs.Ythdgfhkihhamnaa
