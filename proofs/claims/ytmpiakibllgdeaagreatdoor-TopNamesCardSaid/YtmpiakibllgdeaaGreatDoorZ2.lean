/-
  Six parts of the run of works, by the kernel. No statement of the seat is proved here. Conditions: none.
-/
import Derived.Test.YtmpiakibllgdeaaGreatDoorX1
import Derived.Test.YtmpiakibllgdeaaGreatDoorX2
import Derived.Test.YtmpiakibllgdeaaGreatDoorX3
import Derived.KernelRfl
set_option maxRecDepth 1000000
namespace Go.Ab
open Go.Proofs
theorem part7 : gcF k7 (goK (runF 2500) S6) = some S7 := by kernel_rfl
theorem part8 : gcF k8 (goK (runF 2500) S7) = some S8 := by kernel_rfl
theorem part9 : gcF k9 (goK (runF 5000) S8) = some S9 := by kernel_rfl
theorem part10 : gcF k10 (goK (runF 5000) S9) = some S10 := by kernel_rfl
theorem part11 : gcF k11 (goK (runF 5000) S10) = some S11 := by kernel_rfl
theorem part12 : gcF k12 (goK (runF 5000) S11) = some S12 := by kernel_rfl
end Go.Ab
