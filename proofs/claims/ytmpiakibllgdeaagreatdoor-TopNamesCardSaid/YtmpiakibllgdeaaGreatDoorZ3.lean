/-
  Six parts of the run of works, by the kernel. No statement of the seat is proved here. Conditions: none.
-/
import Derived.Test.YtmpiakibllgdeaaGreatDoorX1
import Derived.Test.YtmpiakibllgdeaaGreatDoorX2
import Derived.Test.YtmpiakibllgdeaaGreatDoorX3
import Derived.KernelRfl
set_option maxRecDepth 1000000
namespace Go.Ab
open Go.Proofs
theorem part13 : gcF k13 (goK (runF 5000) S12) = some S13 := by kernel_rfl
theorem part14 : gcF k14 (goK (runF 5000) S13) = some S14 := by kernel_rfl
theorem part15 : gcF k15 (goK (runF 5000) S14) = some S15 := by kernel_rfl
theorem part16 : gcF k16 (goK (runF 5000) S15) = some S16 := by kernel_rfl
theorem part17 : gcF k17 (goK (runF 5000) S16) = some S17 := by kernel_rfl
theorem part18 : gcF k18 (goK (runF 2514) S17) = some S18 := by kernel_rfl
end Go.Ab
