/-
  Six parts of the run of works, by the kernel. No statement of the seat is proved here. Conditions: none.
-/
import Derived.Test.YtmpiakibllgdeaaGreatDoorX1
import Derived.Test.YtmpiakibllgdeaaGreatDoorX2
import Derived.Test.YtmpiakibllgdeaaGreatDoorX3
import Derived.KernelRfl
set_option maxRecDepth 1000000
namespace Go.Ab
open Go.Proofs
theorem part1 : gcF k1 (goK (runF 5000) S0) = some S1 := by kernel_rfl
theorem part2 : gcF k2 (goK (runF 5000) S1) = some S2 := by kernel_rfl
theorem part3 : gcF k3 (goK (runF 5000) S2) = some S3 := by kernel_rfl
theorem part4 : gcF k4 (goK (runF 5000) S3) = some S4 := by kernel_rfl
theorem part5 : gcF k5 (goK (runF 5000) S4) = some S5 := by kernel_rfl
theorem part6 : gcF k6 (goK (runF 5000) S5) = some S6 := by kernel_rfl
end Go.Ab
