/-
  Values of the law, worked out. Conditions: none.
-/
import Derived.Test.YtfpcbdihdgolbaaGN
set_option linter.unusedVariables false
set_option linter.unusedSimpArgs false
namespace Go.Proofs.Try
open Go Go.Ab
namespace R
set_option maxRecDepth 100000
theorem e17 : isTrue (callG tab 10000 100 6 [.i .u8 (.ofNat 17)] (heap0 0)) = true := by kernel_rfl
theorem e18 : isTrue (callG tab 10000 100 6 [.i .u8 (.ofNat 18)] (heap0 0)) = true := by kernel_rfl
theorem e19 : isTrue (callG tab 10000 100 6 [.i .u8 (.ofNat 19)] (heap0 0)) = true := by kernel_rfl
theorem e20 : isTrue (callG tab 10000 100 6 [.i .u8 (.ofNat 20)] (heap0 0)) = true := by kernel_rfl
theorem e21 : isTrue (callG tab 10000 100 6 [.i .u8 (.ofNat 21)] (heap0 0)) = true := by kernel_rfl
end R
end Go.Proofs.Try
