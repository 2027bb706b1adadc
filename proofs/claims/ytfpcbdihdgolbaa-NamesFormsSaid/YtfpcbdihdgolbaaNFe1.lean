/-
  Values of the law, worked out. Conditions: none.
-/
import Derived.Test.YtfpcbdihdgolbaaGN
set_option linter.unusedVariables false
set_option linter.unusedSimpArgs false
namespace Go.Proofs.Try
open Go Go.Ab
namespace R
set_option maxRecDepth 100000
theorem e6 : isTrue (callG tab 10000 100 6 [.i .u8 (.ofNat 6)] (heap0 0)) = true := by kernel_rfl
theorem e7 : isTrue (callG tab 10000 100 6 [.i .u8 (.ofNat 7)] (heap0 0)) = true := by kernel_rfl
theorem e8 : isTrue (callG tab 10000 100 6 [.i .u8 (.ofNat 8)] (heap0 0)) = true := by kernel_rfl
theorem e9 : isTrue (callG tab 10000 100 6 [.i .u8 (.ofNat 9)] (heap0 0)) = true := by kernel_rfl
theorem e10 : isTrue (callG tab 10000 100 6 [.i .u8 (.ofNat 10)] (heap0 0)) = true := by kernel_rfl
theorem e11 : isTrue (callG tab 10000 100 6 [.i .u8 (.ofNat 11)] (heap0 0)) = true := by kernel_rfl
end R
end Go.Proofs.Try
