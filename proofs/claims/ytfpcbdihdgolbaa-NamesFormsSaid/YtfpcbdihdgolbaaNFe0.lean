/-
  Values of the law, worked out. Conditions: none.
-/
import Derived.Test.YtfpcbdihdgolbaaGN
set_option linter.unusedVariables false
set_option linter.unusedSimpArgs false
namespace Go.Proofs.Try
open Go Go.Ab
namespace R
set_option maxRecDepth 100000
theorem e0 : isTrue (callG tab 10000 100 6 [.i .u8 (.ofNat 0)] (heap0 0)) = true := by kernel_rfl
theorem e1 : isTrue (callG tab 10000 100 6 [.i .u8 (.ofNat 1)] (heap0 0)) = true := by kernel_rfl
theorem e2 : isTrue (callG tab 10000 100 6 [.i .u8 (.ofNat 2)] (heap0 0)) = true := by kernel_rfl
theorem e3 : isTrue (callG tab 10000 100 6 [.i .u8 (.ofNat 3)] (heap0 0)) = true := by kernel_rfl
theorem e4 : isTrue (callG tab 10000 100 6 [.i .u8 (.ofNat 4)] (heap0 0)) = true := by kernel_rfl
theorem e5 : isTrue (callG tab 10000 100 6 [.i .u8 (.ofNat 5)] (heap0 0)) = true := by kernel_rfl
end R
end Go.Proofs.Try
