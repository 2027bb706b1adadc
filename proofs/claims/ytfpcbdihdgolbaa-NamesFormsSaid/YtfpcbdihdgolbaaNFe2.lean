/-
  Values of the law, worked out. Conditions: none.
-/
import Derived.Test.YtfpcbdihdgolbaaGN
set_option linter.unusedVariables false
set_option linter.unusedSimpArgs false
namespace Go.Proofs.Try
open Go Go.Ab
namespace R
set_option maxRecDepth 100000
theorem e12 : isTrue (callG tab 10000 100 6 [.i .u8 (.ofNat 12)] (heap0 0)) = true := by kernel_rfl
theorem e13 : isTrue (callG tab 10000 100 6 [.i .u8 (.ofNat 13)] (heap0 0)) = true := by kernel_rfl
theorem e14 : isTrue (callG tab 10000 100 6 [.i .u8 (.ofNat 14)] (heap0 0)) = true := by kernel_rfl
theorem e15 : isTrue (callG tab 10000 100 6 [.i .u8 (.ofNat 15)] (heap0 0)) = true := by kernel_rfl
theorem e16 : isTrue (callG tab 10000 100 6 [.i .u8 (.ofNat 16)] (heap0 0)) = true := by kernel_rfl
end R
end Go.Proofs.Try
