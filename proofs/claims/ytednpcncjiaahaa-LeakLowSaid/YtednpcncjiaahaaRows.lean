/-
  No cell of these rows narrows 'for every input' (looked for: loops, veiled, ifaces, maps, wideKeys, modest, calm, conditions, laid).
  DERIVED. THE GIVEN ROWS OF THIS SEAT. 9 by the template 'for every input the law returns true; each argument reads behind the call as it read before'; 0 by the template 'total and deterministic' (their statements: YtednpcncjiaahaaTotals.lean).
  GIVEN WITH THE SEED: the statements are not yours to turn. If you find one false, say at which input.
  Laid BY PROGRAM, IN A SANDBOX (cutbox-rows.mjs): the forced cells as the released guide's own fill.sh prints them over the translation 1931c210b702f92e… (all of the seat's roots in one cut). By AI agents, Wed Nov 11 2026. No macro, syntax, notation, axiom, sorry.
-/
import Derived.Test.YtednpcncjiaahaaChecked
import GoSem.Claim
import GoSem.ClaimJoined
import GoSem.ClaimMapViews
import Derived.JoinedTies
import Derived.KernelRfl
namespace Go.Proofs.Ytednpcncjiaahaa
/- THE CELL 'sum', in the pinned program and in every row, IS THE sha256 OF THE DUMP (.gsa) THAT YtednpcncjiaahaaProg.lean LOADS. Nothing in Lean hashes anything: it is a label: what it is worth is what the hold of that sum in a sandbox is worth. -/
noncomputable def Try.pinned : Pinned := { name := "ytednpcncjiaahaa", sum := "1931c210b702f92ef5fb5507310c34a682747e7db194ebee38da506030bc7662", checked := Try.checked }
namespace Rows
def none {H : Type} : Left H := { results := [], args := [] }

/-- 'footmanlaw25.LeakAll': WHATEVER THE INPUT: true; the input reads as it did. -/
def leakAllSpec : ChangeSpec := { name := "leakAll", fn := fun _ => fun
  | [d1, d2, d3, d4] => { results := [.lit (.bool true)], args := [d1, d2, d3, d4] }
  | _ => none }
def leakAllRow : OpenClaim := { program := "ytednpcncjiaahaa", sum := "1931c210b702f92ef5fb5507310c34a682747e7db194ebee38da506030bc7662", func := "footman/footmanlaw25.LeakAll", spec := "leakAll", plainKeys := false, apart := false }
def LeakAllSaid : Prop := leakAllRow.holds Try.pinned (OpenSpec.ofChange leakAllSpec)

/-- ITS FALSE NEIGHBOUR: 'it returns false'. Refute it at one input. -/
def leakAllWrong : ChangeSpec := { name := "leakAll", fn := fun _ => fun
  | [d1, d2, d3, d4] => { results := [.lit (.bool false)], args := [d1, d2, d3, d4] }
  | _ => none }
def LeakAllWrongFalsely : Prop := leakAllRow.holds Try.pinned (OpenSpec.ofChange leakAllWrong)

/-- 'footmanlaw25.LeakMade': WHATEVER THE INPUT: true; the input reads as it did. -/
def leakMadeSpec : ChangeSpec := { name := "leakMade", fn := fun _ => fun
  | [d1, d2, d3, d4] => { results := [.lit (.bool true)], args := [d1, d2, d3, d4] }
  | _ => none }
def leakMadeRow : OpenClaim := { program := "ytednpcncjiaahaa", sum := "1931c210b702f92ef5fb5507310c34a682747e7db194ebee38da506030bc7662", func := "footman/footmanlaw25.LeakMade", spec := "leakMade", plainKeys := false, apart := false }
def LeakMadeSaid : Prop := leakMadeRow.holds Try.pinned (OpenSpec.ofChange leakMadeSpec)

/-- ITS FALSE NEIGHBOUR: 'it returns false'. Refute it at one input. -/
def leakMadeWrong : ChangeSpec := { name := "leakMade", fn := fun _ => fun
  | [d1, d2, d3, d4] => { results := [.lit (.bool false)], args := [d1, d2, d3, d4] }
  | _ => none }
def LeakMadeWrongFalsely : Prop := leakMadeRow.holds Try.pinned (OpenSpec.ofChange leakMadeWrong)

/-- 'footmanlaw25.LeakPrefix': WHATEVER THE INPUT: true; the input reads as it did. -/
def leakPrefixSpec : ChangeSpec := { name := "leakPrefix", fn := fun _ => fun
  | [d1, d2, d3, d4] => { results := [.lit (.bool true)], args := [d1, d2, d3, d4] }
  | _ => none }
def leakPrefixRow : OpenClaim := { program := "ytednpcncjiaahaa", sum := "1931c210b702f92ef5fb5507310c34a682747e7db194ebee38da506030bc7662", func := "footman/footmanlaw25.LeakPrefix", spec := "leakPrefix", plainKeys := false, apart := false }
def LeakPrefixSaid : Prop := leakPrefixRow.holds Try.pinned (OpenSpec.ofChange leakPrefixSpec)

/-- ITS FALSE NEIGHBOUR: 'it returns false'. Refute it at one input. -/
def leakPrefixWrong : ChangeSpec := { name := "leakPrefix", fn := fun _ => fun
  | [d1, d2, d3, d4] => { results := [.lit (.bool false)], args := [d1, d2, d3, d4] }
  | _ => none }
def LeakPrefixWrongFalsely : Prop := leakPrefixRow.holds Try.pinned (OpenSpec.ofChange leakPrefixWrong)

/-- 'footmanlaw4.GuardEdges': WHATEVER THE INPUT: true; the input reads as it did. -/
def guardEdgesSpec : ChangeSpec := { name := "guardEdges", fn := fun _ => fun
  | [d1, d2, d3, d4, d5, d6] => { results := [.lit (.bool true)], args := [d1, d2, d3, d4, d5, d6] }
  | _ => none }
def guardEdgesRow : OpenClaim := { program := "ytednpcncjiaahaa", sum := "1931c210b702f92ef5fb5507310c34a682747e7db194ebee38da506030bc7662", func := "footman/footmanlaw4.GuardEdges", spec := "guardEdges", plainKeys := false, apart := false }
def GuardEdgesSaid : Prop := guardEdgesRow.holds Try.pinned (OpenSpec.ofChange guardEdgesSpec)

/-- ITS FALSE NEIGHBOUR: 'it returns false'. Refute it at one input. -/
def guardEdgesWrong : ChangeSpec := { name := "guardEdges", fn := fun _ => fun
  | [d1, d2, d3, d4, d5, d6] => { results := [.lit (.bool false)], args := [d1, d2, d3, d4, d5, d6] }
  | _ => none }
def GuardEdgesWrongFalsely : Prop := guardEdgesRow.holds Try.pinned (OpenSpec.ofChange guardEdgesWrong)

/-- 'footmanlaw4.GuardMore': WHATEVER THE INPUT: true; the input reads as it did. -/
def guardMoreSpec : ChangeSpec := { name := "guardMore", fn := fun _ => fun
  | [d1, d2, d3, d4, d5] => { results := [.lit (.bool true)], args := [d1, d2, d3, d4, d5] }
  | _ => none }
def guardMoreRow : OpenClaim := { program := "ytednpcncjiaahaa", sum := "1931c210b702f92ef5fb5507310c34a682747e7db194ebee38da506030bc7662", func := "footman/footmanlaw4.GuardMore", spec := "guardMore", plainKeys := false, apart := false }
def GuardMoreSaid : Prop := guardMoreRow.holds Try.pinned (OpenSpec.ofChange guardMoreSpec)

/-- ITS FALSE NEIGHBOUR: 'it returns false'. Refute it at one input. -/
def guardMoreWrong : ChangeSpec := { name := "guardMore", fn := fun _ => fun
  | [d1, d2, d3, d4, d5] => { results := [.lit (.bool false)], args := [d1, d2, d3, d4, d5] }
  | _ => none }
def GuardMoreWrongFalsely : Prop := guardMoreRow.holds Try.pinned (OpenSpec.ofChange guardMoreWrong)

/-- 'footmanlaw25.LeakLow': WHATEVER THE INPUT: true; the input reads as it did. -/
def leakLowSpec : ChangeSpec := { name := "leakLow", fn := fun _ => fun
  | [d1, d2] => { results := [.lit (.bool true)], args := [d1, d2] }
  | _ => none }
def leakLowRow : OpenClaim := { program := "ytednpcncjiaahaa", sum := "1931c210b702f92ef5fb5507310c34a682747e7db194ebee38da506030bc7662", func := "footman/footmanlaw25.LeakLow", spec := "leakLow", unfollowed := true, recurses := true, plainKeys := false, apart := false }
def LeakLowSaid : Prop := leakLowRow.holds Try.pinned (OpenSpec.ofChange leakLowSpec)

/-- ITS FALSE NEIGHBOUR: 'it returns false'. Refute it at one input. -/
def leakLowWrong : ChangeSpec := { name := "leakLow", fn := fun _ => fun
  | [d1, d2] => { results := [.lit (.bool false)], args := [d1, d2] }
  | _ => none }
def LeakLowWrongFalsely : Prop := leakLowRow.holds Try.pinned (OpenSpec.ofChange leakLowWrong)

/-- 'footmanlaw25.LeakMadeLow': WHATEVER THE INPUT: true; the input reads as it did. -/
def leakMadeLowSpec : ChangeSpec := { name := "leakMadeLow", fn := fun _ => fun
  | [d1, d2] => { results := [.lit (.bool true)], args := [d1, d2] }
  | _ => none }
def leakMadeLowRow : OpenClaim := { program := "ytednpcncjiaahaa", sum := "1931c210b702f92ef5fb5507310c34a682747e7db194ebee38da506030bc7662", func := "footman/footmanlaw25.LeakMadeLow", spec := "leakMadeLow", unfollowed := true, recurses := true, plainKeys := false, apart := false }
def LeakMadeLowSaid : Prop := leakMadeLowRow.holds Try.pinned (OpenSpec.ofChange leakMadeLowSpec)

/-- ITS FALSE NEIGHBOUR: 'it returns false'. Refute it at one input. -/
def leakMadeLowWrong : ChangeSpec := { name := "leakMadeLow", fn := fun _ => fun
  | [d1, d2] => { results := [.lit (.bool false)], args := [d1, d2] }
  | _ => none }
def LeakMadeLowWrongFalsely : Prop := leakMadeLowRow.holds Try.pinned (OpenSpec.ofChange leakMadeLowWrong)

/-- 'footmanlaw4.GuardAll': WHATEVER THE INPUT: true; the input reads as it did. -/
def guardAllSpec : ChangeSpec := { name := "guardAll", fn := fun _ => fun
  | [d1, d2, d3, d4, d5] => { results := [.lit (.bool true)], args := [d1, d2, d3, d4, d5] }
  | _ => none }
def guardAllRow : OpenClaim := { program := "ytednpcncjiaahaa", sum := "1931c210b702f92ef5fb5507310c34a682747e7db194ebee38da506030bc7662", func := "footman/footmanlaw4.GuardAll", spec := "guardAll", plainKeys := false, apart := false }
def GuardAllSaid : Prop := guardAllRow.holds Try.pinned (OpenSpec.ofChange guardAllSpec)

/-- ITS FALSE NEIGHBOUR: 'it returns false'. Refute it at one input. -/
def guardAllWrong : ChangeSpec := { name := "guardAll", fn := fun _ => fun
  | [d1, d2, d3, d4, d5] => { results := [.lit (.bool false)], args := [d1, d2, d3, d4, d5] }
  | _ => none }
def GuardAllWrongFalsely : Prop := guardAllRow.holds Try.pinned (OpenSpec.ofChange guardAllWrong)

/-- 'footmanlaw4.GuardBack': WHATEVER THE INPUT: true; the input reads as it did. -/
def guardBackSpec : ChangeSpec := { name := "guardBack", fn := fun _ => fun
  | [d] => { results := [.lit (.bool true)], args := [d] }
  | _ => none }
def guardBackRow : OpenClaim := { program := "ytednpcncjiaahaa", sum := "1931c210b702f92ef5fb5507310c34a682747e7db194ebee38da506030bc7662", func := "footman/footmanlaw4.GuardBack", spec := "guardBack", plainKeys := false, apart := false }
def GuardBackSaid : Prop := guardBackRow.holds Try.pinned (OpenSpec.ofChange guardBackSpec)

/-- ITS FALSE NEIGHBOUR: 'it returns false'. Refute it at one input. -/
def guardBackWrong : ChangeSpec := { name := "guardBack", fn := fun _ => fun
  | [d] => { results := [.lit (.bool false)], args := [d] }
  | _ => none }
def GuardBackWrongFalsely : Prop := guardBackRow.holds Try.pinned (OpenSpec.ofChange guardBackWrong)

/- THE SECOND FORM. 'bulk': how many values and letters a reading holds, each counted each time it is reached (what is shared counts as often as it is met; a slice's spare places count too). A statement '..UptoSaid' is the law's where the arguments, and the package variables that the reading takes, are together of bulk at most 1048576: NARROWER than '..Said'. Prove '..Said' where nothing that the law and all that it calls make is longer than what came in: it says more and counts as full. Else prove '..UptoSaid'. A law counts once. -/
mutual
def uptoBulk {H : Type} : DataW H → Nat
  | .lit (.string bytes) => bytes.length + 1
  | .lit _ => 1
  | .nil => 1
  | .ptr d => uptoBulk d + 1
  | .slice elems spare => uptoBulkAll elems + uptoBulkAll spare + 1
  | .agg parts => uptoBulkAll parts + 1
  | .iface _ d => uptoBulk d + 1
  | .map entries => uptoBulkEntries entries + 1
  | .held _ => 1
def uptoBulkAll {H : Type} : List (DataW H) → Nat
  | [] => 0
  | d :: r => uptoBulk d + uptoBulkAll r
def uptoBulkEntries {H : Type} : List (Lit × DataW H) → Nat
  | [] => 0
  | x :: r => uptoBulkEntry x + uptoBulkEntries r
def uptoBulkEntry {H : Type} : Lit × DataW H → Nat
  | (.string bytes, d) => bytes.length + uptoBulk d + 1
  | (_, d) => uptoBulk d + 1
 end
def uptoSmall : (H : Type) → List (DataW H) → Bool := fun _ ds => decide (uptoBulkAll ds ≤ 1048576)
def OpenSpec.upto (s : _root_.Go.ChangeSpec) : _root_.Go.OpenSpec := { _root_.Go.OpenSpec.ofChange s with cond := some uptoSmall }

/-- 'footmanlaw25.LeakAll', WHERE WHAT IT READS IS OF BULK AT MOST 1048576: true; the input reads as it did. -/
def leakAllUptoRow : OpenClaim := { program := "ytednpcncjiaahaa", sum := "1931c210b702f92ef5fb5507310c34a682747e7db194ebee38da506030bc7662", func := "footman/footmanlaw25.LeakAll", spec := "leakAll", plainKeys := false, apart := false, narrowed := true }
def LeakAllUptoSaid : Prop := leakAllUptoRow.holds Try.pinned (OpenSpec.upto leakAllSpec)

/-- 'footmanlaw25.LeakMade', WHERE WHAT IT READS IS OF BULK AT MOST 1048576: true; the input reads as it did. -/
def leakMadeUptoRow : OpenClaim := { program := "ytednpcncjiaahaa", sum := "1931c210b702f92ef5fb5507310c34a682747e7db194ebee38da506030bc7662", func := "footman/footmanlaw25.LeakMade", spec := "leakMade", plainKeys := false, apart := false, narrowed := true }
def LeakMadeUptoSaid : Prop := leakMadeUptoRow.holds Try.pinned (OpenSpec.upto leakMadeSpec)

/-- 'footmanlaw25.LeakPrefix', WHERE WHAT IT READS IS OF BULK AT MOST 1048576: true; the input reads as it did. -/
def leakPrefixUptoRow : OpenClaim := { program := "ytednpcncjiaahaa", sum := "1931c210b702f92ef5fb5507310c34a682747e7db194ebee38da506030bc7662", func := "footman/footmanlaw25.LeakPrefix", spec := "leakPrefix", plainKeys := false, apart := false, narrowed := true }
def LeakPrefixUptoSaid : Prop := leakPrefixUptoRow.holds Try.pinned (OpenSpec.upto leakPrefixSpec)

/-- 'footmanlaw4.GuardEdges', WHERE WHAT IT READS IS OF BULK AT MOST 1048576: true; the input reads as it did. -/
def guardEdgesUptoRow : OpenClaim := { program := "ytednpcncjiaahaa", sum := "1931c210b702f92ef5fb5507310c34a682747e7db194ebee38da506030bc7662", func := "footman/footmanlaw4.GuardEdges", spec := "guardEdges", plainKeys := false, apart := false, narrowed := true }
def GuardEdgesUptoSaid : Prop := guardEdgesUptoRow.holds Try.pinned (OpenSpec.upto guardEdgesSpec)

/-- 'footmanlaw4.GuardMore', WHERE WHAT IT READS IS OF BULK AT MOST 1048576: true; the input reads as it did. -/
def guardMoreUptoRow : OpenClaim := { program := "ytednpcncjiaahaa", sum := "1931c210b702f92ef5fb5507310c34a682747e7db194ebee38da506030bc7662", func := "footman/footmanlaw4.GuardMore", spec := "guardMore", plainKeys := false, apart := false, narrowed := true }
def GuardMoreUptoSaid : Prop := guardMoreUptoRow.holds Try.pinned (OpenSpec.upto guardMoreSpec)

/-- 'footmanlaw25.LeakLow', WHERE WHAT IT READS IS OF BULK AT MOST 1048576: true; the input reads as it did. -/
def leakLowUptoRow : OpenClaim := { program := "ytednpcncjiaahaa", sum := "1931c210b702f92ef5fb5507310c34a682747e7db194ebee38da506030bc7662", func := "footman/footmanlaw25.LeakLow", spec := "leakLow", unfollowed := true, recurses := true, plainKeys := false, apart := false, narrowed := true }
def LeakLowUptoSaid : Prop := leakLowUptoRow.holds Try.pinned (OpenSpec.upto leakLowSpec)

/-- 'footmanlaw25.LeakMadeLow', WHERE WHAT IT READS IS OF BULK AT MOST 1048576: true; the input reads as it did. -/
def leakMadeLowUptoRow : OpenClaim := { program := "ytednpcncjiaahaa", sum := "1931c210b702f92ef5fb5507310c34a682747e7db194ebee38da506030bc7662", func := "footman/footmanlaw25.LeakMadeLow", spec := "leakMadeLow", unfollowed := true, recurses := true, plainKeys := false, apart := false, narrowed := true }
def LeakMadeLowUptoSaid : Prop := leakMadeLowUptoRow.holds Try.pinned (OpenSpec.upto leakMadeLowSpec)

/-- 'footmanlaw4.GuardAll', WHERE WHAT IT READS IS OF BULK AT MOST 1048576: true; the input reads as it did. -/
def guardAllUptoRow : OpenClaim := { program := "ytednpcncjiaahaa", sum := "1931c210b702f92ef5fb5507310c34a682747e7db194ebee38da506030bc7662", func := "footman/footmanlaw4.GuardAll", spec := "guardAll", plainKeys := false, apart := false, narrowed := true }
def GuardAllUptoSaid : Prop := guardAllUptoRow.holds Try.pinned (OpenSpec.upto guardAllSpec)

/-- 'footmanlaw4.GuardBack', WHERE WHAT IT READS IS OF BULK AT MOST 1048576: true; the input reads as it did. -/
def guardBackUptoRow : OpenClaim := { program := "ytednpcncjiaahaa", sum := "1931c210b702f92ef5fb5507310c34a682747e7db194ebee38da506030bc7662", func := "footman/footmanlaw4.GuardBack", spec := "guardBack", plainKeys := false, apart := false, narrowed := true }
def GuardBackUptoSaid : Prop := guardBackUptoRow.holds Try.pinned (OpenSpec.upto guardBackSpec)

end Rows
end Go.Proofs.Ytednpcncjiaahaa
