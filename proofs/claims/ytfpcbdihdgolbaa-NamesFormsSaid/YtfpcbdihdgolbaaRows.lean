/-
  No cell of these rows narrows 'for every input' (looked for: loops, veiled, ifaces, maps, wideKeys, modest, calm, conditions, laid).
  DERIVED. THE GIVEN ROWS OF THIS SEAT. 5 by the template 'for every input the law returns true; each argument reads behind the call as it read before'; 0 by the template 'total and deterministic' (their statements: YtfpcbdihdgolbaaTotals.lean).
  GIVEN WITH THE SEED: the statements are not yours to turn. If you find one false, say at which input.
  Laid BY PROGRAM, IN A SANDBOX (cutbox-rows.mjs): the forced cells as the released guide's own fill.sh prints them over the translation 33683befd815f4f9… (all of the seat's roots in one cut). By AI agents, Wed Nov 11 2026. No macro, syntax, notation, axiom, sorry.
-/
import Derived.Test.YtfpcbdihdgolbaaChecked
import GoSem.Claim
import GoSem.ClaimJoined
import GoSem.ClaimMapViews
import Derived.JoinedTies
import Derived.KernelRfl
namespace Go.Proofs.Ytfpcbdihdgolbaa
/- THE CELL 'sum', in the pinned program and in every row, IS THE sha256 OF THE DUMP (.gsa) THAT YtfpcbdihdgolbaaProg.lean LOADS. Nothing in Lean hashes anything: it is a label: what it is worth is what the hold of that sum in a sandbox is worth. -/
noncomputable def Try.pinned : Pinned := { name := "ytfpcbdihdgolbaa", sum := "33683befd815f4f976259f67ff4c3866d6955c30766c73bdd6546c76099dc37e", checked := Try.checked }
namespace Rows
def none {H : Type} : Left H := { results := [], args := [] }

/-- 'footmanlaw14.FlowRight': WHATEVER THE INPUT: true; the input reads as it did. -/
def flowRightSpec : ChangeSpec := { name := "flowRight", fn := fun _ => fun
  | [d1, d2, d3] => { results := [.lit (.bool true)], args := [d1, d2, d3] }
  | _ => none }
def flowRightRow : OpenClaim := { program := "ytfpcbdihdgolbaa", sum := "33683befd815f4f976259f67ff4c3866d6955c30766c73bdd6546c76099dc37e", func := "footman/footmanlaw14.FlowRight", spec := "flowRight", unfollowed := true, recurses := true, plainKeys := false, apart := false }
def FlowRightSaid : Prop := flowRightRow.holds Try.pinned (OpenSpec.ofChange flowRightSpec)

/-- ITS FALSE NEIGHBOUR: 'it returns false'. Refute it at one input. -/
def flowRightWrong : ChangeSpec := { name := "flowRight", fn := fun _ => fun
  | [d1, d2, d3] => { results := [.lit (.bool false)], args := [d1, d2, d3] }
  | _ => none }
def FlowRightWrongFalsely : Prop := flowRightRow.holds Try.pinned (OpenSpec.ofChange flowRightWrong)

/-- 'footmanlaw14.FlowForms': WHATEVER THE INPUT: true; the input reads as it did. -/
def flowFormsSpec : ChangeSpec := { name := "flowForms", fn := fun _ => fun
  | [d] => { results := [.lit (.bool true)], args := [d] }
  | _ => none }
def flowFormsRow : OpenClaim := { program := "ytfpcbdihdgolbaa", sum := "33683befd815f4f976259f67ff4c3866d6955c30766c73bdd6546c76099dc37e", func := "footman/footmanlaw14.FlowForms", spec := "flowForms", unfollowed := true, recurses := true, plainKeys := false, apart := false }
def FlowFormsSaid : Prop := flowFormsRow.holds Try.pinned (OpenSpec.ofChange flowFormsSpec)

/-- ITS FALSE NEIGHBOUR: 'it returns false'. Refute it at one input. -/
def flowFormsWrong : ChangeSpec := { name := "flowForms", fn := fun _ => fun
  | [d] => { results := [.lit (.bool false)], args := [d] }
  | _ => none }
def FlowFormsWrongFalsely : Prop := flowFormsRow.holds Try.pinned (OpenSpec.ofChange flowFormsWrong)

/-- 'footmanlaw13.NamesRight': WHATEVER THE INPUT: true; the input reads as it did. -/
def namesRightSpec : ChangeSpec := { name := "namesRight", fn := fun _ => fun
  | [d1, d2] => { results := [.lit (.bool true)], args := [d1, d2] }
  | _ => none }
def namesRightRow : OpenClaim := { program := "ytfpcbdihdgolbaa", sum := "33683befd815f4f976259f67ff4c3866d6955c30766c73bdd6546c76099dc37e", func := "footman/footmanlaw13.NamesRight", spec := "namesRight", unfollowed := true, recurses := true, plainKeys := false, apart := false }
def NamesRightSaid : Prop := namesRightRow.holds Try.pinned (OpenSpec.ofChange namesRightSpec)

/-- ITS FALSE NEIGHBOUR: 'it returns false'. Refute it at one input. -/
def namesRightWrong : ChangeSpec := { name := "namesRight", fn := fun _ => fun
  | [d1, d2] => { results := [.lit (.bool false)], args := [d1, d2] }
  | _ => none }
def NamesRightWrongFalsely : Prop := namesRightRow.holds Try.pinned (OpenSpec.ofChange namesRightWrong)

/-- 'footmanlaw13.NamesForms': WHATEVER THE INPUT: true; the input reads as it did. -/
def namesFormsSpec : ChangeSpec := { name := "namesForms", fn := fun _ => fun
  | [d] => { results := [.lit (.bool true)], args := [d] }
  | _ => none }
def namesFormsRow : OpenClaim := { program := "ytfpcbdihdgolbaa", sum := "33683befd815f4f976259f67ff4c3866d6955c30766c73bdd6546c76099dc37e", func := "footman/footmanlaw13.NamesForms", spec := "namesForms", unfollowed := true, recurses := true, plainKeys := false, apart := false }
def NamesFormsSaid : Prop := namesFormsRow.holds Try.pinned (OpenSpec.ofChange namesFormsSpec)

/-- ITS FALSE NEIGHBOUR: 'it returns false'. Refute it at one input. -/
def namesFormsWrong : ChangeSpec := { name := "namesForms", fn := fun _ => fun
  | [d] => { results := [.lit (.bool false)], args := [d] }
  | _ => none }
def NamesFormsWrongFalsely : Prop := namesFormsRow.holds Try.pinned (OpenSpec.ofChange namesFormsWrong)

/-- 'footmanlaw13.NamesFirst': WHATEVER THE INPUT: true; the input reads as it did. -/
def namesFirstSpec : ChangeSpec := { name := "namesFirst", fn := fun _ => fun
  | [d1, d2, d3] => { results := [.lit (.bool true)], args := [d1, d2, d3] }
  | _ => none }
def namesFirstRow : OpenClaim := { program := "ytfpcbdihdgolbaa", sum := "33683befd815f4f976259f67ff4c3866d6955c30766c73bdd6546c76099dc37e", func := "footman/footmanlaw13.NamesFirst", spec := "namesFirst", unfollowed := true, recurses := true, plainKeys := false, apart := false }
def NamesFirstSaid : Prop := namesFirstRow.holds Try.pinned (OpenSpec.ofChange namesFirstSpec)

/-- ITS FALSE NEIGHBOUR: 'it returns false'. Refute it at one input. -/
def namesFirstWrong : ChangeSpec := { name := "namesFirst", fn := fun _ => fun
  | [d1, d2, d3] => { results := [.lit (.bool false)], args := [d1, d2, d3] }
  | _ => none }
def NamesFirstWrongFalsely : Prop := namesFirstRow.holds Try.pinned (OpenSpec.ofChange namesFirstWrong)

/- THE SECOND FORM. 'bulk': how many values and letters a reading holds, each counted each time it is reached (what is shared counts as often as it is met; a slice's spare places count too). A statement '..UptoSaid' is the law's where the arguments, and the package variables that the reading takes, are together of bulk at most 1048576: NARROWER than '..Said'. Prove '..Said' where nothing that the law and all that it calls make is longer than what came in: it says more and counts as full. Else prove '..UptoSaid'. A law counts once. -/
mutual
def uptoBulk {H : Type} : DataW H → Nat
  | .lit (.string bytes) => bytes.length + 1
  | .lit _ => 1
  | .nil => 1
  | .ptr d => uptoBulk d + 1
  | .slice elems spare => uptoBulkAll elems + uptoBulkAll spare + 1
  | .agg parts => uptoBulkAll parts + 1
  | .iface _ d => uptoBulk d + 1
  | .map entries => uptoBulkEntries entries + 1
  | .held _ => 1
def uptoBulkAll {H : Type} : List (DataW H) → Nat
  | [] => 0
  | d :: r => uptoBulk d + uptoBulkAll r
def uptoBulkEntries {H : Type} : List (Lit × DataW H) → Nat
  | [] => 0
  | x :: r => uptoBulkEntry x + uptoBulkEntries r
def uptoBulkEntry {H : Type} : Lit × DataW H → Nat
  | (.string bytes, d) => bytes.length + uptoBulk d + 1
  | (_, d) => uptoBulk d + 1
 end
def uptoSmall : (H : Type) → List (DataW H) → Bool := fun _ ds => decide (uptoBulkAll ds ≤ 1048576)
def OpenSpec.upto (s : _root_.Go.ChangeSpec) : _root_.Go.OpenSpec := { _root_.Go.OpenSpec.ofChange s with cond := some uptoSmall }

/-- 'footmanlaw14.FlowRight', WHERE WHAT IT READS IS OF BULK AT MOST 1048576: true; the input reads as it did. -/
def flowRightUptoRow : OpenClaim := { program := "ytfpcbdihdgolbaa", sum := "33683befd815f4f976259f67ff4c3866d6955c30766c73bdd6546c76099dc37e", func := "footman/footmanlaw14.FlowRight", spec := "flowRight", unfollowed := true, recurses := true, plainKeys := false, apart := false, narrowed := true }
def FlowRightUptoSaid : Prop := flowRightUptoRow.holds Try.pinned (OpenSpec.upto flowRightSpec)

/-- 'footmanlaw14.FlowForms', WHERE WHAT IT READS IS OF BULK AT MOST 1048576: true; the input reads as it did. -/
def flowFormsUptoRow : OpenClaim := { program := "ytfpcbdihdgolbaa", sum := "33683befd815f4f976259f67ff4c3866d6955c30766c73bdd6546c76099dc37e", func := "footman/footmanlaw14.FlowForms", spec := "flowForms", unfollowed := true, recurses := true, plainKeys := false, apart := false, narrowed := true }
def FlowFormsUptoSaid : Prop := flowFormsUptoRow.holds Try.pinned (OpenSpec.upto flowFormsSpec)

/-- 'footmanlaw13.NamesRight', WHERE WHAT IT READS IS OF BULK AT MOST 1048576: true; the input reads as it did. -/
def namesRightUptoRow : OpenClaim := { program := "ytfpcbdihdgolbaa", sum := "33683befd815f4f976259f67ff4c3866d6955c30766c73bdd6546c76099dc37e", func := "footman/footmanlaw13.NamesRight", spec := "namesRight", unfollowed := true, recurses := true, plainKeys := false, apart := false, narrowed := true }
def NamesRightUptoSaid : Prop := namesRightUptoRow.holds Try.pinned (OpenSpec.upto namesRightSpec)

/-- 'footmanlaw13.NamesForms', WHERE WHAT IT READS IS OF BULK AT MOST 1048576: true; the input reads as it did. -/
def namesFormsUptoRow : OpenClaim := { program := "ytfpcbdihdgolbaa", sum := "33683befd815f4f976259f67ff4c3866d6955c30766c73bdd6546c76099dc37e", func := "footman/footmanlaw13.NamesForms", spec := "namesForms", unfollowed := true, recurses := true, plainKeys := false, apart := false, narrowed := true }
def NamesFormsUptoSaid : Prop := namesFormsUptoRow.holds Try.pinned (OpenSpec.upto namesFormsSpec)

/-- 'footmanlaw13.NamesFirst', WHERE WHAT IT READS IS OF BULK AT MOST 1048576: true; the input reads as it did. -/
def namesFirstUptoRow : OpenClaim := { program := "ytfpcbdihdgolbaa", sum := "33683befd815f4f976259f67ff4c3866d6955c30766c73bdd6546c76099dc37e", func := "footman/footmanlaw13.NamesFirst", spec := "namesFirst", unfollowed := true, recurses := true, plainKeys := false, apart := false, narrowed := true }
def NamesFirstUptoSaid : Prop := namesFirstUptoRow.holds Try.pinned (OpenSpec.upto namesFirstSpec)

end Rows
end Go.Proofs.Ytfpcbdihdgolbaa
