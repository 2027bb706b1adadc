/-
  An abstract interpreter of the model's code, part 31: tables as trees; laws of numbers. Conditions: none.
-/
import Derived.Test.YtednpcncjiaahaaRs5
set_option linter.unusedVariables false
set_option linter.unusedSimpArgs false
namespace Go.Ab
open Go
noncomputable def mkT {α : Type} (l : List (Nat × α)) : PT α := List.rec (motive := fun _ => PT α) .e (fun p _ ih => (path p.1).set p.2 ih) l
theorem mkT_mem {α : Type} : ∀ {l : List (Nat × α)} {f : Nat} {F : α}, (path f).get (mkT l) = some F → (f, F) ∈ l
  | [], f, F, h => by
    have h : (PT.e : PT α).get f = some F := h
    rw [PT.get_e] at h; cases h
  | p :: l, f, F, h => by
    have h : ((mkT l).set p.1 p.2).get f = some F := h
    rw [PT.get_set] at h
    by_cases hp : p.1 = f
    · rw [if_pos hp] at h
      have h' := Option.some.inj h
      have : p = (f, F) := by rw [← hp, ← h']
      rw [this]
      exact List.mem_cons_self
    · rw [if_neg hp] at h
      exact List.mem_cons_of_mem _ (mkT_mem h)
theorem callOk_ret {P : Program} {ng : Nat} {cf : CallF} (hc : CallOk P ng cf) {f : FuncId} {args : List V} {h h' : Heap} {v : V} (e : cf f args h = .val v h') {φ : Map} {w : World} {args' : Array Value} (hg : Glob ng φ) (hr : HR φ h.get w)
    (ha : RVs φ args args'.toList) (hf : Fresh φ h.next (h'.next + 1)) {R : Ending → World → Prop} (hR : ∀ v' w' φ' l, RV φ' v v' → Ext h h' l → Post φ h.get h h' l φ' w w' → R (.returned v') w') : Calls P f args' w R := by
  have := hc f args h φ w args' hg hr ha
  rw [e] at this
  exact (this hf R hR).2
/-- A LAW OF NUMBERS -/
theorem law_num {P : Program} {ng : Nat} {cf : CallF} (hc : CallOk P ng cf) {f : FuncId} {args : List V} {h' : Heap} (e : cf f args (heap0 ng) = .val (.b true) h') (w : World) {args' : Array Value}
    (ha : RVs (phi0 ng) args args'.toList) : Calls P f args' w fun e w' => e = .returned (.bool true) ∧ Go.RowKit.Below w.heap.size w w' :=
  callOk_ret hc e (glob0 ng) (hr0 ng w) ha (fun x h1 _ => by
    have h1 : ng ≤ x := h1
    simp [phi0, Nat.not_lt.2 h1]) fun v' w' φ' l hv _ hp => by
    cases hv
    exact ⟨rfl, hp.below fun x B hB => by rw [heap0_get] at hB; cases hB⟩
end Go.Ab
