/-
  'footmanlaw13.NamesForms': for every input the law returns true, and the input reads as it did. Conditions: none.
-/
import Derived.Test.YtfpcbdihdgolbaaNF1
import Derived.Test.YtfpcbdihdgolbaaNFe0
import Derived.Test.YtfpcbdihdgolbaaNFe1
import Derived.Test.YtfpcbdihdgolbaaNFe2
import Derived.Test.YtfpcbdihdgolbaaNFe3
import Derived.Test.YtfpcbdihdgolbaaRows
import Derived.OpenShut
set_option linter.unusedVariables false
set_option linter.unusedSimpArgs false
namespace Go.Proofs.Ytfpcbdihdgolbaa.namesForms
open Go.ChangeShapes Go.WideShapes Go.ChangeAt Go.RowKit Go.Ab
theorem own : ownKnob Try.prog.godebug = none := by kernel_rfl
theorem laid : laidOutB Try.prog = true := by kernel_rfl
theorem follows : Try.prog.follows .mixedOrders = true := by kernel_rfl
theorem each (r : Nat) (h : r < 22) : isTrue (callG Try.R.tab 10000 100 6 [.i .u8 (r : Int)] (heap0 0)) = true := by
  have : r = 0 ∨ r = 1 ∨ r = 2 ∨ r = 3 ∨ r = 4 ∨ r = 5 ∨ r = 6 ∨ r = 7 ∨ r = 8 ∨ r = 9 ∨ r = 10 ∨ r = 11 ∨ r = 12 ∨ r = 13 ∨ r = 14 ∨ r = 15 ∨ r = 16 ∨ r = 17 ∨ r = 18 ∨ r = 19 ∨ r = 20 ∨ r = 21 := by omega
  rcases this with rfl | rfl | rfl | rfl | rfl | rfl | rfl | rfl | rfl | rfl | rfl | rfl | rfl | rfl | rfl | rfl | rfl | rfl | rfl | rfl | rfl | rfl
  · exact Try.R.e0
  · exact Try.R.e1
  · exact Try.R.e2
  · exact Try.R.e3
  · exact Try.R.e4
  · exact Try.R.e5
  · exact Try.R.e6
  · exact Try.R.e7
  · exact Try.R.e8
  · exact Try.R.e9
  · exact Try.R.e10
  · exact Try.R.e11
  · exact Try.R.e12
  · exact Try.R.e13
  · exact Try.R.e14
  · exact Try.R.e15
  · exact Try.R.e16
  · exact Try.R.e17
  · exact Try.R.e18
  · exact Try.R.e19
  · exact Try.R.e20
  · exact Try.R.e21
theorem step (n : Nat) (h : Heap) : callG Try.R.tab 10000 100 6 [.i .u8 (n : Int)] h = outOf (Try.R.F6 (callG Try.R.tab 10000 99) 10000 (.i .u8 (n : Int)) h) := by
  rw [callG_succ]
  have e : Try.R.tab 6 = some (wrapF 1 Try.R.F6) := by kernel_rfl
  rw [e]
  rfl
theorem all (n : Nat) (hn : n < 256) : isTrue (callG Try.R.tab 10000 100 6 [.i .u8 (n : Int)] (heap0 0)) = true := by
  have h := each (n % 22) (Nat.mod_lt _ (by decide))
  rw [step] at h ⊢
  rw [Try.R.nf_mod _ _ n (n % 22) hn (by omega) (by omega)]
  exact h
theorem walk (a0 : Int) (w0 : (Lit.int .u8 a0).wf = true) (w : World) : Calls Try.prog 6 #[.int .u8 a0] w fun e w' => e = .returned (.bool true) ∧ Below w.heap.size w w' := by
  obtain ⟨n, rfl⟩ : ∃ n : Nat, a0 = n := ⟨a0.toNat, by simp [Lit.wf, IntKind.min, IntKind.signed] at w0; omega⟩
  have hn : n < 256 := by simp [Lit.wf, IntKind.max, IntKind.signed, IntKind.bits] at w0; omega
  obtain ⟨h', e⟩ := isTrue_spec (all n hn)
  exact law_num (callG_ok follows Try.R.tab_ok 10000 100).1 e w (RVs.cons (.i _ _) (RVs.nil _))
set_option maxRecDepth 100000 in
theorem lifted (os : Os) (started : os.Started) (H : Type) (enc : TypeId × Value → H) :
    ReturnsInHanded {} Try.checked os 6 .any (Rows.namesFormsSpec.pre6 enc Try.prog Try.f6 Rows.namesFormsRow.domain false) (Rows.namesFormsSpec.post enc Try.prog Try.f6 false true false false) := by
  refine returnsInHanded_of_change (C := Try.checked) own started (by kernel_rfl) Try.func6
    (ChangeSpec.witness6 (enc := enc) (C := Try.checked) false ⟨#[], #[.int .u8 0], []⟩ 8 (by kernel_rfl) (by kernel_rfl) (by kernel_rfl) (by kernel_rfl)) ?_
  intro W base args ds gs before hval0 hW hcnd _
  have hval : ∀ (j : Nat) t v, Try.f6.params[j]? = some t → args[j]? = some v → Value.okWide Try.prog W .any base t v := hval0
  have hW' := hW
  obtain ⟨p, q, hA0, hV, rfl, hfz, hnd⟩ := hW
  have hA : DataW.TrodAll enc Try.prog W 0 (fun _ => true) true Try.f6.params.toList args.toList ds p := hA0
  rw [Try.params6] at hA hval
  obtain ⟨v0, vs0, d0, ds0, p0, q0, hargs, rfl, rfl, h0, r0⟩ := trodAll_cons hA
  obtain ⟨rfl, rfl, rfl⟩ := trodAll_nil r0
  obtain rfl : args = #[v0] := by cases args; simp_all
  obtain ⟨rfl, rfl⟩ := trodVars_none hV
  obtain ⟨a0, rfl, rfl, rfl, w0⟩ := open_int Try.underlying5 (hval 0 5 v0 rfl rfl) h0
  clear hA0 hval0
  refine (walk a0 w0 W).mono fun e W' ⟨he, hb⟩ => ?_
  exact ⟨_, he, law_post laid hW' hb rfl (by kernel_rfl) Try.underlying4 (by kernel_rfl) rfl⟩
theorem over : Rows.namesFormsRow.holds Try.pinned (OpenSpec.ofChange Rows.namesFormsSpec) :=
  OpenClaim.holds_of_wide 6 Try.f6 rfl rfl rfl rfl rfl rfl rfl ⟨rfl, rfl, rfl, rfl, rfl⟩ rfl rfl rfl rfl rfl (by kernel_rfl) Try.func6 (by kernel_rfl)
    (of_decide_eq_true (by kernel_rfl)) (by unfold Func.isWrapper; first | (rw [if_pos (by decide +kernel)]; kernel_rfl) | (rw [if_neg (by decide +kernel)]; exact ⟨rfl, rfl⟩))
    (fun os started H enc _ => lifted os started H enc)
theorem proved : Rows.NamesFormsSaid := over
end Go.Proofs.Ytfpcbdihdgolbaa.namesForms
