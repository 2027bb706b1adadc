/-
  'footmanlaw4.GuardBack': for every input the law returns true, and the input reads as it did. Conditions: none.
-/
import Derived.Test.YtednpcncjiaahaaP8
import Derived.Test.YtednpcncjiaahaaRow3
import Derived.Test.YtednpcncjiaahaaRows
import Derived.OpenShut
set_option linter.unusedVariables false
set_option linter.unusedSimpArgs false
namespace Go.Proofs.Try
open Go Go.Ab
namespace R
theorem open_u32 {h : Heap} : ∀ {n : Nat} {r : List V}, Ty prog h n 28 r → ∃ k : Nat, k < 4294967296 ∧ r = [.i .u32 (k : Int)]
  | 0, r, t => by simp [Ty] at t
  | n + 1, r, t => by
    unfold Ty at t
    simp only [underlying28] at t
    obtain ⟨m, rfl, w⟩ := t
    obtain ⟨k, rfl, h⟩ := wf_nat rfl w
    exact ⟨k, h, rfl⟩
theorem open_u32s {h : Heap} {n : Nat} {rows : List (List V)} (hr : ∀ r ∈ rows, Ty prog h n 28 r) : ∃ l : List Nat, (∀ k ∈ l, k < 4294967296) ∧ rows = l.map fun (k : Nat) => [.i .u32 (k : Int)] := by
  induction rows with
  | nil => exact ⟨[], by simp, rfl⟩
  | cons r rows ih =>
    obtain ⟨l, h1, rfl⟩ := ih fun r hr' => hr r (List.mem_cons_of_mem _ hr')
    obtain ⟨k, h2, rfl⟩ := open_u32 (hr r (List.mem_cons_self ..))
    exact ⟨k :: l, fun q hq => by rcases List.mem_cons.1 hq with rfl | hq; exact h2; exact h1 q hq, rfl⟩
end R
end Go.Proofs.Try
namespace Go.Proofs.Ytednpcncjiaahaa.guardBack
open Go.ChangeShapes Go.WideShapes Go.ChangeAt Go.RowKit Go.Ab
theorem own : ownKnob Try.prog.godebug = none := by kernel_rfl
theorem laid : laidOutB Try.prog = true := by kernel_rfl
theorem follows : Try.prog.follows .mixedOrders = true := by kernel_rfl
theorem walk {W : World} {v0 : Value} {r0 : List (List V)} {n0 : Nat} (s0 : SlAt (heapW W) (absV W v0) (Try.prog.cellsOf 28) r0) (t0 : ∀ r ∈ r0, Ty Try.prog (heapW W) n0 28 r) :
    Calls Try.prog 11 #[v0] W fun e w' => e = .returned (.bool true) ∧ Below W.heap.size W w' := by
  rw [show Try.prog.cellsOf 28 = 1 by kernel_rfl] at s0
  obtain ⟨a, ha, rfl⟩ := Try.R.open_u32s t0
  obtain ⟨v, h', _, e, rfl⟩ := Try.R.back_ok 96 ha s0
  exact law_any (callG_ok follows Try.R.tab_ok 10000 100).1 (Nat.zero_le _) e
set_option maxRecDepth 100000 in
theorem lifted (os : Os) (started : os.Started) (H : Type) (enc : TypeId × Value → H) :
    ReturnsInHanded {} Try.checked os 11 .any (Rows.guardBackSpec.pre6 enc Try.prog Try.f11 Rows.guardBackRow.domain false) (Rows.guardBackSpec.post enc Try.prog Try.f11 false true false false) := by
  refine returnsInHanded_of_change (C := Try.checked) own started (by kernel_rfl) Try.func11
    (ChangeSpec.witness6 (enc := enc) (C := Try.checked) false ⟨#[], #[.slice none 0 0], []⟩ 8 (by kernel_rfl) (by kernel_rfl) (by kernel_rfl) (by kernel_rfl)) ?_
  intro W base args ds gs before hval0 hW hcnd _
  have hval : ∀ (j : Nat) t v, Try.f11.params[j]? = some t → args[j]? = some v → Value.okWide Try.prog W .any base t v := hval0
  have hW' := hW
  obtain ⟨p, q, hA0, hV, rfl, hfz, hnd⟩ := hW
  have hA : DataW.TrodAll enc Try.prog W 0 (fun _ => true) true Try.f11.params.toList args.toList ds p := hA0
  rw [Try.params11] at hA hval
  obtain ⟨v0, vs0, d0, ds0, p0, q0, hargs, rfl, rfl, h0, r0⟩ := trodAll_cons hA
  obtain ⟨rfl, rfl, rfl⟩ := trodAll_nil r0
  obtain ⟨rfl, rfl⟩ := trodVars_none hV
  obtain rfl : args = #[v0] := by cases args; simp_all
  obtain ⟨rows0, n0, s0, m0, t0⟩ := open_sl Try.underlying54 (by decide +kernel) (hval 0 54 v0 rfl rfl) h0
  clear hA0 hval0
  refine (walk s0 t0).mono fun e W' ⟨he, hb⟩ => ?_
  exact ⟨_, he, law_post laid hW' hb rfl (by kernel_rfl) Try.underlying4 (by kernel_rfl) rfl⟩
theorem over : Rows.guardBackRow.holds Try.pinned (OpenSpec.ofChange Rows.guardBackSpec) :=
  OpenClaim.holds_of_wide 11 Try.f11 rfl rfl rfl rfl rfl rfl rfl ⟨rfl, rfl, rfl, rfl, rfl⟩ rfl rfl rfl rfl rfl (by kernel_rfl) Try.func11 (by kernel_rfl)
    (of_decide_eq_true (by kernel_rfl)) (by unfold Func.isWrapper; first | (rw [if_pos (by decide +kernel)]; kernel_rfl) | (rw [if_neg (by decide +kernel)]; exact ⟨rfl, rfl⟩))
    (fun os started H enc _ => lifted os started H enc)
theorem proved : Rows.GuardBackSaid := over
end Go.Proofs.Ytednpcncjiaahaa.guardBack
