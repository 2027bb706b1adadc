/-
  'footmanlaw25.LeakMade': for every input the law returns true, and the input reads as it did. Conditions: none.
-/
import Derived.Test.YtednpcncjiaahaaL3
import Derived.Test.YtednpcncjiaahaaL5
import Derived.Test.YtednpcncjiaahaaRows
import Derived.OpenShut
set_option linter.unusedVariables false
set_option linter.unusedSimpArgs false
namespace Go.Proofs.Ytednpcncjiaahaa.leakMade
open Go.ChangeShapes Go.WideShapes Go.ChangeAt Go.RowKit Go.Ab
theorem own : ownKnob Try.prog.godebug = none := by kernel_rfl
theorem laid : laidOutB Try.prog = true := by kernel_rfl
theorem follows : Try.prog.follows .mixedOrders = true := by kernel_rfl
theorem walk {W : World} {v0 : Value} {r0 : List (List V)} {n0 : Nat} (s0 : SlAt (heapW W) (absV W v0) (Try.prog.cellsOf 30) r0) (t0 : ∀ r ∈ r0, Ty Try.prog (heapW W) n0 30 r) (a1 : Int) (w1 : (Lit.int .u8 a1).wf = true) (a2 : Int) (w2 : (Lit.int .u32 a2).wf = true) (a3 : Int) (w3 : (Lit.int .u8 a3).wf = true) :
    Calls Try.prog 4 #[v0, .int .u8 a1, .int .u32 a2, .int .u8 a3] W fun e w' => e = .returned (.bool true) ∧ Below W.heap.size W w' := by
  rw [show Try.prog.cellsOf 30 = 3 by kernel_rfl] at s0
  obtain ⟨a, ha, rfl⟩ := Try.R.open_leaks t0
  obtain ⟨m1, rfl, h1⟩ := wf_nat rfl w1
  obtain ⟨m2, rfl, h2⟩ := wf_nat rfl w2
  obtain ⟨m3, rfl, h3⟩ := wf_nat rfl w3
  obtain ⟨v, h', _, e, rfl⟩ := Try.R.leakMade_ok 96 ha (which := m3) h1 h2 s0 (absV_lit W v0)
  exact law_any (callG_ok follows Try.R.tab_ok 10000 100).1 (Nat.zero_le _) e
set_option maxRecDepth 100000 in
theorem lifted (os : Os) (started : os.Started) (H : Type) (enc : TypeId × Value → H) :
    ReturnsInHanded {} Try.checked os 4 .any (Rows.leakMadeSpec.pre6 enc Try.prog Try.f4 Rows.leakMadeRow.domain false) (Rows.leakMadeSpec.post enc Try.prog Try.f4 false true false false) := by
  refine returnsInHanded_of_change (C := Try.checked) own started (by kernel_rfl) Try.func4
    (ChangeSpec.witness6 (enc := enc) (C := Try.checked) false ⟨#[], #[.slice none 0 0, .int .u8 0, .int .u32 0, .int .u8 0], []⟩ 8 (by kernel_rfl) (by kernel_rfl) (by kernel_rfl) (by kernel_rfl)) ?_
  intro W base args ds gs before hval0 hW hcnd _
  have hval : ∀ (j : Nat) t v, Try.f4.params[j]? = some t → args[j]? = some v → Value.okWide Try.prog W .any base t v := hval0
  have hW' := hW
  obtain ⟨p, q, hA0, hV, rfl, hfz, hnd⟩ := hW
  have hA : DataW.TrodAll enc Try.prog W 0 (fun _ => true) true Try.f4.params.toList args.toList ds p := hA0
  rw [Try.params4] at hA hval
  obtain ⟨v0, vs0, d0, ds0, p0, q0, hargs, rfl, rfl, h0, r0⟩ := trodAll_cons hA
  obtain ⟨v1, vs1, d1, ds1, p1, q1, rfl, rfl, rfl, h1, r1⟩ := trodAll_cons r0
  obtain ⟨v2, vs2, d2, ds2, p2, q2, rfl, rfl, rfl, h2, r2⟩ := trodAll_cons r1
  obtain ⟨v3, vs3, d3, ds3, p3, q3, rfl, rfl, rfl, h3, r3⟩ := trodAll_cons r2
  obtain ⟨rfl, rfl, rfl⟩ := trodAll_nil r3
  obtain ⟨rfl, rfl⟩ := trodVars_none hV
  obtain rfl : args = #[v0, v1, v2, v3] := by cases args; simp_all
  obtain ⟨rows0, n0, s0, m0, t0⟩ := open_sl Try.underlying22 (by decide +kernel) (hval 0 22 v0 rfl rfl) h0
  obtain ⟨a1, rfl, rfl, rfl, w1⟩ := open_int Try.underlying5 (hval 1 5 v1 rfl rfl) h1
  obtain ⟨a2, rfl, rfl, rfl, w2⟩ := open_int Try.underlying28 (hval 2 28 v2 rfl rfl) h2
  obtain ⟨a3, rfl, rfl, rfl, w3⟩ := open_int Try.underlying5 (hval 3 5 v3 rfl rfl) h3
  clear hA0 hval0
  refine (walk s0 t0 a1 w1 a2 w2 a3 w3).mono fun e W' ⟨he, hb⟩ => ?_
  exact ⟨_, he, law_post laid hW' hb rfl (by kernel_rfl) Try.underlying4 (by kernel_rfl) rfl⟩
theorem over : Rows.leakMadeRow.holds Try.pinned (OpenSpec.ofChange Rows.leakMadeSpec) :=
  OpenClaim.holds_of_wide 4 Try.f4 rfl rfl rfl rfl rfl rfl rfl ⟨rfl, rfl, rfl, rfl, rfl⟩ rfl rfl rfl rfl rfl (by kernel_rfl) Try.func4 (by kernel_rfl)
    (of_decide_eq_true (by kernel_rfl)) (by unfold Func.isWrapper; first | (rw [if_pos (by decide +kernel)]; kernel_rfl) | (rw [if_neg (by decide +kernel)]; exact ⟨rfl, rfl⟩))
    (fun os started H enc _ => lifted os started H enc)
theorem proved : Rows.LeakMadeSaid := over
end Go.Proofs.Ytednpcncjiaahaa.leakMade
