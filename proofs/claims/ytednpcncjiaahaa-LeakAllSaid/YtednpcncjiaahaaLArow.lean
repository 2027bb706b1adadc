/-
  'footmanlaw25.LeakAll': for every input the law returns true, and the input reads as it did. Conditions: none.
-/
import Derived.Test.YtednpcncjiaahaaL2
import Derived.Test.YtednpcncjiaahaaL5
import Derived.Test.YtednpcncjiaahaaRows
import Derived.OpenShut
set_option linter.unusedVariables false
set_option linter.unusedSimpArgs false
namespace Go.Proofs.Ytednpcncjiaahaa.leakAll
open Go.ChangeShapes Go.WideShapes Go.ChangeAt Go.RowKit Go.Ab
theorem own : ownKnob Try.prog.godebug = none := by kernel_rfl
theorem laid : laidOutB Try.prog = true := by kernel_rfl
theorem follows : Try.prog.follows .mixedOrders = true := by kernel_rfl
theorem walk {W : World} {v0 v1 v2 v3 : Value} {r0 r1 r2 r3 : List (List V)} {n0 n1 n2 n3 : Nat} (s0 : SlAt (heapW W) (absV W v0) (Try.prog.cellsOf 30) r0) (t0 : ∀ r ∈ r0, Ty Try.prog (heapW W) n0 30 r) (s1 : SlAt (heapW W) (absV W v1) (Try.prog.cellsOf 30) r1) (t1 : ∀ r ∈ r1, Ty Try.prog (heapW W) n1 30 r)
    (s2 : SlAt (heapW W) (absV W v2) (Try.prog.cellsOf 33) r2) (t2 : ∀ r ∈ r2, Ty Try.prog (heapW W) n2 33 r) (s3 : SlAt (heapW W) (absV W v3) (Try.prog.cellsOf 33) r3) (t3 : ∀ r ∈ r3, Ty Try.prog (heapW W) n3 33 r) :
    Calls Try.prog 3 #[v0, v1, v2, v3] W fun e w' => e = .returned (.bool true) ∧ Below W.heap.size W w' := by
  rw [show Try.prog.cellsOf 30 = 3 by kernel_rfl] at s0 s1
  rw [show Try.prog.cellsOf 33 = 3 by kernel_rfl] at s2 s3
  obtain ⟨a, _, rfl⟩ := Try.R.open_leaks t0
  obtain ⟨b, _, rfl⟩ := Try.R.open_leaks t1
  obtain ⟨c, _, rfl⟩ := Try.R.open_events t2
  obtain ⟨d, _, rfl⟩ := Try.R.open_events t3
  obtain ⟨v, h', _, e, rfl⟩ := Try.R.leakAll_ok 96 s0 s1 s2 s3 (absV_lit W v3)
  exact law_any (callG_ok follows Try.R.tab_ok 10000 100).1 (Nat.zero_le _) e
set_option maxRecDepth 100000 in
theorem lifted (os : Os) (started : os.Started) (H : Type) (enc : TypeId × Value → H) :
    ReturnsInHanded {} Try.checked os 3 .any (Rows.leakAllSpec.pre6 enc Try.prog Try.f3 Rows.leakAllRow.domain false) (Rows.leakAllSpec.post enc Try.prog Try.f3 false true false false) := by
  refine returnsInHanded_of_change (C := Try.checked) own started (by kernel_rfl) Try.func3
    (ChangeSpec.witness6 (enc := enc) (C := Try.checked) false ⟨#[], #[.slice none 0 0, .slice none 0 0, .slice none 0 0, .slice none 0 0], []⟩ 8 (by kernel_rfl) (by kernel_rfl) (by kernel_rfl) (by kernel_rfl)) ?_
  intro W base args ds gs before hval0 hW hcnd _
  have hval : ∀ (j : Nat) t v, Try.f3.params[j]? = some t → args[j]? = some v → Value.okWide Try.prog W .any base t v := hval0
  have hW' := hW
  obtain ⟨p, q, hA0, hV, rfl, hfz, hnd⟩ := hW
  have hA : DataW.TrodAll enc Try.prog W 0 (fun _ => true) true Try.f3.params.toList args.toList ds p := hA0
  rw [Try.params3] at hA hval
  obtain ⟨v0, vs0, d0, ds0, p0, q0, hargs, rfl, rfl, h0, r0⟩ := trodAll_cons hA
  obtain ⟨v1, vs1, d1, ds1, p1, q1, rfl, rfl, rfl, h1, r1⟩ := trodAll_cons r0
  obtain ⟨v2, vs2, d2, ds2, p2, q2, rfl, rfl, rfl, h2, r2⟩ := trodAll_cons r1
  obtain ⟨v3, vs3, d3, ds3, p3, q3, rfl, rfl, rfl, h3, r3⟩ := trodAll_cons r2
  obtain ⟨rfl, rfl, rfl⟩ := trodAll_nil r3
  obtain ⟨rfl, rfl⟩ := trodVars_none hV
  obtain rfl : args = #[v0, v1, v2, v3] := by cases args; simp_all
  obtain ⟨rows0, n0, s0, m0, t0⟩ := open_sl Try.underlying22 (by decide +kernel) (hval 0 22 v0 rfl rfl) h0
  obtain ⟨rows1, n1, s1, m1, t1⟩ := open_sl Try.underlying22 (by decide +kernel) (hval 1 22 v1 rfl rfl) h1
  obtain ⟨rows2, n2, s2, m2, t2⟩ := open_sl Try.underlying23 (by decide +kernel) (hval 2 23 v2 rfl rfl) h2
  obtain ⟨rows3, n3, s3, m3, t3⟩ := open_sl Try.underlying23 (by decide +kernel) (hval 3 23 v3 rfl rfl) h3
  clear hA0 hval0
  refine (walk s0 t0 s1 t1 s2 t2 s3 t3).mono fun e W' ⟨he, hb⟩ => ?_
  exact ⟨_, he, law_post laid hW' hb rfl (by kernel_rfl) Try.underlying4 (by kernel_rfl) rfl⟩
theorem over : Rows.leakAllRow.holds Try.pinned (OpenSpec.ofChange Rows.leakAllSpec) :=
  OpenClaim.holds_of_wide 3 Try.f3 rfl rfl rfl rfl rfl rfl rfl ⟨rfl, rfl, rfl, rfl, rfl⟩ rfl rfl rfl rfl rfl (by kernel_rfl) Try.func3 (by kernel_rfl)
    (of_decide_eq_true (by kernel_rfl)) (by unfold Func.isWrapper; first | (rw [if_pos (by decide +kernel)]; kernel_rfl) | (rw [if_neg (by decide +kernel)]; exact ⟨rfl, rfl⟩))
    (fun os started H enc _ => lifted os started H enc)
theorem proved : Rows.LeakAllSaid := over
end Go.Proofs.Ytednpcncjiaahaa.leakAll
