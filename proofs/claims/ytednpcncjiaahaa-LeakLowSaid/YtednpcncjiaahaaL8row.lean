/-
  'footmanlaw25.LeakLow': for every input the law returns true, and the input reads as it did. Conditions: none.
-/
import Derived.Test.YtednpcncjiaahaaL8
import Derived.Test.YtednpcncjiaahaaRows
import Derived.OpenShut
set_option linter.unusedVariables false
set_option linter.unusedSimpArgs false
namespace Go.Proofs.Ytednpcncjiaahaa.leakLow
open Go.ChangeShapes Go.WideShapes Go.ChangeAt Go.RowKit Go.Ab
theorem own : ownKnob Try.prog.godebug = none := by kernel_rfl
theorem laid : laidOutB Try.prog = true := by kernel_rfl
theorem follows : Try.prog.follows .mixedOrders = true := by kernel_rfl
theorem walk {W : World} {cs : List Value} {v1 : Value} {n0 n1 : Nat} {r1 : List (List V)} {r : Reach} {b0 : Nat} (e0 : absV W (.agg cs.toArray) = .agg (cs.map (abs0 W))) (l0 : cs.length = Try.prog.cellsOf 46) (t0 : Ty Try.prog (heapW W) n0 46 (cs.map (abs0 W)))
    (c0 : ∀ (i : Nat) (c : Value) (u : TypeId), cs[i]? = some c → ([3, 42, 43, 44] : List TypeId)[i]? = some u → Cell.okWide Try.prog W r b0 u c) (s1 : SlAt (heapW W) (absV W v1) (Try.prog.cellsOf 4) r1) (t1 : ∀ r ∈ r1, Ty Try.prog (heapW W) n1 4 r) :
    Calls Try.prog 8 #[.agg cs.toArray, v1] W fun e w' => e = .returned (.bool true) ∧ Below W.heap.size W w' := by
  rw [show Try.prog.cellsOf 4 = 1 by kernel_rfl] at s1
  obtain ⟨q, tv, bv, kv, l, bs, e, h1, h2, h3, a1, a2⟩ := Try.R.open_man l0 t0 c0
  obtain ⟨sec, _, rfl⟩ := Try.R.open_all (fun r t => Try.R.open_bl t) t1
  obtain ⟨v, h', _, e', rfl⟩ := Try.R.leakLow_ok 93 (q := q) h1 h2 h3 a1 a2 s1
  refine law_any (callG_ok follows Try.R.tab_ok 10000 100).1 (Nat.zero_le _) (h' := h') ?_
  show callG Try.R.tab 10000 100 8 [absV W (.agg cs.toArray), absV W v1] (heapW W) = _
  rw [e0, e]
  exact e'
set_option maxRecDepth 100000 in
theorem lifted (os : Os) (started : os.Started) (H : Type) (enc : TypeId × Value → H) :
    ReturnsInHanded {} Try.checked os 8 .any (Rows.leakLowSpec.pre6 enc Try.prog Try.f8 Rows.leakLowRow.domain false) (Rows.leakLowSpec.post enc Try.prog Try.f8 false true false false) := by
  refine returnsInHanded_of_change (C := Try.checked) own started (by kernel_rfl) Try.func8
    (ChangeSpec.witness6 (enc := enc) (C := Try.checked) false ⟨#[], #[.agg #[.int .i64 0, .slice none 0 0, .slice none 0 0, .slice none 0 0], .slice none 0 0], []⟩ 8 (by kernel_rfl) (by kernel_rfl) (by kernel_rfl) (by kernel_rfl)) ?_
  intro W base args ds gs before hval0 hW hcnd _
  have hval : ∀ (j : Nat) t v, Try.f8.params[j]? = some t → args[j]? = some v → Value.okWide Try.prog W .any base t v := hval0
  have hW' := hW
  obtain ⟨p, q, hA0, hV, rfl, hfz, hnd⟩ := hW
  have hA : DataW.TrodAll enc Try.prog W 0 (fun _ => true) true Try.f8.params.toList args.toList ds p := hA0
  rw [Try.params8] at hA hval
  obtain ⟨v0, vs0, d0, ds0, p0, q0, hargs, rfl, rfl, h0, r0⟩ := trodAll_cons hA
  obtain ⟨v1, vs1, d1, ds1, p1, q1, rfl, rfl, rfl, h1, r1⟩ := trodAll_cons r0
  obtain ⟨rfl, rfl, rfl⟩ := trodAll_nil r1
  obtain ⟨rfl, rfl⟩ := trodVars_none hV
  obtain rfl : args = #[v0, v1] := by cases args; simp_all
  obtain ⟨cs0, n0, rfl, e0, l0, t0, c0⟩ := open_struct (ts := [3, 42, 43, 44]) Try.underlying46 (by kernel_rfl) (by kernel_rfl) (hval 0 46 v0 rfl rfl) h0
  obtain ⟨rows1, n1, s1, m1, t1⟩ := open_sl Try.underlying47 (by decide +kernel) (hval 1 47 v1 rfl rfl) h1
  clear hA0 hval0
  refine (walk e0 l0 t0 c0 s1 t1).mono fun e W' ⟨he, hb⟩ => ?_
  exact ⟨_, he, law_post laid hW' hb rfl (by kernel_rfl) Try.underlying4 (by kernel_rfl) rfl⟩
theorem over : Rows.leakLowRow.holds Try.pinned (OpenSpec.ofChange Rows.leakLowSpec) :=
  OpenClaim.holds_of_wide 8 Try.f8 rfl rfl rfl rfl rfl rfl rfl ⟨rfl, rfl, rfl, rfl, rfl⟩ rfl rfl rfl rfl rfl (by kernel_rfl) Try.func8 (by kernel_rfl)
    (of_decide_eq_true (by kernel_rfl)) (by unfold Func.isWrapper; first | (rw [if_pos (by decide +kernel)]; kernel_rfl) | (rw [if_neg (by decide +kernel)]; exact ⟨rfl, rfl⟩))
    (fun os started H enc _ => lifted os started H enc)
theorem proved : Rows.LeakLowSaid := over
end Go.Proofs.Ytednpcncjiaahaa.leakLow
