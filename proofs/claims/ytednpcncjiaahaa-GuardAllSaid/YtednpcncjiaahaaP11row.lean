/-
  'footmanlaw4.GuardAll': for every input the law returns true, and the input reads as it did. Conditions: none.
-/
import Derived.Test.YtednpcncjiaahaaP11
import Derived.Test.YtednpcncjiaahaaRow3
import Derived.Test.YtednpcncjiaahaaRows
import Derived.OpenShut
set_option linter.unusedVariables false
set_option linter.unusedSimpArgs false
namespace Go.Proofs.Try
open Go Go.Ab
namespace R
theorem open_u32 {h : Heap} : ∀ {n : Nat} {r : List V}, Ty prog h n 28 r → ∃ k : Nat, k < 4294967296 ∧ r = [.i .u32 (k : Int)]
  | 0, r, t => by simp [Ty] at t
  | n + 1, r, t => by
    unfold Ty at t
    simp only [underlying28] at t
    obtain ⟨m, rfl, w⟩ := t
    obtain ⟨k, rfl, h⟩ := wf_nat rfl w
    exact ⟨k, h, rfl⟩
theorem open_u32s {h : Heap} {n : Nat} {rows : List (List V)} (hr : ∀ r ∈ rows, Ty prog h n 28 r) : ∃ l : List Nat, (∀ k ∈ l, k < 4294967296) ∧ rows = l.map fun (k : Nat) => [.i .u32 (k : Int)] := by
  induction rows with
  | nil => exact ⟨[], by simp, rfl⟩
  | cons r rows ih =>
    obtain ⟨l, h1, rfl⟩ := ih fun r hr' => hr r (List.mem_cons_of_mem _ hr')
    obtain ⟨k, h2, rfl⟩ := open_u32 (hr r (List.mem_cons_self ..))
    exact ⟨k :: l, fun q hq => by rcases List.mem_cons.1 hq with rfl | hq; exact h2; exact h1 q hq, rfl⟩
end R
end Go.Proofs.Try
namespace Go.Proofs.Try
open Go Go.Ab
namespace R
theorem cells37 : prog.cellsOf 37 = 4 := by kernel_rfl
theorem open_rg {h : Heap} : ∀ {n : Nat} {r : List V}, Ty prog h n 37 r → ∃ R : Rg, R.ok ∧ r = R.enc
  | 0, r, t => by simp [Ty] at t
  | 1, r, t => by
    unfold Ty at t
    simp only [underlying37] at t
    exact absurd (t.2 _ (List.mem_cons_self ..)) (by simp [Ty])
  | n + 2, r, t => by
    unfold Ty at t
    simp only [underlying37] at t
    obtain ⟨hl, hf⟩ := t
    rw [cells37] at hl
    match r, hl with
    | [a, b, c, d], _ =>
      simp only [List.forall_mem_cons] at hf
      have h1 := hf.1
      have h2 := hf.2.1
      have h3 := hf.2.2.1
      have h4 := hf.2.2.2.1
      clear hf
      simp only [List.drop_zero, List.drop_succ_cons] at h1 h2 h3 h4
      rw [show prog.cellsOf 28 = 1 by kernel_rfl] at h1 h2
      rw [show prog.cellsOf 4 = 1 by kernel_rfl] at h3 h4
      unfold Ty at h1 h2 h3 h4
      simp only [underlying28] at h1 h2
      simp only [underlying4] at h3 h4
      obtain ⟨x, h1, w1⟩ := h1
      obtain ⟨y, h2, w2⟩ := h2
      obtain ⟨z, h3⟩ := h3
      obtain ⟨u, h4⟩ := h4
      simp at h1 h2 h3 h4
      obtain ⟨x, rfl, q1⟩ := wf_nat rfl w1
      obtain ⟨y, rfl, q2⟩ := wf_nat rfl w2
      subst h1; subst h2; subst h3; subst h4
      exact ⟨⟨x, y, z, u⟩, ⟨q1, q2⟩, rfl⟩
theorem open_rgs {h : Heap} {n : Nat} {rows : List (List V)} (hr : ∀ r ∈ rows, Ty prog h n 37 r) : ∃ l : List Rg, (∀ r ∈ l, r.ok) ∧ rows = l.map Rg.enc := by
  induction rows with
  | nil => exact ⟨[], by simp, rfl⟩
  | cons r rows ih =>
    obtain ⟨l, h1, rfl⟩ := ih fun r hr' => hr r (List.mem_cons_of_mem _ hr')
    obtain ⟨R, h2, rfl⟩ := open_rg (hr r (List.mem_cons_self ..))
    exact ⟨R :: l, fun q hq => by rcases List.mem_cons.1 hq with rfl | hq; exact h2; exact h1 q hq, rfl⟩
end R
end Go.Proofs.Try
namespace Go.Proofs.Ytednpcncjiaahaa.guardAll
open Go.ChangeShapes Go.WideShapes Go.ChangeAt Go.RowKit Go.Ab
theorem own : ownKnob Try.prog.godebug = none := by kernel_rfl
theorem laid : laidOutB Try.prog = true := by kernel_rfl
theorem follows : Try.prog.follows .mixedOrders = true := by kernel_rfl
theorem walk {W : World} {v0 v1 : Value} {r0 r1 : List (List V)} {n0 n1 : Nat} (s0 : SlAt (heapW W) (absV W v0) (Try.prog.cellsOf 28) r0) (t0 : ∀ r ∈ r0, Ty Try.prog (heapW W) n0 28 r) (s1 : SlAt (heapW W) (absV W v1) (Try.prog.cellsOf 37) r1) (t1 : ∀ r ∈ r1, Ty Try.prog (heapW W) n1 37 r)
    (a2 : Int) (w2 : (Lit.int .u32 a2).wf = true) (a3 : Int) (w3 : (Lit.int .u32 a3).wf = true) (a4 : Int) (w4 : (Lit.int .i64 a4).wf = true) :
    Calls Try.prog 10 #[v0, v1, .int .u32 a2, .int .u32 a3, .int .i64 a4] W fun e w' => e = .returned (.bool true) ∧ Below W.heap.size W w' := by
  rw [show Try.prog.cellsOf 28 = 1 by kernel_rfl] at s0
  rw [Try.R.cells37] at s1
  obtain ⟨a, ha, rfl⟩ := Try.R.open_u32s t0
  obtain ⟨b, hb, rfl⟩ := Try.R.open_rgs t1
  obtain ⟨m2, rfl, h2⟩ := wf_nat rfl w2
  obtain ⟨m3, rfl, h3⟩ := wf_nat rfl w3
  obtain ⟨v, h', _, e, rfl⟩ := Try.R.all_ok 96 ha hb h2 h3 a4 s0 s1
  exact law_any (callG_ok follows Try.R.tab_ok 10000 100).1 (Nat.zero_le _) e
set_option maxRecDepth 100000 in
theorem lifted (os : Os) (started : os.Started) (H : Type) (enc : TypeId × Value → H) :
    ReturnsInHanded {} Try.checked os 10 .any (Rows.guardAllSpec.pre6 enc Try.prog Try.f10 Rows.guardAllRow.domain false) (Rows.guardAllSpec.post enc Try.prog Try.f10 false true false false) := by
  refine returnsInHanded_of_change (C := Try.checked) own started (by kernel_rfl) Try.func10
    (ChangeSpec.witness6 (enc := enc) (C := Try.checked) false ⟨#[], #[.slice none 0 0, .slice none 0 0, .int .u32 0, .int .u32 0, .int .i64 0], []⟩ 8 (by kernel_rfl) (by kernel_rfl) (by kernel_rfl) (by kernel_rfl)) ?_
  intro W base args ds gs before hval0 hW hcnd _
  have hval : ∀ (j : Nat) t v, Try.f10.params[j]? = some t → args[j]? = some v → Value.okWide Try.prog W .any base t v := hval0
  have hW' := hW
  obtain ⟨p, q, hA0, hV, rfl, hfz, hnd⟩ := hW
  have hA : DataW.TrodAll enc Try.prog W 0 (fun _ => true) true Try.f10.params.toList args.toList ds p := hA0
  rw [Try.params10] at hA hval
  obtain ⟨v0, vs0, d0, ds0, p0, q0, hargs, rfl, rfl, h0, r0⟩ := trodAll_cons hA
  obtain ⟨v1, vs1, d1, ds1, p1, q1, rfl, rfl, rfl, h1, r1⟩ := trodAll_cons r0
  obtain ⟨v2, vs2, d2, ds2, p2, q2, rfl, rfl, rfl, h2, r2⟩ := trodAll_cons r1
  obtain ⟨v3, vs3, d3, ds3, p3, q3, rfl, rfl, rfl, h3, r3⟩ := trodAll_cons r2
  obtain ⟨v4, vs4, d4, ds4, p4, q4, rfl, rfl, rfl, h4, r4⟩ := trodAll_cons r3
  obtain ⟨rfl, rfl, rfl⟩ := trodAll_nil r4
  obtain ⟨rfl, rfl⟩ := trodVars_none hV
  obtain rfl : args = #[v0, v1, v2, v3, v4] := by cases args; simp_all
  obtain ⟨rows0, n0, s0, m0, t0⟩ := open_sl Try.underlying54 (by decide +kernel) (hval 0 54 v0 rfl rfl) h0
  obtain ⟨rows1, n1, s1, m1, t1⟩ := open_sl Try.underlying38 (by decide +kernel) (hval 1 38 v1 rfl rfl) h1
  obtain ⟨a2, rfl, rfl, rfl, w2⟩ := open_int Try.underlying28 (hval 2 28 v2 rfl rfl) h2
  obtain ⟨a3, rfl, rfl, rfl, w3⟩ := open_int Try.underlying28 (hval 3 28 v3 rfl rfl) h3
  obtain ⟨a4, rfl, rfl, rfl, w4⟩ := open_int Try.underlying3 (hval 4 3 v4 rfl rfl) h4
  clear hA0 hval0
  refine (walk s0 t0 s1 t1 a2 w2 a3 w3 a4 w4).mono fun e W' ⟨he, hb⟩ => ?_
  exact ⟨_, he, law_post laid hW' hb rfl (by kernel_rfl) Try.underlying4 (by kernel_rfl) rfl⟩
theorem over : Rows.guardAllRow.holds Try.pinned (OpenSpec.ofChange Rows.guardAllSpec) :=
  OpenClaim.holds_of_wide 10 Try.f10 rfl rfl rfl rfl rfl rfl rfl ⟨rfl, rfl, rfl, rfl, rfl⟩ rfl rfl rfl rfl rfl (by kernel_rfl) Try.func10 (by kernel_rfl)
    (of_decide_eq_true (by kernel_rfl)) (by unfold Func.isWrapper; first | (rw [if_pos (by decide +kernel)]; kernel_rfl) | (rw [if_neg (by decide +kernel)]; exact ⟨rfl, rfl⟩))
    (fun os started H enc _ => lifted os started H enc)
theorem proved : Rows.GuardAllSaid := over
end Go.Proofs.Ytednpcncjiaahaa.guardAll
