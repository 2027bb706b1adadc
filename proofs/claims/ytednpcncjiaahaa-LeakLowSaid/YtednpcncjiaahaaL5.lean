/-
  Leaks and events of a row. Conditions: none.
-/
import Derived.Test.YtednpcncjiaahaaL2
import Derived.Test.YtednpcncjiaahaaRow3
set_option linter.unusedVariables false
set_option linter.unusedSimpArgs false
namespace Go.Ab
open Go
theorem absV_lit (W : World) (v : Value) : ∀ p n c, absV W v ≠ .sl p n c false := by
  intro p n c h
  have key : ∀ v, abs0 W v ≠ .sl p n c false := by
    intro v h
    unfold abs0 at h
    split at h <;> try (cases h; done)
    · rename_i a; cases hq : okP W a <;> rw [hq] at h <;> cases h
    · rename_i a l c'; cases hq : and (okP W a) (decide (l ≤ c')) <;> rw [hq] at h <;> cases h
  unfold absV at h
  split at h
  · cases h
  · exact key _ h
end Go.Ab
namespace Go.Proofs.Try
open Go Go.Ab
namespace R
theorem open3 {t : TypeId} {fa fb fc : Field} {ka kb kc : IntKind} (ht : prog.underlying t = some (.struct #[fa, fb, fc])) (ha : prog.underlying fa.type = some (.int ka)) (hb : prog.underlying fb.type = some (.int kb)) (hc : prog.underlying fc.type = some (.int kc)) (h3 : prog.cellsOf t = 3) (ca : prog.cellsOf fa.type = 1) (cb : prog.cellsOf fb.type = 1) (cc : prog.cellsOf fc.type = 1)
    (ho : fa.offset = 0 ∧ fb.offset = 1 ∧ fc.offset = 2) {h : Heap} : ∀ {n : Nat} {r : List V}, Ty prog h n t r → ∃ x y z, r = [.i ka x, .i kb y, .i kc z] ∧ (Go.Lit.int ka x).wf = true ∧ (Go.Lit.int kb y).wf = true ∧ (Go.Lit.int kc z).wf = true
  | 0, r, t => by simp [Ty] at t
  | 1, r, t => by
    unfold Ty at t
    simp only [ht] at t
    exact absurd (t.2 _ (List.mem_cons_self ..)) (by simp [Ty])
  | n + 2, r, t => by
    unfold Ty at t
    simp only [ht] at t
    obtain ⟨hl, hf⟩ := t
    rw [h3] at hl
    match r, hl with
    | [a, b, c], _ =>
      simp only [List.forall_mem_cons] at hf
      have h1 := hf.1
      have h2 := hf.2.1
      have h3 := hf.2.2.1
      rw [ca, ho.1] at h1
      rw [cb, ho.2.1] at h2
      rw [cc, ho.2.2] at h3
      unfold Ty at h1 h2 h3
      simp only [ha] at h1
      simp only [hb] at h2
      simp only [hc] at h3
      obtain ⟨x, h1, w1⟩ := h1
      obtain ⟨y, h2, w2⟩ := h2
      obtain ⟨z, h3, w3⟩ := h3
      simp at h1 h2 h3
      exact ⟨x, y, z, by rw [h1, h2, h3], w1, w2, w3⟩
theorem open_all {h : Heap} {t : TypeId} {n : Nat} {α : Type} {enc : α → List V} {ok : α → Prop} (hq : ∀ r, Ty prog h n t r → ∃ R : α, ok R ∧ r = enc R) {rows : List (List V)} (hr : ∀ r ∈ rows, Ty prog h n t r) : ∃ l : List α, (∀ r ∈ l, ok r) ∧ rows = l.map enc := by
  induction rows with
  | nil => exact ⟨[], by simp, rfl⟩
  | cons r rows ih =>
    obtain ⟨l, h1, rfl⟩ := ih fun r hr' => hr r (List.mem_cons_of_mem _ hr')
    obtain ⟨R, h2, rfl⟩ := hq _ (hr r (List.mem_cons_self ..))
    exact ⟨R :: l, fun q hq => by rcases List.mem_cons.1 hq with rfl | hq; exact h2; exact h1 q hq, rfl⟩
theorem open_leaks {h : Heap} {n : Nat} {rows : List (List V)} (hr : ∀ r ∈ rows, Ty prog h n 30 r) : ∃ l : List Lk, (∀ r ∈ l, r.ok) ∧ rows = l.map Lk.enc :=
  open_all (fun r t => by
    obtain ⟨x, y, z, e, w⟩ := open3 underlying30 underlying28 underlying28 underlying3 (by kernel_rfl) (by kernel_rfl) (by kernel_rfl) (by kernel_rfl) ⟨rfl, rfl, rfl⟩ t
    exact ⟨⟨x, y, z⟩, w, e⟩) hr
theorem open_events {h : Heap} {n : Nat} {rows : List (List V)} (hr : ∀ r ∈ rows, Ty prog h n 33 r) : ∃ l : List Lk, (∀ r ∈ l, r.ok2) ∧ rows = l.map Lk.ev :=
  open_all (fun r t => by
    obtain ⟨x, y, z, e, w⟩ := open3 underlying33 underlying3 underlying3 underlying28 (by kernel_rfl) (by kernel_rfl) (by kernel_rfl) (by kernel_rfl) ⟨rfl, rfl, rfl⟩ t
    exact ⟨⟨x, y, z⟩, w, e⟩) hr
end R
end Go.Proofs.Try
