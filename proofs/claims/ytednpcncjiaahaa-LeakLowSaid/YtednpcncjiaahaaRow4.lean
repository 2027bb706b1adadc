/-
  Cells of a row that are slices, in the abstract memory. Conditions: none.
-/
import Derived.Test.YtednpcncjiaahaaRow3
set_option linter.unusedVariables false
set_option linter.unusedSimpArgs false
namespace Go.Ab
open Go
/-- a cell that is a slice is told -/
theorem cell_slice {P : Program} {W : World} {r : Reach} {b0 : Nat} {t e : TypeId} {v : Value} (ht : P.underlying t = some (.slice e)) (h : Cell.okWide P W r b0 t v) : abs0 W v ≠ .und ∧ (abs0 W v).sc = true := by
  simp only [Cell.okWide, ht] at h
  cases v <;> simp [Cell.ok, ht] at h
  rename_i a len cap
  cases a with
  | none =>
    have : len = 0 ∧ cap = 0 := by
      cases len <;> cases cap <;> simp_all
    obtain ⟨rfl, rfl⟩ := this
    exact ⟨by simp [abs0], rfl⟩
  | some a =>
    obtain ⟨h1, _, _, h3, row, cells, h4, _⟩ := h
    have : okP W a = true := by unfold okP; rw [h3]; simp [shape_lt h4]
    simp only [abs0, this, Bool.true_and, decide_eq_true h1, cond_true]
    exact ⟨(by intro hh; cases hh), rfl⟩
/-- what 'Ty' says of a slice that is told -/
theorem ty_slice {P : Program} {h : Heap} {n : Nat} {t e : TypeId} {x : V} (ht : P.underlying t = some (.slice e)) (hc : P.cellsOf e ≠ 0) (hx : x ≠ .und) (hy : Ty P h (n + 1) t [x]) : ∃ rows, SlAt h x (P.cellsOf e) rows ∧ rows.length ≤ maxLen ∧ ∀ r ∈ rows, Ty P h n e r := by
  unfold Ty at hy
  simp only [ht] at hy
  rcases hy with hy | hy | ⟨u, rows, hy, hs, hm, ha⟩
  · exact absurd hy hc
  · simp only [List.cons.injEq, and_true] at hy; exact absurd hy hx
  · simp only [List.cons.injEq, and_true] at hy
    subst hy
    exact ⟨rows, hs, hm, ha⟩
theorem ty_int {P : Program} {h : Heap} {n : Nat} {t : TypeId} {k : IntKind} {cs : List V} (ht : P.underlying t = some (.int k)) (hy : Ty P h (n + 1) t cs) : ∃ m, cs = [.i k m] ∧ (Lit.int k m).wf = true := by
  unfold Ty at hy; simpa only [ht] using hy
theorem ty_bool {P : Program} {h : Heap} {n : Nat} {t : TypeId} {cs : List V} (ht : P.underlying t = some .bool) (hy : Ty P h (n + 1) t cs) : ∃ b, cs = [.b b] := by
  unfold Ty at hy; simpa only [ht] using hy
theorem ty_string {P : Program} {h : Heap} {n : Nat} {t : TypeId} {cs : List V} (ht : P.underlying t = some .string) (hy : Ty P h (n + 1) t cs) : ∃ s : List UInt8, cs = [.s (SB.ofL s)] ∧ s.length ≤ maxLen := by
  unfold Ty at hy; simpa only [ht] using hy
theorem ty_struct {P : Program} {h : Heap} {n : Nat} {t : TypeId} {fs : Array Field} {cs : List V} (ht : P.underlying t = some (.struct fs)) (hy : Ty P h (n + 1) t cs) : cs.length = P.cellsOf t ∧ ∀ f ∈ fs.toList, Ty P h n f.type ((cs.drop f.offset).take (P.cellsOf f.type)) := by
  unfold Ty at hy; simpa only [ht] using hy
theorem ty_zero {P : Program} {h : Heap} {t : TypeId} {cs : List V} : ¬ Ty P h 0 t cs := by simp [Ty]
variable {H : Type} {enc : TypeId × Value → H}
/-- a struct argument -/
theorem open_struct {P : Program} {W : World} {r : Reach} {b0 : Nat} {sp : Nat → Bool} {held : Bool} {t : TypeId} {fs : Array Field} {v : Value} {d : DataW H} {p : List MemPlace} {ts : List TypeId} (ht : P.underlying t = some (.struct fs)) (hts : P.cellTypes P.depth t = some ts) (hn : ts.length = P.cellsOf t)
    (hval : Value.okWide P W r b0 t v) (h : DataW.Trod enc P W 0 sp held t v d p) :
    ∃ (cs : List Value) (fuel : Nat), v = .agg cs.toArray ∧ absV W v = .agg (cs.map (abs0 W)) ∧ cs.length = P.cellsOf t ∧ Ty P (heapW W) fuel t (cs.map (abs0 W)) ∧ ∀ (i : Nat) (c : Value) (u : TypeId), cs[i]? = some c → ts[i]? = some u → Cell.okWide P W r b0 u c := by
  simp only [Value.okWide, ht] at hval
  obtain ⟨cs, rfl, hsz, ts', e', _, hcell⟩ := hval
  rw [hts] at e'; cases e'
  obtain ⟨fuel, hf⟩ := h
  have hc : (Value.agg cs).cells.toList = cs.toList := rfl
  rw [hc] at hf
  refine ⟨cs.toList, fuel, by simp, rfl, by simpa using hsz, trod_ty fuel t cs.toList _ hf, fun i c u hi hu => ?_⟩
  have hi' : cs[i]? = some c := by rw [← Array.getElem?_toList]; exact hi
  obtain ⟨u', h1, h2⟩ := hcell i c hi'
  have hlt : i < ts.length := by rw [hn, ← hsz]; exact (Array.getElem?_eq_some_iff.1 hi').1
  rw [Nat.mod_eq_of_lt hlt, hu] at h1
  cases h1
  exact h2
end Go.Ab
