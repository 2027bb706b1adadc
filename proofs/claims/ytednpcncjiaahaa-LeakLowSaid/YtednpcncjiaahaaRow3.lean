/-
  Arguments of a row that are slices, in the abstract memory. Conditions: none.
-/
import Derived.Test.YtednpcncjiaahaaRow2
import Derived.WideShapes
set_option linter.unusedVariables false
set_option linter.unusedSimpArgs false
namespace Go.Ab
open Go
variable {H : Type} {enc : TypeId × Value → H}
theorem shape_lt {w : World} {r : Nat} {x : TypeId × Nat} (h : w.shape? r = some x) : r < w.heap.size := by
  unfold World.shape? at h
  split at h
  · rename_i hc; exact (Array.getElem?_eq_some_iff.1 hc).1
  · cases h
/-- a slice argument -/
theorem open_sl {P : Program} {W : World} {r : Reach} {b0 : Nat} {sp : Nat → Bool} {held : Bool} {t e : TypeId} {v : Value} {d : DataW H} {p : List MemPlace} (ht : P.underlying t = some (.slice e)) (hc : P.cellsOf e ≠ 0)
    (hval : Value.okWide P W r b0 t v) (h : DataW.Trod enc P W 0 sp held t v d p) :
    ∃ (rows : List (List V)) (fuel : Nat), SlAt (heapW W) (absV W v) (P.cellsOf e) rows ∧ rows.length ≤ maxLen ∧ ∀ r ∈ rows, Ty P (heapW W) fuel e r := by
  obtain ⟨fuel, hf⟩ := h
  have hv : ∃ x, v.cells.toList = [v] ∧ absV W v = x ∧ abs0 W v = x ∧ x ≠ .und := by
    simp only [Value.okWide, ht, Cell.okWide] at hval
    cases v <;> simp [Cell.ok, ht] at hval
    rename_i a len cap
    cases a with
    | none =>
      have : len = 0 ∧ cap = 0 := by
        cases len <;> cases cap <;> simp_all
      obtain ⟨rfl, rfl⟩ := this
      exact ⟨_, by simp [Value.cells], rfl, rfl, by simp [absV, abs0]⟩
    | some a =>
      obtain ⟨h1, _, _, h3, row, cells, h4, _⟩ := hval
      refine ⟨_, by simp [Value.cells], rfl, rfl, ?_⟩
      have : okP W a = true := by unfold okP; rw [h3]; simp [shape_lt h4]
      simp only [absV, abs0, this, Bool.true_and, decide_eq_true h1, cond_true]
      intro hh; cases hh
  obtain ⟨x, h1, h2, h3, h4⟩ := hv
  rw [h1] at hf
  have hy := trod_ty fuel t [v] _ hf
  cases fuel with
  | zero => exact absurd hy (by simp [Ty])
  | succ fuel =>
    unfold Ty at hy
    simp only [ht] at hy
    rcases hy with hy | hy | ⟨u, rows, hy, hs, hm, ha⟩
    · exact absurd hy hc
    · simp only [List.map, h3, List.cons.injEq, and_true] at hy; exact absurd hy h4
    · simp only [List.map, h3, List.cons.injEq, and_true] at hy
      subst hy
      exact ⟨rows, fuel, by rw [h2]; exact hs, hm, ha⟩
theorem wf_nat {k : IntKind} {m : Int} (hk : k.signed = false) (h : (Lit.int k m).wf = true) : ∃ n : Nat, m = n ∧ n < 2 ^ k.bits := by
  simp [Lit.wf, IntKind.min, IntKind.max, hk] at h
  refine ⟨m.toNat, by omega, ?_⟩
  have : ((2 ^ k.bits : Nat) : Int) = (2 : Int) ^ k.bits := by simp
  omega
end Go.Ab
