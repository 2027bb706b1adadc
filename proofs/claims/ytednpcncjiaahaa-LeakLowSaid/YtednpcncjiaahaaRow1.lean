/-
  A whole memory, read alone, as the abstract interpreter has it; what arguments of a row are there. Conditions: none.
-/
import Derived.Test.YtednpcncjiaahaaRs6
import Derived.ChangeArms
import Derived.HandedShaped
set_option linter.unusedVariables false
set_option linter.unusedSimpArgs false
namespace Go.Ab
open Go

def okP (W : World) (a : Addr) : Bool := and a.spot.isNone (decide (a.block < W.heap.size))
noncomputable def abs0 (W : World) : Value → V
  | .bool b => .b b
  | .int k n => .i k n
  | .string s => .s (SB.ofL s.data.toList)
  | .pointer none => .p none
  | .pointer (some a) => cond (okP W a) (.p (some (a.block, a.off))) .und
  | .slice none 0 0 => .sl none 0 0 true
  | .slice (some a) l c => cond (and (okP W a) (decide (l ≤ c))) (.sl (some (a.block, a.off)) l c true) .und
  | .map none => .m none
  | .nilFunc => .f0
  | .nilIface => .i0
  | _ => .und
noncomputable def absV (W : World) : Value → V
  | .agg l => .agg (l.toList.map (abs0 W))
  | v => abs0 W v
def sizeB (W : World) (a : Nat) : Nat := match W.heap[a]? with
  | some (.cells c _ _) => c.size
  | _ => 0
def phiW (W : World) : Map := fun a => if a < W.heap.size then some ⟨a, 0, sizeB W a, 1⟩ else none
noncomputable def blkW (W : World) (a : Nat) : Blk := match W.heap[a]? with
  | some (.cells c _ _) => .cells c.size 1 (wr .e 0 (c.toList.map (abs0 W))) false
  | _ => .dead
noncomputable def heapW (W : World) : Heap := { next := W.heap.size, t := mkT ((List.range W.heap.size).map fun a => (a, blkW W a)), wl := [] }

theorem mkT_get {α : Type} (F : Nat → α) : ∀ (l : List Nat) (x : Nat), (mkT (l.map fun a => (a, F a))).get x = if x ∈ l then some (F x) else none
  | [], x => by simp; exact PT.get_e x
  | a :: l, x => by
    have e : mkT ((a :: l).map fun a => (a, F a)) = (mkT (l.map fun a => (a, F a))).set a (F a) := rfl
    rw [e, PT.get_set, mkT_get F l x]
    by_cases h : a = x
    · subst h; simp
    · rw [if_neg h]
      have : x ∈ a :: l ↔ x ∈ l := by simp [Ne.symm h]
      simp [this]
theorem heapW_get (W : World) (x : Nat) : (heapW W).get x = if x < W.heap.size then some (blkW W x) else none := by
  by_cases h : x < W.heap.size
  · rw [Heap.get_lt (show x < (heapW W).next from h), if_pos h]
    show (mkT _).get x = _
    rw [mkT_get, if_pos (List.mem_range.2 h)]
  · rw [if_neg h]; exact Heap.get_ge (Nat.le_of_not_lt h)
theorem heapW_ro (W : World) (x : Nat) (B : Blk) (h : (heapW W).get x = some B) : B.own = false := by
  rw [heapW_get] at h
  split at h
  · cases h
    unfold blkW
    split
    · rfl
    · rfl
  · cases h
theorem okP_spec {W : World} {a : Addr} (h : okP W a = true) : a = ⟨a.block, a.off, none⟩ ∧ a.block < W.heap.size := by
  unfold okP at h
  simp at h
  obtain ⟨b, o, s⟩ := a
  simp at h ⊢
  exact h
theorem RV.sofL (φ : Map) (s : ByteArray) : RV φ (.s (SB.ofL s.data.toList)) (.string s) := .s _ _ (by rw [SB.ofL_list])
theorem abs0_rv (W : World) (v : Value) : RV (phiW W) (abs0 W v) v := by
  unfold abs0
  split
  · exact .b _
  · exact .i _ _
  · exact RV.sofL _ _
  · exact .p0
  · rename_i a
    cases h : okP W a with
    | false => exact .und _
    | true =>
      obtain ⟨e, h1⟩ := okP_spec h
      have := RV.p (φ := phiW W) a.block a.off ⟨a.block, 0, sizeB W a.block, 1⟩ (by unfold phiW; rw [if_pos h1])
      simp only [Nat.zero_add] at this
      rw [e]; exact this
  · exact .sl0
  · rename_i a l c
    cases h : and (okP W a) (decide (l ≤ c)) with
    | false => exact .und _
    | true =>
      simp only [Bool.and_eq_true, decide_eq_true_eq] at h
      obtain ⟨e, h1⟩ := okP_spec h.1
      have := RV.sl (φ := phiW W) a.block a.off l c c true ⟨a.block, 0, sizeB W a.block, 1⟩ (by unfold phiW; rw [if_pos h1]) h.2 (Nat.le_refl _) (fun _ => rfl) (fun h => by cases h)
      simp only [Nat.zero_add] at this
      rw [e]; exact this
  · exact .m0
  · exact .f0
  · exact .i0
  · exact .und _
theorem absV_rv (W : World) (v : Value) : RV (phiW W) (absV W v) v := by
  unfold absV
  split
  · rename_i l
    refine RV.agg_mk ⟨by simp, fun j x y hx hy => ?_⟩
    rw [List.getElem?_map, hy] at hx
    cases hx
    exact abs0_rv W y
  · exact abs0_rv W v
theorem absV_rvs (W : World) (l : List Value) : RVs (phiW W) (l.map (absV W)) l := ⟨by simp, fun j x y hx hy => by
  rw [List.getElem?_map, hy] at hx
  cases hx
  exact absV_rv W y⟩
theorem heapW_hr (W : World) : HR (phiW W) (heapW W).get W := by
  refine ⟨fun a B pl hB hp => ?_, fun a a' B B' pl pl' _ h _ _ _ h5 _ => ?_⟩
  · rw [heapW_get] at hB
    unfold phiW at hp
    by_cases ha : a < W.heap.size
    · rw [if_pos ha] at hB hp
      cases hB; cases hp
      unfold blkW
      split
      · rename_i c e fr hc
        refine ⟨c, e, fr, hc, rfl, by simp [sizeB, hc], by simp, fun j hj => ?_, fun h => by cases h⟩
        refine ⟨abs0 W c[j], c[j], ?_, by simp [hj], abs0_rv W _, fun h => by cases h⟩
        rw [wr_get, if_pos (by simpa using hj)]; simp [hj]
      · trivial
    · rw [if_neg ha] at hB; cases hB
  · rw [heapW_ro W a B h] at h5; cases h5
theorem heapW_glob (W : World) (ng : Nat) (h : ng ≤ W.heap.size) : Glob ng (phiW W) := fun k hk => ⟨⟨k, 0, sizeB W k, 1⟩, by unfold phiW; rw [if_pos (by omega)], rfl, rfl⟩

/-- A LAW, from whatever memory -/
theorem law_any {P : Program} {ng : Nat} {cf : CallF} (hc : CallOk P ng cf) {f : FuncId} {W : World} {args : Array Value} {h' : Heap} (hn : ng ≤ W.heap.size) (e : cf f (args.toList.map (absV W)) (heapW W) = .val (.b true) h') :
    Calls P f args W fun e w' => e = .returned (.bool true) ∧ Go.RowKit.Below W.heap.size W w' :=
  callOk_ret hc e (heapW_glob W ng hn) (heapW_hr W) (absV_rvs W _) (fun x h1 _ => by
    have h1 : W.heap.size ≤ x := h1
    unfold phiW; rw [if_neg (by omega)]) fun v' w' φ' l hv _ hp => by
    cases hv
    exact ⟨rfl, hp.below (heapW_ro W)⟩

/-! rows of cells -/
/-- a slice whose elements are rows of cells -/
def SlAt (h : Heap) (v : V) (es : Nat) (rows : List (List V)) : Prop :=
  (v = .sl none 0 0 true ∧ rows = []) ∨ ∃ b o cap x, v = .sl (some (b, o)) rows.length cap x ∧ rows.length ≤ cap ∧
    (0 < rows.length → ∃ n e t own, h.get b = some (.cells n e t own) ∧ o + rows.length * es ≤ n ∧ ∀ (i : Nat) (r : List V), rows[i]? = some r → r.length = es ∧ ∀ (j : Nat) (u : V), r[j]? = some u → t.get (o + i * es + j) = some u)
end Go.Ab
