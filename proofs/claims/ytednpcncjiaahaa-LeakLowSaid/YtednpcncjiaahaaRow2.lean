/-
  What the data of a row are in the abstract memory. Conditions: none.
-/
import Derived.Test.YtednpcncjiaahaaRow1
set_option linter.unusedVariables false
set_option linter.unusedSimpArgs false
namespace Go.Ab
open Go

/-- cells that are of a type -/
def Ty (P : Program) (h : Heap) : Nat → TypeId → List V → Prop
  | 0 => fun _ _ => False
  | n + 1 => fun t cs => match P.underlying t with
    | some .bool => ∃ b, cs = [.b b]
    | some (.int k) => ∃ m, cs = [.i k m] ∧ (Lit.int k m).wf = true
    | some .string => ∃ s : List UInt8, cs = [.s (SB.ofL s)] ∧ s.length ≤ maxLen
    | some (.slice e) => P.cellsOf e = 0 ∨ cs = [.und] ∨ ∃ v rows, cs = [v] ∧ SlAt h v (P.cellsOf e) rows ∧ rows.length ≤ maxLen ∧ ∀ r ∈ rows, Ty P h n e r
    | some (.struct fs) => cs.length = P.cellsOf t ∧ ∀ f ∈ fs.toList, Ty P h n f.type ((cs.drop f.offset).take (P.cellsOf f.type))
    | some (.array m e) => cs.length = P.cellsOf t ∧ ∀ i, i < m → Ty P h n e ((cs.drop (i * P.cellsOf e)).take (P.cellsOf e))
    | _ => True

theorem cells?_get {w : World} {a : Addr} {n : Nat} {cs : List Value} (h : w.cells? 0 a n = some cs) : cs.length = n ∧ ∀ j v, cs[j]? = some v → w.cell? (a.add j) = some v := by
  unfold World.cells? at h
  rw [if_pos (Nat.zero_le _)] at h
  have key : ∀ (l : List Nat) (cs : List Value), l.mapM (fun i => w.cell? (a.add i)) = some cs → cs.length = l.length ∧ ∀ (j : Nat) v, cs[j]? = some v → ∃ i, l[j]? = some i ∧ w.cell? (a.add i) = some v := by
    intro l
    induction l with
    | nil => intro cs h; simp at h; subst h; simp
    | cons x l ih =>
      intro cs h
      rw [List.mapM_cons] at h
      cases hx : w.cell? (a.add x) with
      | none => rw [hx] at h; simp at h
      | some v =>
        rw [hx] at h
        cases hl : l.mapM (fun i => w.cell? (a.add i)) with
        | none => rw [hl] at h; simp at h
        | some k =>
          rw [hl] at h
          simp at h; subst h
          obtain ⟨h1, h2⟩ := ih k hl
          refine ⟨by simp [h1], fun j u hj => ?_⟩
          cases j with
          | zero => simp at hj; subst hj; exact ⟨x, rfl, hx⟩
          | succ j => simp at hj; simpa using h2 j u hj
  obtain ⟨h1, h2⟩ := key _ _ h
  refine ⟨by simpa using h1, fun j v hj => ?_⟩
  obtain ⟨i, h3, h4⟩ := h2 j v hj
  have hjn : j < n := by have := (List.getElem?_eq_some_iff.1 h3).1; simpa using this
  rw [List.getElem?_range hjn] at h3
  cases h3
  exact h4
theorem cell?_inv {w : World} {a : Addr} {v : Value} (h : w.cell? a = some v) : a.spot = none ∧ ∃ c e fr, w.heap[a.block]? = some (.cells c e fr) ∧ c[a.off]? = some v := by
  unfold World.cell? at h
  split at h
  · rename_i c e fr hc
    split at h
    · cases h
    · rename_i hs
      refine ⟨?_, c, e, fr, hc, h⟩
      cases hq : a.spot with
      | none => rfl
      | some x => rw [hq] at hs; simp at hs
  · cases h
theorem heapW_cell {W : World} {b off : Nat} {c : Array Value} {e : TypeId} {fr : Nat × Nat} (hc : W.heap[b]? = some (.cells c e fr)) : (heapW W).get b = some (.cells c.size 1 (wr .e 0 (c.toList.map (abs0 W))) false) := by
  have hb : b < W.heap.size := (Array.getElem?_eq_some_iff.1 hc).1
  rw [heapW_get, if_pos hb]
  unfold blkW
  rw [hc]
theorem wrW_get {W : World} {c : Array Value} {j : Nat} {v : Value} (h : c[j]? = some v) : (wr (.e : PT V) 0 (c.toList.map (abs0 W))).get j = some (abs0 W v) := by
  have hj := (Array.getElem?_eq_some_iff.1 h).1
  rw [wr_get, if_pos (by simpa using hj), Nat.sub_zero, List.getElem?_map, Array.getElem?_toList, h]
  rfl
theorem addr_add (a : Addr) (j : Nat) : (a.add j).block = a.block ∧ (a.add j).off = a.off + j ∧ (a.spot = none → (a.add j).spot = none) ∧ (j = 0 → (a.add j).spot = none → a.spot = none) := by
  unfold Addr.add
  obtain ⟨b, o, s⟩ := a
  by_cases hj : j = 0
  · subst hj; simp
  · cases s <;> simp [hj]

variable {H : Type} {enc : TypeId × Value → H}
theorem trod_ty {P : Program} {W : World} {sp : Nat → Bool} {held : Bool} : ∀ (fuel : Nat) (t : TypeId) (cs : List Value) (x : DataW H × List MemPlace), DataW.trod enc P W 0 sp held fuel t cs = some x → Ty P (heapW W) fuel t (cs.map (abs0 W))
  | 0, t, cs, x, h => by simp [DataW.trod] at h
  | fuel + 1, t, cs, x, h => by
    show (match P.underlying t with
    | some .bool => ∃ b, cs.map (abs0 W) = [.b b]
    | some (.int k) => ∃ m, cs.map (abs0 W) = [.i k m] ∧ (Lit.int k m).wf = true
    | some .string => ∃ s : List UInt8, cs.map (abs0 W) = [.s (SB.ofL s)] ∧ s.length ≤ maxLen
    | some (.slice e) => P.cellsOf e = 0 ∨ cs.map (abs0 W) = [.und] ∨ ∃ v rows, cs.map (abs0 W) = [v] ∧ SlAt (heapW W) v (P.cellsOf e) rows ∧ rows.length ≤ maxLen ∧ ∀ r ∈ rows, Ty P (heapW W) fuel e r
    | some (.struct fs) => (cs.map (abs0 W)).length = P.cellsOf t ∧ ∀ f ∈ fs.toList, Ty P (heapW W) fuel f.type (((cs.map (abs0 W)).drop f.offset).take (P.cellsOf f.type))
    | some (.array m e) => (cs.map (abs0 W)).length = P.cellsOf t ∧ ∀ i, i < m → Ty P (heapW W) fuel e (((cs.map (abs0 W)).drop (i * P.cellsOf e)).take (P.cellsOf e))
    | _ => True)
    cases hd : P.underlying t with
    | none => trivial
    | some d =>
      cases d <;> try trivial
      · obtain ⟨b, rfl, _⟩ := DataW.trod_bool hd h
        exact ⟨b, rfl⟩
      · obtain ⟨n, rfl, _, hw⟩ := DataW.trod_int hd h
        exact ⟨n, rfl, hw⟩
      · obtain ⟨s, rfl, _, hs⟩ := DataW.trod_string hd h
        exact ⟨s.data.toList, rfl, by simpa using hs⟩
      · rename_i e
        simp only
        by_cases hce : P.cellsOf e = 0
        · exact .inl hce
        refine .inr ?_
        rcases DataW.trod_slice hd h with ⟨rfl, _⟩ | ⟨a, len, cap, elems, rest, n, hn, rfl, _, _, h1, h2, h3, h4, _, _⟩
        · exact .inr ⟨.sl none 0 0 true, [], rfl, .inl ⟨rfl, rfl⟩, Nat.zero_le _, fun r hr => by cases hr⟩
        · cases hn
          have hel : ∀ i, i < len → ∃ cs', W.cells? 0 (a.add (i * P.cellsOf e)) (P.cellsOf e) = some cs' ∧ ∃ y, DataW.trod enc P W 0 sp held fuel e cs' = some y := fun i hi => by
            have := h4 i hi
            rw [List.getElem?_eq_getElem (by omega)] at this
            cases hc : W.cells? 0 (a.add (i * P.cellsOf e)) (P.cellsOf e) with
            | none => rw [hc] at this; cases this
            | some cs' => rw [hc] at this; exact ⟨cs', rfl, _, this⟩
          cases hok : and (okP W a) (decide (len ≤ cap)) with
          | false => left; simp only [List.map, abs0]; rw [hok]; rfl
          | true =>
            right
            have hv : abs0 W (.slice (some a) len cap) = .sl (some (a.block, a.off)) len cap true := by simp only [abs0]; rw [hok]; rfl
            have hok' := hok
            simp only [Bool.and_eq_true] at hok'
            obtain ⟨ea, _⟩ := okP_spec hok'.1
            have hsp : a.spot = none := by rw [ea]
            obtain ⟨f, hf1, hf2⟩ : ∃ f : Nat → List Value, (∀ i, i < len → W.cells? 0 (a.add (i * P.cellsOf e)) (P.cellsOf e) = some (f i)) ∧ ∀ i, i < len → ∃ y, DataW.trod enc P W 0 sp held fuel e (f i) = some y :=
              ⟨fun i => if hi : i < len then Classical.choose (hel i hi) else [], fun i hi => by simp only [dif_pos hi]; exact (Classical.choose_spec (hel i hi)).1, fun i hi => by simp only [dif_pos hi]; exact (Classical.choose_spec (hel i hi)).2⟩
            refine ⟨_, (List.range len).map fun i => (f i).map (abs0 W), by simp only [List.map]; rw [hv], .inr ⟨a.block, a.off, cap, true, by simp, by simpa using h1, fun hlen => ?_⟩, by simp; omega, fun r hr => ?_⟩
            · have hl0 : 0 < len := by simpa using hlen
              -- the block
              have cell : ∀ i j v, i < len → (f i)[j]? = some v → W.cell? ⟨a.block, a.off + i * P.cellsOf e + j, none⟩ = some v := fun i j v hi hj => by
                have := (cells?_get (hf1 i hi)).2 j v hj
                have e1 : (a.add (i * P.cellsOf e)).add j = ⟨a.block, a.off + i * P.cellsOf e + j, none⟩ := by
                  have q1 := addr_add a (i * P.cellsOf e)
                  have q2 := addr_add (a.add (i * P.cellsOf e)) j
                  cases hq : (a.add (i * P.cellsOf e)).add j with
                  | mk b o s =>
                    rw [hq] at q2
                    obtain ⟨r1, r2, r3, _⟩ := q2
                    simp only at r1 r2 r3
                    rw [r1, r2, q1.1, q1.2.1, r3 (q1.2.2.1 hsp)]
                rw [e1] at this; exact this
              have hlenf : ∀ i, i < len → (f i).length = P.cellsOf e := fun i hi => (cells?_get (hf1 i hi)).1
              obtain ⟨v0, hv0⟩ : ∃ v, (f (len - 1))[P.cellsOf e - 1]? = some v := ⟨_, List.getElem?_eq_getElem (by rw [hlenf _ (by omega)]; omega)⟩
              have c0 := cell (len - 1) (P.cellsOf e - 1) v0 (by omega) hv0
              obtain ⟨_, c, el, fr, hc, hcv⟩ := cell?_inv c0
              have hlt := (Array.getElem?_eq_some_iff.1 hcv).1
              have hm : (len - 1) * P.cellsOf e + P.cellsOf e = len * P.cellsOf e := by
                have : len = (len - 1) + 1 := by omega
                rw [this, Nat.add_mul, Nat.one_mul]; simp
              refine ⟨c.size, 1, _, false, heapW_cell (off := 0) hc, by simp only [List.length_map, List.length_range]; simp only at hlt; omega, fun i r hr => ?_⟩
              have hi : i < len := by have := (List.getElem?_eq_some_iff.1 hr).1; simpa using this
              rw [List.getElem?_map, List.getElem?_range hi] at hr
              simp only [Option.map_some, Option.some.injEq] at hr
              subst hr
              refine ⟨by rw [List.length_map, hlenf i hi], fun j u hu => ?_⟩
              rw [List.getElem?_map] at hu
              cases hj : (f i)[j]? with
              | none => rw [hj] at hu; cases hu
              | some v =>
                rw [hj] at hu; cases hu
                obtain ⟨_, c', el', fr', hc', hcv'⟩ := cell?_inv (cell i j v hi hj)
                simp only at hc hc' hcv'
                rw [hc] at hc'; cases hc'
                exact wrW_get hcv'
            · obtain ⟨i, hi, rfl⟩ := List.mem_map.1 hr
              obtain ⟨y, hy⟩ := hf2 i (List.mem_range.1 hi)
              exact trod_ty fuel e (f i) y hy
      · rename_i m e
        simp only
        unfold DataW.trod at h
        rw [hd] at h
        have h : (if cs.length = P.cellsOf t then ((List.range m).mapM fun i => DataW.trod enc P W 0 sp held fuel e ((cs.drop (i * P.cellsOf e)).take (P.cellsOf e))).map fun xs => ((.agg (xs.map (·.1)) : DataW H), xs.flatMap (·.2)) else none) = some x := by
          split at h <;> first | exact h | (rename_i q _; cases q) | skip
          all_goals simp_all
        split at h
        · rename_i hl
          refine ⟨by simpa using hl, fun i hi => ?_⟩
          obtain ⟨xs, hxs, _⟩ := Option.map_eq_some_iff.1 h
          have : ∃ y, DataW.trod enc P W 0 sp held fuel e ((cs.drop (i * P.cellsOf e)).take (P.cellsOf e)) = some y := by
            have key : ∀ (l : List Nat) (ys : List (DataW H × List MemPlace)), l.mapM (fun i => DataW.trod enc P W 0 sp held fuel e ((cs.drop (i * P.cellsOf e)).take (P.cellsOf e))) = some ys → ∀ i ∈ l, ∃ y, DataW.trod enc P W 0 sp held fuel e ((cs.drop (i * P.cellsOf e)).take (P.cellsOf e)) = some y := by
              intro l
              induction l with
              | nil => intro ys _ i hi; cases hi
              | cons z l ih =>
                intro ys hys i hi
                rw [List.mapM_cons] at hys
                cases hz : DataW.trod enc P W 0 sp held fuel e ((cs.drop (z * P.cellsOf e)).take (P.cellsOf e)) with
                | none => rw [hz] at hys; simp at hys
                | some y =>
                  rcases List.mem_cons.1 hi with rfl | hi
                  · exact ⟨y, hz⟩
                  · rw [hz] at hys
                    cases hl : l.mapM (fun i => DataW.trod enc P W 0 sp held fuel e ((cs.drop (i * P.cellsOf e)).take (P.cellsOf e))) with
                    | none => rw [hl] at hys; simp at hys
                    | some k => exact ih k hl i hi
            exact key _ _ hxs i (List.mem_range.2 hi)
          obtain ⟨y, hy⟩ := this
          rw [← List.map_drop, ← List.map_take]
          exact trod_ty fuel e _ y hy
        · cases h
      · rename_i fs
        obtain ⟨xs, n, hn, _, hl, hxl, hf⟩ := DataW.trod_struct hd h
        cases hn
        refine ⟨by simpa using hl, fun f hfm => ?_⟩
        obtain ⟨i, hi, rfl⟩ := List.getElem_of_mem hfm
        have hi' : i < fs.size := by simpa using hi
        have := hf i fs[i] (by simp [hi'])
        rw [List.getElem?_eq_getElem (by omega)] at this
        rw [← List.map_drop, ← List.map_take]
        simp only [Array.getElem_toList]
        exact trod_ty fuel _ _ _ this
end Go.Ab
