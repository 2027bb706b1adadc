/-
  Slices that grow: 'append' onto a slice that is the call's own. Conditions: none.
-/
import Derived.Test.YtednpcncjiaahaaSym1
set_option linter.unusedVariables false
set_option linter.unusedSimpArgs false
namespace Go.Ab
open Go

/-- a slice type: its element's cells and bytes -/
noncomputable def slTy (P : Program) (t : TypeId) (es bs : Nat) : Bool :=
  match P.underlying t with
  | some (.slice e) =>
    match P.info? e with
    | some i =>
      match i.zero with
      | some z => and (ofC z).nu (and (Nat.beq (ofC z).cells.length i.size) (and (Nat.beq i.size es) (Nat.beq i.bytes bs)))
      | none => false
    | none => false
  | _ => false
theorem slTy_spec {P : Program} {t : TypeId} {es bs : Nat} (h : slTy P t es bs = true) : ∃ e i z, P.underlying t = some (.slice e) ∧ P.info? e = some i ∧ i.zero = some z ∧ (ofC z).nu = true ∧ (ofC z).cells.length = i.size ∧ i.size = es ∧ i.bytes = bs := by
  unfold slTy at h
  cases hu : P.underlying t with
  | none => rw [hu] at h; cases h
  | some d =>
    rw [hu] at h
    cases d <;> try (cases h; done)
    case slice e =>
      simp only at h
      cases hi : P.info? e with
      | none => rw [hi] at h; cases h
      | some i =>
        rw [hi] at h; simp only at h
        cases hz : i.zero with
        | none => rw [hz] at h; cases h
        | some z =>
          rw [hz] at h; simp only [Bool.and_eq_true] at h
          obtain ⟨h1, h2, h3, h4⟩ := h
          exact ⟨e, i, z, rfl, hi, hz, h1, Nat.eq_of_beq_eq_true h2, Nat.eq_of_beq_eq_true h3, Nat.eq_of_beq_eq_true h4⟩
theorem okc_true {α : Type} {q : Bool} {x : Option α} (h : q = true) : okc q x = x := by rw [h]; rfl

/-- rows in a tree -/
def RowsAt (t : PT V) (o es : Nat) (rows : List (List V)) : Prop := ∀ (i : Nat) (r : List V), rows[i]? = some r → r.length = es ∧ ∀ (j : Nat) (u : V), r[j]? = some u → t.get (o + i * es + j) = some u
theorem flat_get {es : Nat} : ∀ {rows : List (List V)}, (∀ r ∈ rows, r.length = es) → ∀ {i j : Nat} {r : List V} {u : V}, rows[i]? = some r → r[j]? = some u → rows.flatten[i * es + j]? = some u
  | [], _, i, j, r, u, h, _ => by simp at h
  | q :: rows, hl, 0, j, r, u, h, hj => by
    simp only [List.getElem?_cons_zero, Option.some.injEq] at h
    subst h
    have := (List.getElem?_eq_some_iff.1 hj).1
    simp only [List.flatten_cons, Nat.zero_mul, Nat.zero_add]
    rw [List.getElem?_append_left this, hj]
  | q :: rows, hl, i + 1, j, r, u, h, hj => by
    simp only [List.getElem?_cons_succ] at h
    have hq := hl q (List.mem_cons_self ..)
    simp only [List.flatten_cons]
    rw [List.getElem?_append_right (by rw [hq, Nat.add_mul]; omega)]
    have : (i + 1) * es + j - q.length = i * es + j := by rw [hq, Nat.add_mul]; omega
    rw [this]
    exact flat_get (fun r hr => hl r (List.mem_cons_of_mem _ hr)) h hj
theorem flat_len {es : Nat} : ∀ {rows : List (List V)}, (∀ r ∈ rows, r.length = es) → rows.flatten.length = rows.length * es
  | [], _ => by simp
  | q :: rows, hl => by
    rw [List.flatten_cons, List.length_append, hl q (List.mem_cons_self ..), flat_len (fun r hr => hl r (List.mem_cons_of_mem _ hr)), List.length_cons, Nat.add_mul]; omega
theorem RowsAt.of {t : PT V} {o es : Nat} {rows : List (List V)} (hl : ∀ r ∈ rows, r.length = es) (h : ∀ (k : Nat) (u : V), rows.flatten[k]? = some u → t.get (o + k) = some u) : RowsAt t o es rows := by
  intro i r hi
  refine ⟨hl r (List.mem_of_getElem? hi), fun j u hj => ?_⟩
  rw [Nat.add_assoc]
  exact h _ _ (flat_get hl hi hj)
theorem RowsAt.lens {t : PT V} {o es : Nat} {rows : List (List V)} (h : RowsAt t o es rows) : ∀ r ∈ rows, r.length = es := by
  intro r hr
  obtain ⟨i, hi⟩ := List.getElem?_of_mem hr
  exact (h i r hi).1
theorem RowsAt.flat {t : PT V} {es : Nat} : ∀ {rows : List (List V)} {o : Nat}, RowsAt t o es rows → ∀ (k : Nat) (u : V), rows.flatten[k]? = some u → t.get (o + k) = some u
  | [], o, _, k, u, h => by simp at h
  | q :: rows, o, hr, k, u, h => by
    have h0 := hr 0 q rfl
    rw [List.flatten_cons] at h
    by_cases hk : k < q.length
    · rw [List.getElem?_append_left hk] at h
      have := h0.2 k u h
      rw [Nat.zero_mul, Nat.add_zero] at this; exact this
    · rw [List.getElem?_append_right (by omega)] at h
      have hrest : RowsAt t (o + es) es rows := by
        intro i r hi
        obtain ⟨a, b⟩ := hr (i + 1) r hi
        refine ⟨a, fun j u hj => ?_⟩
        have := b j u hj
        rw [Nat.add_mul, Nat.one_mul] at this
        rw [← this]; congr 1; omega
      have := RowsAt.flat hrest _ u h
      rw [← this]; congr 1; have := h0.1; omega
theorem RowsAt.read {t : PT V} {o es : Nat} {rows : List (List V)} (h : RowsAt t o es rows) : readN t o (rows.length * es) = some rows.flatten := by
  rw [← flat_len h.lens]
  exact readN_of h.flat
theorem all_flat {rows : List (List V)} (h : ∀ r ∈ rows, r.all V.sc = true) : rows.flatten.all V.sc = true := by
  rw [List.all_eq_true]
  intro x hx
  obtain ⟨r, hr, hx⟩ := List.mem_flatten.1 hx
  exact List.all_eq_true.1 (h r hr) x hx
theorem RowsAt.wr0 {es : Nat} {rows : List (List V)} (hl : ∀ r ∈ rows, r.length = es) : RowsAt (wr .e 0 rows.flatten) 0 es rows := by
  refine RowsAt.of hl fun k u hk => ?_
  have := (List.getElem?_eq_some_iff.1 hk).1
  rw [wr_get, if_pos (by omega)]
  rw [← hk]; congr 1; omega

/-- a slice that is the call's own: its row was made since 'h0' -/
def Own (h0 h : Heap) (v : V) (es : Nat) (rows : List (List V)) : Prop :=
  (v = .sl none 0 0 true ∧ rows = []) ∨ ∃ a ex n tr, v = .sl (some (a, 0)) rows.length rows.length ex ∧ h0.next ≤ a ∧ h.get a = some (.cells n es tr true) ∧ rows.length * es ≤ n ∧ RowsAt tr 0 es rows
theorem Own.sl {h0 h : Heap} {v : V} {es : Nat} {rows : List (List V)} (o : Own h0 h v es rows) : SlAt h v es rows := by
  rcases o with o | ⟨a, ex, n, tr, h1, h2, h3, h4, h5⟩
  · exact .inl o
  · exact .inr ⟨a, 0, _, ex, h1, Nat.le_refl _, fun _ => ⟨n, es, tr, true, h3, by omega, h5⟩⟩
theorem Own.nil (h0 h : Heap) (es : Nat) : Own h0 h (.sl none 0 0 true) es [] := .inl ⟨rfl, rfl⟩
theorem Own.keep {h0 h h' : Heap} {v : V} {es : Nat} {rows : List (List V)} (o : Own h0 h v es rows) (k : Keep h h') : Own h0 h' v es rows := by
  rcases o with o | ⟨a, ex, n, tr, h1, h2, h3, h4, h5⟩
  · exact .inl o
  · exact .inr ⟨a, ex, n, tr, h1, h2, k.get h3, h4, h5⟩
theorem Own.new {h0 h : Heap} (k : Keep h0 h) {es : Nat} {rows : List (List V)} (hl : ∀ r ∈ rows, r.length = es) (ex : Bool) : Own h0 (h.new (.cells rows.flatten.length es (wr .e 0 rows.flatten) true)) (.sl (some (h.next, 0)) rows.length rows.length ex) es rows :=
  .inr ⟨h.next, ex, _, _, rfl, k.next, Heap.get_new h _, by rw [flat_len hl]; exact Nat.le_refl _, RowsAt.wr0 hl⟩
theorem srcV_sl {P : Program} {t : TypeId} {e : TypeId} (hu : P.underlying t = some (.slice e)) (zc : List V) {h : Heap} {x : V} {es : Nat} {rows : List (List V)} (hx : SlAt h x es rows) (h2 : ∀ r ∈ rows, r.all V.sc = true) : srcV P es zc t x h = some (rows.length, rows.flatten) := by
  unfold srcV
  rw [hu]
  rcases hx with ⟨rfl, rfl⟩ | ⟨b, o, cap, ex, rfl, _, h3⟩
  · rfl
  · cases rows with
    | nil => rfl
    | cons r rows =>
      obtain ⟨n, e, t, own, q1, q2, q3⟩ := h3 (by simp)
      simp only [List.length_cons]
      rw [q1]
      simp only
      rw [okc_true (Nat.ble_eq_true_of_le (by simpa using q2)), show (rows.length + 1) * es = (r :: rows).length * es from rfl, RowsAt.read (rows := r :: rows) q3]
      simp only
      rw [all_flat h2, Bool.or_true]; rfl
theorem append_own {P : Program} {t : TypeId} {es bs : Nat} (hT : slTy P t es bs = true) {h0 h : Heap} {v x : V} {rows rows2 : List (List V)} (ho : Own h0 h v es rows) (hx : SlAt h x es rows2)
    (hl2 : ∀ r ∈ rows2, r.length = es) (h2 : ∀ r ∈ rows2, r.all V.sc = true) (hz1 : rows.length + rows2.length ≤ 4611686018427387904) (hz2 : (rows.length + rows2.length) * bs ≤ 140737488355328) (hk : Keep h0 h) :
    ∃ v' h', appendV P t t v x h = some (v', h') ∧ Keep h0 h' ∧ Own h0 h' v' es (rows ++ rows2) := by
  obtain ⟨e, i, z, hu, hi, hz, hnu, hzs, his, hib⟩ := slTy_spec hT
  unfold appendV
  rw [hu]; simp only
  rw [hi]; simp only
  rw [hz]; simp only
  rw [okc_true (by rw [hnu, hzs, Nat.beq_refl]; rfl), his, srcV_sl hu _ hx h2, hib]
  simp only
  rcases ho with ⟨rfl, rfl⟩ | ⟨a, ex, n, tr, rfl, ha, h3, h4, h5⟩
  · simp only
    by_cases hm : rows2.length = 0
    · have : rows2 = [] := List.eq_nil_of_length_eq_zero hm
      subst this
      exact ⟨_, h, rfl, hk, .inl ⟨rfl, rfl⟩⟩
    · have : Nat.beq rows2.length 0 = false := by cases hb : Nat.beq rows2.length 0 with | false => rfl | true => exact absurd (Nat.eq_of_beq_eq_true hb) hm
      rw [this]
      simp only [cond_false]
      rw [okc_true (by rw [Nat.ble_eq_true_of_le (by simpa using hz1), Nat.ble_eq_true_of_le (by simpa using hz2)]; rfl)]
      exact ⟨_, _, rfl, hk.trans (Keep.new h _), by simpa using Own.new hk hl2 false⟩
  · simp only
    rw [okc_true (by rw [Nat.ble_eq_true_of_le hz1, Nat.ble_eq_true_of_le hz2]; rfl)]
    by_cases hm : rows2.length = 0
    · have : rows2 = [] := List.eq_nil_of_length_eq_zero hm
      subst this
      simp only [List.length_nil, Nat.add_zero, List.append_nil]
      rw [Nat.ble_eq_true_of_le (Nat.le_refl _)]
      exact ⟨_, h, rfl, hk, .inr ⟨a, ex, n, tr, rfl, ha, h3, h4, h5⟩⟩
    · have hb : Nat.ble (rows.length + rows2.length) rows.length = false := by
        cases hb : Nat.ble (rows.length + rows2.length) rows.length with
        | false => rfl
        | true => have := Nat.le_of_ble_eq_true hb; omega
      rw [hb]
      simp only [cond_false]
      cases ex with
      | true =>
        simp only
        cases rows with
        | nil =>
          simp only [List.length_nil, List.nil_append]
          exact ⟨_, _, rfl, hk.trans (Keep.new h _), Own.new hk hl2 false⟩
        | cons r rows =>
          simp only [List.length_cons]
          rw [h3]; simp only
          rw [okc_true (Nat.ble_eq_true_of_le (by simpa using h4)), show (rows.length + 1) * es = (r :: rows).length * es from rfl, h5.read]
          simp only [Bool.true_or]
          refine ⟨_, _, rfl, hk.trans (Keep.new h _), ?_⟩
          have hl : ∀ q ∈ (r :: rows) ++ rows2, q.length = es := fun q hq => by
            rcases List.mem_append.1 hq with hq | hq
            · exact h5.lens q hq
            · exact hl2 q hq
          have := Own.new hk hl false
          rw [List.flatten_append, List.length_append (as := r :: rows)] at this
          exact this
      | false =>
        simp only
        rw [h3]; simp only
        have hlt := Heap.lt_of_get h3
        rw [okc_true (by rw [blt_true hlt, Nat.beq_refl, Nat.beq_refl, Nat.ble_eq_true_of_le h4]; rfl)]
        refine ⟨_, _, rfl, (hk.upd ha .dead).trans (Keep.new _ _), ?_⟩
        refine .inr ⟨(h.upd a .dead).next, false, _, _, by rw [List.length_append]; rfl, ?_, Heap.get_new _ _, by rw [List.length_append]; exact Nat.le_refl _, ?_⟩
        · exact (hk.upd ha .dead).next
        · have hl : ∀ q ∈ rows ++ rows2, q.length = es := fun q hq => by
            rcases List.mem_append.1 hq with hq | hq
            · exact h5.lens q hq
            · exact hl2 q hq
          refine RowsAt.of hl fun k u hk => ?_
          rw [List.flatten_append] at hk
          have hf := flat_len h5.lens
          rw [wr_get]
          by_cases hk1 : k < rows.flatten.length
          · rw [List.getElem?_append_left hk1] at hk
            rw [if_neg (by omega)]
            exact h5.flat k u hk
          · rw [List.getElem?_append_right (by omega)] at hk
            have := (List.getElem?_eq_some_iff.1 hk).1
            rw [if_pos (by omega), ← hk, hf]; congr 1; omega
/-- a slice made of its elements -/
theorem Own.made {h0 h : Heap} (k : Keep h0 h) {es : Nat} {rows : List (List V)} (hl : ∀ r ∈ rows, r.length = es) {l : List V} (e : l = rows.flatten) {len : Nat} (hn : len = rows.length) : Own h0 (newSl l es len h).2 (newSl l es len h).1 es rows := by
  subst e; subst hn
  exact Own.new k hl true
theorem Keep.newSl {h0 h : Heap} (k : Keep h0 h) (l : List V) (es len : Nat) : Keep h0 (newSl l es len h).2 := k.trans (Keep.new h _)
end Go.Ab
