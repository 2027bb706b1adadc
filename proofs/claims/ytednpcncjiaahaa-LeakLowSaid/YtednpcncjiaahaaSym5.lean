/-
  Slices among what a call has of its own. Conditions: none.
-/
import Derived.Test.YtednpcncjiaahaaSym4
set_option linter.unusedVariables false
set_option linter.unusedSimpArgs false
namespace Go.Ab
open Go
/-- where a slice lies -/
def addrV : V → Option Nat
  | .sl (some (a, _)) _ _ _ => some a
  | _ => none
theorem addr_o (v : V) (es : Nat) (rows : List (List V)) : (Res.o v es rows).addr = addrV v := by
  unfold Res.addr addrV
  cases v <;> try rfl
  rename_i a _ _ _
  cases a <;> rfl
theorem Own.new' {h0 h : Heap} (k : h0.next ≤ h.next) {es : Nat} {rows : List (List V)} (hl : ∀ r ∈ rows, r.length = es) (ex : Bool) : Own h0 (h.new (.cells rows.flatten.length es (wr .e 0 rows.flatten) true)) (.sl (some (h.next, 0)) rows.length rows.length ex) es rows :=
  .inr ⟨h.next, ex, _, _, rfl, k, Heap.get_new h _, by rw [flat_len hl]; exact Nat.le_refl _, RowsAt.wr0 hl⟩
theorem append_shape {P : Program} {t : TypeId} {es bs : Nat} (hT : slTy P t es bs = true) {h0 h : Heap} {v x : V} {rows rows2 : List (List V)} (ho : Own h0 h v es rows) (hx : SlAt h x es rows2)
    (hl2 : ∀ r ∈ rows2, r.length = es) (h2 : ∀ r ∈ rows2, r.all V.sc = true) (hz1 : rows.length + rows2.length ≤ 4611686018427387904) (hz2 : (rows.length + rows2.length) * bs ≤ 140737488355328) (hk : h0.next ≤ h.next) :
    ∃ v' h', appendV P t t v x h = some (v', h') ∧ (h' = h ∨ (∃ B, h' = h.new B) ∨ ∃ a B, addrV v = some a ∧ h0.next ≤ a ∧ h' = (h.upd a .dead).new B) ∧ (addrV v' = addrV v ∨ ∀ a, addrV v' = some a → h.next ≤ a) ∧ Own h0 h' v' es (rows ++ rows2) := by
  obtain ⟨e, i, z, hu, hi, hz, hnu, hzs, his, hib⟩ := slTy_spec hT
  unfold appendV
  rw [hu]; simp only
  rw [hi]; simp only
  rw [hz]; simp only
  rw [okc_true (by rw [hnu, hzs, Nat.beq_refl]; rfl), his, srcV_sl hu _ hx h2, hib]
  simp only
  rcases ho with ⟨rfl, rfl⟩ | ⟨a, ex, n, tr, rfl, ha, h3, h4, h5⟩
  · simp only
    by_cases hm : rows2.length = 0
    · have : rows2 = [] := List.eq_nil_of_length_eq_zero hm
      subst this
      exact ⟨_, h, rfl, .inl rfl, .inl rfl, .inl ⟨rfl, rfl⟩⟩
    · have : Nat.beq rows2.length 0 = false := by cases hb : Nat.beq rows2.length 0 with | false => rfl | true => exact absurd (Nat.eq_of_beq_eq_true hb) hm
      rw [this]
      simp only [cond_false]
      rw [okc_true (by rw [Nat.ble_eq_true_of_le (by simpa using hz1), Nat.ble_eq_true_of_le (by simpa using hz2)]; rfl)]
      exact ⟨_, _, rfl, (.inr (.inl ⟨_, rfl⟩)), (.inr fun a ha => by cases ha; exact Nat.le_refl _), by simpa using Own.new' hk hl2 false⟩
  · simp only
    rw [okc_true (by rw [Nat.ble_eq_true_of_le hz1, Nat.ble_eq_true_of_le hz2]; rfl)]
    by_cases hm : rows2.length = 0
    · have : rows2 = [] := List.eq_nil_of_length_eq_zero hm
      subst this
      simp only [List.length_nil, Nat.add_zero, List.append_nil]
      rw [Nat.ble_eq_true_of_le (Nat.le_refl _)]
      exact ⟨_, h, rfl, .inl rfl, .inl rfl, .inr ⟨a, ex, n, tr, rfl, ha, h3, h4, h5⟩⟩
    · have hb : Nat.ble (rows.length + rows2.length) rows.length = false := by
        cases hb : Nat.ble (rows.length + rows2.length) rows.length with
        | false => rfl
        | true => have := Nat.le_of_ble_eq_true hb; omega
      rw [hb]
      simp only [cond_false]
      cases ex with
      | true =>
        simp only
        cases rows with
        | nil =>
          simp only [List.length_nil, List.nil_append]
          exact ⟨_, _, rfl, (.inr (.inl ⟨_, rfl⟩)), (.inr fun a ha => by cases ha; exact Nat.le_refl _), Own.new' hk hl2 false⟩
        | cons r rows =>
          simp only [List.length_cons]
          rw [h3]; simp only
          rw [okc_true (Nat.ble_eq_true_of_le (by simpa using h4)), show (rows.length + 1) * es = (r :: rows).length * es from rfl, h5.read]
          simp only [Bool.true_or]
          refine ⟨_, _, rfl, (.inr (.inl ⟨_, rfl⟩)), (.inr fun a ha => by cases ha; exact Nat.le_refl _), ?_⟩
          have hl : ∀ q ∈ (r :: rows) ++ rows2, q.length = es := fun q hq => by
            rcases List.mem_append.1 hq with hq | hq
            · exact h5.lens q hq
            · exact hl2 q hq
          have := Own.new' hk hl false
          rw [List.flatten_append, List.length_append (as := r :: rows)] at this
          exact this
      | false =>
        simp only
        rw [h3]; simp only
        have hlt := Heap.lt_of_get h3
        rw [okc_true (by rw [blt_true hlt, Nat.beq_refl, Nat.beq_refl, Nat.ble_eq_true_of_le h4]; rfl)]
        refine ⟨_, _, rfl, (.inr (.inr ⟨a, _, rfl, ha, rfl⟩)), (.inr fun a ha => by cases ha; exact Nat.le_refl _), ?_⟩
        refine .inr ⟨(h.upd a .dead).next, false, _, _, by rw [List.length_append]; rfl, ?_, Heap.get_new _ _, by rw [List.length_append]; exact Nat.le_refl _, ?_⟩
        · exact hk
        · have hl : ∀ q ∈ rows ++ rows2, q.length = es := fun q hq => by
            rcases List.mem_append.1 hq with hq | hq
            · exact h5.lens q hq
            · exact hl2 q hq
          refine RowsAt.of hl fun k u hk => ?_
          rw [List.flatten_append] at hk
          have hf := flat_len h5.lens
          rw [wr_get]
          by_cases hk1 : k < rows.flatten.length
          · rw [List.getElem?_append_left hk1] at hk
            rw [if_neg (by omega)]
            exact h5.flat k u hk
          · rw [List.getElem?_append_right (by omega)] at hk
            have := (List.getElem?_eq_some_iff.1 hk).1
            rw [if_pos (by omega), ← hk, hf]; congr 1; omega

theorem Own.ge {h0 h : Heap} {v : V} {es : Nat} {rows : List (List V)} (o : Own h0 h v es rows) {a : Nat} (ha : addrV v = some a) : h0.next ≤ a := by
  rcases o with ⟨rfl, _⟩ | ⟨b, ex, n, tr, rfl, h2, _⟩
  · cases ha
  · cases ha; exact h2
/-- a slice is made of its elements -/
theorem e_bsl {h0 H : Heap} {c : List Nat} {L : List Res} (S : Sx h0 H c L) {r : Option (V × Heap)} {l : List V} {es n : Nat} (e : r = some (newSl l es n H)) {rows : List (List V)} (hl : ∀ r ∈ rows, r.length = es) (hf : l = rows.flatten) (hn : n = rows.length) {K : Kt} {Q : V → Heap → Prop}
    (hK : ∀ v H', Sx h0 H' c (.o v es rows :: L) → Lit' v → H'.next = H.next + 1 → H'.wl = H.wl → RetsQ (K v H') h0 Q) : RetsQ (o2 r K) h0 Q := by
  subst hf; subst hn
  rw [e, o2_pair]
  have o := Own.new' S.mem.next hl true (h0 := h0) (h := H)
  refine hK _ _ ?_ (fun _ _ _ h => by cases h) rfl rfl
  refine S.new (S.mem.trans (Mem.new H _)) S.wl (fun a ha => Heap.get_new_other H _ (by omega)) ⟨o, fun a ha => by rw [addr_o] at ha; exact o.ge ha⟩ (fun a ha => by cases ha; exact Nat.le_refl _)
theorem Sx.ge {h0 H : Heap} {L : List Res} (S : Sx h0 H [] L) : ∀ x ∈ H.wl, h0.next ≤ x := by
  obtain ⟨w, h1, h2⟩ := S.wl
  rw [h1, List.append_nil]; exact h2
/-- a slice grows -/
theorem e_app {P : Program} {t : TypeId} {es bs : Nat} (hT : slTy P t es bs = true) {h0 H : Heap} {c : List Nat} {L : List Res} {L' : V → List Res} (S : Sx h0 H c L) {v x : V} {rows rows2 : List (List V)} (hx : SlAt H x es rows2)
    (hl2 : ∀ r ∈ rows2, r.length = es) (h2 : ∀ r ∈ rows2, r.all V.sc = true) (hz1 : rows.length + rows2.length ≤ 4611686018427387904) (hz2 : (rows.length + rows2.length) * bs ≤ 140737488355328) {K : Kt} {Q : V → Heap → Prop}
    (hu : ∀ v', Upd L (.o v es rows) (.o v' es (rows ++ rows2)) (L' v')) (hK : ∀ v' H', Sx h0 H' c (L' v') → H.next ≤ H'.next → RetsQ (K v' H') h0 Q) : RetsQ (o2 (appendV P t t v x H) K) h0 Q := by
  have ho := S.own _ (hu v).mem
  obtain ⟨v', H', e, sh, ad, o⟩ := append_shape hT (h0 := h0) (h := H) ho.1 hx hl2 h2 hz1 hz2 S.mem.next
  rw [e, o2_some]
  have fr : H.next ≤ H'.next ∧ Mem h0 H' ∧ (∃ w, H'.wl = w ++ c ∧ ∀ x ∈ w, h0.next ≤ x) ∧ ∀ a, a < H.next → addrV v ≠ some a → H'.get a = H.get a := by
    rcases sh with rfl | ⟨B, rfl⟩ | ⟨a, B, ha, hge, rfl⟩
    · exact ⟨Nat.le_refl _, S.mem, S.wl, fun _ _ _ => rfl⟩
    · exact ⟨Nat.le_succ _, S.mem.trans (Mem.new H B), S.wl, fun a h _ => Heap.get_new_other H B (by omega)⟩
    · have q : ∀ b, b < H.next → b ≠ a → ((H.upd a .dead).new B).get b = H.get b := fun b hb hba => by
        rw [Heap.get_new_other _ B (show b ≠ (H.upd a .dead).next from fun h => by have : (H.upd a .dead).next = H.next := rfl; omega), Heap.get_upd_other H a _ hba]
      refine ⟨Nat.le_succ _, ⟨Nat.le_trans S.mem.next (Nat.le_succ _), fun b hb => ?_⟩, ?_, fun b hb hne => q b hb (fun h => hne (by rw [h]; exact ha))⟩
      · rw [q b (Nat.lt_of_lt_of_le hb S.mem.next) (by omega)]; exact S.mem.old b hb
      · obtain ⟨w, h1, h2⟩ := S.wl
        exact ⟨a :: w, by show a :: H.wl = _; rw [h1]; rfl, fun x hx => by rcases List.mem_cons.1 hx with rfl | hx; exact hge; exact h2 x hx⟩
  refine hK v' H' (S.upd (hu v') fr.2.1 fr.2.2.1 (fun a h1 h2 => fr.2.2.2 a h1 (by rw [addr_o] at h2; exact h2)) ⟨o, fun a ha => by rw [addr_o] at ha; exact o.ge ha⟩ fun a ha => ?_) fr.1
  rw [addr_o] at ha ⊢
  rcases ad with h | h
  · exact .inl (by rw [← h]; exact ha)
  · exact .inr (h a ha)
/-- a part of a slice that is one's own -/
theorem own_slice {P : Program} {t e : TypeId} {es : Nat} (hu : P.underlying t = some (.slice e)) (hz : szOf P e = some es) {h0 H : Heap} {v : V} {rows : List (List V)} (o : Own h0 H v es rows) {n : Nat} (hn : n ≤ rows.length) (hp : 0 < rows.length) :
    ∃ v', sliceV P t v none (some (.i .i64 (n : Int))) none H = some (v', H) ∧ SlAt H v' es (rows.take n) := by
  rcases o with ⟨_, rfl⟩ | ⟨a, ex, m, tr, rfl, h2, h3, h4, h5⟩
  · simp at hp
  · have hb : boundsV rows.length rows.length none (some (.i .i64 (n : Int))) none = some (0, n, rows.length) := by
      show (match okc (Nat.ble n rows.length) (some n) with | some h => some (0, h, rows.length) | none => none) = _
      rw [okc_true (Nat.ble_eq_true_of_le (by omega))]
    have at_ : ∀ ex, SlAt H (.sl (some (a, 0)) n rows.length ex) es (rows.take n) := fun ex => by
      refine .inr ⟨a, 0, rows.length, ex, by rw [List.length_take, Nat.min_eq_left hn], by rw [List.length_take]; omega, fun hl => ⟨m, es, tr, true, h3, ?_, fun i r hi => ?_⟩⟩
      · rw [List.length_take, Nat.min_eq_left hn]
        have := Nat.mul_le_mul_right es hn
        omega
      · rw [List.getElem?_take] at hi
        split at hi
        · exact h5 i r hi
        · cases hi
    refine ⟨.sl (some (a, 0)) n rows.length ex, ?_, at_ ex⟩
    unfold sliceV
    rw [hu]; simp only
    rw [hb, hz]; simp only
    rw [okc_true (by rw [Nat.ble_eq_true_of_le (Nat.zero_le n), Nat.ble_eq_true_of_le hn]; rfl)]
    cases ex with
    | true =>
      simp only [Bool.true_or]
      congr 3
      rw [Nat.zero_mul]; cases Nat.beq rows.length 0 <;> rfl
    | false =>
      simp only [Option.isSome, Bool.or_false]
      rw [h3]; simp only
      rw [okc_true (Nat.beq_refl _), blt_true hp]
      simp only [Nat.zero_mul, Nat.zero_add, Nat.sub_zero]
end Go.Ab
