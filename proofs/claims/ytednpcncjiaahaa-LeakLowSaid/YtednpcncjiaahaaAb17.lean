/-
  An abstract interpreter of the model's code, part 17: rows of operations in whatever order: what stays true. Conditions: none.
-/
import Derived.Test.YtednpcncjiaahaaAb16
set_option linter.unusedVariables false
set_option linter.unusedSimpArgs false
namespace Go.Ab
open Go

/-- a load that gets one value ahead of what another one writes and behind it -/
def LD (P : Program) (ng : Nat) (ops : Array Oper) (T : Nat → PT V) (H : Nat → Heap) (k i : Nat) : Prop :=
  ∃ o ty a v, ops[k]? = some o ∧ o.op = .load ty a ∧ loadV P ty (ev ng (T k) a) (H k) = some v ∧ loadV P ty (ev ng (T k) a) (H i) = some v ∧ loadV P ty (ev ng (T k) a) (H (i + 1)) = some v

/-- a run in the order of the text, and what is asked of it -/
structure DT (P : Program) (callF : CallF) (ng nt : Nat) (ops : Array Oper) (T : Nat → PT V) (H : Nat → Heap) (I : Nat → Inf) (B : Nat → Nat → Prop) : Prop where
  cok : CallOk P ng callF
  ext : CallExt callF
  sel : ∀ (i : Nat) (o : Oper), ops[i]? = some o → SD P callF ng nt ops o (T i) (H i) (T (i + 1)) (H (i + 1)) (I i)
  clo : ∀ i j o, ops[j]? = some o → B i j → ∃ e ∈ o.after, Region.binds .any e = true ∧ (e.on = i ∨ B i e.on)
  back : ∀ j o, ops[j]? = some o → ∀ e ∈ o.after, Region.binds .any e = true → e.on < j
  pair : ∀ i j oi oj, i < j → ops[i]? = some oi → ops[j]? = some oj → B i j ∨ (oi.apart ops oj = true ∧ noTouch (I j) (I i).wr = true ∧ noTouch (I i) (I j).wr = true ∧ (accFree (I i) (I j) = true ∨ LD P ng ops T H i j) ∧ (accFree (I j) (I i) = true ∨ LD P ng ops T H j i))

section
variable {P : Program} {callF : CallF} {ng nt : Nat} {ops : Array Oper} {T : Nat → PT V} {H : Nat → Heap} {I : Nat → Inf} {B : Nat → Nat → Prop}

theorem get_op {ops : Array Oper} {i : Nat} (h : i < ops.size) : ∃ o, ops[i]? = some o := ⟨ops[i], by simp [h]⟩
theorem op_lt {ops : Array Oper} {i : Nat} {o : Oper} (h : ops[i]? = some o) : i < ops.size := (Array.getElem?_eq_some_iff.1 h).1

theorem DT.nx (d : DT P callF ng nt ops T H I B) {i : Nat} (hi : i < ops.size) : (I i).lo = (H i).next ∧ (I i).hi = (H (i + 1)).next ∧ (H i).next ≤ (H (i + 1)).next :=
  let ⟨o, ho⟩ := get_op hi; (d.sel i o ho).next
theorem DT.mono (d : DT P callF ng nt ops T H I B) {i j : Nat} (hij : i ≤ j) (hj : j ≤ ops.size) : (H i).next ≤ (H j).next := by
  induction j with
  | zero => have : i = 0 := by omega
            subst this; exact Nat.le_refl _
  | succ j ih =>
    rcases Nat.lt_or_ge i (j + 1) with h | h
    · exact Nat.le_trans (ih (by omega) (by omega)) (d.nx (by omega)).2.2
    · have : i = j + 1 := by omega
      subst this; exact Nat.le_refl _
theorem DT.keep (d : DT P callF ng nt ops T H I B) {i j : Nat} (hij : i ≤ j) (hj : j ≤ ops.size) {x : Nat} (hx : ∀ m, i ≤ m → m < j → ¬ (I m).touch x) : (H j).get x = (H i).get x := by
  induction j with
  | zero => have : i = 0 := by omega
            subst this; rfl
  | succ j ih =>
    rcases Nat.lt_or_ge i (j + 1) with h | h
    · obtain ⟨o, ho⟩ := get_op (show j < ops.size by omega)
      rw [(d.sel j o ho).keep d.ext (hx j (by omega) (by omega))]
      exact ih (by omega) (by omega) fun m h1 h2 => hx m h1 (by omega)
    · have : i = j + 1 := by omega
      subst this; rfl
theorem DT.tmp (d : DT P callF ng nt ops T H I B) {i j : Nat} (hij : i ≤ j) (hj : j ≤ ops.size) {x : Tmp} (hx : ∀ m o, i ≤ m → m < j → ops[m]? = some o → o.dst ≠ some x) : (T j).get x = (T i).get x := by
  induction j with
  | zero => have : i = 0 := by omega
            subst this; rfl
  | succ j ih =>
    rcases Nat.lt_or_ge i (j + 1) with h | h
    · obtain ⟨o, ho⟩ := get_op (show j < ops.size by omega)
      rw [(d.sel j o ho).tmp (hx j o (by omega) (by omega) ho)]
      exact ih (by omega) (by omega) fun m o h1 h2 => hx m o h1 (by omega)
    · have : i = j + 1 := by omega
      subst this; rfl
theorem DT.uniq (d : DT P callF ng nt ops T H I B) {i j x : Nat} (hi : i < ops.size) (hj : j < ops.size) (h1 : (I i).lo ≤ x) (h2 : x < (I i).hi) (h3 : (I j).lo ≤ x) (h4 : x < (I j).hi) : i = j := by
  obtain ⟨a1, a2, a3⟩ := d.nx hi
  obtain ⟨b1, b2, b3⟩ := d.nx hj
  rcases Nat.lt_trichotomy i j with h | h | h
  · have := d.mono (i := i + 1) (j := j) (by omega) (by omega)
    omega
  · exact h
  · have := d.mono (i := j + 1) (j := i) (by omega) (by omega)
    omega
theorem DT.cover (d : DT P callF ng nt ops T H I B) {j x : Nat} (hj : j ≤ ops.size) (h1 : (H 0).next ≤ x) (h2 : x < (H j).next) : ∃ i, i < j ∧ (I i).lo ≤ x ∧ x < (I i).hi := by
  induction j with
  | zero => omega
  | succ j ih =>
    rcases Nat.lt_or_ge x (H j).next with h | h
    · obtain ⟨i, a, b⟩ := ih (by omega) h
      exact ⟨i, by omega, b⟩
    · obtain ⟨a1, a2, _⟩ := d.nx (show j < ops.size by omega)
      exact ⟨j, by omega, by omega, by omega⟩
theorem DT.lt (d : DT P callF ng nt ops T H I B) : ∀ {j i : Nat}, j < ops.size → B i j → i < j := by
  intro j
  induction j using Nat.strongRecOn with
  | ind j ih =>
    intro i hj hb
    obtain ⟨o, ho⟩ := get_op hj
    obtain ⟨e, he, hbd, h⟩ := d.clo i j o ho hb
    have := d.back j o ho e he hbd
    rcases h with h | h
    · omega
    · have := ih e.on this (by omega) h
      omega

open Classical in
/-- what is known of a block behind some operations -/
noncomputable def gS (ops : Array Oper) (H : Nat → Heap) (I : Nat → Inf) (L : Array Bool) (x : Nat) : Option Blk :=
  if h : ∃ j, j ≤ ops.size ∧ ∀ i, i < ops.size → (I i).touch x → (L.getD i false = true ↔ i < j) then (H (Classical.choose h)).get x else none
theorem DT.gS_eq (d : DT P callF ng nt ops T H I B) {L : Array Bool} {x j : Nat} (hj : j ≤ ops.size) (h : ∀ i, i < ops.size → (I i).touch x → (L.getD i false = true ↔ i < j)) : gS ops H I L x = (H j).get x := by
  unfold gS
  have hex : ∃ j, j ≤ ops.size ∧ ∀ i, i < ops.size → (I i).touch x → (L.getD i false = true ↔ i < j) := ⟨j, hj, h⟩
  rw [dif_pos hex]
  obtain ⟨k1, k2⟩ := Classical.choose_spec hex
  generalize Classical.choose hex = k at k1 k2
  rcases Nat.le_total k j with hkj | hkj
  · exact (d.keep hkj hj fun m h1 h2 ht => by
      have := (h m (by omega) ht).2 h2
      have := (k2 m (by omega) ht).1 this
      omega).symm
  · exact d.keep hkj k1 fun m h1 h2 ht => by
      have := (k2 m (by omega) ht).2 h2
      have := (h m (by omega) ht).1 this
      omega
theorem DT.gS_congr (d : DT P callF ng nt ops T H I B) {L L' : Array Bool} {x : Nat} (h : ∀ i, i < ops.size → (I i).touch x → (L'.getD i false = true ↔ L.getD i false = true)) : gS ops H I L' x = gS ops H I L x := by
  by_cases hex : ∃ j, j ≤ ops.size ∧ ∀ i, i < ops.size → (I i).touch x → (L.getD i false = true ↔ i < j)
  · obtain ⟨j, hj, hh⟩ := hex
    rw [d.gS_eq hj hh, d.gS_eq hj fun i hi ht => (h i hi ht).trans (hh i hi ht)]
  · have hex' : ¬ ∃ j, j ≤ ops.size ∧ ∀ i, i < ops.size → (I i).touch x → (L'.getD i false = true ↔ i < j) := fun ⟨j, hj, hh⟩ => hex ⟨j, hj, fun i hi ht => (h i hi ht).symm.trans (hh i hi ht)⟩
    unfold gS
    rw [dif_neg hex, dif_neg hex']

theorem accFree_spec {a b : Inf} (h : accFree a b = true) : (∀ l, a.acc = some l → ∀ x ∈ l, ¬ b.touch x) ∧ (a.acc = none → b.wr = []) := by
  unfold accFree at h
  cases ha : a.acc with
  | none =>
    rw [ha] at h
    refine ⟨fun l hl => (by cases hl), fun _ => ?_⟩
    cases hb : b.wr with
    | nil => rfl
    | cons x l => rw [hb] at h; cases h
  | some l =>
    rw [ha] at h
    exact ⟨fun l' hl => by cases hl; exact noTouch_spec h, fun h' => by cases h'⟩

/-- what two operations of which none waits for the other one have to do with one another -/
structure Un (P : Program) (ng : Nat) (ops : Array Oper) (T : Nat → PT V) (H : Nat → Heap) (I : Nat → Inf) (i k : Nat) : Prop where
  dst : ∀ oi ok, ops[i]? = some oi → ops[k]? = some ok → (∀ d, oi.dst = some d → d ∉ ok.looksAt ops) ∧ (∀ d, oi.dst = some d → ok.dst ≠ some d)
  wr : ∀ x ∈ (I i).wr, ¬ (I k).touch x
  wr' : ∀ x ∈ (I k).wr, ¬ (I i).touch x
  acc : ((∀ l, (I k).acc = some l → ∀ x ∈ l, ¬ (I i).touch x) ∧ ((I k).acc = none → (I i).wr = [])) ∨ LD P ng ops T H k i
theorem DT.un (d : DT P callF ng nt ops T H I B) {i k : Nat} (hi : i < ops.size) (hk : k < ops.size) (hne : i ≠ k) : B i k ∨ B k i ∨ Un P ng ops T H I i k := by
  obtain ⟨oi, hoi⟩ := get_op hi
  obtain ⟨ok, hok⟩ := get_op hk
  rcases Nat.lt_or_ge i k with h | h
  · rcases d.pair i k oi ok h hoi hok with h1 | ⟨h1, c1, c2, c3, c4⟩
    · exact .inl h1
    · obtain ⟨a1, a2, a3⟩ := Oper.apart_spec h1
      exact .inr (.inr ⟨fun oi' ok' e1 e2 => by rw [hoi] at e1; rw [hok] at e2; cases e1; cases e2; exact ⟨a1, a2⟩, noTouch_spec c1, noTouch_spec c2, c4.imp accFree_spec id⟩)
  · rcases d.pair k i ok oi (by omega) hok hoi with h1 | ⟨h1, c1, c2, c3, c4⟩
    · exact .inr (.inl h1)
    · obtain ⟨a1, a2, a3⟩ := Oper.apart_spec h1
      exact .inr (.inr ⟨fun oi' ok' e1 e2 => by rw [hoi] at e1; rw [hok] at e2; cases e1; cases e2; exact ⟨a3, fun dd h3 h4 => a2 dd h4 h3⟩, noTouch_spec c2, noTouch_spec c1, c3.imp accFree_spec id⟩)

/-- what is true behind the operations that are listed -/
structure Inv (ops : Array Oper) (nt ng : Nat) (T : Nat → PT V) (H : Nat → Heap) (I : Nat → Inf) (D : List Deferred) (φ0 : Map) (w0 : World) (L : Array Bool) (a : Act) (w : World) (φ : Map) : Prop where
  size : L.size = ops.size
  closed : ∀ j o e, ops[j]? = some o → L.getD j false = true → e ∈ o.after → Region.binds .any e = true → L.getD e.on false = true
  tsize : a.tmps.size = nt
  temp : ∀ d j, j ≤ ops.size → (∀ i o, ops[i]? = some o → o.dst = some d → (L.getD i false = true ↔ i < j)) → ∀ v, (T j).get d = some v → RV φ v (a.tmps.getD d undef)
  hr : HR φ (gS ops H I L) w
  fresh : ∀ x, φ x ≠ none → (H 0).next ≤ x → x < (H ops.size).next → ∃ i, L.getD i false = true ∧ (I i).lo ≤ x ∧ x < (I i).hi
  glob : Glob ng φ
  le : φ0.le φ
  new : ∀ x, φ0 x = none → φ x ≠ none → (H 0).next ≤ x ∧ x < (H ops.size).next
  fr : Fr φ0 (H 0).get φ (gS ops H I L) w0 w
  own : ∀ i, L.getD i false = true → ∀ x B, (I i).touch x → (H (i + 1)).get x = some B → B.live = true → B.own = true
  defers : a.defers = D
  top : φ (H ops.size).next = none

theorem getD_lt {L : Array Bool} {i : Nat} (h : L.getD i false = true) : i < L.size := by
  rcases Nat.lt_or_ge i L.size with h1 | h1
  · exact h1
  · simp [Array.getD, Nat.not_lt.2 h1] at h
theorem set_iff {L : Array Bool} {i k : Nat} (hk : k < L.size) : (L.setIfInBounds k true).getD i false = true ↔ (L.getD i false = true ∨ i = k) := by
  by_cases h : k = i
  · subst h
    constructor
    · intro _; exact .inr rfl
    · intro _; simp [hk]
  · rw [getD_set_ne false h]
    exact ⟨.inl, fun h1 => h1.resolve_right fun e => h e.symm⟩

section
variable {D : List Deferred} {φ0 : Map} {w0 : World} {L : Array Bool} {a : Act} {w : World} {φ : Map}
theorem Inv.anc (v : Inv ops nt ng T H I D φ0 w0 L a w φ) (d : DT P callF ng nt ops T H I B) : ∀ {m i : Nat}, L.getD m false = true → B i m → L.getD i false = true := by
  intro m
  induction m using Nat.strongRecOn with
  | ind m ih =>
    intro i hm hb
    obtain ⟨o, ho⟩ := get_op (v.size ▸ getD_lt hm)
    obtain ⟨e, he, hbd, h⟩ := d.clo i m o ho hb
    have h1 := v.closed m o e ho hm he hbd
    rcases h with h | h
    · rw [← h]; exact h1
    · exact ih e.on (d.back m o ho e he hbd) h1 h
theorem Inv.anc_ready (v : Inv ops nt ng T H I D φ0 w0 L a w φ) (d : DT P callF ng nt ops T H I B) {k i : Nat} {o : Oper} (ho : ops[k]? = some o) (hr : ∀ e ∈ o.after, Region.binds .any e = true → L.getD e.on false = true) (hb : B i k) : L.getD i false = true := by
  obtain ⟨e, he, hbd, h⟩ := d.clo i k o ho hb
  rcases h with h | h
  · rw [← h]; exact hr e he hbd
  · exact v.anc d (hr e he hbd) h
/-- what is true of temporaries that an operation looks at -/
theorem Inv.look (v : Inv ops nt ng T H I D φ0 w0 L a w φ) (d : DT P callF ng nt ops T H I B) {k : Nat} {o : Oper} (ho : ops[k]? = some o) (hk : L.getD k false = false) (hr : ∀ e ∈ o.after, Region.binds .any e = true → L.getD e.on false = true)
    {x : Tmp} (hx : x ∈ o.looksAt ops) {u : V} (hu : (T k).get x = some u) : RV φ u (a.tmps.getD x undef) := by
  have hkn := op_lt ho
  refine v.temp x k (by omega) (fun i oi hoi hd => ?_) u hu
  have hin := op_lt hoi
  by_cases hik : i = k
  · subst hik
    rw [hk]
    exact ⟨fun h => (by cases h), fun h => (by omega)⟩
  rcases d.un hin hkn hik with h | h | h
  · exact ⟨fun _ => d.lt hkn h, fun _ => v.anc_ready d ho hr h⟩
  · refine ⟨fun h1 => ?_, fun h1 => ?_⟩
    · have := v.anc d h1 h; rw [hk] at this; cases this
    · have := d.lt hin h; omega
  · exact absurd hx ((h.dst oi o hoi ho).1 x hd)
theorem Inv.touched (v : Inv ops nt ng T H I D φ0 w0 L a w φ) (d : DT P callF ng nt ops T H I B) {k : Nat} {o : Oper} (ho : ops[k]? = some o) (hk : L.getD k false = false) (hr : ∀ e ∈ o.after, Region.binds .any e = true → L.getD e.on false = true)
    {x : Nat} (h : ∀ i, i < ops.size → (I i).touch x → i ≠ k → B i k ∨ B k i ∨ (L.getD i false = true ↔ i < k)) : gS ops H I L x = (H k).get x := by
  have hkn := op_lt ho
  refine d.gS_eq (by omega) fun i hin ht => ?_
  by_cases hik : i = k
  · subst hik
    rw [hk]
    exact ⟨fun h => (by cases h), fun h => (by omega)⟩
  rcases h i hin ht hik with h | h | h
  · exact ⟨fun _ => d.lt hkn h, fun _ => v.anc_ready d ho hr h⟩
  · refine ⟨fun h1 => ?_, fun h1 => ?_⟩
    · have := v.anc d h1 h; rw [hk] at this; cases this
    · have := d.lt hin h; omega
  · exact h
/-- an operation more is listed: what is true of temporaries -/
theorem Inv.temp_put (v : Inv ops nt ng T H I D φ0 w0 L a w φ) (d : DT P callF ng nt ops T H I B) {k : Nat} {o : Oper} (ho : ops[k]? = some o) (hk : L.getD k false = false)
    {φ' : Map} (hle : φ.le φ') {u : V} {u' : Value} (hu : RV φ' u u') (hp : putV nt (T k) o.dst u = some (T (k + 1))) (x : Tmp) (j : Nat) (hj : j ≤ ops.size)
    (hw : ∀ i o, ops[i]? = some o → o.dst = some x → ((L.setIfInBounds k true).getD i false = true ↔ i < j)) (r : V) (hg : (T j).get x = some r) : RV φ' r ((a.put o.dst u').tmps.getD x undef) := by
  have hkn := op_lt ho
  have hks : k < L.size := by rw [v.size]; exact hkn
  by_cases hd : o.dst = some x
  · rw [hd] at hp ⊢
    have hkj : k < j := (hw k o ho hd).1 ((set_iff hks).2 (.inr rfl))
    have e : (T j).get x = (T (k + 1)).get x := d.tmp (by omega) hj fun m om h1 h2 hom hdm => by
      have h3 := (set_iff hks).1 ((hw m om hom hdm).2 h2)
      have h3 := h3.resolve_right (by omega)
      rcases d.un (op_lt hom) hkn (by omega) with h | h | h
      · have := d.lt hkn h; omega
      · have := v.anc d h3 h; rw [hk] at this; cases this
      · exact (h.dst om o hom ho).2 x hdm hd
    obtain ⟨h1, h2⟩ := putV_same hp
    rw [e, h1] at hg; cases hg
    have hx : x < a.tmps.size := by rw [v.tsize]; exact h2
    simp [Act.put, Array.getD, hx]
    exact hu
  · have e : (a.put o.dst u').tmps.getD x undef = a.tmps.getD x undef := by
      cases hdst : o.dst with
      | none => rfl
      | some y =>
        have hne : y ≠ x := fun e => hd (by rw [hdst, e])
        show (a.tmps.setIfInBounds y u').getD x undef = _
        simp only [Array.getD_eq_getD_getElem?]
        rw [Array.getElem?_setIfInBounds, if_neg hne]
    rw [e]
    refine (v.temp x j hj (fun i oi hoi hdi => ?_) r hg).mono hle
    have hik : i ≠ k := fun e => by subst e; rw [ho] at hoi; cases hoi; exact hd hdi
    rw [← hw i oi hoi hdi, set_iff hks]
    exact ⟨.inl, fun h => h.resolve_right hik⟩
theorem Inv.closed_put (v : Inv ops nt ng T H I D φ0 w0 L a w φ) {k : Nat} {o : Oper} (ho : ops[k]? = some o) (hr : ∀ e ∈ o.after, Region.binds .any e = true → L.getD e.on false = true) :
    ∀ j oj e, ops[j]? = some oj → (L.setIfInBounds k true).getD j false = true → e ∈ oj.after → Region.binds .any e = true → (L.setIfInBounds k true).getD e.on false = true := by
  have hks : k < L.size := by rw [v.size]; exact op_lt ho
  intro j oj e hoj hj he hb
  rw [set_iff hks] at hj ⊢
  rcases hj with hj | rfl
  · exact .inl (v.closed j oj e hoj hj he hb)
  · rw [ho] at hoj; cases hoj
    exact .inl (hr e he hb)

/-- an operation that leaves memory as it is -/
theorem Inv.skip (v : Inv ops nt ng T H I D φ0 w0 L a w φ) (d : DT P callF ng nt ops T H I B) {k : Nat} {o : Oper} (ho : ops[k]? = some o) (hk : L.getD k false = false) (hr : ∀ e ∈ o.after, Region.binds .any e = true → L.getD e.on false = true)
    {u : V} {u' : Value} (hu : RV φ u u') (hp : putV nt (T k) o.dst u = some (T (k + 1))) (hn : ∀ x, ¬ (I k).touch x) : Inv ops nt ng T H I D φ0 w0 (L.setIfInBounds k true) (a.put o.dst u') w φ := by
  have hks : k < L.size := by rw [v.size]; exact op_lt ho
  have hg : gS ops H I (L.setIfInBounds k true) = gS ops H I L := by
    funext x
    refine d.gS_congr fun i hi ht => ?_
    rw [set_iff hks]
    exact ⟨fun h => h.resolve_right fun e => by subst e; exact hn x ht, .inl⟩
  refine ⟨by simp [v.size], v.closed_put ho hr, ?_, v.temp_put d ho hk (Map.le_refl φ) hu hp, by rw [hg]; exact v.hr, fun x h1 h2 h3 => ?_, v.glob, v.le, v.new, by rw [hg]; exact v.fr, fun i hi x C ht => ?_, ?_, ?_⟩
  · cases hd : o.dst <;> simp [Act.put, v.tsize]
  · obtain ⟨i, h4, h5⟩ := v.fresh x h1 h2 h3
    exact ⟨i, (set_iff hks).2 (.inl h4), h5⟩
  · rcases (set_iff hks).1 hi with hi | rfl
    · exact v.own i hi x C ht
    · exact absurd ht (hn x)
  · cases hd : o.dst <;> exact v.defers
  · exact v.top
end
end
end Go.Ab
