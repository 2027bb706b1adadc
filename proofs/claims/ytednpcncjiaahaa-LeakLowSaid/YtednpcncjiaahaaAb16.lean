/-
  An abstract interpreter of the model's code, part 16: rows of operations in whatever order. Conditions: none.
-/
import Derived.Test.YtednpcncjiaahaaAb15
set_option linter.unusedVariables false
set_option linter.unusedSimpArgs false
namespace Go.Ab
open Go

/-! two stretches that do not meet -/
theorem join {φ φ' : Map} {g g' G : Nat → Option Blk} {h h1 : Heap} {l : List Nat} {w w' : World} {hi : Nat} (hr : HR φ g w) (sub : ∀ x B, g' x = some B → g x = some B) (low : ∀ x, h.next ≤ x → g' x = none)
    (p : Post φ g' h h1 l φ' w w') (hhi : h1.next ≤ hi) (hn : h.next ≤ h1.next) (G1 : ∀ x, φ' x ≠ none → x < hi → G x = mix g' h h1 l x) (G2 : ∀ x, φ' x ≠ none → hi ≤ x → G x = g x) : HR φ' G w' ∧ Fr φ g φ' G w w' := by
  have back : ∀ x, φ' x ≠ none → (hi ≤ x ∨ x < h.next) → φ' x = φ x := fun x hx hh => by
    cases hp : φ x with
    | none => have := p.new x hp hx; omega
    | some pl => exact p.le x pl hp
  have osub : ∀ b, Owned φ g' b → Owned φ g b := fun b ⟨a, B, pl, h1, h2, h3, h4⟩ => ⟨a, B, pl, sub a B h1, h2, h3, h4⟩
  have nown : ∀ x B pl, hi ≤ x → g x = some B → φ x = some pl → B.live = true → ¬ Owned φ g' pl.b := fun x B pl hx hg hp hl ⟨a, A, q, h2, h3, h4, h5⟩ => by
    have ha : a < h.next := by
      rcases Nat.lt_or_ge a h.next with h6 | h6
      · exact h6
      · rw [low a h6] at h2; cases h2
    exact hr.inj a x A B q pl (by omega) (sub a A h2) hg h4 hp h3 hl h5
  have old : ∀ x B pl, hi ≤ x → G x = some B → φ' x = some pl → g x = some B ∧ φ x = some pl := fun x B pl hx hg hp => by
    have hne : φ' x ≠ none := by rw [hp]; simp
    exact ⟨by rw [← G2 x hne hx]; exact hg, by rw [← back x hne (.inl hx)]; exact hp⟩
  have new : ∀ x B pl, x < hi → G x = some B → φ' x = some pl → mix g' h h1 l x = some B := fun x B pl hx hg hp => by
    rw [← G1 x (by rw [hp]; simp) hx]; exact hg
  have cross : ∀ a a' A A' pl pl', a < hi → hi ≤ a' → G a = some A → G a' = some A' → φ' a = some pl → φ' a' = some pl' → A.own = true → A'.live = true → pl.b ≠ pl'.b := fun a a' A A' pl pl' h2 h3 h4 h5 h6 h7 h8 h9 e => by
    have h10 := new a A pl h2 h4 h6
    obtain ⟨h11, h12⟩ := old a' A' pl' h3 h5 h7
    rcases p.fr.owned pl.b ⟨a, A, pl, h10, h8, h6, rfl⟩ with h13 | h13
    · rw [e] at h13; exact nown a' A' pl' h3 h11 h12 h9 h13
    · have := (hr.blk a' A' pl' h11 h12).lt h9
      omega
  refine ⟨⟨fun x B pl hg hp => ?_, fun a a' A A' pl pl' hne h2 h3 h4 h5 h6 h7 => ?_⟩, ⟨p.fr.os, p.fr.tape, p.fr.output, p.fr.size, fun b hb hno => p.fr.block b hb fun ho => hno (osub b ho), fun b ho => ?_⟩⟩
  · rcases Nat.lt_or_ge x hi with hx | hx
    · exact p.hr.blk x B pl (new x B pl hx hg hp) hp
    · obtain ⟨h2, h3⟩ := old x B pl hx hg hp
      have hbr := hr.blk x B pl h2 h3
      by_cases hl : B.live = true
      · exact (hbr.mono p.le).world (p.fr.block pl.b (hbr.lt hl) (nown x B pl hx h2 h3 hl))
      · cases B with
        | dead => trivial
        | _ => simp [Blk.live] at hl
  · rcases Nat.lt_or_ge a hi with ha | ha <;> rcases Nat.lt_or_ge a' hi with ha' | ha'
    · exact p.hr.inj a a' A A' pl pl' hne (new a A pl ha h2 h4) (new a' A' pl' ha' h3 h5) h4 h5 h6 h7
    · exact cross a a' A A' pl pl' ha ha' h2 h3 h4 h5 h6 h7
    · have hla : A.live = true := by cases A <;> simp_all [Blk.own, Blk.live]
      have hn' := new a' A' pl' ha' h3 h5
      by_cases hm : a' ∈ l ∨ h.next ≤ a'
      · have ho : A'.own = true := by
          refine p.own a' A' hm ?_ h7
          unfold mix at hn'; rw [if_pos hm] at hn'; exact hn'
        exact fun e => cross a' a A' A pl' pl ha' ha h3 h2 h5 h4 ho hla e.symm
      · obtain ⟨h8, h9⟩ := old a A pl ha h2 h4
        unfold mix at hn'; rw [if_neg hm] at hn'
        rw [not_or] at hm
        have h10 : φ a' = some pl' := by rw [← back a' (by rw [h5]; simp) (.inr (by omega))]; exact h5
        exact hr.inj a a' A A' pl pl' hne h8 (sub a' A' hn') h9 h10 h6 h7
    · obtain ⟨h8, h9⟩ := old a A pl ha h2 h4
      obtain ⟨h10, h11⟩ := old a' A' pl' ha' h3 h5
      exact hr.inj a a' A A' pl pl' hne h8 h10 h9 h11 h6 h7
  · obtain ⟨x, B, pl, h2, h3, h4, h5⟩ := ho
    rcases Nat.lt_or_ge x hi with hx | hx
    · exact (p.fr.owned b ⟨x, B, pl, new x B pl hx h2 h4, h3, h4, h5⟩).imp (osub b) id
    · obtain ⟨h6, h7⟩ := old x B pl hx h2 h4
      exact .inl ⟨x, B, pl, h6, h3, h7, h5⟩

/-! what an operation has touched -/
noncomputable def Heap.bare (h : Heap) : Heap := { next := h.next, t := h.t, wl := [] }
theorem Heap.get_bare (h : Heap) (x : Nat) : h.bare.get x = h.get x := rfl

structure Inf where
  acc : Option (List Nat)
  wr : List Nat
  lo : Nat
  hi : Nat
def Inf.touch (i : Inf) (x : Nat) : Prop := x ∈ i.wr ∨ (i.lo ≤ x ∧ x < i.hi)
noncomputable def memN (x : Nat) (l : List Nat) : Bool := List.rec (motive := fun _ => Bool) false (fun y _ ih => or (Nat.beq x y) ih) l
theorem memN_iff {x : Nat} : ∀ {l : List Nat}, memN x l = true ↔ x ∈ l
  | [] => by simp [memN]
  | y :: l => by
    have e : memN x (y :: l) = or (Nat.beq x y) (memN x l) := rfl
    rw [e, Bool.or_eq_true, memN_iff, List.mem_cons]
    exact ⟨fun h => h.imp Nat.eq_of_beq_eq_true id, fun h => h.imp (fun e => by subst e; exact Nat.beq_refl x) id⟩
noncomputable def Inf.touchB (i : Inf) (x : Nat) : Bool := or (memN x i.wr) (and (Nat.ble i.lo x) (Nat.blt x i.hi))
theorem Inf.touchB_iff {i : Inf} {x : Nat} : i.touchB x = true ↔ i.touch x := by
  unfold Inf.touchB Inf.touch
  rw [Bool.or_eq_true, Bool.and_eq_true, memN_iff]
  exact ⟨fun h => h.imp id fun ⟨a, b⟩ => ⟨Nat.le_of_ble_eq_true a, Nat.le_of_ble_eq_true b⟩, fun h => h.imp id fun ⟨a, b⟩ => ⟨Nat.ble_eq_true_of_le a, Nat.ble_eq_true_of_le b⟩⟩
noncomputable def noTouch (i : Inf) (l : List Nat) : Bool := List.rec (motive := fun _ => Bool) true (fun x _ ih => and (not (i.touchB x)) ih) l
theorem noTouch_spec {i : Inf} : ∀ {l : List Nat}, noTouch i l = true → ∀ x ∈ l, ¬ i.touch x
  | [], _, _, hx => by cases hx
  | y :: l, h, x, hx => by
    have e : noTouch i (y :: l) = and (not (i.touchB y)) (noTouch i l) := rfl
    rw [e, Bool.and_eq_true] at h
    rcases List.mem_cons.1 hx with rfl | hx
    · intro ht
      rw [Inf.touchB_iff.2 ht] at h
      exact absurd h.1 (by simp)
    · exact noTouch_spec h.2 x hx
noncomputable def accFree (a b : Inf) : Bool :=
  match a.acc with
  | none => match b.wr with
    | [] => true
    | _ => false
  | some l => noTouch b l
/-- one value -/
noncomputable def eqC : V → V → Bool
  | .b a, .b b => cond a b (not b)
  | .i k a, .i k' b => and (decide (k = k')) (ieq a b)
  | .s a, .s b => and (Nat.beq a.n b.n) (Nat.beq a.v b.v)
  | .p none, .p none => true
  | .p (some (a, o)), .p (some (a', o')) => and (Nat.beq a a') (Nat.beq o o')
  | .sl none l c x, .sl none l' c' x' => and (and (Nat.beq l l') (Nat.beq c c')) (cond x x' (not x'))
  | .sl (some (a, o)) l c x, .sl (some (a', o')) l' c' x' => and (and (and (Nat.beq a a') (Nat.beq o o')) (and (Nat.beq l l') (Nat.beq c c'))) (cond x x' (not x'))
  | .m none, .m none => true
  | .m (some a), .m (some b) => Nat.beq a b
  | .f0, .f0 => true
  | .i0, .i0 => true
  | _, _ => false
theorem condEq {a b : Bool} (h : (cond a b (not b)) = true) : a = b := by cases a <;> cases b <;> simp_all
theorem eqC_eq {a b : V} (h : eqC a b = true) : a = b := by
  unfold eqC at h
  split at h
  · rw [condEq h]
  · simp only [Bool.and_eq_true, decide_eq_true_eq] at h
    obtain ⟨rfl, h2⟩ := h
    rw [ieq_eq] at h2
    simp at h2; rw [h2]
  · rename_i x y
    simp only [Bool.and_eq_true, Nat.beq_eq] at h
    obtain ⟨h1, h2⟩ := h
    cases x; cases y
    simp only at h1 h2
    rw [h1, h2]
  · rfl
  · simp only [Bool.and_eq_true, Nat.beq_eq] at h
    rw [h.1, h.2]
  · simp only [Bool.and_eq_true, Nat.beq_eq] at h
    rw [h.1.1, h.1.2, condEq h.2]
  · simp only [Bool.and_eq_true, Nat.beq_eq] at h
    rw [h.1.1.1, h.1.1.2, h.1.2.1, h.1.2.2, condEq h.2]
  · rfl
  · simp only [Nat.beq_eq] at h
    rw [h]
  · rfl
  · rfl
  · cases h
noncomputable def eqCs : List V → List V → Bool
  | [], [] => true
  | a :: l, b :: k => and (eqC a b) (eqCs l k)
  | _, _ => false
theorem eqCs_eq : ∀ {l k : List V}, eqCs l k = true → l = k
  | [], [], _ => rfl
  | [], _ :: _, h => by cases h
  | _ :: _, [], h => by cases h
  | a :: l, b :: k, h => by
    simp only [eqCs, Bool.and_eq_true] at h
    rw [eqC_eq h.1, eqCs_eq h.2]
noncomputable def eqVV (a b : V) : Bool :=
  match a, b with
  | .agg l, .agg k => eqCs l k
  | a, b => eqC a b
theorem eqVV_eq {a b : V} (h : eqVV a b = true) : a = b := by
  unfold eqVV at h
  split at h
  · rw [eqCs_eq h]
  · exact eqC_eq h
noncomputable def eqO (a : Option V) (b : V) : Bool :=
  match a with
  | some a => eqVV a b
  | none => false
theorem eqO_eq {a : Option V} {b : V} (h : eqO a b = true) : a = some b := by
  cases a with
  | none => cases h
  | some a => rw [eqVV_eq h]

/-- an operation that looks at nothing but its operands -/
def pureO (P : Program) (o : Oper) : Bool :=
  match o.op with
  | .move _ | .assign _ | .pick _ _ _ | .build _ _ | .unOp _ _ _ | .binOp _ _ _ _ _ | .makeInterface _ _ | .makeFunc _ _ _ | .fieldAddr _ _ _ | .field _ _ _ | .indexAddr _ _ _ | .index _ _ _ | .extract _ _ | .nilCheck _ => true
  | .convert s d _ => match P.underlying s, P.underlying d with
    | some _, some (.int _) => true
    | _, _ => false
  | .call ⟨.builtin .len, ⟨[_]⟩, ⟨[t]⟩⟩ => match P.underlying t with
    | some (.slice _) => true
    | some .string => true
    | some (.array _ _) => true
    | _ => false
  | .call ⟨.builtin .min, _, _⟩ => true
  | .call ⟨.builtin .max, _, _⟩ => true
  | _ => false
theorem pure_map {r : Option V} {h h' : Heap} {v : V} (e : (r.map fun v => (v, h)) = some (v, h')) : h' = h ∧ ∀ h2 : Heap, (r.map fun v => (v, h2)) = some (v, h2) := by
  cases r with
  | none => cases e
  | some u => cases e; exact ⟨rfl, fun _ => rfl⟩
theorem len_pure {P : Program} {t : TypeId} (hp : (match P.underlying t with | some (.slice _) => true | some .string => true | some (.array _ _) => true | _ => false) = true) (x : V) (h h2 : Heap) : lenV P t x h = lenV P t x h2 := by
  unfold lenV
  cases hd : P.underlying t with
  | none => rfl
  | some d => cases d <;> first | (cases x <;> rfl) | (simp [hd] at hp)
theorem pure_spec {P : Program} {o : Oper} (hp : pureO P o = true) {ρ : Operand → V} {h h' : Heap} {v : V} (e : stepV P o ρ h = some (v, h')) : h' = h ∧ ∀ h2, stepV P o ρ h2 = some (v, h2) := by
  obtain ⟨dst, op, type, pos, after, guard⟩ := o
  unfold pureO at hp
  split at hp
  all_goals first | (rename_i heq; simp only at heq; subst heq) | skip
  all_goals simp only [stepV] at e ⊢
  · cases e; exact ⟨rfl, fun _ => rfl⟩
  · cases e; exact ⟨rfl, fun _ => rfl⟩
  · split at e
    · cases e; exact ⟨rfl, fun _ => rfl⟩
    · cases e
  · exact pure_map e
  · exact pure_map e
  · exact pure_map e
  · exact pure_map e
  · cases e; exact ⟨rfl, fun _ => rfl⟩
  · exact pure_map e
  · exact pure_map e
  · exact pure_map e
  · exact pure_map e
  · exact pure_map e
  · split at e
    · cases e; exact ⟨rfl, fun _ => rfl⟩
    · cases e; exact ⟨rfl, fun _ => rfl⟩
    · cases e
  · split at hp
    · rename_i h1 h2
      unfold convV at e ⊢
      rw [h1, h2] at e ⊢
      simp only at e ⊢
      split at e
      · rename_i k' n' q1 q2 q3
        cases q2
        cases e
        exact ⟨rfl, fun _ => rfl⟩
      · rename_i q2 _; cases q2
      · rename_i q2 _; cases q2
      · rename_i q2 _; cases q2
      · cases e
    · cases hp
  · simp only [builtinV, List.map] at e ⊢
    have key : ∀ (x : V) (h2 : Heap), lenV P _ x h2 = lenV P _ x h := fun x h2 => len_pure hp x h2 h
    simp only [key _] 
    exact pure_map e
  · simp only [builtinV] at e ⊢
    exact pure_map e
  · simp only [builtinV] at e ⊢
    exact pure_map e
  · cases hp

/-- one operation of such a row -/
noncomputable def stepD (P : Program) (callF : CallF) (ng nt : Nat) (ops : Array Oper) (o : Oper) (t : PT V) (h : Heap) : Option (PT V × Heap × Inf) :=
  match wantedV nt ops o t with
  | some true => match o.op with
   | .load ty a => match loadV P ty (ev ng t a) h with
    | some v => forceV v fun v => match putV nt t o.dst v with
      | some t' => some (t', h, ⟨some (ev ng t a).ids, [], h.next, h.next⟩)
      | none => none
    | none => none
   | _ => match opN P callF o (ev ng t) h.bare with
    | .val v h1 => forceV v fun v => match putV nt t o.dst v with
      | some t' => some (t', h1.new .dead, ⟨accO o (ev ng t), h1.wl.filter (fun x => Nat.blt x h.next), h.next, Nat.succ h1.next⟩)
      | none => none
    | _ => none
  | some false => match putV nt t o.dst (.tup []) with
    | some t' => some (t', h, ⟨some [], [], h.next, h.next⟩)
    | none => none
  | none => none

def SD (P : Program) (callF : CallF) (ng nt : Nat) (ops : Array Oper) (o : Oper) (t : PT V) (h : Heap) (t' : PT V) (h' : Heap) (i : Inf) : Prop :=
  (wantedV nt ops o t = some false ∧ putV nt t o.dst (.tup []) = some t' ∧ h' = h ∧ i = ⟨some [], [], h.next, h.next⟩) ∨
  (∃ ty a v, o.op = .load ty a ∧ wantedV nt ops o t = some true ∧ loadV P ty (ev ng t a) h = some v ∧ putV nt t o.dst v = some t' ∧ h' = h ∧ i = ⟨some (ev ng t a).ids, [], h.next, h.next⟩) ∨
  (∃ v h1, (∀ ty a, o.op ≠ .load ty a) ∧ wantedV nt ops o t = some true ∧ opN P callF o (ev ng t) h.bare = .val v h1 ∧ putV nt t o.dst v = some t' ∧ h' = h1.new .dead ∧ i = ⟨accO o (ev ng t), h1.wl.filter (fun x => Nat.blt x h.next), h.next, Nat.succ h1.next⟩) ∨
  (∃ v, pureO P o = true ∧ wantedV nt ops o t = some true ∧ stepV P o (ev ng t) h = some (v, h) ∧ putV nt t o.dst v = some t' ∧ h' = h ∧ i = ⟨some [], [], h.next, h.next⟩)
theorem stepD_sd {P : Program} {callF : CallF} {ng nt : Nat} {ops : Array Oper} {o : Oper} {t : PT V} {h : Heap} {t' : PT V} {h' : Heap} {i : Inf} (e : stepD P callF ng nt ops o t h = some (t', h', i)) : SD P callF ng nt ops o t h t' h' i := by
  unfold stepD at e
  cases hw : wantedV nt ops o t with
  | none => rw [hw] at e; cases e
  | some b =>
    rw [hw] at e
    cases b with
    | false =>
      simp only at e
      cases hp : putV nt t o.dst (.tup []) with
      | none => rw [hp] at e; cases e
      | some t1 => rw [hp] at e; cases e; exact .inl ⟨hw, hp, rfl, rfl⟩
    | true =>
      simp only at e
      split at e
      · rename_i ty a ho
        cases hl : loadV P ty (ev ng t a) h with
        | none => rw [hl] at e; cases e
        | some v =>
          rw [hl] at e
          simp only [forceV_eq] at e
          cases hp : putV nt t o.dst v with
          | none => rw [hp] at e; cases e
          | some t1 => rw [hp] at e; cases e; exact .inr (.inl ⟨ty, a, v, ho, hw, hl, hp, rfl, rfl⟩)
      · rename_i hno
        cases hx : opN P callF o (ev ng t) h.bare with
        | fail => rw [hx] at e; cases e
        | pan v h1 => rw [hx] at e; cases e
        | val v h1 =>
          rw [hx] at e
          simp only [forceV_eq] at e
          cases hp : putV nt t o.dst v with
          | none => rw [hp] at e; cases e
          | some t1 => rw [hp] at e; cases e; exact .inr (.inr (.inl ⟨v, h1, hno, hw, hx, hp, rfl, rfl⟩))

section
variable {P : Program} {callF : CallF} {ng nt : Nat} {ops : Array Oper} {o : Oper} {t : PT V} {h : Heap} {t' : PT V} {h' : Heap} {i : Inf}
theorem SD.next (s : SD P callF ng nt ops o t h t' h' i) : i.lo = h.next ∧ i.hi = h'.next ∧ h.next ≤ h'.next := by
  rcases s with ⟨_, _, rfl, rfl⟩ | ⟨_, _, _, _, _, _, _, rfl, rfl⟩ | ⟨v, h1, _, _, h3, _, rfl, rfl⟩ | ⟨_, _, _, _, _, rfl, rfl⟩
  rotate_right
  · exact ⟨rfl, rfl, Nat.le_refl _⟩
  · exact ⟨rfl, rfl, Nat.le_refl _⟩
  · exact ⟨rfl, rfl, Nat.le_refl _⟩
  · exact ⟨rfl, rfl, Nat.le_succ_of_le (opN_val h3).2⟩
theorem SD.keep (s : SD P callF ng nt ops o t h t' h' i) (hc : CallExt callF) {x : Nat} (hx : ¬ i.touch x) : h'.get x = h.get x := by
  rcases s with ⟨_, _, rfl, rfl⟩ | ⟨_, _, _, _, _, _, _, rfl, rfl⟩ | ⟨v, h1, _, _, h3, _, rfl, rfl⟩ | ⟨_, _, _, _, _, rfl, rfl⟩
  rotate_right
  · rfl
  · rfl
  · rfl
  · obtain ⟨k, hk⟩ := opN_ext hc (.inl h3)
    have hle := (opN_val h3).2
    have hle : h.next ≤ h1.next := hle
    have hwl : h1.wl = k := by have := hk.wl; rw [this]; show k ++ [] = k; simp
    unfold Inf.touch at hx
    rw [not_or] at hx
    rcases Nat.lt_or_ge x h.next with hlt | hge
    · rw [Heap.get_new_other h1 .dead (by omega), hk.old x hlt fun hm => hx.1 ?_]
      · rfl
      · rw [List.mem_filter, hwl]; exact ⟨hm, blt_true hlt⟩
    · have : h1.next < x := by
        have h4 := hx.2
        simp only [not_and] at h4
        have := h4 hge
        simp only [Nat.not_lt] at this
        exact this
      rw [Heap.get_ge (show (h1.new .dead).next ≤ x from this), Heap.get_ge hge]
theorem putV_other {d : Option Tmp} {v : V} {t1 : PT V} (hp : putV nt t d v = some t1) {x : Tmp} (hx : d ≠ some x) : t1.get x = t.get x := by
  cases d with
  | none => cases hp; rfl
  | some d =>
    obtain ⟨h1, h2⟩ := okc_some hp
    cases h2
    exact PT.get_set_other _ _ _ _ fun e => hx (by rw [e])
theorem putV_same {d : Tmp} {v : V} {t1 : PT V} (hp : putV nt t (some d) v = some t1) : t1.get d = some v ∧ d < nt := by
  obtain ⟨h1, h2⟩ := okc_some hp
  cases h2
  exact ⟨PT.get_set_same _ _ _, Nat.le_of_ble_eq_true h1⟩
theorem SD.tmp (s : SD P callF ng nt ops o t h t' h' i) {x : Tmp} (hx : o.dst ≠ some x) : t'.get x = t.get x := by
  rcases s with ⟨_, h2, _, _⟩ | ⟨_, _, _, _, _, _, h4, _, _⟩ | ⟨v, h1, _, _, _, h4, _, _⟩ | ⟨_, _, _, _, h4, _, _⟩
  rotate_right
  · exact putV_other h4 hx
  · exact putV_other h2 hx
  · exact putV_other h4 hx
  · exact putV_other h4 hx
end

end Go.Ab
