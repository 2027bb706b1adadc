/-
  An abstract interpreter of the model's code, part 2: what a step does to memory: nothing, a new block, a block written. Conditions: none.
-/
import Derived.Test.YtednpcncjiaahaaAb1
set_option linter.unusedVariables false
set_option linter.unusedSimpArgs false
namespace Go.Ab
open Go

def Map.ext (φ : Map) (x : Nat) (pl : Place) : Map := fun y => if y = x then some pl else φ y
theorem Map.ext_same (φ : Map) (x : Nat) (pl : Place) : φ.ext x pl x = some pl := by simp [Map.ext]
theorem Map.ext_other (φ : Map) (x y : Nat) (pl : Place) (h : y ≠ x) : φ.ext x pl y = φ y := by simp [Map.ext, h]
theorem Map.le_ext {φ : Map} {x : Nat} (pl : Place) (h : φ x = none) : φ.le (φ.ext x pl) := fun y q e => by
  by_cases hy : y = x
  · subst hy; rw [h] at e; cases e
  · rw [Map.ext_other _ _ _ _ hy]; exact e

/-- what is known of blocks behind a step -/
noncomputable def mix (g : Nat → Option Blk) (h h' : Heap) (l : List Nat) : Nat → Option Blk := fun x => if x ∈ l ∨ h.next ≤ x then h'.get x else g x
theorem mix_old {g : Nat → Option Blk} {h h' : Heap} {l : List Nat} {x : Nat} (h1 : x ∉ l) (h2 : x < h.next) : mix g h h' l x = g x := by
  unfold mix; rw [if_neg]; rintro (h3 | h3)
  · exact h1 h3
  · omega
theorem mix_in {g : Nat → Option Blk} {h h' : Heap} {l : List Nat} {x : Nat} (h1 : x ∈ l) : mix g h h' l x = h'.get x := by unfold mix; rw [if_pos (.inl h1)]
theorem mix_new {g : Nat → Option Blk} {h h' : Heap} {l : List Nat} {x : Nat} (h1 : h.next ≤ x) : mix g h h' l x = h'.get x := by unfold mix; rw [if_pos (.inr h1)]

/-- What stands behind a step: places known before stay, new ones are those of new blocks; what is known of blocks; what the world has kept. -/
structure Post (φ : Map) (g : Nat → Option Blk) (h h' : Heap) (l : List Nat) (φ' : Map) (w w' : World) : Prop where
  le : φ.le φ'
  new : ∀ x, φ x = none → φ' x ≠ none → h.next ≤ x ∧ x < h'.next
  hr : HR φ' (mix g h h' l) w'
  fr : Fr φ g φ' (mix g h h' l) w w'
  own : ∀ x B, (x ∈ l ∨ h.next ≤ x) → h'.get x = some B → B.live = true → B.own = true

/-- places of blocks that are to come are not known yet -/
def Fresh (φ : Map) (lo hi : Nat) : Prop := ∀ x, lo ≤ x → x < hi → φ x = none

theorem HR.congr {φ : Map} {g g' : Nat → Option Blk} {w : World} (h : HR φ g w) (e : ∀ x, φ x ≠ none → g' x = g x) : HR φ g' w where
  blk := fun a B pl hg hp => h.blk a B pl (by rw [← e a (by rw [hp]; simp)]; exact hg) hp
  inj := fun a a' B B' pl pl' hne h1 h2 h3 h4 h5 h6 => h.inj a a' B B' pl pl' hne (by rw [← e a (by rw [h3]; simp)]; exact h1) (by rw [← e a' (by rw [h4]; simp)]; exact h2) h3 h4 h5 h6
theorem Owned.congr {φ : Map} {g g' : Nat → Option Blk} {b : Nat} (h : Owned φ g b) (e : ∀ x, φ x ≠ none → g' x = g x) : Owned φ g' b := by
  obtain ⟨a, B, pl, h1, h2, h3, h4⟩ := h
  exact ⟨a, B, pl, by rw [e a (by rw [h3]; simp)]; exact h1, h2, h3, h4⟩
theorem Fr.congr {φ φ' : Map} {g g' k k' : Nat → Option Blk} {w w' : World} (h : Fr φ g φ' g' w w') (e : ∀ x, φ x ≠ none → k x = g x) (e' : ∀ x, φ' x ≠ none → k' x = g' x) : Fr φ k φ' k' w w' where
  os := h.os
  tape := h.tape
  output := h.output
  size := h.size
  block := fun b hb hn => h.block b hb fun ho => hn (ho.congr e)
  owned := fun b ho => (h.owned b (ho.congr fun x hx => (e' x hx).symm)).imp (fun o => o.congr e) id

/-- nothing but a draw -/
theorem Post.same {φ : Map} {g : Nat → Option Blk} {h : Heap} {w : World} (hr : HR φ g w) (fresh : ∀ x, h.next ≤ x → φ x ≠ none → g x = h.get x) : Post φ g h h [] φ w w where
  le := Map.le_refl φ
  new := fun x h1 h2 => absurd h1 h2
  hr := hr.congr fun x hx => by
    by_cases h1 : x < h.next
    · exact mix_old (by simp) h1
    · rw [mix_new (by omega)]; exact (fresh x (by omega) hx).symm
  fr := (Fr.refl φ g w).congr (fun _ _ => rfl) fun x hx => by
    by_cases h1 : x < h.next
    · exact mix_old (by simp) h1
    · rw [mix_new (by omega)]; exact (fresh x (by omega) hx).symm
  own := fun x B h1 h2 _ => by
    rcases h1 with h1 | h1
    · cases h1
    · rw [Heap.get_ge h1] at h2; cases h2

/-- Beyond the blocks that there are 'g' tells what the heap tells, where places are known. -/
def Beyond (φ : Map) (g : Nat → Option Blk) (h : Heap) : Prop := ∀ x, h.next ≤ x → φ x ≠ none → g x = h.get x

/-- worlds that differ in the count of draws alone -/
structure Drawn (w w' : World) : Prop where
  heap : w'.heap = w.heap
  os : w'.os = w.os
  tape : w'.tape = w.tape
  output : w'.output = w.output
theorem Drawn.refl (w : World) : Drawn w w := ⟨rfl, rfl, rfl, rfl⟩
theorem HR.drawn {φ : Map} {g : Nat → Option Blk} {w w' : World} (h : HR φ g w) (d : Drawn w w') : HR φ g w' where
  blk := fun a B pl h1 h2 => (h.blk a B pl h1 h2).world (by rw [d.heap])
  inj := h.inj

/-- a new block -/
theorem Post.new1 {φ : Map} {g : Nat → Option Blk} {h : Heap} {w w' : World} (hr : HR φ g w) (bey : ∀ x, h.next < x → φ x ≠ none → g x = (h.get x)) (fresh : φ h.next = none)
    (B : Blk) (pl : Place) (hb : pl.b = w.heap.size) (os : w'.os = w.os) (tape : w'.tape = w.tape) (out : w'.output = w.output) (hsz : w'.heap.size = w.heap.size + 1)
    (hold : ∀ b, b < w.heap.size → w'.heap[b]? = w.heap[b]?) (hB : BR (φ.ext h.next pl) B pl w') (hBo : B.live = true → B.own = true) : Post φ g h (h.new B) [] (φ.ext h.next pl) w w' := by
  have hle : φ.le (φ.ext h.next pl) := Map.le_ext pl fresh
  have hget : (h.new B).get h.next = some B := Heap.get_new h B
  have hgo : ∀ x, x ≠ h.next → (h.new B).get x = h.get x := fun x hx => Heap.get_new_other h B hx
  -- what is known of old ones
  have hm : ∀ x, x ≠ h.next → φ x ≠ none → mix g h (h.new B) [] x = g x := fun x hx hp => by
    by_cases h1 : x < h.next
    · exact mix_old (by simp) h1
    · rw [mix_new (by omega), hgo x hx]; exact (bey x (by omega) hp).symm
  have hn : mix g h (h.new B) [] h.next = some B := by rw [mix_new (Nat.le_refl _)]; exact hget
  have hpo : ∀ x, x ≠ h.next → (φ.ext h.next pl) x = φ x := fun x hx => Map.ext_other _ _ _ _ hx
  have old : ∀ a A q, mix g h (h.new B) [] a = some A → (φ.ext h.next pl) a = some q → a ≠ h.next → g a = some A ∧ φ a = some q := fun a A q h1 h2 h3 => by
    rw [hpo a h3] at h2
    rw [hm a h3 (by rw [h2]; simp)] at h1
    exact ⟨h1, h2⟩
  refine ⟨hle, fun x h1 h2 => ?_, ⟨fun a A q h1 h2 => ?_, fun a a' A A' q q' hne h1 h2 h3 h4 h5 h6 => ?_⟩, ⟨os, tape, out, by omega, fun b hbb _ => hold b hbb, fun b ho => ?_⟩, fun x C h1 h2 h3 => ?_⟩
  · by_cases hx : x = h.next
    · subst hx; exact ⟨Nat.le_refl _, Nat.lt_succ_self _⟩
    · rw [hpo x hx] at h2; exact absurd h1 h2
  · by_cases ha : a = h.next
    · subst ha
      rw [hn] at h1; cases h1
      rw [Map.ext_same] at h2; cases h2
      exact hB
    · obtain ⟨h3, h4⟩ := old a A q h1 h2 ha
      have hbr := hr.blk a A q h3 h4
      by_cases hl : A.live = true
      · exact (hbr.mono hle).world (hold _ (hbr.lt hl))
      · cases A with
        | dead => trivial
        | _ => simp [Blk.live] at hl
  · have lt : ∀ a A q, mix g h (h.new B) [] a = some A → (φ.ext h.next pl) a = some q → a ≠ h.next → A.live = true → q.b < w.heap.size := fun a A q h1 h2 h3 hl => by
      obtain ⟨h4, h5⟩ := old a A q h1 h2 h3
      exact (hr.blk a A q h4 h5).lt hl
    by_cases ha : a = h.next
    · have ha' : a' ≠ h.next := fun e => hne (ha.trans e.symm)
      have := lt a' A' q' h2 h4 ha' h6
      rw [ha, Map.ext_same] at h3; cases h3
      omega
    · have hlA : A.live = true := by cases A <;> simp_all [Blk.own, Blk.live]
      have h7 := lt a A q h1 h3 ha hlA
      by_cases ha' : a' = h.next
      · rw [ha', Map.ext_same] at h4; cases h4
        omega
      · obtain ⟨h8, h9⟩ := old a A q h1 h3 ha
        obtain ⟨h10, h11⟩ := old a' A' q' h2 h4 ha'
        exact hr.inj a a' A A' q q' hne h8 h10 h9 h11 h5 h6
  · obtain ⟨a, A, q, h1, h2, h3, h4⟩ := ho
    by_cases ha : a = h.next
    · rw [ha, Map.ext_same] at h3; cases h3
      exact .inr (by omega)
    · obtain ⟨h5, h6⟩ := old a A q h1 h3 ha
      exact .inl ⟨a, A, q, h5, h2, h6, h4⟩
  · rcases h1 with h1 | h1
    · cases h1
    · by_cases hx : x = h.next
      · subst hx; rw [hget] at h2; cases h2; exact hBo h3
      · rw [hgo x hx, Heap.get_ge h1] at h2; cases h2

/-- a block that may be written is written -/
theorem Post.upd1 {φ : Map} {g : Nat → Option Blk} {h : Heap} {w w' : World} (hr : HR φ g w) (bey : Beyond φ g h)
    (x : Nat) (hx : x < h.next) (B0 B : Blk) (pl : Place) (hg : g x = some B0) (hown : B0.own = true) (hp : φ x = some pl) (os : w'.os = w.os) (tape : w'.tape = w.tape) (out : w'.output = w.output) (hsz : w'.heap.size = w.heap.size)
    (hold : ∀ b, b ≠ pl.b → w'.heap[b]? = w.heap[b]?) (hB : BR φ B pl w') (hBo : B.live = true → B.own = true) : Post φ g h (h.upd x B) [x] φ w w' := by
  have hget : (h.upd x B).get x = some B := Heap.get_upd h x B hx
  have hgo : ∀ y, y ≠ x → (h.upd x B).get y = h.get y := fun y hy => Heap.get_upd_other h x B hy
  have hm : ∀ y, y ≠ x → φ y ≠ none → mix g h (h.upd x B) [x] y = g y := fun y hy hpy => by
    by_cases h1 : y < h.next
    · exact mix_old (by simpa using hy) h1
    · rw [mix_new (by omega), hgo y hy]; exact (bey y (by omega) hpy).symm
  have hn : mix g h (h.upd x B) [x] x = some B := by rw [mix_in (by simp)]; exact hget
  have old : ∀ a A q, mix g h (h.upd x B) [x] a = some A → φ a = some q → a ≠ x → g a = some A := fun a A q h1 h2 h3 => by
    rw [hm a h3 (by rw [h2]; simp)] at h1; exact h1
  refine ⟨Map.le_refl φ, fun y h1 h2 => absurd h1 h2, ⟨fun a A q h1 h2 => ?_, fun a a' A A' q q' hne h1 h2 h3 h4 h5 h6 => ?_⟩, ⟨os, tape, out, by omega, fun b hbb hno => hold b fun e => hno ⟨x, B0, pl, hg, hown, hp, e.symm⟩, fun b ho => ?_⟩, fun y C h1 h2 h3 => ?_⟩
  · by_cases ha : a = x
    · subst ha
      rw [hn] at h1; cases h1
      rw [hp] at h2; cases h2
      exact hB
    · have h3 := old a A q h1 h2 ha
      have hbr := hr.blk a A q h3 h2
      by_cases hl : A.live = true
      · exact hbr.world (hold _ fun e => hr.inj x a B0 A pl q (fun e => ha e.symm) hg h3 hp h2 hown hl e.symm)
      · cases A with
        | dead => trivial
        | _ => simp [Blk.live] at hl
  · by_cases ha : a = x
    · subst ha
      rw [hp] at h3; cases h3
      by_cases ha' : a' = a
      · exact absurd ha'.symm hne
      · exact hr.inj a a' B0 A' pl q' hne hg (old a' A' q' h2 h4 ha') hp h4 hown h6
    · have h8 := old a A q h1 h3 ha
      by_cases ha' : a' = x
      · subst ha'
        rw [hp] at h4; cases h4
        have hl0 : B0.live = true := by cases B0 <;> simp_all [Blk.own, Blk.live]
        exact hr.inj a a' A B0 q pl hne h8 hg h3 hp h5 hl0
      · exact hr.inj a a' A A' q q' hne h8 (old a' A' q' h2 h4 ha') h3 h4 h5 h6
  · obtain ⟨a, A, q, h1, h2, h3, h4⟩ := ho
    by_cases ha : a = x
    · subst ha
      rw [hp] at h3; cases h3
      exact .inl ⟨a, B0, pl, hg, hown, hp, h4⟩
    · exact .inl ⟨a, A, q, old a A q h1 h3 ha, h2, h3, h4⟩
  · rcases h1 with h1 | h1
    · have : y = x := by simpa using h1
      subst this; rw [hget] at h2; cases h2; exact hBo h3
    · rw [Heap.get_ge (show (h.upd x B).next ≤ y from h1)] at h2; cases h2

/-- a block ends, and a new one stands in its place, or in a place of its own -/
theorem Post.move1 {φ : Map} {g : Nat → Option Blk} {h : Heap} {w w' : World} (hr : HR φ g w) (bey : ∀ x, h.next < x → φ x ≠ none → g x = h.get x) (fresh : φ h.next = none) (x : Nat) (hx : x < h.next)
    (B0 B : Blk) (pl pl' : Place) (hg : g x = some B0) (hown : B0.own = true) (hp : φ x = some pl) (os : w'.os = w.os) (tape : w'.tape = w.tape) (out : w'.output = w.output)
    (hsz : w.heap.size ≤ w'.heap.size) (hold : ∀ b, b < w.heap.size → b ≠ pl.b → w'.heap[b]? = w.heap[b]?) (hpl : pl'.b = pl.b ∨ w.heap.size ≤ pl'.b) (hB : BR (φ.ext h.next pl') B pl' w') (hBo : B.live = true → B.own = true) :
    Post φ g h ((h.upd x .dead).new B) [x] (φ.ext h.next pl') w w' := by
  have hle : φ.le (φ.ext h.next pl') := Map.le_ext pl' fresh
  have hget : ((h.upd x .dead).new B).get h.next = some B := Heap.get_new (h.upd x .dead) B
  have hgx : ((h.upd x .dead).new B).get x = some .dead := by
    rw [Heap.get_new_other (h.upd x .dead) B (show x ≠ (h.upd x .dead).next from by show x ≠ h.next; omega)]
    exact Heap.get_upd h x .dead hx
  have hgo : ∀ y, y ≠ x → y ≠ h.next → ((h.upd x .dead).new B).get y = h.get y := fun y h1 h2 => by
    rw [Heap.get_new_other (h.upd x .dead) B (show y ≠ (h.upd x .dead).next from h2)]
    exact Heap.get_upd_other h x .dead h1
  have hpo : ∀ y, y ≠ h.next → (φ.ext h.next pl') y = φ y := fun y hy => Map.ext_other _ _ _ _ hy
  have hl0 : B0.live = true := by cases B0 <;> simp_all [Blk.own, Blk.live]
  have hplt : pl.b < w.heap.size := (hr.blk x B0 pl hg hp).lt hl0
  have hn : mix g h ((h.upd x .dead).new B) [x] h.next = some B := by rw [mix_new (Nat.le_refl _)]; exact hget
  have hnx : mix g h ((h.upd x .dead).new B) [x] x = some .dead := by rw [mix_in (by simp)]; exact hgx
  have old : ∀ a A q, mix g h ((h.upd x .dead).new B) [x] a = some A → (φ.ext h.next pl') a = some q → a ≠ h.next → a ≠ x → g a = some A ∧ φ a = some q := fun a A q h1 h2 h3 h4 => by
    rw [hpo a h3] at h2
    refine ⟨?_, h2⟩
    by_cases h5 : a < h.next
    · rw [mix_old (by simpa using h4) h5] at h1; exact h1
    · rw [mix_new (by omega), hgo a h4 h3] at h1
      rw [bey a (by omega) (by rw [h2]; simp)]; exact h1
  refine ⟨hle, fun y h1 h2 => ?_, ⟨fun a A q h1 h2 => ?_, fun a a' A A' q q' hne h1 h2 h3 h4 h5 h6 => ?_⟩, ⟨os, tape, out, hsz, fun b hbb hno => hold b hbb fun e => hno ⟨x, B0, pl, hg, hown, hp, e.symm⟩, fun b ho => ?_⟩, fun y C h1 h2 h3 => ?_⟩
  · by_cases hy : y = h.next
    · subst hy; exact ⟨Nat.le_refl _, Nat.lt_succ_self _⟩
    · rw [hpo y hy] at h2; exact absurd h1 h2
  · by_cases ha : a = h.next
    · subst ha
      rw [hn] at h1; cases h1
      rw [Map.ext_same] at h2; cases h2
      exact hB
    · by_cases hax : a = x
      · subst hax
        rw [hnx] at h1; cases h1
        trivial
      · obtain ⟨h3, h4⟩ := old a A q h1 h2 ha hax
        have hbr := hr.blk a A q h3 h4
        by_cases hl : A.live = true
        · exact (hbr.mono hle).world (hold _ (hbr.lt hl) fun e => hr.inj x a B0 A pl q (fun e => hax e.symm) hg h3 hp h4 hown hl e.symm)
        · cases A with
          | dead => trivial
          | _ => simp [Blk.live] at hl
  · -- no two of which one is owned share a block
    have hlA : A.live = true := by cases A <;> simp_all [Blk.own, Blk.live]
    have nx : ∀ a A, mix g h ((h.upd x .dead).new B) [x] a = some A → A.live = true → a ≠ x := fun a A h1 hl e => by
      subst e; rw [hnx] at h1; cases h1; simp [Blk.live] at hl
    have apart : ∀ a A q, mix g h ((h.upd x .dead).new B) [x] a = some A → (φ.ext h.next pl') a = some q → a ≠ h.next → A.live = true → q.b ≠ pl'.b := fun a A q h1 h2 h3 hl => by
      obtain ⟨h4, h5⟩ := old a A q h1 h2 h3 (nx a A h1 hl)
      have hlt := (hr.blk a A q h4 h5).lt hl
      rcases hpl with h7 | h7
      · rw [h7]
        exact fun e => hr.inj x a B0 A pl q (fun e => nx a A h1 hl e.symm) hg h4 hp h5 hown hl e.symm
      · omega
    by_cases ha : a = h.next
    · have ha' : a' ≠ h.next := fun e => hne (ha.trans e.symm)
      have := apart a' A' q' h2 h4 ha' h6
      rw [ha, Map.ext_same] at h3; cases h3
      exact fun e => this e.symm
    · by_cases ha' : a' = h.next
      · have := apart a A q h1 h3 ha hlA
        rw [ha', Map.ext_same] at h4; cases h4
        exact this
      · obtain ⟨h8, h9⟩ := old a A q h1 h3 ha (nx a A h1 hlA)
        obtain ⟨h10, h11⟩ := old a' A' q' h2 h4 ha' (nx a' A' h2 h6)
        exact hr.inj a a' A A' q q' hne h8 h10 h9 h11 h5 h6
  · obtain ⟨a, A, q, h1, h2, h3, h4⟩ := ho
    by_cases ha : a = h.next
    · rw [ha, Map.ext_same] at h3; cases h3
      rcases hpl with h7 | h7
      · exact .inl ⟨x, B0, pl, hg, hown, hp, by omega⟩
      · exact .inr (by omega)
    · have hax : a ≠ x := fun e => by subst e; rw [hnx] at h1; cases h1; simp [Blk.own] at h2
      obtain ⟨h5, h6⟩ := old a A q h1 h3 ha hax
      exact .inl ⟨a, A, q, h5, h2, h6, h4⟩
  · by_cases hy : y = h.next
    · subst hy; rw [hget] at h2; cases h2; exact hBo h3
    · rcases h1 with h1 | h1
      · have : y = x := by simpa using h1
        subst this; rw [hgx] at h2; cases h2; cases h3
      · rw [hgo y (by omega) hy, Heap.get_ge h1] at h2; cases h2

/-! reading and writing cells -/
noncomputable def readN (t : PT V) (off n : Nat) : Option (List V) :=
  Nat.rec (motive := fun _ => Nat → Option (List V)) (fun _ => some []) (fun _ ih off => Option.casesOn (t.get off) none fun v => Option.casesOn (ih (Nat.succ off)) none fun l => some (v :: l)) n off
noncomputable def wr (t : PT V) (off : Nat) (l : List V) : PT V :=
  List.rec (motive := fun _ => Nat → PT V → PT V) (fun _ t => t) (fun v _ ih off t => ih (Nat.succ off) (t.set off v)) l off t

theorem readN_zero (t : PT V) (off : Nat) : readN t off 0 = some [] := rfl
theorem readN_succ (t : PT V) (off n : Nat) : readN t off (n + 1) = (match t.get off with | some v => (match readN t (off + 1) n with | some l => some (v :: l) | none => none) | none => none) := by
  have e : readN t off (n + 1) = (Option.casesOn (motive := fun _ => Option (List V)) (t.get off) none fun v => Option.casesOn (motive := fun _ => Option (List V)) (readN t (Nat.succ off) n) none fun l => some (v :: l)) := rfl
  rw [e]
  cases t.get off with
  | none => rfl
  | some v =>
    have e2 : Nat.succ off = off + 1 := rfl
    rw [← e2]
    cases readN t (Nat.succ off) n <;> rfl
theorem readN_some {t : PT V} : ∀ {n off : Nat} {l : List V}, readN t off n = some l → l.length = n ∧ ∀ j, j < n → l[j]? = t.get (off + j)
  | 0, off, l, h => by rw [readN_zero] at h; cases h; exact ⟨rfl, fun j hj => by omega⟩
  | n + 1, off, l, h => by
    rw [readN_succ] at h
    cases h1 : t.get off with
    | none => rw [h1] at h; cases h
    | some v =>
      rw [h1] at h
      cases h2 : readN t (off + 1) n with
      | none => rw [h2] at h; cases h
      | some k =>
        rw [h2] at h; cases h
        obtain ⟨h3, h4⟩ := readN_some h2
        refine ⟨by simp [h3], fun j hj => ?_⟩
        cases j with
        | zero => simp [h1]
        | succ j => rw [List.getElem?_cons_succ, h4 j (by omega)]; congr 1; omega
theorem wr_nil (t : PT V) (off : Nat) : wr t off [] = t := rfl
theorem wr_cons (t : PT V) (off : Nat) (v : V) (l : List V) : wr t off (v :: l) = wr (t.set off v) (off + 1) l := rfl
theorem wr_get : ∀ (l : List V) (t : PT V) (off j : Nat), (wr t off l).get j = if off ≤ j ∧ j < off + l.length then l[j - off]? else t.get j
  | [], t, off, j => by rw [wr_nil, if_neg (by simp)]
  | v :: l, t, off, j => by
    rw [wr_cons, wr_get l]
    by_cases h1 : j = off
    · subst h1
      rw [if_neg (by omega), if_pos (by simp), PT.get_set_same]; simp
    · rw [PT.get_set_other _ _ _ _ (fun e => h1 e.symm)]
      by_cases h2 : off ≤ j ∧ j < off + (v :: l).length
      · rw [if_pos h2, if_pos (by simp at h2; omega)]
        rw [show j - off = (j - (off + 1)) + 1 by omega, List.getElem?_cons_succ]
      · rw [if_neg h2, if_neg (by simp at h2; omega)]

end Go.Ab
