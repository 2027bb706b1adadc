/-
  An abstract interpreter of the model's code, part 0: rows of bytes as one number. Conditions: none.
-/
set_option linter.unusedVariables false
set_option linter.unusedSimpArgs false
namespace Go.Ab

/-- works a number out first -/
@[reducible] noncomputable def forceN {α : Type} (n : Nat) (f : Nat → α) : α := Nat.casesOn (motive := fun _ => α) n (f 0) fun k => f (Nat.succ k)
theorem forceN_eq {α : Type} (n : Nat) (f : Nat → α) : forceN n f = f n := by cases n <;> rfl

/-- as many bytes as 'n' tells, in a number -/
structure SB where
  n : Nat
  v : Nat
  deriving Inhabited

def SB.list (b : SB) : List UInt8 := (List.range b.n).map fun i => UInt8.ofNat (b.v >>> (8 * i))
theorem SB.list_length (b : SB) : b.list.length = b.n := by simp [SB.list]
theorem SB.list_get (b : SB) (i : Nat) : b.list[i]? = if i < b.n then some (UInt8.ofNat (b.v >>> (8 * i))) else none := by
  unfold SB.list
  rw [List.getElem?_map]
  by_cases h : i < b.n
  · rw [if_pos h, List.getElem?_range h]; rfl
  · rw [if_neg h, List.getElem?_eq_none (by simpa using h)]; rfl
theorem ofNat_bits {x y : Nat} (h : ∀ j, j < 8 → x.testBit j = y.testBit j) : UInt8.ofNat x = UInt8.ofNat y := by
  apply UInt8.toNat_inj.1
  rw [UInt8.toNat_ofNat', UInt8.toNat_ofNat']
  apply Nat.eq_of_testBit_eq
  intro j
  rw [Nat.testBit_mod_two_pow, Nat.testBit_mod_two_pow]
  by_cases hj : j < 8
  · rw [h j hj]
  · simp [hj]
theorem bits_ofNat {x y : Nat} (h : UInt8.ofNat x = UInt8.ofNat y) (j : Nat) (hj : j < 8) : x.testBit j = y.testBit j := by
  have h1 := congrArg UInt8.toNat h
  rw [UInt8.toNat_ofNat', UInt8.toNat_ofNat'] at h1
  have h2 := congrArg (fun z => Nat.testBit z j) h1
  simp only [Nat.testBit_mod_two_pow] at h2
  simpa [hj] using h2

/-- the byte at a place -/
noncomputable def SB.byte (b : SB) (i : Nat) : Nat := Nat.mod (Nat.shiftRight b.v (Nat.mul 8 i)) 256
theorem SB.byte_eq (b : SB) (i : Nat) : b.byte i = (UInt8.ofNat (b.v >>> (8 * i))).toNat := by
  rw [UInt8.toNat_ofNat']; rfl

noncomputable def SB.app (a b : SB) : SB := ⟨Nat.add a.n b.n, Nat.lor (Nat.mod a.v (Nat.pow 2 (Nat.mul 8 a.n))) (Nat.shiftLeft b.v (Nat.mul 8 a.n))⟩
theorem SB.app_list (a b : SB) : (a.app b).list = a.list ++ b.list := by
  apply List.ext_getElem?
  intro i
  have e : (a.app b).n = a.n + b.n := rfl
  have ev : (a.app b).v = (a.v % 2 ^ (8 * a.n)) ||| (b.v <<< (8 * a.n)) := rfl
  rw [SB.list_get, e, ev]
  by_cases h1 : i < a.n
  · rw [if_pos (by omega), List.getElem?_append_left (by rw [SB.list_length]; exact h1), SB.list_get, if_pos h1]
    congr 1
    apply ofNat_bits
    intro j hj
    simp only [Nat.testBit_shiftRight, Nat.testBit_or, Nat.testBit_mod_two_pow, Nat.testBit_shiftLeft]
    rw [decide_eq_true (show 8 * i + j < 8 * a.n by omega), decide_eq_false (show ¬ (8 * i + j ≥ 8 * a.n) by omega)]
    simp
  · rw [List.getElem?_append_right (by rw [SB.list_length]; omega), SB.list_length, SB.list_get]
    by_cases h2 : i < a.n + b.n
    · rw [if_pos h2, if_pos (by omega)]
      congr 1
      apply ofNat_bits
      intro j hj
      simp only [Nat.testBit_shiftRight, Nat.testBit_or, Nat.testBit_mod_two_pow, Nat.testBit_shiftLeft]
      rw [decide_eq_false (show ¬ (8 * i + j < 8 * a.n) by omega), decide_eq_true (show 8 * i + j ≥ 8 * a.n by omega)]
      simp only [Bool.false_and, Bool.false_or, Bool.true_and]
      congr 1
      omega
    · rw [if_neg h2, if_neg (by omega)]

/-- from one place up to ahead of another one -/
noncomputable def SB.sub (b : SB) (l h : Nat) : SB := ⟨Nat.sub h l, Nat.mod (Nat.shiftRight b.v (Nat.mul 8 l)) (Nat.pow 2 (Nat.mul 8 (Nat.sub h l)))⟩
theorem SB.sub_list (b : SB) {l h : Nat} (hh : h ≤ b.n) : (b.sub l h).list = (b.list.take h).drop l := by
  apply List.ext_getElem?
  intro i
  have e : (b.sub l h).n = h - l := rfl
  have ev : (b.sub l h).v = (b.v >>> (8 * l)) % 2 ^ (8 * (h - l)) := rfl
  rw [SB.list_get, e, ev, List.getElem?_drop, List.getElem?_take]
  by_cases h1 : i < h - l
  · rw [if_pos h1, if_pos (by omega), SB.list_get, if_pos (by omega)]
    congr 1
    apply ofNat_bits
    intro j hj
    simp only [Nat.testBit_shiftRight, Nat.testBit_mod_two_pow]
    rw [decide_eq_true (show 8 * i + j < 8 * (h - l) by omega), Bool.true_and]
    congr 1
    omega
  · rw [if_neg h1, if_neg (by omega)]

noncomputable def SB.eq (a b : SB) : Bool := and (Nat.beq a.n b.n) (Nat.beq (Nat.mod a.v (Nat.pow 2 (Nat.mul 8 a.n))) (Nat.mod b.v (Nat.pow 2 (Nat.mul 8 a.n))))
theorem SB.eq_eq (a b : SB) : a.eq b = (a.list == b.list) := by
  rw [Bool.eq_iff_iff, beq_iff_eq]
  unfold SB.eq
  rw [Bool.and_eq_true]
  constructor
  · rintro ⟨h1, h2⟩
    have h1 := Nat.eq_of_beq_eq_true h1
    have h2 : a.v % 2 ^ (8 * a.n) = b.v % 2 ^ (8 * a.n) := Nat.eq_of_beq_eq_true h2
    apply List.ext_getElem?
    intro i
    rw [SB.list_get, SB.list_get, ← h1]
    by_cases hi : i < a.n
    · rw [if_pos hi, if_pos hi]
      congr 1
      apply ofNat_bits
      intro j hj
      have := congrArg (fun z => Nat.testBit z (8 * i + j)) h2
      simp only [Nat.testBit_mod_two_pow] at this
      rw [decide_eq_true (show 8 * i + j < 8 * a.n by omega)] at this
      simpa [Nat.testBit_shiftRight] using this
    · rw [if_neg hi, if_neg hi]
  · intro h
    have hn : a.n = b.n := by rw [← SB.list_length a, ← SB.list_length b, h]
    refine ⟨by rw [hn]; exact Nat.beq_refl _, ?_⟩
    have : a.v % 2 ^ (8 * a.n) = b.v % 2 ^ (8 * a.n) := by
      apply Nat.eq_of_testBit_eq
      intro k
      rw [Nat.testBit_mod_two_pow, Nat.testBit_mod_two_pow]
      by_cases hk : k < 8 * a.n
      · have hb := congrArg (fun l : List UInt8 => l[k / 8]?) h
        simp only [SB.list_get] at hb
        rw [if_pos (show k / 8 < a.n by omega), if_pos (show k / 8 < b.n by omega)] at hb
        have := bits_ofNat (Option.some.inj hb) (k % 8) (by omega)
        rw [Nat.testBit_shiftRight, Nat.testBit_shiftRight, Nat.div_add_mod] at this
        rw [this]
      · simp [hk]
    rw [show Nat.mod a.v (Nat.pow 2 (Nat.mul 8 a.n)) = Nat.mod b.v (Nat.pow 2 (Nat.mul 8 a.n)) from this]
    exact Nat.beq_refl _

/-- a row of bytes -/
def SB.ofL : List UInt8 → SB
  | [] => ⟨0, 0⟩
  | b :: l => ⟨Nat.succ (SB.ofL l).n, Nat.lor b.toNat (Nat.shiftLeft (SB.ofL l).v 8)⟩
theorem SB.ofL_list : ∀ (l : List UInt8), (SB.ofL l).list = l
  | [] => rfl
  | b :: l => by
    have ih := SB.ofL_list l
    apply List.ext_getElem?
    intro i
    have e : (SB.ofL (b :: l)).n = (SB.ofL l).n + 1 := rfl
    have ev : (SB.ofL (b :: l)).v = b.toNat ||| ((SB.ofL l).v <<< 8) := rfl
    rw [SB.list_get, e, ev]
    cases i with
    | zero =>
      rw [if_pos (by omega)]
      simp only [List.getElem?_cons_zero]
      congr 1
      have : UInt8.ofNat b.toNat = b := by simp
      refine Eq.trans ?_ this
      apply ofNat_bits
      intro j hj
      simp only [Nat.testBit_shiftRight, Nat.testBit_or, Nat.testBit_shiftLeft]
      rw [decide_eq_false (show ¬ (8 * 0 + j ≥ 8) by omega)]
      simp
    | succ i =>
      rw [List.getElem?_cons_succ]
      rw [show l[i]? = (SB.ofL l).list[i]? by rw [ih], SB.list_get]
      by_cases hi : i < (SB.ofL l).n
      · rw [if_pos (by omega), if_pos hi]
        congr 1
        apply ofNat_bits
        intro j hj
        have hb : b.toNat.testBit (8 * (i + 1) + j) = false := by
          apply Nat.testBit_lt_two_pow
          have h1 : b.toNat < 2 ^ 8 := b.toNat_lt
          have h2 : 2 ^ 8 ≤ 2 ^ (8 * (i + 1) + j) := Nat.pow_le_pow_right (by omega) (by omega)
          omega
        simp only [Nat.testBit_shiftRight, Nat.testBit_or, Nat.testBit_shiftLeft, hb, Bool.false_or]
        rw [decide_eq_true (show 8 * (i + 1) + j ≥ 8 by omega)]
        simp only [Bool.true_and]
        congr 1
        omega
      · rw [if_neg (by omega), if_neg hi]

/-- the numbers of bytes, and back -/
noncomputable def SB.nats (b : SB) : List Nat := Nat.rec (motive := fun _ => Nat → List Nat) (fun _ => []) (fun _ ih v => Nat.mod v 256 :: ih (Nat.shiftRight v 8)) b.n b.v
theorem SB.nats_aux : ∀ (n v : Nat), (Nat.rec (motive := fun _ => Nat → List Nat) (fun _ => []) (fun _ ih v => Nat.mod v 256 :: ih (Nat.shiftRight v 8)) n v : List Nat) = (SB.mk n v).list.map UInt8.toNat
  | 0, v => rfl
  | n + 1, v => by
    have e : (Nat.rec (motive := fun _ => Nat → List Nat) (fun _ => []) (fun _ ih v => Nat.mod v 256 :: ih (Nat.shiftRight v 8)) (n + 1) v : List Nat) = Nat.mod v 256 :: (Nat.rec (motive := fun _ => Nat → List Nat) (fun _ => []) (fun _ ih v => Nat.mod v 256 :: ih (Nat.shiftRight v 8)) n (Nat.shiftRight v 8) : List Nat) := rfl
    rw [e, SB.nats_aux n (Nat.shiftRight v 8)]
    unfold SB.list
    rw [List.range_succ_eq_map]
    simp only [List.map_cons, List.map_map]
    congr 1
    apply List.map_congr_left
    intro i _
    simp only [Function.comp]
    rw [show Nat.shiftRight v 8 = v >>> 8 from rfl, ← Nat.shiftRight_add]
    congr 3
    omega
theorem SB.nats_eq (b : SB) : b.nats = b.list.map UInt8.toNat := SB.nats_aux b.n b.v
end Go.Ab
