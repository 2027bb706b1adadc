/-
  guard.Put. Conditions: none.
-/
import Derived.Test.YtednpcncjiaahaaP2
import Derived.Test.YtednpcncjiaahaaSym4
set_option linter.unusedVariables false
set_option linter.unusedSimpArgs false
namespace Go.Ab
open Go
theorem ofNat_and3 (x : Nat) (h : x < 4294967296) : (BitVec.ofNat 32 x &&& BitVec.ofNat 32 3).toNat = x % 4 := by
  rw [BitVec.toNat_and, BitVec.toNat_ofNat, BitVec.toNat_ofNat, Nat.mod_eq_of_lt (show x < 2 ^ 32 by omega)]
  exact Nat.and_two_pow_sub_one_eq_mod x 2
theorem ofNat_and1 (x : Nat) (h : x < 4294967296) : (BitVec.ofNat 32 x &&& BitVec.ofNat 32 1).toNat = x % 2 := by
  rw [BitVec.toNat_and, BitVec.toNat_ofNat, BitVec.toNat_ofNat, Nat.mod_eq_of_lt (show x < 2 ^ 32 by omega)]
  exact Nat.and_two_pow_sub_one_eq_mod x 1
theorem ofNat_and2 (x : Nat) (h : x < 4294967296) : (BitVec.ofNat 32 x &&& BitVec.ofNat 32 2).toNat = x / 2 % 2 * 2 := by
  rw [BitVec.toNat_and, BitVec.toNat_ofNat, BitVec.toNat_ofNat, Nat.mod_eq_of_lt (show x < 2 ^ 32 by omega)]
  apply Nat.eq_of_testBit_eq
  intro i
  rw [Nat.testBit_and]
  have h2 : (2 % 2 ^ 32).testBit i = decide (1 = i) := by rw [show 2 % 2 ^ 32 = 2 ^ 1 by rfl, Nat.testBit_two_pow]
  rw [h2]
  rcases Nat.lt_or_ge i 2 with hi | hi
  · rcases (by omega : i = 0 ∨ i = 1) with rfl | rfl
    · simp [Nat.testBit_zero]
    · rw [Nat.testBit_succ, Nat.testBit_succ, Nat.testBit_zero, Nat.testBit_zero]; simp
  · obtain ⟨j, rfl⟩ : ∃ j, i = j + 2 := ⟨i - 2, by omega⟩
    have : (x / 2 % 2 * 2).testBit (j + 2) = false := by
      apply Nat.testBit_lt_two_pow
      have h4 : 2 ^ (j + 2) = 2 ^ j * 4 := by rw [Nat.pow_add]
      have h5 : 0 < 2 ^ j := Nat.pow_pos (by omega)
      have : x / 2 % 2 < 2 := Nat.mod_lt _ (by omega)
      omega
    rw [this]; simp
theorem ofNat_not3 (x : Nat) (h : x < 4294967296) : (BitVec.ofNat 32 x &&& ~~~ BitVec.ofNat 32 3).toNat = x / 4 * 4 := by
  have hx : (BitVec.ofNat 32 x).toNat = x := by rw [BitVec.toNat_ofNat, Nat.mod_eq_of_lt (show x < 2 ^ 32 by omega)]
  have e : BitVec.ofNat 32 x &&& ~~~ BitVec.ofNat 32 3 = BitVec.ofNat 32 (x / 4 * 4) := by
    apply BitVec.eq_of_getLsbD_eq
    intro i hi
    rw [BitVec.getLsbD_and, BitVec.getLsbD_not, BitVec.getLsbD_ofNat, BitVec.getLsbD_ofNat, BitVec.getLsbD_ofNat]
    have h3 : (3 : Nat).testBit i = decide (i < 2) := Nat.testBit_two_pow_sub_one 2 i
    rw [h3]
    have h4 : (x / 4 * 4).testBit i = (decide (2 ≤ i) && (x / 4).testBit (i - 2)) := by
      rw [Nat.mul_comm, show 4 = 2 ^ 2 from rfl, Nat.testBit_two_pow_mul]
    rw [h4, show x / 4 = x / 2 ^ 2 from rfl, Nat.testBit_div_two_pow]
    by_cases h2 : i < 2
    · have : ¬ 2 ≤ i := by omega
      simp [h2, this]
    · have h5 : 2 ≤ i := by omega
      simp [h2, h5, hi]
  rw [e, BitVec.toNat_ofNat, Nat.mod_eq_of_lt]
  have := Nat.div_mul_le_self x 4
  omega
theorem ofNat_or (x m : Nat) (k : Nat) (hm : m < 2 ^ k) (hd : x % 2 ^ k = 0) (h : x + m < 4294967296) : (BitVec.ofNat 32 x ||| BitVec.ofNat 32 m).toNat = x + m := by
  rw [BitVec.toNat_or, BitVec.toNat_ofNat, BitVec.toNat_ofNat, Nat.mod_eq_of_lt (show x < 2 ^ 32 by omega), Nat.mod_eq_of_lt (show m < 2 ^ 32 by omega)]
  have hx : x = 2 ^ k * (x / 2 ^ k) := by
    have := Nat.div_add_mod x (2 ^ k); omega
  rw [hx]
  exact (Nat.two_pow_add_eq_or_of_lt hm (x / 2 ^ k)).symm
theorem ia_or (k : IntKind) (a b : Int) (K : V → ROut) : ia .or k a b K = K (.i k (k.wrap (BitVec.ofInt k.bits a ||| BitVec.ofInt k.bits b).toNat)) := by rw [ia_eq']; exact o1_some _ _
theorem ia_or32 (a m : Nat) (K : V → ROut) : ia .or .u32 (a : Int) (m : Int) K = K (.i .u32 ((BitVec.ofNat 32 a ||| BitVec.ofNat 32 m).toNat : Int)) := by
  rw [ia_or]
  show K (.i .u32 (IntKind.wrap .u32 ((BitVec.ofInt 32 (a : Int) ||| (BitVec.ofInt 32 (m : Int))).toNat : Int))) = _
  rw [BitVec.ofInt_natCast, BitVec.ofInt_natCast, wrap_u32]
end Go.Ab
namespace Go.Proofs.Try
open Go Go.Ab
namespace R
def highN (r : Rg) : Nat := r.hi + (if r.x then 1 else 0) + (if r.w then 2 else 0)
/-- as it may be told by words -/
def Rg.fit (r : Rg) : Prop := r.lo % 4 = 0 ∧ r.hi % 4 = 0
instance (r : Rg) : Decidable r.fit := by unfold Rg.fit; infer_instance
theorem high_spec (cf : CallF) (lf : Nat) (r : Rg) (hr : r.ok) (hf : r.fit) (h : Heap) : RetsQ (F39 cf lf (.agg r.enc) h) h fun u _ => u = .i .u32 (highN r : Int) := by
  unfold F39
  simp only [V.cells]
  have h1 : r.hi < 4294967296 := hr.2
  have h2 := hf.2
  refine e_al (Sx.start h) rfl fun a H S _ _ _ => ?_
  rw [fa_p, ld_st S (.head _) (show r.enc[0 + 1]? = some (.i .u32 (r.hi : Int)) from rfl), fa_p, ld_st S (.head _) (show r.enc[0 + 2]? = some (.b r.x) from rfl), vb_b]
  have w1 : (BitVec.ofNat 32 r.hi ||| BitVec.ofNat 32 1).toNat = r.hi + 1 := ofNat_or _ _ 2 (by omega) (by omega) (by omega)
  have w2 : (BitVec.ofNat 32 r.hi ||| BitVec.ofNat 32 2).toNat = r.hi + 2 := ofNat_or _ _ 2 (by omega) (by omega) (by omega)
  have w3 : (BitVec.ofNat 32 (r.hi + 1) ||| BitVec.ofNat 32 2).toNat = r.hi + 1 + 2 := by
    have e : BitVec.ofNat 32 (r.hi + 1) ||| BitVec.ofNat 32 2 = BitVec.ofNat 32 r.hi ||| BitVec.ofNat 32 3 := by
      have := BitVec.eq_of_toNat_eq (x := BitVec.ofNat 32 (r.hi + 1)) (y := BitVec.ofNat 32 r.hi ||| BitVec.ofNat 32 1) (by rw [w1, BitVec.toNat_ofNat, Nat.mod_eq_of_lt (by omega)])
      rw [this, BitVec.or_assoc]; rfl
    rw [e]
    exact ofNat_or _ _ 2 (by omega) (by omega) (by omega)
  cases hx : r.x with
  | true =>
    rw [ifB_true, bi_i, Int.ofNat_eq_natCast, ia_or32, w1, fa_p, ld_st S (.head _) (show r.enc[0 + 3]? = some (.b r.w) from rfl), vb_b]
    cases hw : r.w with
    | true => rw [ifB_true, bi_i, Int.ofNat_eq_natCast, ia_or32, w3]; exact e_rt S (by simp [highN, hx, hw])
    | false => rw [ifB_false]; exact e_rt S (by simp [highN, hx, hw])
  | false =>
    rw [ifB_false, fa_p, ld_st S (.head _) (show r.enc[0 + 3]? = some (.b r.w) from rfl), vb_b]
    cases hw : r.w with
    | true => rw [ifB_true, bi_i, Int.ofNat_eq_natCast, ia_or32, w2]; exact e_rt S (by simp [highN, hx, hw])
    | false => rw [ifB_false]; exact e_rt S (by simp [highN, hx, hw])
/-- the words of regions, from a place on -/
def putAll : Nat → List Rg → List Nat → List Nat
  | _, [], ws => ws
  | i, r :: l, ws => putAll (i + 1) l ((ws.set (2 * i) r.lo).set (2 * i + 1) (highN r))
def zeros : List Nat := List.replicate 16 0
def putN (l : List Rg) : List Nat × Nat := if 8 < l.length then (zeros, 9) else if ∀ r ∈ l, r.fit then (putAll 0 l zeros, 0) else (zeros, 4)
end R
end Go.Proofs.Try
