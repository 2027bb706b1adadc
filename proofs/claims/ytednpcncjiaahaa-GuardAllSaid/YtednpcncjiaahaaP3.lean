/-
  The law GuardMore. Conditions: none.
-/
import Derived.Test.YtednpcncjiaahaaP2
set_option linter.unusedVariables false
set_option linter.unusedSimpArgs false
namespace Go.Proofs.Try
open Go Go.Ab
namespace R
theorem bn_bool (x y : Bool) (K : V → ROut) : bn prog .eql 4 (.b x) (.b y) K = K (.b (x == y)) := by cases x <;> cases y <;> kernel_rfl
theorem anyR_app (l m : List Rg) (a s : Nat) (how : Int) : allowR (l ++ m) a s how = (allowR l a s how || allowR m a s how) := by
  unfold allowR anyR
  by_cases h : s < 1
  · simp [h]
  · simp [h, List.any_append]
theorem okAll {l m : List Rg} (hl : ∀ r ∈ l, r.ok) (hm : ∀ r ∈ m, r.ok) : ∀ r ∈ l ++ m, r.ok := fun r hr => by
  rcases List.mem_append.1 hr with h | h
  · exact hl r h
  · exact hm r h
/-- a copy of one, and another behind it -/
theorem copy2 {h0 h : Heap} (k : Keep h0 h) {x y : V} {l m : List Rg} (hx : SlAt h0 x 4 (l.map Rg.enc)) (hy : SlAt h0 y 4 (m.map Rg.enc)) (l20 : l.length ≤ 20) (m20 : m.length ≤ 20) (K : Kt) {Q : V → Heap → Prop}
    (hK : ∀ v h', Keep h0 h' → SlAt h' v 4 ((l ++ m).map Rg.enc) → RetsQ (K v h') h0 Q) :
    RetsQ (o2 (buildSliceV prog 38 0 [] h) fun v24 h25 => o2 (appendV prog 38 38 v24 x h25) fun v26 h27 => o2 (appendV prog 38 38 v26 y h27) K) h0 Q := by
  rw [rg_build0, o2_pair]
  have k1 : Keep h0 (newSl [] 4 0 h).2 := k.newSl _ _ _
  have s1 := Own.made (h0 := h0) k (rows := []) (es := 4) (by simp) (l := []) (by simp) (len := 0) rfl
  have enl : ∀ (l : List Rg), ∀ r ∈ l.map Rg.enc, r.length = 4 := fun l r hr => by obtain ⟨q, _, rfl⟩ := List.mem_map.1 hr; rfl
  have ens : ∀ (l : List Rg), ∀ r ∈ l.map Rg.enc, r.all V.sc = true := fun l r hr => by obtain ⟨q, _, rfl⟩ := List.mem_map.1 hr; rfl
  obtain ⟨v2, h2, e2, k2, s2⟩ := append_own rg_slTy s1 (hx.keep k1) (enl l) (ens l) (by simp; omega) (by simp; omega) k1
  rw [e2, o2_some]
  obtain ⟨v3, h3, e3, k3, s3⟩ := append_own rg_slTy s2 (hy.keep k2) (enl m) (ens m) (by simp; omega) (by simp; omega) k2
  rw [e3, o2_some]
  refine hK v3 h3 k3 ?_
  have := s3.sl
  rw [List.nil_append, ← List.map_append] at this
  exact this
theorem more_ok (n : Nat) (l m : List Rg) (hl : ∀ r ∈ l, r.ok) (hm : ∀ r ∈ m, r.ok) (x y : V) (h : Heap) (hx : SlAt h x 4 (l.map Rg.enc)) (hy : SlAt h y 4 (m.map Rg.enc)) (a s how : Nat) (ha : a < 4294967296) (hs : s < 4294967296) (hh : how < 256) :
    Does (callG tab 10000 (n + 4) 7 [x, y, .i .u32 (a : Int), .i .u32 (s : Int), .i .u8 (how : Int)] h) h fun u _ => u = .b true := by
  rw [callG_at tab7]
  refine RetsQ.does ?_
  show RetsQ (F7 (callG tab 10000 (n + 3)) 10000 x y (.i .u32 (a : Int)) (.i .u32 (s : Int)) (.i .u8 (how : Int)) h) h _
  unfold F7
  rw [jn_eq, hx.lns, List.length_map]
  simp only [bi_i, ia_gtr, vb_b, ifB_dec, Int.ofNat_eq_natCast]
  by_cases l20 : l.length ≤ 20
  case neg =>
    rw [if_pos (by omega)]
    exact RetsQ.call (Keep.refl _) (awake_ok n h) fun v h' k e => RetsQ.rt k e
  rw [if_neg (by omega), hy.lns, List.length_map]
  simp only [bi_i, ia_gtr, vb_b, ifB_dec, Int.ofNat_eq_natCast]
  by_cases m20 : m.length ≤ 20
  case neg =>
    rw [if_pos (by omega)]
    exact RetsQ.call (Keep.refl _) (awake_ok n h) fun v h' k e => RetsQ.rt k e
  rw [if_neg (by omega)]
  unfold F7_j1
  have e3 : ((3 : Nat) : Int) = (3 : Nat) := rfl
  simp only [cv_i, bi_i]
  rw [wrap64n (by omega), Int.ofNat_eq_natCast, ia_rem' _ _ _ (by decide)]
  have A := allow_ok (n + 1)
  refine RetsQ.call (Keep.refl _) (A l x h a s _ (by omega) hl ha hs hx) fun v h1 k1 e => ?_
  subst e
  refine RetsQ.call k1 (A m y h1 a s _ (by omega) hm ha hs (hy.keep k1)) fun v h2 k2 e => ?_
  subst e
  have k2 := k1.trans k2
  refine copy2 k2 hx hy l20 m20 _ fun v h3 k3 s3 => ?_
  refine RetsQ.call k3 (A (l ++ m) v h3 a s _ (by simp; omega) (okAll hl hm) ha hs s3) fun v h4 k4 e => ?_
  subst e
  have k4 := k3.trans k4
  have fin : ∀ h5, Keep h h5 → RetsQ (cl (callG tab 10000 (n + 3) 18 [] h5) fun v46 h47 => rt v46 h47) h fun u _ => u = .b true := fun h5 k5 => RetsQ.call k5 (awake_ok n h5) fun v h' k e => RetsQ.rt (k5.trans k) e
  rw [anyR_app l m]
  cases hA : allowR l a s ((how % 3 : Nat) : Int) <;> cases hB : allowR m a s ((how % 3 : Nat) : Int)
  all_goals
    simp only [vb_b, ifB_true, ifB_false, bn_bool, Bool.or_true, Bool.or_false, Bool.true_or, Bool.false_or, beq_self_eq_true, beq_true, beq_false, Bool.not_false]
    refine copy2 k4 hy hx m20 l20 _ fun v h5 k5 s5 => ?_
    refine RetsQ.call k5 (A (m ++ l) v h5 a s _ (by simp; omega) (okAll hm hl) ha hs s5) fun v h6 k6 e => ?_
    subst e
    rw [anyR_app m l, hA, hB]
    simp only [vb_b, ifB_true, ifB_false, bn_bool, Bool.or_true, Bool.or_false, Bool.true_or, Bool.false_or, beq_self_eq_true, beq_true, beq_false, Bool.not_false]
    exact fin _ (k5.trans k6)
end R
end Go.Proofs.Try
