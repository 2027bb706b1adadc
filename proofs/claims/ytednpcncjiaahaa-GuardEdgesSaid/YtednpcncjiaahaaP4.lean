/-
  The law GuardEdges. Conditions: none.
-/
import Derived.Test.YtednpcncjiaahaaP3
set_option linter.unusedVariables false
set_option linter.unusedSimpArgs false
namespace Go.Ab
open Go
theorem wrapU32 {n : Nat} (h : n < 4294967296) : wrapI .u32 (n : Int) = n := fits_wrap (by
  show Nat.blt n (hiN .u32) = true
  exact blt_true h)
theorem cv32 (k : IntKind) {n : Nat} (h : n < 4294967296) (K : V → ROut) : cv .u32 (.i k (n : Int)) K = K (.i .u32 (n : Int)) := by rw [cv_i, wrapU32 h]
theorem add32 (a b : Nat) (h : a + b < 4294967296) (K : V → ROut) : bi .add (.i .u32 (a : Int)) (.i .u32 (b : Int)) K = K (.i .u32 ((a + b : Nat) : Int)) := by
  rw [bi_i, ia_add, show (a : Int) + (b : Int) = ((a + b : Nat) : Int) by simp, wrapU32 h]
theorem mul32 (a b : Nat) (h : a * b < 4294967296) (K : V → ROut) : bi .mul (.i .u32 (a : Int)) (.i .u32 (b : Int)) K = K (.i .u32 ((a * b : Nat) : Int)) := by
  rw [bi_i, ia_mul, show (a : Int) * (b : Int) = ((a * b : Nat) : Int) by simp, wrapU32 h]
theorem rem32 (k : IntKind) (a b : Nat) (h : b ≠ 0) (K : V → ROut) : bi .rem (.i k (a : Int)) (.i k (b : Int)) K = K (.i k ((a % b : Nat) : Int)) := by
  rw [bi_i, ia_rem' k a b h]
theorem leqN (k : IntKind) (a b : Nat) (K : V → ROut) : bi .leq (.i k (a : Int)) (.i k (b : Int)) K = K (.b (decide (a ≤ b))) := by
  rw [bi_i, ia_leq]; congr 2; simp
theorem geqN (k : IntKind) (a b : Nat) (K : V → ROut) : bi .geq (.i k (a : Int)) (.i k (b : Int)) K = K (.b (decide (b ≤ a))) := by
  rw [bi_i, ia_geq]; congr 2; simp
/-- a place is made, and a thing put into it -/
theorem al_st {z l : List V} {n : Nat} (hz : z.all V.sc = true) (hl : l.all V.sc = true) (hzn : z.length = n) (hln : l.length = n) (h : Heap) :
    ∃ b h9 T, Keep h h9 ∧ h9.get b = some (.cells n 1 T true) ∧ (∀ (j : Nat) (u : V), l[j]? = some u → T.get j = some u) ∧ (∀ (h' : Heap), Keep h9 h' → ∀ K, ldn n (.p (some (b, 0))) h' K = K (.agg l)) ∧
      ∀ K : Kt, (al z h fun v h8 => st n v (.agg l) h8 (K v)) = K (.p (some (b, 0))) h9 := by
  have g1 := Heap.get_new h (.cells n 1 (wr .e 0 z) true)
  have T : ∀ (j : Nat) (u : V), l[j]? = some u → (wr (wr .e 0 z) 0 l).get j = some u := fun j u hj => by
    have := (List.getElem?_eq_some_iff.1 hj).1
    rw [wr_get, if_pos (by omega)]; simpa using hj
  have g2 := Heap.get_upd (h.new (.cells n 1 (wr .e 0 z) true)) h.next (.cells n 1 (wr (wr .e 0 z) 0 l) true) (Nat.lt_succ_self _)
  refine ⟨h.next, (h.new (.cells n 1 (wr .e 0 z) true)).upd h.next (.cells n 1 (wr (wr .e 0 z) 0 l) true), wr (wr .e 0 z) 0 l, (Keep.new h _).upd (Nat.le_refl _) _, g2, T, fun h' k K => ?_, fun K => ?_⟩
  · exact ldn_p (k.get g2) (by omega) (by rw [← hln]; exact readN_of fun j u hj => by rw [Nat.zero_add]; exact T j u hj) K
  · rw [al_all hz, hzn]
    exact st_p (x := .agg l) g1 hl hln (by omega) _
end Go.Ab
namespace Go.Proofs.Try
open Go Go.Ab
namespace R
theorem rg_big (big : Nat) : buildV prog 37 [(1, V.i .u32 (big : Int)), (2, .b true), (3, .b true)] = some (.agg (Rg.enc ⟨0, big, true, true⟩)) := by kernel_rfl
theorem edges_tail (n big : Nat) (hbig : big < 4294967296) (r nx : Rg) (hr : r.ok) (hnx : nx.ok) (p s : Nat) (hp : p < 4294967296) (hs : s < 4294967296) (v1 v2 : V) (h h5 : Heap) (k5 : Keep h h5) (s1 : SlAt h v1 4 ([r].map Rg.enc)) (s2 : SlAt h v2 4 ([r, nx].map Rg.enc))
    (A6 : allowR [r] p 0 0 = false) (A7 : allowR [r, nx] p s 3 = false) (A8 : allowR [r, nx] p s (Int.negSucc 0) = false) (A9 : allowR [⟨0, big, true, true⟩] big s 0 = false) :
    RetsQ (cl (callG tab 10000 (n + 3) 17 [v1, .i .u32 (p : Int), (.i .u32 (.ofNat 0)), (.i .i64 (.ofNat 0))] h5) fun v76 h77 =>
    o1 (unV .not v76) fun v78 =>
    vb v78 fun q79 => ifB q79 (
    cl (callG tab 10000 (n + 3) 17 [v2, .i .u32 (p : Int), .i .u32 (s : Int), (.i .i64 (.ofNat 3))] h77) fun v80 h81 =>
    o1 (unV .not v80) fun v82 =>
    vb v82 fun q83 => ifB q83 (
    cl (callG tab 10000 (n + 3) 17 [v2, .i .u32 (p : Int), .i .u32 (s : Int), (.i .i64 (.negSucc 0))] h81) fun v84 h85 =>
    o1 (unV .not v84) fun v86 =>
    vb v86 fun q87 => ifB q87 (
    o1 (buildV prog 37 [(1, (.i .u32 (big : Int))), (2, (.b true)), (3, (.b true))]) fun v88 =>
    o2 (buildSliceV prog 38 1 [(0, v88)] h85) fun v89 h90 =>
    cl (callG tab 10000 (n + 3) 17 [v89, (.i .u32 (big : Int)), .i .u32 (s : Int), (.i .i64 (.ofNat 0))] h90) fun v91 h92 =>
    o1 (unV .not v91) fun v93 =>
    vb v93 fun q94 => ifB q94 (
    cl (callG tab 10000 (n + 3) 18 [] h92) fun v95 h96 =>
    rt v95 h96) (
    rt (.b false) h92)) (
    rt (.b false) h85)) (
    rt (.b false) h81)) (
    rt (.b false) h77)) h fun u _ => u = .b true := by
  simp only [Int.ofNat_eq_natCast]
  have o1 : ∀ q ∈ [r], q.ok := fun q hq => by rw [List.mem_singleton.1 hq]; exact hr
  have o2' : ∀ q ∈ [r, nx], q.ok := fun q hq => by rcases List.mem_cons.1 hq with rfl | hq; exact hr; rw [List.mem_singleton.1 hq]; exact hnx
  have A := allow_ok (n + 1)
  have fin : ∀ h5, Keep h h5 → RetsQ (cl (callG tab 10000 (n + 3) 18 [] h5) fun v46 h47 => rt v46 h47) h fun u _ => u = .b true := fun h5 k5 => RetsQ.call k5 (awake_ok n h5) fun v h' k e => RetsQ.rt (k5.trans k) e
  refine RetsQ.call k5 (A [r] v1 h5 p 0 0 (by simp) o1 hp (by omega) (s1.keep k5)) fun v h6 k6 e => ?_
  subst e; rw [A6]; have k6 := k5.trans k6
  simp only [un_not, vb_b, Bool.not_false, ifB_true]
  refine RetsQ.call k6 (A [r, nx] v2 h6 p s 3 (by simp) o2' hp hs (s2.keep k6)) fun v h7 k7 e => ?_
  subst e; rw [A7]; have k7 := k6.trans k7
  simp only [un_not, vb_b, Bool.not_false, ifB_true]
  refine RetsQ.call k7 (A [r, nx] v2 h7 p s (Int.negSucc 0) (by simp) o2' hp hs (s2.keep k7)) fun v h8 k8 e => ?_
  subst e; rw [A8]; have k8 := k7.trans k8
  simp only [un_not, vb_b, Bool.not_false, ifB_true]
  rw [rg_big, o1_some]
  rw [rg_build1, o2_pair]
  have k9 : Keep h (newSl (Rg.enc ⟨0, big, true, true⟩) 4 1 h8).2 := k8.newSl _ _ _
  have s9 := Own.made (h0 := h) k8 (rows := [Rg.enc ⟨0, big, true, true⟩]) (es := 4) (by simp [enc_len]) (l := Rg.enc ⟨0, big, true, true⟩) (by simp) (len := 1) rfl
  refine RetsQ.call k9 (A [⟨0, big, true, true⟩] _ _ big s 0 (by simp) (fun q hq => by rw [List.mem_singleton.1 hq]; exact ⟨Nat.zero_lt_succ _, hbig⟩) (by omega) hs s9.sl) fun v h10 k10 e => ?_
  subst e; rw [A9]
  simp only [un_not, vb_b, Bool.not_false, ifB_true]
  exact fin _ (k9.trans k10)
theorem edges_j (n : Nat) (r nx : Rg) (hr : r.ok) (hnx : nx.ok) (x w inn on : Bool) (p s : Nat) (hp : p < 4294967296) (hs : s < 4294967296) (v1 v2 : V) (h : Heap) (s1 : SlAt h v1 4 ([r].map Rg.enc)) (s2 : SlAt h v2 4 ([r, nx].map Rg.enc))
    (A1 : allowR [r] p s 0 = inn) (A2 : allowR [r] p s 1 = (inn && w)) (A3 : allowR [r] p s 2 = (inn && x)) (A4 : allowR [r, nx] p s 0 = (inn || on)) (A5 : allowR [r, nx] p s 2 = (inn && x || on))
    (A6 : allowR [r] p 0 0 = false) (A7 : allowR [r, nx] p s 3 = false) (A8 : allowR [r, nx] p s (Int.negSucc 0) = false) (A9 : allowR [⟨0, 4294967292, true, true⟩] 4294967292 s 0 = false) :
    RetsQ (F6_j1 (callG tab 10000 (n + 3)) 10000 (.b x) (.b w) (.i .u32 (p : Int)) (.i .u32 (s : Int)) (.b inn) v1 v2 (.b on) h) h fun u _ => u = .b true := by
  have o1 : ∀ q ∈ [r], q.ok := fun q hq => by rw [List.mem_singleton.1 hq]; exact hr
  have o2' : ∀ q ∈ [r, nx], q.ok := fun q hq => by rcases List.mem_cons.1 hq with rfl | hq; exact hr; rw [List.mem_singleton.1 hq]; exact hnx
  have A := allow_ok (n + 1)
  unfold F6_j1
  cases x <;> cases w <;> cases inn <;> cases on
  all_goals
    refine RetsQ.call (Keep.refl _) (A [r] v1 h p s 0 (by simp) o1 hp hs s1) fun v h1 k1 e => ?_
    subst e; rw [A1]
    simp only [vb_b, ifB_true, ifB_false, bn_bool, beq_self_eq_true]
    refine RetsQ.call k1 (A [r] v1 h1 p s 1 (by simp) o1 hp hs (s1.keep k1)) fun v h2 k2 e => ?_
    subst e; rw [A2]; have k2 := k1.trans k2
    simp only [vb_b, ifB_true, ifB_false, bn_bool, beq_self_eq_true, Bool.true_and, Bool.false_and]
    refine RetsQ.call k2 (A [r] v1 h2 p s 2 (by simp) o1 hp hs (s1.keep k2)) fun v h3 k3 e => ?_
    subst e; rw [A3]; have k3 := k2.trans k3
    simp only [vb_b, ifB_true, ifB_false, bn_bool, beq_self_eq_true, Bool.true_and, Bool.false_and]
    refine RetsQ.call k3 (A [r, nx] v2 h3 p s 0 (by simp) o2' hp hs (s2.keep k3)) fun v h4 k4 e => ?_
    subst e; rw [A4]; have k4 := k3.trans k4
    simp only [vb_b, ifB_true, ifB_false, bn_bool, beq_self_eq_true, Bool.true_and, Bool.false_and, Bool.true_or, Bool.false_or, Bool.or_false, Bool.or_true]
    refine RetsQ.call k4 (A [r, nx] v2 h4 p s 2 (by simp) o2' hp hs (s2.keep k4)) fun v h5 k5 e => ?_
    subst e; rw [A5]; have k5 := k4.trans k5
    simp only [vb_b, ifB_true, ifB_false, bn_bool, beq_self_eq_true, Bool.true_and, Bool.false_and, Bool.true_or, Bool.false_or, Bool.or_false, Bool.or_true]
    exact edges_tail n 4294967292 (by omega) r nx hr hnx p s hp hs v1 v2 h h5 k5 s1 s2 A6 A7 A8 A9
theorem enc_all (r : Rg) : r.enc.all V.sc = true := rfl
theorem edges_ok (n : Nat) (lo m at_ sz : Nat) (x w : Bool) (h : Heap) (h1 : lo < 65536) (h2 : m < 65536) (h3 : at_ < 65536) (h4 : sz < 256) :
    Does (callG tab 10000 (n + 4) 6 [.i .u16 (lo : Int), .i .u16 (m : Int), .i .u16 (at_ : Int), .i .u8 (sz : Int), .b x, .b w] h) h fun u _ => u = .b true := by
  rw [callG_at tab6]
  refine RetsQ.does ?_
  show RetsQ (F6 (callG tab 10000 (n + 3)) 10000 (.i .u16 (lo : Int)) (.i .u16 (m : Int)) (.i .u16 (at_ : Int)) (.i .u8 (sz : Int)) (.b x) (.b w) h) h _
  unfold F6
  simp only [Int.ofNat_eq_natCast]
  have hp : at_ % (m * 4 + 4) < m * 4 + 4 := Nat.mod_lt _ (by omega)
  have hp' : at_ % (m * 4 + 4) ≤ at_ := Nat.mod_le _ _
  rw [cv32 _ (by omega), mul32 _ _ (by omega), cv32 _ (by omega), mul32 _ _ (by omega), add32 _ _ (by omega), rg_build, o1_some]
  obtain ⟨b1, g1, T1, k1, _, _, L1, e1⟩ := al_st (z := [.i .u32 0, .i .u32 0, .b false, .b false]) (l := Rg.enc ⟨lo * 4, lo * 4 + m * 4, x, w⟩) (n := 4) (by rfl) (enc_all _) rfl rfl h
  rw [zl37, e1, add32 _ _ (by omega), add32 _ _ (by omega), add32 _ _ (by omega), rg_build, o1_some]
  obtain ⟨b2, g2, T2, k2, _, _, L2, e2⟩ := al_st (z := [.i .u32 0, .i .u32 0, .b false, .b false]) (l := Rg.enc ⟨lo * 4 + m * 4, lo * 4 + m * 4 + 4, true, true⟩) (n := 4) (by rfl) (enc_all _) rfl rfl g1
  rw [e2, cv32 _ (by omega), add32 _ _ (by omega), rem32 _ _ _ (by omega), add32 _ _ (by omega), cv32 _ (by omega), rem32 _ _ _ (by omega), add32 _ _ (by omega), add32 _ _ (by omega), add32 _ _ (by omega), leqN]
  rw [L1 g2 k2, rg_build1, o2_pair]
  have k3 : Keep h (newSl (Rg.enc ⟨lo * 4, lo * 4 + m * 4, x, w⟩) 4 1 g2).2 := (k1.trans k2).newSl _ _ _
  have k3' : Keep g2 (newSl (Rg.enc ⟨lo * 4, lo * 4 + m * 4, x, w⟩) 4 1 g2).2 := (Keep.refl _).newSl _ _ _
  have s3 := Own.made (h0 := h) (k1.trans k2) (rows := [Rg.enc ⟨lo * 4, lo * 4 + m * 4, x, w⟩]) (es := 4) (by simp [enc_len]) (l := Rg.enc ⟨lo * 4, lo * 4 + m * 4, x, w⟩) (by simp) (len := 1) rfl
  generalize newSl (Rg.enc ⟨lo * 4, lo * 4 + m * 4, x, w⟩) 4 1 g2 = N3 at *
  rw [L1 _ (k2.trans k3'), L2 _ k3', rg_build2, o2_pair]
  have k4 : Keep h (newSl (Rg.enc ⟨lo * 4, lo * 4 + m * 4, x, w⟩ ++ Rg.enc ⟨lo * 4 + m * 4, lo * 4 + m * 4 + 4, true, true⟩) 4 2 N3.2).2 := k3.newSl _ _ _
  have k4' : Keep N3.2 (newSl (Rg.enc ⟨lo * 4, lo * 4 + m * 4, x, w⟩ ++ Rg.enc ⟨lo * 4 + m * 4, lo * 4 + m * 4 + 4, true, true⟩) 4 2 N3.2).2 := (Keep.refl _).newSl _ _ _
  have s4 := Own.made (h0 := h) k3 (rows := [Rg.enc ⟨lo * 4, lo * 4 + m * 4, x, w⟩, Rg.enc ⟨lo * 4 + m * 4, lo * 4 + m * 4 + 4, true, true⟩]) (es := 4) (by simp [enc_len]) (l := Rg.enc ⟨lo * 4, lo * 4 + m * 4, x, w⟩ ++ Rg.enc ⟨lo * 4 + m * 4, lo * 4 + m * 4 + 4, true, true⟩) (by simp) (len := 2) rfl
  have s3 := s3.keep k4'
  generalize newSl (Rg.enc ⟨lo * 4, lo * 4 + m * 4, x, w⟩ ++ Rg.enc ⟨lo * 4 + m * 4, lo * 4 + m * 4 + 4, true, true⟩) 4 2 N3.2 = N4 at *
  rw [jn_eq, add32 _ _ (by omega), geqN, vb_b, ifB_dec]
  have hp1 := hp
  have hp2 : lo * 4 + at_ % (m * 4 + 4) < 4294967296 := by omega
  have hs1 : 1 + sz % 8 < 4294967296 := by omega
  have hs2 : 1 ≤ 1 + sz % 8 := by omega
  have hs4 : 1 + sz % 8 ≤ 8 := by omega
  have hp4 : lo * 4 + at_ % (m * 4 + 4) ≤ lo * 4 + m * 4 + 3 := by omega
  have hp3 : lo * 4 ≤ lo * 4 + at_ % (m * 4 + 4) := by omega
  have hr1 : (⟨lo * 4, lo * 4 + m * 4, x, w⟩ : Rg).ok := ⟨by show lo * 4 < _; omega, by show lo * 4 + m * 4 < _; omega⟩
  have hr2 : (⟨lo * 4 + m * 4, lo * 4 + m * 4 + 4, true, true⟩ : Rg).ok := ⟨by show lo * 4 + m * 4 < _; omega, by show lo * 4 + m * 4 + 4 < _; omega⟩
  generalize lo * 4 + at_ % (m * 4 + 4) = p at *
  generalize 1 + sz % 8 = s at *
  have hs3 : ¬ s < 1 := by omega
  have key := fun on (hon : on = (decide (lo * 4 + m * 4 ≤ p) && decide (p + s ≤ lo * 4 + m * 4 + 4))) => edges_j n ⟨lo * 4, lo * 4 + m * 4, x, w⟩ ⟨lo * 4 + m * 4, lo * 4 + m * 4 + 4, true, true⟩ hr1 hr2 x w (decide (p + s ≤ lo * 4 + m * 4)) on p s hp2 hs1 N3.1 N4.1 N4.2 s3.sl s4.sl
    (by simp [allowR, anyR, oneR, mayR, hs3, hp3]) (by simp [allowR, anyR, oneR, mayR, hs3, hp3, Bool.and_comm]) (by simp [allowR, anyR, oneR, mayR, hs3, hp3, Bool.and_comm])
    (by simp [allowR, anyR, oneR, mayR, hs3, hp3, hon]) (by simp [allowR, anyR, oneR, mayR, hs3, hp3, hon, Bool.and_comm])
    (by simp [allowR]) (by simp [allowR, anyR, oneR, mayR]) (by simp [allowR, anyR, oneR, mayR])
    (by simp [allowR, anyR, oneR, mayR]; omega)
  by_cases hge : lo * 4 + m * 4 ≤ p
  · rw [if_pos hge, add32 _ _ (by omega), add32 _ _ (by omega), add32 _ _ (by omega), leqN]
    exact RetsQ.of k4 (key _ (by simp [hge]))
  · rw [if_neg hge]
    exact RetsQ.of k4 (key _ (by simp [hge]))
end R
end Go.Proofs.Try
