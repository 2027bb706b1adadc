/-
  The laws LeakAll, LeakMade, LeakPrefix. Conditions: none.
-/
import Derived.Test.YtednpcncjiaahaaL1
set_option linter.unusedVariables false
set_option linter.unusedSimpArgs false
namespace Go.Ab
open Go
theorem ia_xor (k : IntKind) (a b : Int) (K : V → ROut) : ia .xor k a b K = K (.i k (k.wrap (BitVec.ofInt k.bits a ^^^ BitVec.ofInt k.bits b).toNat)) := by rw [ia_eq']; exact o1_some _ _
theorem ofInt_wrap (k : IntKind) (x : Int) : BitVec.ofInt k.bits (k.wrap x) = BitVec.ofInt k.bits x := by
  cases k <;> (apply BitVec.eq_of_toNat_eq; simp [IntKind.wrap, IntKind.bits, IntKind.signed, BitVec.toNat_ofInt]; try (split <;> omega))
end Go.Ab
namespace Go.Proofs.Try
open Go Go.Ab
namespace R
def AwakeL (cf : CallF) : Prop := ∀ h, Does (cf 12 [] h) h fun u _ => u = .b true
theorem leak_b : buildV prog 30 [(0, .i .u32 (.ofNat 4))] = some (.agg (Lk.enc ⟨4, 0, 0⟩)) := by kernel_rfl
theorem ev_b0 : buildV prog 33 [] = some (.agg (Lk.ev ⟨0, 0, 0⟩)) := by kernel_rfl
theorem ev_b (n : Int) : buildV prog 33 [(2, .i .u32 n)] = some (.agg (Lk.ev ⟨0, 0, n⟩)) := by kernel_rfl
theorem leak_s1 (r : Lk) (h : Heap) : buildSliceV prog 22 1 [(0, .agg r.enc)] h = some (newSl r.enc 3 1 h) := by kernel_rfl
theorem leak_s0 (h : Heap) : buildSliceV prog 22 0 [] h = some (newSl [] 3 0 h) := by kernel_rfl
theorem ev_s1 (r : Lk) (h : Heap) : buildSliceV prog 23 1 [(0, .agg r.ev)] h = some (newSl r.ev 3 1 h) := by kernel_rfl
theorem ev_s0 (h : Heap) : buildSliceV prog 23 0 [] h = some (newSl [] 3 0 h) := by kernel_rfl
theorem leak_slTy : slTy prog 22 3 16 = true := by kernel_rfl
theorem ev_slTy : slTy prog 23 3 24 = true := by kernel_rfl
theorem s1_enc {h0 h : Heap} (k : Keep h0 h) (r : Lk) : Own h0 (newSl r.enc 3 1 h).2 (newSl r.enc 3 1 h).1 3 [r.enc] := Own.made k (by simp [Lk.enc]) (by simp) rfl
theorem s1_ev {h0 h : Heap} (k : Keep h0 h) (r : Lk) : Own h0 (newSl r.ev 3 1 h).2 (newSl r.ev 3 1 h).1 3 [r.ev] := Own.made k (by simp [Lk.ev]) (by simp) rfl
theorem s0 {h0 h : Heap} (k : Keep h0 h) : Own h0 (newSl [] 3 0 h).2 (newSl [] 3 0 h).1 3 [] := Own.made k (by simp) (by simp) rfl
theorem awakeL_ok (n : Nat) : AwakeL (callG tab 10000 (n + 3)) := by
  intro h
  rw [callG_at tab12]
  refine RetsQ.does ?_
  show RetsQ (F12 (callG tab 10000 (n + 2)) 10000 h) h _
  unfold F12
  have nl : ∀ h, SlAt h (.sl none 0 0 true) 3 (([] : List Lk).map Lk.enc) := fun h => .inl ⟨rfl, rfl⟩
  have nv : ∀ h, SlAt h (.sl none 0 0 true) 3 (([] : List Lk).map Lk.ev) := fun h => .inl ⟨rfl, rfl⟩
  refine RetsQ.call (Keep.refl _) (differ_ok (n + 1) (l := []) (m := []) (by simp) (nl h) (nl h)) fun v h1 k1 e => ?_
  subst e
  rw [bi_i, ia_eql, vb_b, ifB_dec, if_pos (show dif 0 [] [] = Int.negSucc 0 from rfl), leak_b, o1_some, leak_s1, o2_pair]
  have k2 := k1.newSl (Lk.enc ⟨4, 0, 0⟩) 3 1
  refine RetsQ.call k2 (differ_ok (n + 1) (l := [⟨4, 0, 0⟩]) (m := []) (by simp) (s1_enc k1 _).sl (nl _)) fun v h3 k3 e => ?_
  subst e
  have k3 := k2.trans k3
  rw [bi_i, ia_eql, vb_b, ifB_dec, if_pos (show dif 0 [⟨4, 0, 0⟩] [] = Int.ofNat 0 from rfl), ev_b0, o1_some, ev_s1, o2_pair]
  have k4 := k3.newSl (Lk.ev ⟨0, 0, 0⟩) 3 1
  refine RetsQ.call k4 (prefix_ok n (l := []) (m := [⟨0, 0, 0⟩]) (by simp) (nv _) (s1_ev k3 _).sl (lit_made _ _ _ _)) fun v h5 k5 e => ?_
  subst e
  have k5 := k4.trans k5
  rw [vb_b, show pre [] [⟨0, 0, 0⟩] = true from rfl, ifB_true, o1_some, ev_s1, o2_pair]
  have k6 := k5.newSl (Lk.ev ⟨0, 0, 0⟩) 3 1
  refine RetsQ.call k6 (prefix_ok n (l := [⟨0, 0, 0⟩]) (m := []) (by simp) (s1_ev k5 _).sl (nv _) lit_nil) fun v h7 k7 e => ?_
  subst e
  rw [un_not]
  exact RetsQ.rt (k6.trans k7) rfl
theorem finL (n : Nat) {h0 h : Heap} (k : Keep h0 h) : RetsQ (cl (callG tab 10000 (n + 3) 12 [] h) fun v46 h47 => rt v46 h47) h0 fun u _ => u = .b true := RetsQ.call k (awakeL_ok n h) fun v h' k' e => RetsQ.rt (k.trans k') e
theorem leakAll_ok (n : Nat) {l m : List Lk} {p q : List Lk} {v w x y : V} {h : Heap} (hv : SlAt h v 3 (l.map Lk.enc)) (hw : SlAt h w 3 (m.map Lk.enc)) (hx : SlAt h x 3 (p.map Lk.ev)) (hy : SlAt h y 3 (q.map Lk.ev)) (hlit : Lit' y) :
    Does (callG tab 10000 (n + 4) 3 [v, w, x, y] h) h fun u _ => u = .b true := by
  rw [callG_at tab3]
  refine RetsQ.does ?_
  show RetsQ (F3 (callG tab 10000 (n + 3)) 10000 v w x y h) h _
  unfold F3
  have fin := finL n (Keep.refl h)
  rw [jn_eq, hv.lns, List.length_map, Int.ofNat_eq_natCast, gtrN, vb_b, ifB_dec]
  by_cases c1 : 200 < l.length
  · rw [if_pos c1]; exact fin
  rw [if_neg c1, hw.lns, List.length_map, gtrN, vb_b, ifB_dec]
  by_cases c2 : 200 < m.length
  · rw [if_pos c2]; exact fin
  rw [if_neg c2, hx.lns, List.length_map, gtrN, vb_b, ifB_dec]
  by_cases c3 : 200 < p.length
  · rw [if_pos c3]; exact fin
  rw [if_neg c3, hy.lns, List.length_map, gtrN, vb_b, ifB_dec]
  by_cases c4 : 200 < q.length
  · rw [if_pos c4]; exact fin
  rw [if_neg c4]
  unfold F3_j1
  refine RetsQ.call (Keep.refl _) (differ_ok (n + 2) (by omega) hv hw) fun v1 h1 k1 e => ?_
  subst e
  refine RetsQ.call k1 (differ_ok' (n + 2) (by omega) (hv.keep k1) (hw.keep k1)) fun v2 h2 k2 e => ?_
  subst e
  have k2 := k1.trans k2
  rw [bi_i, ia_eql, vb_b, ifB_dec, if_pos rfl]
  refine RetsQ.call k2 (prefix_ok (n + 1) (by omega) (hx.keep k2) (hy.keep k2) hlit) fun v3 h3 k3 e => ?_
  subst e
  have k3 := k2.trans k3
  refine RetsQ.call k3 (prefix_ok' (n + 1) (by omega) (hx.keep k3) (hy.keep k3) hlit) fun v4 h4 k4 e => ?_
  subst e
  have bb : ∀ (x y : Bool) (K : V → ROut), bn prog .eql 4 (.b x) (.b y) K = K (.b (x == y)) := fun x y K => by cases x <;> cases y <;> kernel_rfl
  rw [bb, vb_b, beq_self_eq_true, ifB_true]
  exact finL n (k3.trans k4)
/-! plain laws -/
theorem dif_self : ∀ (l : List Lk) (i : Nat), dif i l l = -1
  | [], i => rfl
  | x :: l, i => by show (if x = x then _ else _) = _; rw [if_pos rfl]; exact dif_self l (i + 1)
theorem dif_set : ∀ (l : List Lk) (i k : Nat) (y : Lk) (hk : k < l.length), l[k] ≠ y → dif i l (l.set k y) = ((i + k : Nat) : Int) ∧ dif i (l.set k y) l = ((i + k : Nat) : Int)
  | x :: l, i, 0, y, _, hne => by
    refine ⟨?_, ?_⟩
    · show (if x = y then _ else _) = _; rw [if_neg (show ¬ x = y from hne)]; rfl
    · show (if y = x then _ else _) = _; rw [if_neg (show ¬ y = x from fun h => hne h.symm)]; rfl
  | x :: l, i, k + 1, y, hk, hne => by
    have := dif_set l (i + 1) k y (by simpa using hk) (by simpa using hne)
    have e : i + 1 + k = i + (k + 1) := by omega
    rw [e] at this
    refine ⟨?_, ?_⟩
    · show (if x = x then _ else _) = _; rw [if_pos rfl]; exact this.1
    · show (if x = x then _ else _) = _; rw [if_pos rfl]; exact this.2
theorem dif_take : ∀ (l : List Lk) (i k : Nat), k < l.length → dif i l (l.take k) = ((i + k : Nat) : Int) ∧ dif i (l.take k) l = ((i + k : Nat) : Int)
  | x :: l, i, 0, _ => ⟨rfl, rfl⟩
  | x :: l, i, k + 1, hk => by
    have := dif_take l (i + 1) k (by simpa using hk)
    have e : i + 1 + k = i + (k + 1) := by omega
    rw [e] at this
    refine ⟨?_, ?_⟩
    · show (if x = x then _ else _) = _; rw [if_pos rfl]; exact this.1
    · show (if x = x then _ else _) = _; rw [if_pos rfl]; exact this.2
theorem pre_take (l : List Lk) (k : Nat) (hk : k ≤ l.length) : pre (l.take k) l = true := by
  unfold pre
  rw [List.length_take, Nat.min_eq_left hk, if_pos hk]; simp
theorem pre_more (l : List Lk) (e : Lk) : pre (l ++ [e]) l = false := by
  unfold pre
  rw [if_neg (by simp)]
theorem pre_set (l : List Lk) (k j : Nat) (y : Lk) (hk : k ≤ l.length) (hj : j < k) (hne : l[j]'(by omega) ≠ y) : pre ((l.take k).set j y) l = false := by
  unfold pre
  rw [List.length_set, List.length_take, Nat.min_eq_left hk, if_pos hk]
  refine decide_eq_false fun h => hne ?_
  have := congrArg (fun q => q[j]?) h
  simp only [List.getElem?_set, if_pos] at this
  rw [if_pos (by rw [List.length_take]; omega), List.getElem?_take, if_pos hj, List.getElem?_eq_getElem (by omega)] at this
  exact (Option.some.inj this).symm
def Lk.ok (l : Lk) : Prop := (Go.Lit.int .u32 l.a).wf = true ∧ (Go.Lit.int .u32 l.b).wf = true ∧ (Go.Lit.int .i64 l.c).wf = true
def Lk.ok2 (l : Lk) : Prop := (Go.Lit.int .i64 l.a).wf = true ∧ (Go.Lit.int .i64 l.b).wf = true ∧ (Go.Lit.int .u32 l.c).wf = true
end R
end Go.Proofs.Try
