/-
  What a printed function returns, and calls; numbers; parts of slices; slices that are written. Conditions: none.
-/
import Derived.Test.YtednpcncjiaahaaSym2
set_option linter.unusedVariables false
set_option linter.unusedSimpArgs false
namespace Go.Ab
open Go
theorem wrap64n {n : Nat} (h : n < 9223372036854775808) : wrapI .i64 (n : Int) = n := fits_wrap (by
  show Nat.blt n (hiN .i64) = true
  exact blt_true h)
theorem wrapU64 {n : Nat} (h : n < 18446744073709551616) : wrapI .u64 (n : Int) = n := fits_wrap (by
  show Nat.blt n (hiN .u64) = true
  exact blt_true h)
/-- it returns what 'Q' says, and keeps what there was -/
def RetsQ (r : ROut) (h : Heap) (Q : V → Heap → Prop) : Prop := ∃ v h', Keep h h' ∧ r = rt v h' ∧ Q v h'
def Does (o : Out) (h : Heap) (Q : V → Heap → Prop) : Prop := ∃ v h', Keep h h' ∧ o = .val v h' ∧ Q v h'
theorem RetsQ.rt {v : V} {h h' : Heap} {Q : V → Heap → Prop} (k : Keep h h') (q : Q v h') : RetsQ (rt v h') h Q := ⟨v, h', k, rfl, q⟩
theorem RetsQ.of {r : ROut} {h h1 : Heap} {Q : V → Heap → Prop} (k : Keep h h1) (e : RetsQ r h1 Q) : RetsQ r h Q := let ⟨v, h', k', e', q⟩ := e; ⟨v, h', k.trans k', e', q⟩
theorem RetsQ.call {o : Out} {h h0 : Heap} {Q Q' : V → Heap → Prop} {K : Kt} (k0 : Keep h0 h) (g : Does o h Q') (hK : ∀ v h', Keep h h' → Q' v h' → RetsQ (K v h') h0 Q) : RetsQ (cl o K) h0 Q := by
  obtain ⟨v, h', k, e, q⟩ := g
  rw [e, cl_val]
  exact hK v h' k q
theorem RetsQ.ofRets {r : ROut} {v : V} {h : Heap} (e : Rets r v h) : RetsQ r h fun u _ => u = v := let ⟨h', k, e'⟩ := e; ⟨v, h', k, e', rfl⟩
theorem Rets.ofQ {r : ROut} {v : V} {h : Heap} (e : RetsQ r h fun u _ => u = v) : Rets r v h := by
  obtain ⟨u, h', k, e', rfl⟩ := e; exact ⟨h', k, e'⟩
theorem outOf_rt (v : V) (h : Heap) : outOf (rt v h) = .val v h := rfl
theorem RetsQ.does {r : ROut} {h : Heap} {Q : V → Heap → Prop} (e : RetsQ r h Q) : Does (outOf r) h Q := by
  obtain ⟨v, h', k, rfl, q⟩ := e
  exact ⟨v, h', k, rfl, q⟩
theorem callG_at {tab : Nat → Option Sem1} {f : FuncId} {F : Sem1} (e : tab f = some F) (lf n : Nat) (args : List V) (h : Heap) : callG tab lf (n + 1) f args h = outOf (F (callG tab lf n) lf args h) := by
  rw [callG_succ, e]
theorem o2_pair (p : V × Heap) (K : Kt) : o2 (some p) K = K p.1 p.2 := by cases p; rw [o2_some]
theorem ia_and (k : IntKind) (a b : Int) (K : V → ROut) : ia .and k a b K = K (.i k (k.wrap (BitVec.ofInt k.bits a &&& BitVec.ofInt k.bits b).toNat)) := by rw [ia_eq']; exact o1_some _ _
theorem ia_andNot (k : IntKind) (a b : Int) (K : V → ROut) : ia .andNot k a b K = K (.i k (k.wrap (BitVec.ofInt k.bits a &&& ~~~ (BitVec.ofInt k.bits b)).toNat)) := by rw [ia_eq']; exact o1_some _ _
theorem wrap_u32 (x : BitVec 32) : IntKind.wrap .u32 (x.toNat : Int) = x.toNat := by
  have := x.isLt
  rw [← wrapI_eq]
  exact fits_wrap (by show Nat.blt x.toNat (hiN .u32) = true; exact blt_true this)
theorem ia_andNot32 (a m : Nat) (K : V → ROut) : ia .andNot .u32 (a : Int) (m : Int) K = K (.i .u32 ((BitVec.ofNat 32 a &&& ~~~ BitVec.ofNat 32 m).toNat : Int)) := by
  rw [ia_andNot]
  show K (.i .u32 (IntKind.wrap .u32 ((BitVec.ofInt 32 (a : Int) &&& ~~~ (BitVec.ofInt 32 (m : Int))).toNat : Int))) = _
  rw [BitVec.ofInt_natCast, BitVec.ofInt_natCast, wrap_u32]
theorem ia_and32 (a m : Nat) (K : V → ROut) : ia .and .u32 (a : Int) (m : Int) K = K (.i .u32 ((BitVec.ofNat 32 a &&& BitVec.ofNat 32 m).toNat : Int)) := by
  rw [ia_and]
  show K (.i .u32 (IntKind.wrap .u32 ((BitVec.ofInt 32 (a : Int) &&& (BitVec.ofInt 32 (m : Int))).toNat : Int))) = _
  rw [BitVec.ofInt_natCast, BitVec.ofInt_natCast, wrap_u32]
theorem jn_eq (n : Nat) (X : Fv n → ROut) (J : Fv n) : jn n X J = X J := rfl
theorem ia_rem' (k : IntKind) (a b : Nat) (hb : b ≠ 0) (K : V → ROut) : ia .rem k (a : Int) (b : Int) K = K (.i k ((a % b : Nat) : Int)) := by
  rw [ia_eq']
  show o1 (okc (not (ieq (b : Int) 0)) (some (.i k ((a : Int).tmod (b : Int))))) K = _
  rw [okc_true (by rw [ieq_eq]; simp; omega), o1_some]
  rfl
theorem wrapU32 {n : Nat} (h : n < 4294967296) : wrapI .u32 (n : Int) = n := fits_wrap (by
  show Nat.blt n (hiN .u32) = true
  exact blt_true h)
theorem cv32 (k : IntKind) {n : Nat} (h : n < 4294967296) (K : V → ROut) : cv .u32 (.i k (n : Int)) K = K (.i .u32 (n : Int)) := by rw [cv_i, wrapU32 h]
theorem add32 (a b : Nat) (h : a + b < 4294967296) (K : V → ROut) : bi .add (.i .u32 (a : Int)) (.i .u32 (b : Int)) K = K (.i .u32 ((a + b : Nat) : Int)) := by
  rw [bi_i, ia_add, show (a : Int) + (b : Int) = ((a + b : Nat) : Int) by simp, wrapU32 h]
theorem mul32 (a b : Nat) (h : a * b < 4294967296) (K : V → ROut) : bi .mul (.i .u32 (a : Int)) (.i .u32 (b : Int)) K = K (.i .u32 ((a * b : Nat) : Int)) := by
  rw [bi_i, ia_mul, show (a : Int) * (b : Int) = ((a * b : Nat) : Int) by simp, wrapU32 h]
theorem rem32 (k : IntKind) (a b : Nat) (h : b ≠ 0) (K : V → ROut) : bi .rem (.i k (a : Int)) (.i k (b : Int)) K = K (.i k ((a % b : Nat) : Int)) := by
  rw [bi_i, ia_rem' k a b h]
theorem leqN (k : IntKind) (a b : Nat) (K : V → ROut) : bi .leq (.i k (a : Int)) (.i k (b : Int)) K = K (.b (decide (a ≤ b))) := by
  rw [bi_i, ia_leq]; congr 2; simp
theorem geqN (k : IntKind) (a b : Nat) (K : V → ROut) : bi .geq (.i k (a : Int)) (.i k (b : Int)) K = K (.b (decide (b ≤ a))) := by
  rw [bi_i, ia_geq]; congr 2; simp
/-- a place is made, and a thing put into it -/
theorem al_st {z l : List V} {n : Nat} (hz : z.all V.sc = true) (hl : l.all V.sc = true) (hzn : z.length = n) (hln : l.length = n) (h : Heap) :
    ∃ b h9 T, Keep h h9 ∧ h9.get b = some (.cells n 1 T true) ∧ (∀ (j : Nat) (u : V), l[j]? = some u → T.get j = some u) ∧ (∀ (h' : Heap), Keep h9 h' → ∀ K, ldn n (.p (some (b, 0))) h' K = K (.agg l)) ∧
      ∀ K : Kt, (al z h fun v h8 => st n v (.agg l) h8 (K v)) = K (.p (some (b, 0))) h9 := by
  have g1 := Heap.get_new h (.cells n 1 (wr .e 0 z) true)
  have T : ∀ (j : Nat) (u : V), l[j]? = some u → (wr (wr .e 0 z) 0 l).get j = some u := fun j u hj => by
    have := (List.getElem?_eq_some_iff.1 hj).1
    rw [wr_get, if_pos (by omega)]; simpa using hj
  have g2 := Heap.get_upd (h.new (.cells n 1 (wr .e 0 z) true)) h.next (.cells n 1 (wr (wr .e 0 z) 0 l) true) (Nat.lt_succ_self _)
  refine ⟨h.next, (h.new (.cells n 1 (wr .e 0 z) true)).upd h.next (.cells n 1 (wr (wr .e 0 z) 0 l) true), wr (wr .e 0 z) 0 l, (Keep.new h _).upd (Nat.le_refl _) _, g2, T, fun h' k K => ?_, fun K => ?_⟩
  · exact ldn_p (k.get g2) (by omega) (by rw [← hln]; exact readN_of fun j u hj => by rw [Nat.zero_add]; exact T j u hj) K
  · rw [al_all hz, hzn]
    exact st_p (x := .agg l) g1 hl hln (by omega) _

theorem eqlN (k : IntKind) (a b : Nat) (K : V → ROut) : bi .eql (.i k (a : Int)) (.i k (b : Int)) K = K (.b (decide (a = b))) := by
  rw [bi_i, ia_eql]; congr 2; simp; omega
theorem lssN (k : IntKind) (a b : Nat) (K : V → ROut) : bi .lss (.i k (a : Int)) (.i k (b : Int)) K = K (.b (decide (a < b))) := by
  rw [bi_i, ia_lss]; congr 2; simp
theorem gtrN (k : IntKind) (a b : Nat) (K : V → ROut) : bi .gtr (.i k (a : Int)) (.i k (b : Int)) K = K (.b (decide (b < a))) := by
  rw [bi_i, ia_gtr]; congr 2; simp
theorem neqN (k : IntKind) (a b : Nat) (K : V → ROut) : bi .neq (.i k (a : Int)) (.i k (b : Int)) K = K (.b (!decide (a = b))) := by
  rw [bi_i, ia_neq]; congr 2; simp; omega
theorem add64 (a b : Nat) (h : a + b < 9223372036854775808) (K : V → ROut) : bi .add (.i .i64 (a : Int)) (.i .i64 (b : Int)) K = K (.i .i64 ((a + b : Nat) : Int)) := by
  rw [bi_i, ia_add, show (a : Int) + (b : Int) = ((a + b : Nat) : Int) by simp, wrap64n h]
theorem cv64 (k : IntKind) {n : Nat} (h : n < 9223372036854775808) (K : V → ROut) : cv .i64 (.i k (n : Int)) K = K (.i .i64 (n : Int)) := by rw [cv_i, wrap64n h]
theorem min64 (a b : Nat) (K : V → ROut) : o1 (minmaxV ilt [.i .i64 (a : Int), .i .i64 (b : Int)]) K = K (.i .i64 ((min a b : Nat) : Int)) := by
  show o1 ((okc (decide (IntKind.i64 = IntKind.i64)) (some (cond (ilt (b : Int) (a : Int)) (b : Int) (a : Int)))).map (.i .i64)) K = _
  rw [okc_true (by rfl), Option.map_some, o1_some, ilt_eq]
  by_cases h : b < a
  · rw [decide_eq_true (by omega), Nat.min_eq_right (by omega)]; rfl
  · rw [decide_eq_false (by omega), Nat.min_eq_left (by omega)]; rfl

/-! a part of a slice -/
/-- a slice that none but its maker's literal, or an argument, is -/
def Lit' (v : V) : Prop := ∀ p n c, v ≠ .sl p n c false
theorem lit_nil : Lit' (.sl none 0 0 true) := fun _ _ _ h => by cases h
theorem lit_made (l : List V) (es n : Nat) (h : Heap) : Lit' (newSl l es n h).1 := fun _ _ _ h => by cases h
theorem slice_hi {P : Program} {t e : TypeId} {es : Nat} (hu : P.underlying t = some (.slice e)) (hz : szOf P e = some es) {h : Heap} {v : V} {rows : List (List V)} (s : SlAt h v es rows) (hx : Lit' v) {n : Nat} (hn : n ≤ rows.length) :
    ∃ v', sliceV P t v none (some (.i .i64 (n : Int))) none h = some (v', h) ∧ SlAt h v' es (rows.take n) ∧ Lit' v' := by
  rcases s with ⟨rfl, rfl⟩ | ⟨b, o, cap, x, rfl, h2, h3⟩
  · have : n = 0 := by simpa using hn
    subst this
    refine ⟨.sl none 0 0 true, ?_, .inl ⟨rfl, by simp⟩, lit_nil⟩
    unfold sliceV
    rw [hu]; simp only
    rw [hz]; rfl
  · cases x with
    | false => exact absurd rfl (hx _ _ _)
    | true =>
      have hb : boundsV rows.length cap none (some (.i .i64 (n : Int))) none = some (0, n, cap) := by
        show (match okc (Nat.ble n cap) (some n) with | some h => some (0, h, cap) | none => none) = _
        rw [okc_true (Nat.ble_eq_true_of_le (by omega))]
      refine ⟨.sl (some (b, o)) n cap true, ?_, .inr ⟨b, o, cap, true, by rw [List.length_take, Nat.min_eq_left hn], by rw [List.length_take]; omega, fun hl => ?_⟩, fun _ _ _ h => by cases h⟩
      · unfold sliceV
        rw [hu]; simp only
        rw [hb, hz]; simp only
        rw [okc_true (by rw [Nat.ble_eq_true_of_le (Nat.zero_le n), Nat.ble_eq_true_of_le (show n ≤ cap by omega)]; rfl)]
        simp only [Bool.true_or]
        congr 3
        rw [Nat.zero_mul, Nat.add_zero]; cases Nat.beq cap 0 <;> rfl
      · rw [List.length_take] at hl
        obtain ⟨m, e', tr, own, q1, q2, q3⟩ := h3 (by omega)
        refine ⟨m, e', tr, own, q1, ?_, fun i r hi => ?_⟩
        · rw [List.length_take, Nat.min_eq_left hn]
          have := Nat.mul_le_mul_right es hn
          omega
        · rw [List.getElem?_take] at hi
          split at hi
          · exact q3 i r hi
          · cases hi
/-- a place of an own slice is written -/
theorem Own.put {h0 h : Heap} {v : V} {es : Nat} {rows : List (List V)} (o : Own h0 h v es rows) (k0 : Keep h0 h) {i f : Nat} {r : List V} {u : V} (hi : rows[i]? = some r) (hf : f < r.length) (hu : u.sc = true) (hc : u.cells = [u]) :
    ∃ h', Keep h0 h' ∧ Own h0 h' v es (rows.set i (r.set f u)) ∧ ∀ (k : IntKind) (K : Heap → ROut), (ix es v (.i k (i : Int)) fun p => fa f p fun p => st 1 p u h K) = K h' := by
  have hlt := (List.getElem?_eq_some_iff.1 hi).1
  rcases o with ⟨_, rfl⟩ | ⟨a, ex, n, tr, rfl, ha, h3, h4, h5⟩
  · simp at hlt
  · have hr := (h5 i r hi).1
    have hle : i * es + es ≤ rows.length * es := by
      have : (i + 1) * es ≤ rows.length * es := Nat.mul_le_mul_right _ hlt
      rw [Nat.add_mul, Nat.one_mul] at this; exact this
    refine ⟨h.upd a (.cells n es (wr tr (0 + i * es + f) [u]) true), k0.upd ha _, .inr ⟨a, ex, n, _, by rw [List.length_set], ha, Heap.get_upd _ _ _ (Heap.lt_of_get h3), by rw [List.length_set]; exact h4, fun i' r' hi' => ?_⟩, fun k K => ?_⟩
    · rw [List.getElem?_set] at hi'
      by_cases hii : i = i'
      · subst hii
        rw [if_pos rfl, if_pos hlt] at hi'
        cases hi'
        refine ⟨by rw [List.length_set]; exact hr, fun j w hj => ?_⟩
        rw [List.getElem?_set] at hj
        rw [wr_get]
        by_cases hjf : f = j
        · subst hjf
          rw [if_pos rfl, if_pos hf] at hj; cases hj
          rw [if_pos (by simp)]; simp
        · rw [if_neg hjf] at hj
          rw [if_neg (by simp; omega)]
          exact (h5 i r hi).2 j w hj
      · rw [if_neg hii] at hi'
        obtain ⟨q1, q2⟩ := h5 i' r' hi'
        refine ⟨q1, fun j w hj => ?_⟩
        have hj' := (List.getElem?_eq_some_iff.1 hj).1
        have hne : ¬ (0 + i * es + f ≤ 0 + i' * es + j ∧ 0 + i' * es + j < 0 + i * es + f + [u].length) := by
          simp only [List.length_singleton]
          intro ⟨e1, e2⟩
          have e3 : i * es + f = i' * es + j := by omega
          rcases Nat.lt_or_gt_of_ne hii with hl | hl
          · have : (i + 1) * es ≤ i' * es := Nat.mul_le_mul_right _ hl
            rw [Nat.add_mul, Nat.one_mul] at this; omega
          · have : (i' + 1) * es ≤ i * es := Nat.mul_le_mul_right _ hl
            rw [Nat.add_mul, Nat.one_mul] at this; omega
        rw [wr_get, if_neg hne]
        exact q2 j w hj
    · rw [ix_sl _ _ _ _ _ _ _ _ _ hlt, fa_p]
      have := st_p (sz := 1) (o := 0 + i * es + f) (x := u) h3 (by rw [hc]; simp [hu]) (by rw [hc]; rfl) (by omega) K
      rw [this, hc]
theorem Own.fld {h0 h : Heap} {v : V} {es : Nat} {rows : List (List V)} (o : Own h0 h v es rows) {i f : Nat} {r : List V} {u : V} (hi : rows[i]? = some r) (hf : r[f]? = some u) (k : IntKind) (K : V → ROut) : (ix es v (.i k (i : Int)) fun p => Ab.fa f p fun p => Ab.ld p h K) = K u := o.sl.fld hi k (Keep.refl _) hf K

/-! equality of things -/
theorem eqV_succ (P : Program) (d : Nat) (t : TypeId) (x y : V) : eqV P (d + 1) t x y = eqBy P (eqV P d) t x y := rfl
theorem eqV_int {P : Program} {t : TypeId} {k : IntKind} (h : P.underlying t = some (.int k)) (d : Nat) (a b : Int) : eqV P (d + 1) t (.i k a) (.i k b) = some (decide (a = b)) := by
  rw [eqV_succ]; unfold eqBy; rw [h]; simp only
  rw [okc_true (by simp), ieq_eq]; congr 1
end Go.Ab
