/-
  Walking the printed functions: what operations come to on known values. Conditions: none.
-/
import Derived.Test.YtednpcncjiaahaaRow2
set_option linter.unusedVariables false
set_option linter.unusedSimpArgs false
namespace Go.Ab
open Go

theorem kq_self (k : IntKind) : kq k k = true := by cases k <;> rfl
@[simp] theorem ifB_true (x y : ROut) : ifB true x y = x := rfl
@[simp] theorem ifB_false (x y : ROut) : ifB false x y = y := rfl
theorem ifB_ite (q : Bool) (x y : ROut) : ifB q x y = if q = true then x else y := by cases q <;> rfl
theorem ifB_dec (p : Prop) [Decidable p] (x y : ROut) : ifB (decide p) x y = if p then x else y := by by_cases h : p <;> simp [h]
@[simp] theorem vb_b (q : Bool) (K : Bool → ROut) : vb (.b q) K = K q := rfl
@[simp] theorem vi_i (k : IntKind) (n : Int) (K : IntKind → Int → ROut) : vi (.i k n) K = K k n := rfl
@[simp] theorem vs_s (s : SB) (K : SB → ROut) : vs (.s s) K = K s := rfl
@[simp] theorem lns_sl (a : Option (Nat × Nat)) (n c : Nat) (x : Bool) (K : V → ROut) : lns (.sl a n c x) K = K (.i .i64 (n : Int)) := rfl
@[simp] theorem lnt_s (s : SB) (K : V → ROut) : lnt (.s s) K = K (.i .i64 (s.n : Int)) := rfl
@[simp] theorem bi_i (op : BinOp) (k : IntKind) (a b : Int) (K : V → ROut) : bi op (.i k a) (.i k b) K = ia op k a b K := by
  show ifB (kq k k) _ _ = _
  rw [kq_self]
theorem fits_wrap {k : IntKind} {n : Int} (h : fitsI k n = true) : wrapI k n = n := by unfold wrapI; rw [h]; rfl
@[simp] theorem ia_add (k : IntKind) (a b : Int) (K : V → ROut) : ia .add k a b K = K (.i k (wrapI k (a + b))) := fi_eq _ _ _
@[simp] theorem ia_sub (k : IntKind) (a b : Int) (K : V → ROut) : ia .sub k a b K = K (.i k (wrapI k (a - b))) := fi_eq _ _ _
@[simp] theorem ia_mul (k : IntKind) (a b : Int) (K : V → ROut) : ia .mul k a b K = K (.i k (wrapI k (a * b))) := fi_eq _ _ _
@[simp] theorem ia_eql (k : IntKind) (a b : Int) (K : V → ROut) : ia .eql k a b K = K (.b (decide (a = b))) := by show K (.b (ieq a b)) = _; rw [ieq_eq]; congr 2
@[simp] theorem ia_neq (k : IntKind) (a b : Int) (K : V → ROut) : ia .neq k a b K = K (.b (!decide (a = b))) := by show K (.b (not (ieq a b))) = _; rw [ieq_eq]; congr 2
@[simp] theorem ia_lss (k : IntKind) (a b : Int) (K : V → ROut) : ia .lss k a b K = K (.b (decide (a < b))) := by show K (.b (ilt a b)) = _; rw [ilt_eq]
@[simp] theorem ia_leq (k : IntKind) (a b : Int) (K : V → ROut) : ia .leq k a b K = K (.b (decide (a ≤ b))) := by
  show K (.b (not (ilt b a))) = _; rw [ilt_eq]; congr 2; by_cases h : a ≤ b
  · simp [h]
  · simp [h]; omega
@[simp] theorem ia_gtr (k : IntKind) (a b : Int) (K : V → ROut) : ia .gtr k a b K = K (.b (decide (b < a))) := by show K (.b (ilt b a)) = _; rw [ilt_eq]
@[simp] theorem ia_geq (k : IntKind) (a b : Int) (K : V → ROut) : ia .geq k a b K = K (.b (decide (b ≤ a))) := by
  show K (.b (not (ilt a b))) = _; rw [ilt_eq]; congr 2; by_cases h : b ≤ a
  · simp [h]
  · simp [h]; omega
@[simp] theorem cv_i (k k' : IntKind) (n : Int) (K : V → ROut) : cv k (.i k' n) K = K (.i k (wrapI k n)) := fi_eq _ _ _
@[simp] theorem o1_some (v : V) (K : V → ROut) : o1 (some v) K = K v := fo_eq _ _
@[simp] theorem o2_some (v : V) (h : Heap) (K : Kt) : o2 (some (v, h)) K = K v h := by simp only [o2, fo_eq, fh_eq]
@[simp] theorem oh_some (h : Heap) (K : Heap → ROut) : oh (some h) K = K h := fh_eq _ _
@[simp] theorem cl_val (v : V) (h : Heap) (K : Kt) : cl (.val v h) K = K v h := by simp only [cl, fo_eq, fh_eq]
@[simp] theorem cln_val (v : V) (h : Heap) (K : Kt) : cln (.val v h) K = K v h := by simp only [cln, fo_eq, fh_eq]
@[simp] theorem un_not (q : Bool) (K : V → ROut) : o1 (unV .not (.b q)) K = K (.b (!q)) := by simp only [o1, unV, fo_eq]
@[simp] theorem fa_p (off b o : Nat) (K : V → ROut) : fa off (.p (some (b, o))) K = K (.p (some (b, o + off))) := by simp only [fa, vPtr, forceN_eq]
@[simp] theorem nc_p (b o : Nat) (K : V → ROut) : nc (.p (some (b, o))) K = K (.p (some (b, o))) := rfl
theorem ix_sl (sz b o n c : Nat) (x : Bool) (k : IntKind) (i : Nat) (K : V → ROut) (hi : i < n) : ix sz (.sl (some (b, o)) n c x) (.i k (i : Int)) K = K (.p (some (b, o + i * sz))) := by
  show ifB (Nat.blt i n) (forceN _ _) .fail = _
  rw [blt_true hi, forceN_eq]
theorem ixa_p (m sz b o : Nat) (k : IntKind) (i : Nat) (K : V → ROut) (hi : i < m) : ixa m sz (.p (some (b, o))) (.i k (i : Int)) K = K (.p (some (b, o + i * sz))) := by
  show ifB (Nat.blt i m) (forceN _ _) .fail = _
  rw [blt_true hi, forceN_eq]
theorem ld_p {b o : Nat} {h : Heap} {n e : Nat} {t : PT V} {own : Bool} {v : V} (hb : h.get b = some (.cells n e t own)) (ho : o < n) (hv : t.get o = some v) (K : V → ROut) : ld (.p (some (b, o))) h K = K v := by
  show bCells (h.get b) _ = _
  rw [hb]
  show ifB (Nat.blt o n) (Option.rec (motive := fun _ => ROut) .fail K (t.get o)) .fail = _
  rw [blt_true ho, hv]
theorem ldn_p {sz b o : Nat} {h : Heap} {n e : Nat} {t : PT V} {own : Bool} {l : List V} (hb : h.get b = some (.cells n e t own)) (ho : o + sz ≤ n) (hv : readN t o sz = some l) (K : V → ROut) : ldn sz (.p (some (b, o))) h K = K (.agg l) := by
  show bCells (h.get b) _ = _
  rw [hb]
  show ifB (Nat.ble (o + sz) n) (Option.rec (motive := fun _ => ROut) .fail (fun l => K (.agg l)) (readN t o sz)) .fail = _
  rw [Nat.ble_eq_true_of_le ho, hv]
theorem al_all {l : List V} (hl : l.all V.sc = true) (h : Heap) (K : Kt) : al l h K = K (.p (some (h.next, 0))) (h.new (.cells l.length 1 (wr .e 0 l) true)) := by
  unfold al; rw [hl, fh_eq]
theorem st_p {sz b o : Nat} {x : V} {h : Heap} {n e : Nat} {t : PT V} (hb : h.get b = some (.cells n e t true)) (hs : x.cells.all V.sc = true) (hz : x.cells.length = sz) (ho : o + sz ≤ n) (K : Heap → ROut) :
    st sz (.p (some (b, o))) x h K = K (h.upd b (.cells n e (wr t o x.cells) true)) := by
  show bCells (h.get b) _ = _
  rw [hb]
  show ifB true (ifB (and (x.cells.all V.sc) (and (Nat.beq x.cells.length sz) (Nat.ble (o + sz) n))) (fh _ K) .fail) .fail = _
  rw [hs, hz, Nat.beq_refl, Nat.ble_eq_true_of_le ho, fh_eq]; rfl

/-! memory kept -/
/-- what there was is as it was -/
structure Keep (h h' : Heap) : Prop where
  next : h.next ≤ h'.next
  old : ∀ a, a < h.next → h'.get a = h.get a
  wl : ∃ l, h'.wl = l ++ h.wl ∧ ∀ x ∈ l, h.next ≤ x
theorem Keep.refl (h : Heap) : Keep h h := ⟨Nat.le_refl _, fun _ _ => rfl, [], rfl, fun _ h => by cases h⟩
theorem Keep.trans {a b c : Heap} (x : Keep a b) (y : Keep b c) : Keep a c := by
  obtain ⟨l, h1, h2⟩ := x.wl
  obtain ⟨k, h3, h4⟩ := y.wl
  refine ⟨Nat.le_trans x.next y.next, fun i hi => by rw [y.old i (Nat.lt_of_lt_of_le hi x.next), x.old i hi], k ++ l, by rw [h3, h1, List.append_assoc], fun i hi => ?_⟩
  rcases List.mem_append.1 hi with hi | hi
  · exact Nat.le_trans x.next (h4 i hi)
  · exact h2 i hi
theorem Keep.new (h : Heap) (B : Blk) : Keep h (h.new B) := ⟨Nat.le_succ _, fun a ha => Heap.get_new_other h B (by omega), [], rfl, fun _ h => by cases h⟩
theorem Keep.upd {a h : Heap} (k : Keep a h) {b : Nat} (hb : a.next ≤ b) (B : Blk) : Keep a (h.upd b B) := by
  obtain ⟨l, h1, h2⟩ := k.wl
  refine ⟨k.next, fun i hi => by rw [Heap.get_upd_other h b B (by omega), k.old i hi], b :: l, by show b :: h.wl = _; rw [h1]; rfl, fun i hi => ?_⟩
  rcases List.mem_cons.1 hi with rfl | hi
  · exact hb
  · exact h2 i hi
theorem Keep.get {h h' : Heap} (k : Keep h h') {b : Nat} {B : Blk} (hb : h.get b = some B) : h'.get b = some B := by rw [k.old b (Heap.lt_of_get hb)]; exact hb
theorem SlAt.keep {h h' : Heap} {v : V} {es : Nat} {rows : List (List V)} (s : SlAt h v es rows) (k : Keep h h') : SlAt h' v es rows := by
  rcases s with s | ⟨b, o, cap, x, h1, h2, h3⟩
  · exact .inl s
  · refine .inr ⟨b, o, cap, x, h1, h2, fun hl => ?_⟩
    obtain ⟨n, e, t, own, q1, q2⟩ := h3 hl
    exact ⟨n, e, t, own, k.get q1, q2⟩
theorem SlAt.lns {h : Heap} {v : V} {es : Nat} {rows : List (List V)} (s : SlAt h v es rows) (K : V → ROut) : lns v K = K (.i .i64 (rows.length : Int)) := by
  rcases s with ⟨rfl, rfl⟩ | ⟨b, o, cap, x, rfl, _⟩
  · rfl
  · rfl
theorem readN_of {t : PT V} : ∀ {l : List V} {o : Nat}, (∀ (j : Nat) (u : V), l[j]? = some u → t.get (o + j) = some u) → readN t o l.length = some l
  | [], o, _ => rfl
  | v :: l, o, h => by
    show readN t o (l.length + 1) = _
    have h0 := h 0 v rfl
    rw [Nat.add_zero] at h0
    rw [readN_succ, h0]
    simp only
    rw [readN_of (l := l) (o := o + 1) fun j u hj => by rw [Nat.add_assoc, Nat.add_comm 1]; exact h (j + 1) u hj]
/-- an element as a whole -/
theorem SlAt.at {h : Heap} {v : V} {es : Nat} {rows : List (List V)} (s : SlAt h v es rows) {i : Nat} {r : List V} (hi : rows[i]? = some r) : ∃ b o, (∀ (k : IntKind) K, ix es v (.i k (i : Int)) K = K (.p (some (b, o)))) ∧ b < h.next ∧ ∃ n e t own, h.get b = some (.cells n e t own) ∧ o + es ≤ n ∧ r.length = es ∧ ∀ (j : Nat) (u : V), r[j]? = some u → t.get (o + j) = some u := by
  have hlt := (List.getElem?_eq_some_iff.1 hi).1
  rcases s with ⟨_, rfl⟩ | ⟨b, o, cap, x, rfl, h2, h3⟩
  · simp at hlt
  · obtain ⟨n, e, t, own, q1, q2, q3⟩ := h3 (by omega)
    obtain ⟨q4, q5⟩ := q3 i r hi
    refine ⟨b, o + i * es, fun k K => ix_sl es b o rows.length cap x k i K hlt, Heap.lt_of_get q1, n, e, t, own, q1, ?_, q4, q5⟩
    have : i * es + es ≤ rows.length * es := by
      have : (i + 1) * es ≤ rows.length * es := Nat.mul_le_mul_right _ hlt
      rw [Nat.add_mul, Nat.one_mul] at this; exact this
    omega
theorem SlAt.ldn {h : Heap} {v : V} {es : Nat} {rows : List (List V)} (s : SlAt h v es rows) {i : Nat} {r : List V} (hi : rows[i]? = some r) (k : IntKind) {h' : Heap} (kp : Keep h h') (K : V → ROut) : (ix es v (.i k (i : Int)) fun p => Ab.ldn es p h' K) = K (.agg r) := by
  obtain ⟨b, o, h1, h2, n, e, t, own, h3, h4, h5, h6⟩ := s.at hi
  rw [h1]
  exact ldn_p (kp.get h3) h4 (by rw [← h5]; exact readN_of h6) K
theorem SlAt.fld {h : Heap} {v : V} {es : Nat} {rows : List (List V)} (s : SlAt h v es rows) {i : Nat} {r : List V} (hi : rows[i]? = some r) (k : IntKind) {h' : Heap} (kp : Keep h h') {f : Nat} {u : V} (hf : r[f]? = some u) (K : V → ROut) : (ix es v (.i k (i : Int)) fun p => Ab.fa f p fun p => Ab.ld p h' K) = K u := by
  obtain ⟨b, o, h1, h2, n, e, t, own, h3, h4, h5, h6⟩ := s.at hi
  rw [h1, fa_p]
  have := (List.getElem?_eq_some_iff.1 hf).1
  exact ld_p (kp.get h3) (by omega) (h6 f u hf) K
theorem SlAt.ld1 {h : Heap} {v : V} {rows : List (List V)} (s : SlAt h v 1 rows) {i : Nat} {u : V} (hi : rows[i]? = some [u]) (k : IntKind) {h' : Heap} (kp : Keep h h') (K : V → ROut) : (ix 1 v (.i k (i : Int)) fun p => Ab.ld p h' K) = K u := by
  obtain ⟨b, o, h1, h2, n, e, t, own, h3, h4, h5, h6⟩ := s.at hi
  rw [h1]
  have := h6 0 u rfl
  rw [Nat.add_zero] at this
  exact ld_p (kp.get h3) (by omega) this K
/-- it returns 'v', and keeps what there was -/
def Rets (r : ROut) (v : V) (h : Heap) : Prop := ∃ h', Keep h h' ∧ r = rt v h'
theorem Rets.rt {v : V} {h h' : Heap} (k : Keep h h') : Rets (rt v h') v h := ⟨h', k, rfl⟩
theorem Rets.eq {u v : V} {h h' : Heap} (e : u = v) (k : Keep h h') : Rets (Ab.rt u h') v h := ⟨h', k, by rw [e]⟩
theorem Rets.of {r : ROut} {v : V} {h h1 : Heap} (k : Keep h h1) (e : Rets r v h1) : Rets r v h := let ⟨h', k', e'⟩ := e; ⟨h', k.trans k', e'⟩
/-- so does a call -/
def Gives (cf : CallF) (f : FuncId) (args : List V) (v : V) : Prop := ∀ h, ∃ h', Keep h h' ∧ cf f args h = .val v h'
theorem Rets.call {cf : CallF} {f : FuncId} {args : List V} {u v : V} (g : Gives cf f args u) {h : Heap} {K : Kt} (hK : ∀ h', Keep h h' → Rets (K u h') v h') : Rets (cl (cf f args h) K) v h := by
  obtain ⟨h', k, e⟩ := g h
  rw [e, cl_val]
  exact (hK h' k).of k
theorem Rets.ite {p : Prop} [Decidable p] {x y : ROut} {v : V} {h : Heap} (h1 : p → Rets x v h) (h2 : ¬ p → Rets y v h) : Rets (if p then x else y) v h := by
  split
  · exact h1 ‹_›
  · exact h2 ‹_›
end Go.Ab
