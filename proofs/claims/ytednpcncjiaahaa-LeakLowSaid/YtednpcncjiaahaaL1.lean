/-
  leak.Differ, leak.Prefix and the document's. Conditions: none.
-/
import Derived.Test.YtednpcncjiaahaaSym3
import Derived.Test.YtednpcncjiaahaaGL
set_option linter.unusedVariables false
set_option linter.unusedSimpArgs false
namespace Go.Proofs.Try
open Go Go.Ab
namespace R
structure Lk where
  a : Int
  b : Int
  c : Int
deriving DecidableEq
def Lk.enc (l : Lk) : List V := [.i .u32 l.a, .i .u32 l.b, .i .i64 l.c]
def Lk.ev (l : Lk) : List V := [.i .i64 l.a, .i .i64 l.b, .i .u32 l.c]
theorem Lk.ext' (x y : Lk) : x = y ↔ x.a = y.a ∧ x.b = y.b ∧ x.c = y.c := by cases x; cases y; simp
theorem eq3 {t a b c : TypeId} {ka kb kc : IntKind} {na nb nc : String} {fa fb fc : Field} (ht : prog.underlying t = some (.struct #[fa, fb, fc])) (ha : prog.underlying fa.type = some (.int ka)) (hb : prog.underlying fb.type = some (.int kb)) (hc : prog.underlying fc.type = some (.int kc))
    (hn : and (noBlank [fa, fb, fc]) (not (prog.stoodInHeld t)) = true) (ho : fa.offset = 0 ∧ fb.offset = 1 ∧ fc.offset = 2) (d : Nat) (x y z x' y' z' : Int) :
    eqV prog (d + 2) t (.agg [.i ka x, .i kb y, .i kc z]) (.agg [.i ka x', .i kb y', .i kc z']) = some (decide (x = x' ∧ y = y' ∧ z = z')) := by
  rw [eqV_succ]; unfold eqBy; rw [ht]; simp only
  rw [okc_true hn]
  have pa : ∀ x y z : V, partV prog fa.type [x, y, z] fa.offset = some x := fun x y z => by unfold partV; rw [ha, ho.1]; rfl
  have pb : ∀ x y z : V, partV prog fb.type [x, y, z] fb.offset = some y := fun x y z => by unfold partV; rw [hb, ho.2.1]; rfl
  have pc : ∀ x y z : V, partV prog fc.type [x, y, z] fc.offset = some z := fun x y z => by unfold partV; rw [hc, ho.2.2]; rfl
  simp only [eqFs, pa, pb, pc, eqV_int ha, eqV_int hb, eqV_int hc]
  by_cases h1 : x = x' <;> by_cases h2 : y = y' <;> by_cases h3 : z = z' <;> simp [h1, h2, h3]
theorem eq30 (x y : Lk) : eqV prog 10000 30 (.agg x.enc) (.agg y.enc) = some (decide (x = y)) := by
  have := eq3 (a := 0) (b := 0) (c := 0) (na := "") (nb := "") (nc := "") underlying30 underlying28 underlying28 underlying3 (by kernel_rfl) ⟨rfl, rfl, rfl⟩ 9998 x.a x.b x.c y.a y.b y.c
  refine Eq.trans this ?_
  congr 1; simp [Lk.ext' x y]
theorem eq33 (x y : Lk) : eqV prog 10000 33 (.agg x.ev) (.agg y.ev) = some (decide (x = y)) := by
  have := eq3 (a := 0) (b := 0) (c := 0) (na := "") (nb := "") (nc := "") underlying33 underlying3 underlying3 underlying28 (by kernel_rfl) ⟨rfl, rfl, rfl⟩ 9998 x.a x.b x.c y.a y.b y.c
  refine Eq.trans this ?_
  congr 1; simp [Lk.ext' x y]
theorem neq30 (x y : Lk) (K : V → ROut) : bn prog .neq 30 (.agg x.enc) (.agg y.enc) K = K (.b (!decide (x = y))) := by
  show o1 (okc (not (prog.eqGuardType prog.depth 30)) ((eqV prog 10000 30 (.agg x.enc) (.agg y.enc)).map fun r => .b (not r))) K = _
  rw [okc_true (by kernel_rfl), eq30, Option.map_some, o1_some]
theorem neq33 (x y : Lk) (K : V → ROut) : bn prog .neq 33 (.agg x.ev) (.agg y.ev) K = K (.b (!decide (x = y))) := by
  show o1 (okc (not (prog.eqGuardType prog.depth 33)) ((eqV prog 10000 33 (.agg x.ev) (.agg y.ev)).map fun r => .b (not r))) K = _
  rw [okc_true (by kernel_rfl), eq33, Option.map_some, o1_some]
/-- where two are not alike -/
def dif : Nat → List Lk → List Lk → Int
  | i, x :: l, y :: m => if x = y then dif (i + 1) l m else i
  | _, [], [] => -1
  | i, _, _ => i
def pre (l m : List Lk) : Bool := if l.length ≤ m.length then decide (l = m.take l.length) else false
theorem dif_step {l m : List Lk} {i : Nat} (h1 : i < l.length) (h2 : i < m.length) : dif i (l.drop i) (m.drop i) = if l[i] = m[i] then dif (i + 1) (l.drop (i + 1)) (m.drop (i + 1)) else i := by
  rw [List.drop_eq_getElem_cons h1, List.drop_eq_getElem_cons h2]; rfl
theorem dif_end {l m : List Lk} {i : Nat} (h1 : i = min l.length m.length) : dif i (l.drop i) (m.drop i) = if l.length = m.length then (-1 : Int) else (i : Int) := by
  rcases Nat.lt_trichotomy l.length m.length with h | h | h
  · rw [Nat.min_eq_left (by omega)] at h1
    rw [if_neg (by omega), List.drop_of_length_le (by omega), List.drop_eq_getElem_cons (show i < m.length by omega)]; rfl
  · rw [if_pos h, List.drop_of_length_le (by omega), List.drop_of_length_le (by omega)]; rfl
  · rw [Nat.min_eq_right (by omega)] at h1
    rw [if_neg (by omega), List.drop_of_length_le (l := m) (by omega), List.drop_eq_getElem_cons (show i < l.length by omega)]; rfl
theorem map68 (h : Heap) : makeMapV prog 68 none h = some (.m (some h.next), h.new (.map [] 0)) := rfl
theorem ck30 (x : Lk) : ckV prog 10000 30 (.agg x.enc) = true := by kernel_rfl
theorem upd68 {h : Heap} {b : Nat} (hb : h.get b = some (.map [] 0)) (x : Lk) : mapUpdateV prog 68 (.m (some b)) (.agg x.enc) (.b true) h = some (h.upd b (.map [(.agg x.enc, .b true, 0)] 1)) := by
  unfold mapUpdateV
  rw [underlying68]; simp only
  rw [hb]; simp only
  rw [okc_true (ck30 x)]; rfl
theorem zero4 : zeroV prog 4 = some (.b false) := by kernel_rfl
theorem look68 {h : Heap} {b : Nat} {x y : Lk} (hb : h.get b = some (.map [(.agg x.enc, .b true, 0)] 1)) : lookupV prog 68 (.m (some b)) (.agg y.enc) false h = some (.b (decide (y = x))) := by
  unfold lookupV mapV
  rw [underlying68]; simp only
  rw [hb]; simp only
  rw [okc_true (ck30 y)]
  simp only [findV, eq30]
  by_cases hxy : y = x
  · simp [hxy]
  · simp [hxy, zero4]
theorem differ_loop (cf : CallF) (lf0 : Nat) (l m : List Lk) (hl : l.length < 9223372036854775807) (v w : V) (h0 : Heap) (hv : SlAt h0 v 3 (l.map Lk.enc)) (hw : SlAt h0 w 3 (m.map Lk.enc)) :
    ∀ (d i lf : Nat) (h : Heap), i + d = min l.length m.length → d < lf → Keep h0 h →
    RetsQ (loop 5 lf (F13_b1 cf lf0) v w (.i .i64 ((min l.length m.length : Nat) : Int)) (.i .i64 ((min l.length m.length : Nat) : Int)) (.i .i64 (i : Int)) h) h0 fun u _ => u = .i .i64 (dif i (l.drop i) (m.drop i)) := by
  intro d
  induction d with
  | zero =>
    intro i lf h hi hlf k
    obtain ⟨lf, rfl⟩ : ∃ m, lf = m + 1 := ⟨lf - 1, by omega⟩
    rw [loop_succ, F13_b1, lssN, vb_b, ifB_dec, if_neg (by omega), hv.lns, hw.lns, List.length_map, List.length_map, neqN, vb_b, dif_end (by omega)]
    by_cases e : l.length = m.length
    · rw [if_pos e, decide_eq_true e]; exact RetsQ.rt k rfl
    · rw [if_neg e, decide_eq_false e, show i = min l.length m.length by omega]; exact RetsQ.rt k rfl
  | succ d ih =>
    intro i lf h hi hlf k
    obtain ⟨lf, rfl⟩ : ∃ m, lf = m + 1 := ⟨lf - 1, by omega⟩
    have h1 : i < l.length := by omega
    have h2 : i < m.length := by omega
    rw [loop_succ, F13_b1, lssN, vb_b, ifB_dec, if_pos (by omega), map68, o2_some]
    have k1 := k.trans (Keep.new h (.map [] 0))
    rw [hv.ldn (show (l.map Lk.enc)[i]? = some l[i].enc by simp [h1]) .i64 k1, upd68 (Heap.get_new h _), oh_some]
    have k2 := k1.upd (b := h.next) k.next (.map [(.agg l[i].enc, .b true, 0)] 1)
    rw [hw.ldn (show (m.map Lk.enc)[i]? = some m[i].enc by simp [h2]) .i64 k2, look68 (Heap.get_upd _ _ _ (Nat.lt_succ_self _)), o1_some, un_not, vb_b, dif_step h1 h2]
    by_cases e : l[i] = m[i]
    · rw [if_pos e, decide_eq_true e.symm, Int.ofNat_eq_natCast]
      simp only [Bool.not_true, ifB_false]
      rw [add64 _ _ (by omega)]
      exact ih (i + 1) lf _ (by omega) (by omega) k2
    · rw [if_neg e, decide_eq_false (fun h => e h.symm)]
      exact RetsQ.rt k2 rfl
theorem tab13 : tab 13 = some (wrapF 2 F13) := by kernel_rfl
theorem tab14 : tab 14 = some (wrapF 2 F14) := by kernel_rfl
theorem tab15 : tab 15 = some (wrapF 2 F15) := by kernel_rfl
theorem tab16 : tab 16 = some (wrapF 2 F16) := by kernel_rfl
theorem tab30 : tab 30 = some (wrapF 2 F30) := by kernel_rfl
theorem tab31 : tab 31 = some (wrapF 2 F31) := by kernel_rfl
theorem tab12 : tab 12 = some (wrapF 0 F12) := by kernel_rfl
theorem tab3 : tab 3 = some (wrapF 4 F3) := by kernel_rfl
theorem tab4 : tab 4 = some (wrapF 4 F4) := by kernel_rfl
theorem tab5 : tab 5 = some (wrapF 4 F5) := by kernel_rfl
theorem differ_ok (n : Nat) {l m : List Lk} (hl : l.length < 10000) {v w : V} {h : Heap} (hv : SlAt h v 3 (l.map Lk.enc)) (hw : SlAt h w 3 (m.map Lk.enc)) : Does (callG tab 10000 (n + 1) 13 [v, w] h) h fun u _ => u = .i .i64 (dif 0 l m) := by
  rw [callG_at tab13]
  refine RetsQ.does ?_
  show RetsQ (F13 (callG tab 10000 n) 10000 v w h) h _
  unfold F13
  rw [hv.lns, hw.lns, List.length_map, List.length_map, min64]
  exact differ_loop _ _ l m (by omega) v w h hv hw (min l.length m.length) 0 10000 h (by omega) (by omega) (Keep.refl _)
theorem differ_loop' (cf : CallF) (lf0 : Nat) (l m : List Lk) (hl : l.length < 9223372036854775807) (v w : V) (h0 : Heap) (hv : SlAt h0 v 3 (l.map Lk.enc)) (hw : SlAt h0 w 3 (m.map Lk.enc)) :
    ∀ (d i lf : Nat), i + d = min l.length m.length → d < lf →
    RetsQ (loop 3 lf (F14_b2 cf lf0 (F14_j3 cf lf0)) v w (.i .i64 (i : Int)) h0) h0 fun u _ => u = .i .i64 (dif i (l.drop i) (m.drop i)) := by
  intro d
  induction d with
  | zero =>
    intro i lf hi hlf
    obtain ⟨lf, rfl⟩ : ∃ m, lf = m + 1 := ⟨lf - 1, by omega⟩
    have fin : RetsQ (F14_j3 cf lf0 v w h0) h0 fun u _ => u = .i .i64 (dif i (l.drop i) (m.drop i)) := by
      unfold F14_j3
      rw [hv.lns, hw.lns, List.length_map, List.length_map, eqlN, vb_b, dif_end (by omega), ifB_dec]
      by_cases e : l.length = m.length
      · rw [if_pos e, if_pos e]; exact RetsQ.rt (Keep.refl _) rfl
      · rw [if_neg e, if_neg e, hv.lns, hw.lns, List.length_map, List.length_map, min64, show i = min l.length m.length by omega]; exact RetsQ.rt (Keep.refl _) rfl
    rw [loop_succ, F14_b2, jn_eq, hv.lns, List.length_map, lssN, vb_b, ifB_dec]
    by_cases e : i < l.length
    · rw [if_pos e, hw.lns, List.length_map, lssN, vb_b, ifB_dec, if_neg (by omega)]; exact fin
    · rw [if_neg e]; exact fin
  | succ d ih =>
    intro i lf hi hlf
    obtain ⟨lf, rfl⟩ : ∃ m, lf = m + 1 := ⟨lf - 1, by omega⟩
    have h1 : i < l.length := by omega
    have h2 : i < m.length := by omega
    rw [loop_succ, F14_b2, jn_eq, hv.lns, List.length_map, lssN, vb_b, ifB_dec, if_pos h1, hw.lns, List.length_map, lssN, vb_b, ifB_dec, if_pos h2]
    unfold F14_j1
    rw [hv.ldn (show (l.map Lk.enc)[i]? = some l[i].enc by simp [h1]) .i64 (Keep.refl _), hw.ldn (show (m.map Lk.enc)[i]? = some m[i].enc by simp [h2]) .i64 (Keep.refl _), neq30, vb_b, dif_step h1 h2]
    by_cases e : l[i] = m[i]
    · rw [if_pos e, decide_eq_true e, Int.ofNat_eq_natCast]
      simp only [Bool.not_true, ifB_false]
      rw [add64 _ _ (by omega)]
      exact ih (i + 1) lf (by omega) (by omega)
    · rw [if_neg e, decide_eq_false e]
      exact RetsQ.rt (Keep.refl _) rfl
theorem differ_ok' (n : Nat) {l m : List Lk} (hl : l.length < 10000) {v w : V} {h : Heap} (hv : SlAt h v 3 (l.map Lk.enc)) (hw : SlAt h w 3 (m.map Lk.enc)) : Does (callG tab 10000 (n + 1) 14 [v, w] h) h fun u _ => u = .i .i64 (dif 0 l m) := by
  rw [callG_at tab14]
  refine RetsQ.does ?_
  show RetsQ (F14 (callG tab 10000 n) 10000 v w h) h _
  unfold F14
  rw [jn_eq]
  exact differ_loop' _ _ l m (by omega) v w h hv hw (min l.length m.length) 0 10000 (by omega) (by omega)
/-- two lists of one length, from a place on -/
theorem all_step {l m : List Lk} (hl : l.length = m.length) {i : Nat} (h1 : i < l.length) : decide (l.drop i = m.drop i) = (decide (l[i] = m[i]'(hl ▸ h1)) && decide (l.drop (i + 1) = m.drop (i + 1))) := by
  rw [List.drop_eq_getElem_cons h1, List.drop_eq_getElem_cons (show i < m.length by omega), Bool.eq_iff_iff]
  simp only [decide_eq_true_eq, Bool.and_eq_true, List.cons.injEq]
theorem equal_loop (cf : CallF) (lf0 : Nat) (l m : List Lk) (hl : l.length < 9223372036854775807) (hm : l.length = m.length) (v w : V) (h0 : Heap) (hv : SlAt h0 v 3 (l.map Lk.ev)) (hw : SlAt h0 w 3 (m.map Lk.ev)) :
    ∀ (d i lf : Nat), i + d = l.length → d < lf →
    RetsQ (loop 4 lf (F30_b1 cf lf0) v w (.i .i64 (l.length : Int)) (.i .i64 (i : Int)) h0) h0 fun u _ => u = .b (decide (l.drop i = m.drop i)) := by
  intro d
  induction d with
  | zero =>
    intro i lf hi hlf
    obtain ⟨lf, rfl⟩ : ∃ m, lf = m + 1 := ⟨lf - 1, by omega⟩
    rw [loop_succ, F30_b1, lssN, vb_b, ifB_dec, if_neg (by omega), List.drop_of_length_le (by omega), List.drop_of_length_le (by omega)]
    exact RetsQ.rt (Keep.refl _) rfl
  | succ d ih =>
    intro i lf hi hlf
    obtain ⟨lf, rfl⟩ : ∃ m, lf = m + 1 := ⟨lf - 1, by omega⟩
    have h1 : i < l.length := by omega
    have h2 : i < m.length := by omega
    rw [loop_succ, F30_b1, lssN, vb_b, ifB_dec, if_pos h1]
    rw [hv.ldn (show (l.map Lk.ev)[i]? = some l[i].ev by simp [h1]) .i64 (Keep.refl _), hw.ldn (show (m.map Lk.ev)[i]? = some m[i].ev by simp [h2]) .i64 (Keep.refl _), neq33, vb_b, all_step hm h1]
    by_cases e : l[i] = m[i]
    · rw [decide_eq_true e, Int.ofNat_eq_natCast]
      simp only [Bool.not_true, ifB_false, Bool.true_and]
      rw [add64 _ _ (by omega)]
      exact ih (i + 1) lf (by omega) (by omega)
    · rw [decide_eq_false e]
      exact RetsQ.rt (Keep.refl _) rfl
theorem equal_ok (n : Nat) {l m : List Lk} (hl : l.length < 10000) {v w : V} {h : Heap} (hv : SlAt h v 3 (l.map Lk.ev)) (hw : SlAt h w 3 (m.map Lk.ev)) : Does (callG tab 10000 (n + 1) 30 [v, w] h) h fun u _ => u = .b (decide (l = m)) := by
  rw [callG_at tab30]
  refine RetsQ.does ?_
  show RetsQ (F30 (callG tab 10000 n) 10000 v w h) h _
  unfold F30
  rw [hv.lns, hw.lns, List.length_map, List.length_map, neqN, vb_b]
  by_cases e : l.length = m.length
  · rw [decide_eq_true e]
    simp only [Bool.not_true, ifB_false]
    rw [hv.lns, List.length_map]
    exact equal_loop _ _ l m (by omega) e v w h hv hw l.length 0 10000 (by omega) (by omega)
  · rw [decide_eq_false e, decide_eq_false (fun h => e (by rw [h]))]; exact RetsQ.rt (Keep.refl _) rfl
theorem equal_loop' (cf : CallF) (lf0 : Nat) (l m : List Lk) (hl : l.length < 9223372036854775807) (hm : l.length = m.length) (v w : V) (h0 : Heap) (hv : SlAt h0 v 3 (l.map Lk.ev)) (hw : SlAt h0 w 3 (m.map Lk.ev)) :
    ∀ (d i lf : Nat), i + d = l.length → d < lf →
    RetsQ (loop 3 lf (F31_b1 cf lf0) v w (.i .i64 (i : Int)) h0) h0 fun u _ => u = .b (decide (l.drop i = m.drop i)) := by
  intro d
  induction d with
  | zero =>
    intro i lf hi hlf
    obtain ⟨lf, rfl⟩ : ∃ m, lf = m + 1 := ⟨lf - 1, by omega⟩
    rw [loop_succ, F31_b1, hv.lns, List.length_map, lssN, vb_b, ifB_dec, if_neg (by omega), List.drop_of_length_le (by omega), List.drop_of_length_le (by omega)]
    exact RetsQ.rt (Keep.refl _) rfl
  | succ d ih =>
    intro i lf hi hlf
    obtain ⟨lf, rfl⟩ : ∃ m, lf = m + 1 := ⟨lf - 1, by omega⟩
    have h1 : i < l.length := by omega
    have h2 : i < m.length := by omega
    rw [loop_succ, F31_b1, hv.lns, List.length_map, lssN, vb_b, ifB_dec, if_pos h1]
    rw [hv.ldn (show (l.map Lk.ev)[i]? = some l[i].ev by simp [h1]) .i64 (Keep.refl _), hw.ldn (show (m.map Lk.ev)[i]? = some m[i].ev by simp [h2]) .i64 (Keep.refl _), neq33, vb_b, all_step hm h1]
    by_cases e : l[i] = m[i]
    · rw [decide_eq_true e, Int.ofNat_eq_natCast]
      simp only [Bool.not_true, ifB_false, Bool.true_and]
      rw [add64 _ _ (by omega)]
      exact ih (i + 1) lf (by omega) (by omega)
    · rw [decide_eq_false e]
      exact RetsQ.rt (Keep.refl _) rfl
theorem equal_ok' (n : Nat) {l m : List Lk} (hl : l.length < 10000) {v w : V} {h : Heap} (hv : SlAt h v 3 (l.map Lk.ev)) (hw : SlAt h w 3 (m.map Lk.ev)) : Does (callG tab 10000 (n + 1) 31 [v, w] h) h fun u _ => u = .b (decide (l = m)) := by
  rw [callG_at tab31]
  refine RetsQ.does ?_
  show RetsQ (F31 (callG tab 10000 n) 10000 v w h) h _
  unfold F31
  rw [hv.lns, hw.lns, List.length_map, List.length_map, neqN, vb_b]
  by_cases e : l.length = m.length
  · rw [decide_eq_true e]
    simp only [Bool.not_true, ifB_false]
    exact equal_loop' _ _ l m (by omega) e v w h hv hw l.length 0 10000 (by omega) (by omega)
  · rw [decide_eq_false e, decide_eq_false (fun h => e (by rw [h]))]; exact RetsQ.rt (Keep.refl _) rfl
theorem sz33 : szOf prog 33 = some 3 := by kernel_rfl
theorem sz30 : szOf prog 30 = some 3 := by kernel_rfl
theorem prefix_ok (n : Nat) {l m : List Lk} (hl : l.length < 10000) {v w : V} {h : Heap} (hv : SlAt h v 3 (l.map Lk.ev)) (hw : SlAt h w 3 (m.map Lk.ev)) (hx : Lit' w) : Does (callG tab 10000 (n + 2) 15 [v, w] h) h fun u _ => u = .b (pre l m) := by
  rw [callG_at tab15]
  refine RetsQ.does ?_
  show RetsQ (F15 (callG tab 10000 (n + 1)) 10000 v w h) h _
  unfold F15 pre
  rw [hv.lns, hw.lns, List.length_map, List.length_map, leqN, vb_b, ifB_dec]
  by_cases e : l.length ≤ m.length
  · rw [if_pos e, if_pos e, hv.lns, List.length_map]
    obtain ⟨w', e', hw', _⟩ := slice_hi underlying23 sz33 hw hx (n := l.length) (by simpa using e)
    rw [e', o2_some]
    rw [← List.map_take] at hw'
    exact RetsQ.call (Keep.refl _) (equal_ok n hl hv hw') fun u h' k e => RetsQ.rt k e
  · rw [if_neg e, if_neg e]; exact RetsQ.rt (Keep.refl _) rfl
theorem prefix_ok' (n : Nat) {l m : List Lk} (hl : l.length < 10000) {v w : V} {h : Heap} (hv : SlAt h v 3 (l.map Lk.ev)) (hw : SlAt h w 3 (m.map Lk.ev)) (hx : Lit' w) : Does (callG tab 10000 (n + 2) 16 [v, w] h) h fun u _ => u = .b (pre l m) := by
  rw [callG_at tab16]
  refine RetsQ.does ?_
  show RetsQ (F16 (callG tab 10000 (n + 1)) 10000 v w h) h _
  unfold F16 pre
  rw [hv.lns, hw.lns, List.length_map, List.length_map, leqN, vb_b, ifB_dec]
  by_cases e : l.length ≤ m.length
  · rw [if_pos e, if_pos e, hv.lns, List.length_map]
    obtain ⟨w', e', hw', _⟩ := slice_hi underlying23 sz33 hw hx (n := l.length) (by simpa using e)
    rw [e', o2_some]
    rw [← List.map_take] at hw'
    exact RetsQ.call (Keep.refl _) (equal_ok' n hl hv hw') fun u h' k e => RetsQ.rt k e
  · rw [if_neg e, if_neg e]; exact RetsQ.rt (Keep.refl _) rfl
end R
end Go.Proofs.Try
