/-
  leak.Low and the document's. Conditions: none.
-/
import Derived.Test.YtednpcncjiaahaaL2
import Derived.Test.YtednpcncjiaahaaSym5
set_option linter.unusedVariables false
set_option linter.unusedSimpArgs false
namespace Go.Ab
open Go
/-- cells that stand somewhere -/
def Has (H : Heap) (a : Nat) (cs : List V) : Prop := ∃ es t own, H.get a = some (.cells cs.length es t own) ∧ ∀ (j : Nat) (u : V), cs[j]? = some u → t.get j = some u
theorem Has.mem {H H' : Heap} {a : Nat} {cs : List V} (h : Has H a cs) (m : Mem H H') : Has H' a cs := by
  obtain ⟨es, t, own, q, w⟩ := h; exact ⟨es, t, own, m.get q, w⟩
theorem Has.ld {H : Heap} {a j : Nat} {cs : List V} {v : V} (h : Has H a cs) (hj : cs[j]? = some v) (K : V → ROut) : Ab.ld (.p (some (a, j))) H K = K v := by
  obtain ⟨es, t, own, q, w⟩ := h
  exact ld_p q (List.getElem?_eq_some_iff.1 hj).1 (w j v hj) K
theorem Has.ldw {H : Heap} {a n : Nat} {cs : List V} (h : Has H a cs) (hn : cs.length = n) (K : V → ROut) : ldn n (.p (some (a, 0))) H K = K (.agg cs) := by
  obtain ⟨es, t, own, q, w⟩ := h
  exact ldn_p q (by omega) (by rw [← hn]; exact readN_of fun j u hj => by rw [Nat.zero_add]; exact w j u hj) K
theorem Sx.has {h0 H : Heap} {c : List Nat} {l : List Res} (S : Sx h0 H c l) {a : Nat} {cs : List V} (hm : .c a cs ∈ l) : Has H a cs := by
  obtain ⟨⟨es, t, q, w⟩, _⟩ := S.own _ hm
  exact ⟨es, t, true, q, w⟩
theorem bs_eql (a b : SB) (K : V → ROut) : bs .eql (.s a) (.s b) K = K (.b (SB.eq a b)) := rfl
end Go.Ab
namespace Go.Proofs.Try
open Go Go.Ab
namespace R
structure Bx where
  nm : SB
  fr : SB
  to : SB
  cp : Int
  sec : Bool
def Bx.enc (b : Bx) : List V := [.s b.nm, .s b.fr, .s b.to, .i .i64 b.cp, .b b.sec]
def encS (l : List SB) : List (List V) := l.map fun s => [.s s]
def encB (l : List Bool) : List (List V) := l.map fun s => [.b s]
noncomputable def idxF : Nat → List SB → SB → Int
  | i, t :: l, s => if SB.eq s t = true then (i : Int) else idxF (i + 1) l s
  | _, [], _ => Int.negSucc 0
theorem SB.eq_comm' (a b : SB) : SB.eq a b = SB.eq b a := by
  rw [SB.eq_eq, SB.eq_eq, Bool.eq_iff_iff, beq_iff_eq, beq_iff_eq]
  exact ⟨Eq.symm, Eq.symm⟩
noncomputable def isP (high : Bool) (tasks : List SB) (secret : List Bool) (s : SB) : Bool := match idxF 0 tasks s with
  | .ofNat k => (secret.getD k false == high)
  | .negSucc _ => false
noncomputable def hit (tasks : List SB) (secret : List Bool) (b : Bx) : Bool := b.sec && (isP true tasks secret b.fr && isP false tasks secret b.to)
noncomputable def lowR (tasks : List SB) (boxes : List Bx) (secret : List Bool) : Bool := !(boxes.any (hit tasks secret))
theorem tab41 : tab 41 = some (wrapF 2 F41) := by kernel_rfl
theorem tab42 : tab 42 = some (wrapF 2 F42) := by kernel_rfl
theorem tab36 : tab 36 = some (wrapF 2 F36) := by kernel_rfl
theorem tab35 : tab 35 = some (wrapF 4 F35) := by kernel_rfl
theorem tab34 : tab 34 = some (wrapF 3 F34) := by kernel_rfl
theorem tab40 : tab 40 = some (wrapF 2 F40) := by kernel_rfl
theorem tab33 : tab 33 = some (wrapF 2 F33) := by kernel_rfl
theorem tab19 : tab 19 = some (wrapF 2 F19) := by kernel_rfl
theorem tab20 : tab 20 = some (wrapF 2 F20) := by kernel_rfl
theorem tab8 : tab 8 = some (wrapF 2 F8) := by kernel_rfl
theorem idx_drop {l : List SB} {i : Nat} (h : i < l.length) (s : SB) : idxF i (l.drop i) s = if SB.eq s l[i] = true then (i : Int) else idxF (i + 1) (l.drop (i + 1)) s := by
  rw [List.drop_eq_getElem_cons h]; rfl
theorem index_loop (cf : CallF) (lf0 : Nat) (l : List SB) (hl : l.length < 10000) (s : SB) (v : V) (h0 : Heap) (hv : SlAt h0 v 1 (encS l)) :
    ∀ (d i lf : Nat), i + d = l.length → d < lf → RetsQ (loop 4 lf (F41_b1 cf lf0) v (.s s) (.i .i64 (l.length : Int)) (.i .i64 (i : Int)) h0) h0 fun u _ => u = .i .i64 (idxF i (l.drop i) s) := by
  intro d
  induction d with
  | zero =>
    intro i lf hi hlf
    obtain ⟨lf, rfl⟩ : ∃ m, lf = m + 1 := ⟨lf - 1, by omega⟩
    rw [loop_succ, F41_b1, lssN, vb_b, ifB_dec, if_neg (by omega), List.drop_of_length_le (by omega)]
    exact RetsQ.rt (Keep.refl _) rfl
  | succ d ih =>
    intro i lf hi hlf
    obtain ⟨lf, rfl⟩ : ∃ m, lf = m + 1 := ⟨lf - 1, by omega⟩
    have h1 : i < l.length := by omega
    rw [loop_succ, F41_b1, lssN, vb_b, ifB_dec, if_pos h1, hv.ld1 (show (encS l)[i]? = some [.s l[i]] by simp [encS, h1]) .i64 (Keep.refl _), bs_eql, vb_b, idx_drop h1, ifB_ite]
    by_cases e : SB.eq s l[i] = true
    · rw [if_pos e, if_pos e]; exact RetsQ.rt (Keep.refl _) rfl
    · rw [if_neg e, if_neg e, Int.ofNat_eq_natCast, add64 _ _ (by omega)]
      exact ih (i + 1) lf (by omega) (by omega)
theorem index_ok (n : Nat) {l : List SB} (hl : l.length < 10000) (s : SB) {v : V} {h : Heap} (hv : SlAt h v 1 (encS l)) : Does (callG tab 10000 (n + 1) 41 [v, .s s] h) h fun u _ => u = .i .i64 (idxF 0 l s) := by
  rw [callG_at tab41]
  refine RetsQ.does ?_
  show RetsQ (F41 (callG tab 10000 n) 10000 v (.s s) h) h _
  unfold F41
  rw [hv.lns, show (encS l).length = l.length by simp [encS]]
  exact index_loop _ _ l hl s v h hv l.length 0 10000 (by omega) (by omega)
theorem task_loop (cf : CallF) (lf0 : Nat) (l : List SB) (hl : l.length < 10000) (s : SB) (cs : List V) (v : V) (hc : cs[1]? = some v) (a : Nat) (h0 H : Heap) (k : Keep h0 H) (hv : SlAt h0 v 1 (encS l)) (ha : Has H a cs) :
    ∀ (d i lf : Nat), i + d = l.length → d < lf → RetsQ (loop 3 lf (F42_b1 cf lf0) (.s s) (.p (some (a, 0))) (.i .i64 (i : Int)) H) h0 fun u _ => u = .i .i64 (idxF i (l.drop i) s) := by
  have hv := hv.keep k
  have hc : cs[0 + 1]? = some v := hc
  intro d
  induction d with
  | zero =>
    intro i lf hi hlf
    obtain ⟨lf, rfl⟩ : ∃ m, lf = m + 1 := ⟨lf - 1, by omega⟩
    rw [loop_succ, F42_b1, fa_p, ha.ld hc, hv.lns, show (encS l).length = l.length by simp [encS], lssN, vb_b, ifB_dec, if_neg (by omega), List.drop_of_length_le (by omega)]
    exact RetsQ.rt k rfl
  | succ d ih =>
    intro i lf hi hlf
    obtain ⟨lf, rfl⟩ : ∃ m, lf = m + 1 := ⟨lf - 1, by omega⟩
    have h1 : i < l.length := by omega
    rw [loop_succ, F42_b1, fa_p, ha.ld hc, hv.lns, show (encS l).length = l.length by simp [encS], lssN, vb_b, ifB_dec, if_pos h1, fa_p, ha.ld hc, hv.ld1 (show (encS l)[i]? = some [.s l[i]] by simp [encS, h1]) .i64 (Keep.refl _), bs_eql, vb_b, idx_drop h1, ifB_ite, SB.eq_comm']
    by_cases e : SB.eq s l[i] = true
    · rw [if_pos e, if_pos e]; exact RetsQ.rt k rfl
    · rw [if_neg e, if_neg e, Int.ofNat_eq_natCast, add64 _ _ (by omega)]
      exact ih (i + 1) lf (by omega) (by omega)
theorem task_ok (n : Nat) {l : List SB} (hl : l.length < 10000) (s : SB) {cs : List V} (hs : cs.all V.sc = true) (h4 : cs.length = 4) {v : V} (hc : cs[1]? = some v) {h : Heap} (hv : SlAt h v 1 (encS l)) : Does (callG tab 10000 (n + 2) 36 [.agg cs, .s s] h) h fun u _ => u = .i .i64 (idxF 0 l s) := by
  rw [callG_at tab36]
  refine RetsQ.does ?_
  show RetsQ (F36 (callG tab 10000 (n + 1)) 10000 (.agg cs) (.s s) h) h _
  unfold F36
  simp only [V.cells]
  refine e_al (Sx.start h) hs fun a H S _ _ _ => ?_
  rw [ldw_st S (n := 4) (.head _) h4]
  refine e_call S (Q' := fun u _ => u = .i .i64 (idxF 0 l s)) ?_ fun u H1 S e _ => e_rt S e
  rw [callG_at tab42]
  refine RetsQ.does ?_
  show RetsQ (F42 (callG tab 10000 n) 10000 (.agg cs) (.s s) H) H _
  unfold F42
  simp only [V.cells]
  have hv' := hv.mem S.mem
  refine e_al (Sx.start H) hs fun b H2 S2 _ _ _ => ?_
  exact task_loop _ _ l hl s cs v hc b H H2 S2.keep hv' (S2.has (.head _)) l.length 0 10000 (by omega) (by omega)
theorem is_ok (n : Nat) (high : Bool) {l : List SB} (hl : l.length < 10000) {sec : List Bool} (s : SB) {cs : List V} (hs : cs.all V.sc = true) {v w : V} (hc : cs[1]? = some v) {h : Heap} (hv : SlAt h v 1 (encS l)) (hw : SlAt h w 1 (encB sec)) :
    Does (callG tab 10000 (n + 2) 35 [.b high, .agg cs, w, .s s] h) h fun u _ => u = .b (isP high l sec s) := by
  rw [callG_at tab35]
  refine RetsQ.does ?_
  show RetsQ (F35 (callG tab 10000 (n + 1)) 10000 (.b high) (.agg cs) w (.s s) h) h _
  unfold F35
  simp only [V.cells]
  have bb : ∀ (x y : Bool) (K : V → ROut), bn prog .eql 4 (.b x) (.b y) K = K (.b (x == y)) := fun x y K => by cases x <;> cases y <;> kernel_rfl
  refine e_al (Sx.start h) hs fun a H S _ _ _ => ?_
  rw [fa_p, ld_st S (.head _) (show cs[0 + 1]? = some v from hc)]
  refine e_call S (index_ok n hl s (hv.mem S.mem)) fun u H1 S e _ => ?_
  subst e
  unfold isP
  have hw := hw.mem S.mem
  cases hi : idxF 0 l s with
  | negSucc k => rw [bi_i, ia_geq, vb_b, ifB_dec, if_neg (by simp)]; exact e_rt S rfl
  | ofNat k =>
    rw [Int.ofNat_eq_natCast, Int.ofNat_eq_natCast, geqN, vb_b, ifB_dec, if_pos (Nat.zero_le _), hw.lns, show (encB sec).length = sec.length by simp [encB], lssN, vb_b, ifB_dec]
    by_cases c : k < sec.length
    · rw [if_pos c, hw.ld1 (show (encB sec)[k]? = some [.b sec[k]] by simp [encB, c]) .i64 (Keep.refl _), bb]
      exact e_rt S (by simp [List.getD_eq_getElem?_getD, c])
    · rw [if_neg c, bb]
      exact e_rt S (by simp [List.getD_eq_getElem?_getD, List.getElem?_eq_none (Nat.le_of_not_lt c)])
theorem bx_sc (b : Bx) : b.enc.all V.sc = true := rfl
theorem hit_ok (n : Nat) (b : Bx) {l : List SB} (hl : l.length < 10000) {sec : List Bool} {cs : List V} (hs : cs.all V.sc = true) (h4 : cs.length = 4) {v w : V} (hc : cs[1]? = some v) {h : Heap} (hv : SlAt h v 1 (encS l)) (hw : SlAt h w 1 (encB sec)) {x y : Nat} (hx : Has h x cs) (hy : Has h y [w]) :
    Does (callG tab 10000 (n + 3) 34 [.agg b.enc, .p (some (x, 0)), .p (some (y, 0))] h) h fun u _ => u = .b (hit l sec b) := by
  rw [callG_at tab34]
  refine RetsQ.does ?_
  show RetsQ (F34 (callG tab 10000 (n + 2)) 10000 (.agg b.enc) (.p (some (x, 0))) (.p (some (y, 0))) h) h _
  unfold F34 hit
  simp only [V.cells]
  refine e_al (Sx.start h) (bx_sc b) fun a H S _ _ _ => ?_
  rw [fa_p, ld_st S (.head _) (show b.enc[0 + 4]? = some (.b b.sec) from rfl), vb_b]
  cases hb : b.sec with
  | false => rw [ifB_false]; exact e_rt S rfl
  | true =>
    rw [ifB_true, (hx.mem S.mem).ldw h4, (hy.mem S.mem).ld (show [w][0]? = some w from rfl), fa_p, ld_st S (.head _) (show b.enc[0 + 1]? = some (.s b.fr) from rfl)]
    refine e_call S (is_ok n true hl b.fr hs hc (hv.mem S.mem) (hw.mem S.mem)) fun u H1 S e _ => ?_
    subst e
    rw [vb_b]
    cases hi : isP true l sec b.fr with
    | false => rw [ifB_false]; exact e_rt S rfl
    | true =>
      rw [ifB_true, (hx.mem S.mem).ldw h4, (hy.mem S.mem).ld (show [w][0]? = some w from rfl), fa_p, ld_st S (.head _) (show b.enc[0 + 2]? = some (.s b.to) from rfl)]
      refine e_call S (is_ok n false hl b.to hs hc (hv.mem S.mem) (hw.mem S.mem)) fun u H1 S e _ => ?_
      subst e
      exact e_rt S rfl
end R
end Go.Proofs.Try
