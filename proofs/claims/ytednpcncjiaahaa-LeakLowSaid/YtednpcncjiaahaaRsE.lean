/-
  An abstract interpreter of the model's code, part 27c: that rows in whatever order are right. Conditions: none.
-/
import Derived.Test.YtednpcncjiaahaaRsD
set_option linter.unusedVariables false
set_option linter.unusedSimpArgs false
namespace Go.Ab
open Go
section
variable {P : Program} {cf : CallF} {ng nt : Nat} {ops : Array Oper}
theorem DT.ext' {T : Nat → PT V} {H : Nat → Heap} {I : Nat → Inf} {B : Nat → Nat → Prop} {h h' : Heap} {l : List Nat} (d : DT P cf ng nt ops T H I B) (e2 : H 0 = h) (e4 : ∀ x, h'.get x = (H ops.size).get x) (e5 : h'.next = (H ops.size).next) (e6 : h'.wl = l ++ h.wl) (e7 : ∀ x, x ∈ l ↔ ∃ i, i < ops.size ∧ x ∈ (I i).wr) : Ext h h' l := by
  refine ⟨?_, e6, fun x hx hn => ?_⟩
  · rw [e5, ← e2]; exact d.mono (Nat.zero_le _) (Nat.le_refl _)
  · rw [e4, ← e2]
    refine d.keep (Nat.zero_le _) (Nat.le_refl _) fun m _ hm ht => ?_
    rcases ht with ht | ⟨t1, t2⟩
    · exact hn ((e7 x).2 ⟨m, hm, ht⟩)
    · obtain ⟨a1, _, _⟩ := d.nx hm
      have := d.mono (i := 0) (j := m) (Nat.zero_le _) (by omega)
      rw [e2] at this
      omega
theorem DT.ok (hm : P.follows .mixedOrders = true) {id : Nat} {D : List Deferred} {T : Nat → PT V} {H : Nat → Heap} {I : Nat → Inf} {B : Nat → Nat → Prop} {t t' : PT V} {h h' : Heap} {l : List Nat} (d : DT P cf ng nt ops T H I B) (e1 : T 0 = t) (e2 : H 0 = h) (e3 : T ops.size = t')
    (e4 : ∀ x, h'.get x = (H ops.size).get x) (e5 : h'.next = (H ops.size).next) (e6 : h'.wl = l ++ h.wl) (e7 : ∀ x, x ∈ l ↔ ∃ i, i < ops.size ∧ x ∈ (I i).wr) {φ : Map} {w : World} {a : Act}
    (hr : HR φ h.get w) (fr : Fresh φ h.next (h'.next + 1)) (hg : Glob ng φ) (ht : TR φ nt t a.tmps) (hd : a.defers = D) {Q : Exit → Act → World → Prop}
    (hQ : ∀ a' w' φ' l, TR φ' nt t' a'.tmps → a'.defers = D → Ext h h' l → Post φ h.get h h' l φ' w w' → Q .normal a' w') : (Code.region id ops true).wp P Q a w := by
  have hext := d.ext' e2 e4 e5 e6 e7
  obtain ⟨l0, hl0⟩ : ∃ l0, l0 = l := ⟨l, rfl⟩
  rw [← hl0] at hext
  have hgn : h'.get = (H ops.size).get := funext e4
  refine wp_region_any hm (d.any (D := D) (φ0 := φ) (w0 := { w with drawn := w.drawn + 1 }) (fun a' w' φ' L hall v => ?_) _ _ _ _ φ ?_ ?_)
  · have hgS : gS ops H I L = (H ops.size).get := funext fun x => d.gS_eq (Nat.le_refl _) fun i hi _ => ⟨fun _ => hi, fun _ => hall i hi⟩
    have hT : TR φ' nt t' a'.tmps := ⟨v.tsize, fun k u hu => v.temp k ops.size (Nat.le_refl _) (fun i o ho _ => ⟨fun _ => op_lt ho, fun _ => hall i (op_lt ho)⟩) u (by rw [e3]; exact hu)⟩
    refine hQ a' w' φ' l0 hT v.defers hext ⟨v.le, fun x h1 h2 => ?_, ?_, ?_, fun x C hx hC hl => ?_⟩
    · have := v.new x h1 h2; rw [e2, ← e5] at this; exact this
    · rw [mix_self hext, hgn, ← hgS]; exact v.hr
    · rw [mix_self hext, hgn, ← hgS]
      have f := v.fr
      rw [e2] at f
      exact ⟨f.os, f.tape, f.output, f.size, f.block, f.owned⟩
    · have hl0 : l0 = l := by
        have h1 := hext.wl
        rw [e6] at h1
        exact (List.append_cancel_right h1).symm
      subst hl0
      -- the last one that touched it
      have key : ∀ j, j ≤ ops.size → (∃ i, i < j ∧ (I i).touch x) → ∀ C, (H j).get x = some C → C.live = true → C.own = true := by
        intro j
        induction j with
        | zero => rintro _ ⟨i, hi, _⟩; omega
        | succ j ih =>
          rintro hj ⟨i, hi, ht⟩ C hC hl
          by_cases htj : (I j).touch x
          · exact v.own j (hall j (by omega)) x C htj hC hl
          · rw [d.keep (i := j) (j := j + 1) (by omega) hj fun m h1 h2 => by
              have : m = j := by omega
              subst this; exact htj] at hC
            have hne : i ≠ j := fun e => by subst e; exact htj ht
            exact ih (by omega) ⟨i, by omega, ht⟩ C hC hl
      rw [hgn] at hC
      refine key ops.size (Nat.le_refl _) ?_ C hC hl
      rcases hx with hx | hx
      · obtain ⟨i, hi, hx⟩ := (e7 x).1 hx
        exact ⟨i, hi, .inl hx⟩
      · obtain ⟨i, hi, h1, h2⟩ := d.cover (Nat.le_refl _) (by rw [e2]; exact hx) (Heap.lt_of_get hC)
        exact ⟨i, hi, .inr ⟨h1, h2⟩⟩
  · have hno : ∀ i, (Array.replicate ops.size false).getD i false = true → False := fun i hi => by
      simp [Array.getD] at hi
    have hgS : gS ops H I (Array.replicate ops.size false) = h.get := funext fun x => by
      rw [d.gS_eq (Nat.zero_le _) fun i hi _ => ⟨fun h => (hno i h).elim, fun h => by omega⟩, e2]
    refine ⟨by simp, fun j o ed _ hj => (hno j hj).elim, ht.size, fun x j hj hw u hu => ?_, by rw [hgS]; exact hr.drawn ⟨rfl, rfl, rfl, rfl⟩, fun x h1 h2 h3 => ?_, hg, Map.le_refl φ, fun x h1 h2 => absurd h1 h2, ?_, fun i hi => (hno i hi).elim, hd, by rw [← e5]; exact fr _ hext.next (Nat.lt_succ_self _)⟩
    · rw [d.tmp (i := 0) (Nat.zero_le _) hj fun m o _ hm ho hdst => hno m ((hw m o ho hdst).2 hm), e1] at hu
      exact ht.val x u hu
    · rw [e2] at h2
      rw [← e5] at h3
      exact absurd (fr x h2 (by omega)) h1
    · rw [hgS, e2]; exact Fr.refl _ _ _
  · refine Nat.le_trans (List.countP_le_length) ?_
    rw [List.length_range]; exact Nat.le_refl _

/-! the plan -/
theorem mask2_bit {F : List Nat} {i : Nat} : ∀ {es : List Edge}, (mask2 F es).testBit i = true → ∃ e ∈ es, Region.binds .any e = true ∧ (e.on = i ∨ (F.getD e.on 0).testBit i = true)
  | [], h => by simp [mask2] at h
  | e :: es, h => by
    have e1 : mask2 F (e :: es) = cond (hardE e) ((mask2 F es ||| 2 ^ e.on) ||| F.getD e.on 0) (mask2 F es) := rfl
    rw [e1] at h
    have next : (mask2 F es).testBit i = true → ∃ e' ∈ e :: es, Region.binds .any e' = true ∧ (e'.on = i ∨ (F.getD e'.on 0).testBit i = true) := fun h => by
      obtain ⟨e', h1, h2⟩ := mask2_bit h
      exact ⟨e', List.mem_cons_of_mem _ h1, h2⟩
    cases hh : hardE e with
    | false => rw [hh] at h; exact next h
    | true =>
      rw [hh] at h
      simp only [cond_true, Nat.testBit_or, Bool.or_eq_true] at h
      rcases h with (h | h) | h
      · exact next h
      · refine ⟨e, List.mem_cons_self, by rw [hardE_eq, hh], .inl ?_⟩
        rw [Nat.testBit_two_pow] at h
        simpa using h
      · exact ⟨e, List.mem_cons_self, by rw [hardE_eq, hh], .inr h⟩
theorem plan1_spec {rec F : List Nat} {j : Nat} {o : Oper} : ∀ {l : List Oper} {b : Nat}, plan1 P ops rec F j o l b = true → ∀ (i : Nat) (y : Oper), l[i]? = some y →
    (F.getD (b + i) 0).testBit j = true ∨ (o.apart ops y = true ∧ ¬ (isL o = true ∧ memN j rec = false ∧ isT P y = true) ∧ ¬ (isT P o = true ∧ isL y = true ∧ memN (b + i) rec = false))
  | [], b, h, i, y, hy => by simp at hy
  | z :: l, b, h, i, y, hy => by
    have e : plan1 P ops rec F j o (z :: l) b = and (or (Nat.testBit (F.getD b 0) j) (and (o.apart ops z) (and (not (and (and (isL o) (not (memN j rec))) (isT P z))) (not (and (isT P o) (and (isL z) (not (memN b rec)))))))) (plan1 P ops rec F j o l (Nat.succ b)) := rfl
    rw [e, Bool.and_eq_true] at h
    cases i with
    | zero =>
      simp at hy; subst hy
      have h1 := h.1
      rw [Bool.or_eq_true] at h1
      refine h1.imp id fun h2 => ?_
      simp only [Bool.and_eq_true, Bool.not_eq_true', Bool.and_eq_false_iff, Bool.not_eq_false'] at h2
      obtain ⟨a1, a2, a3⟩ := h2
      refine ⟨a1, fun ⟨b1, b2, b3⟩ => ?_, fun ⟨b1, b2, b3⟩ => ?_⟩
      · rw [b1, b2, b3] at a2; simp at a2
      · rw [Nat.add_zero] at b3; rw [b1, b2, b3] at a3; simp at a3
    | succ i =>
      simp at hy
      have := plan1_spec h.2 i y hy
      rw [show b + (i + 1) = Nat.succ b + i by omega]
      exact this
theorem planL_spec {rec F : List Nat} : ∀ {l : List Oper} {b : Nat}, planL P ops rec F l b = true → ∀ (i : Nat) (o : Oper), l[i]? = some o →
    backE (b + i) o.after.toList = true ∧ F.getD (b + i) 0 = mask2 F o.after.toList ∧ ∀ (k : Nat) (y : Oper), i < k → l[k]? = some y →
      (F.getD (b + k) 0).testBit (b + i) = true ∨ (o.apart ops y = true ∧ ¬ (isL o = true ∧ memN (b + i) rec = false ∧ isT P y = true) ∧ ¬ (isT P o = true ∧ isL y = true ∧ memN (b + k) rec = false))
  | [], b, h, i, o, ho => by simp at ho
  | z :: l, b, h, i, o, ho => by
    have e : planL P ops rec F (z :: l) b = and (and (backE b z.after.toList) (Nat.beq (F.getD b 0) (mask2 F z.after.toList))) (and (plan1 P ops rec F b z l (Nat.succ b)) (planL P ops rec F l (Nat.succ b))) := rfl
    rw [e, Bool.and_eq_true, Bool.and_eq_true, Bool.and_eq_true] at h
    obtain ⟨⟨h1, h2⟩, h3, h4⟩ := h
    cases i with
    | zero =>
      simp at ho; subst ho
      refine ⟨h1, Nat.eq_of_beq_eq_true h2, fun k y hk hy => ?_⟩
      obtain ⟨k, rfl⟩ : ∃ m, k = m + 1 := ⟨k - 1, by omega⟩
      simp at hy
      have := plan1_spec h3 k y hy
      rw [show b + (k + 1) = Nat.succ b + k by omega]
      exact this
    | succ i =>
      simp at ho
      obtain ⟨a1, a2, a3⟩ := planL_spec h4 i o ho
      rw [show b + (i + 1) = Nat.succ b + i by omega]
      refine ⟨a1, a2, fun k y hk hy => ?_⟩
      obtain ⟨k, rfl⟩ : ∃ m, k = m + 1 := ⟨k - 1, by omega⟩
      simp at hy
      have := a3 k y (by omega) hy
      rw [show b + (k + 1) = Nat.succ b + k by omega]
      exact this

theorem chk1R_spec {F : List Nat} {x : Rc} {K : ROut} : ∀ {l : List Rc}, chk1R P F x l K ≠ .fail → chk1R P F x l K = K ∧ ∀ y ∈ l, (F.getD y.j 0).testBit x.j = true ∨ pc P x y = true
  | [], h => ⟨rfl, fun y hy => by cases hy⟩
  | z :: l, h => by
    have e : chk1R P F x (z :: l) K = Bool.rec (motive := fun _ => ROut) (ifB (pc P x z) (chk1R P F x l K) .fail) (chk1R P F x l K) (Nat.testBit (F.getD z.j 0) x.j) := rfl
    rw [e] at h ⊢
    cases hb : Nat.testBit (F.getD z.j 0) x.j with
    | true =>
      rw [hb] at h
      obtain ⟨h1, h2⟩ := chk1R_spec h
      exact ⟨h1, fun y hy => by
        rcases List.mem_cons.1 hy with rfl | hy
        · exact .inl hb
        · exact h2 y hy⟩
    | false =>
      rw [hb] at h
      cases hp : pc P x z with
      | false => rw [hp] at h; exact absurd rfl h
      | true =>
        rw [hp] at h
        obtain ⟨h1, h2⟩ := chk1R_spec h
        exact ⟨h1, fun y hy => by
          rcases List.mem_cons.1 hy with rfl | hy
          · exact .inr hp
          · exact h2 y hy⟩
theorem chkR_spec {F : List Nat} {K : ROut} : ∀ {l : List Rc}, chkR P F l K ≠ .fail → chkR P F l K = K ∧ l.Pairwise fun x y => (F.getD y.j 0).testBit x.j = true ∨ pc P x y = true
  | [], h => ⟨rfl, List.Pairwise.nil⟩
  | x :: l, h => by
    have e : chkR P F (x :: l) K = chk1R P F x l (chkR P F l K) := rfl
    rw [e] at h ⊢
    obtain ⟨h1, h2⟩ := chk1R_spec h
    rw [h1] at h ⊢
    obtain ⟨h3, h4⟩ := chkR_spec h
    exact ⟨h3, List.Pairwise.cons h2 h4⟩

def quiet (i : Inf) : Prop := i.wr = [] ∧ i.lo = i.hi
theorem quiet.no {i : Inf} (q : quiet i) : ∀ l, noTouch i l = true
  | [] => rfl
  | x :: l => by
    have e : noTouch i (x :: l) = and (not (i.touchB x)) (noTouch i l) := rfl
    rw [e, q.no l, Bool.and_true, Bool.not_eq_true']
    cases hb : i.touchB x with
    | false => rfl
    | true =>
      exfalso
      rcases Inf.touchB_iff.1 hb with h | ⟨h1, h2⟩
      · rw [q.1] at h; cases h
      · rw [q.2] at h1; omega
theorem quiet.acc {i : Inf} (q : quiet i) (b : Inf) : accFree b i = true := by
  unfold accFree
  cases b.acc with
  | none => rw [q.1]
  | some l => exact q.no l

theorem ldF_spec {rec : List Nat} {T : Nat → PT V} {H : Nat → Heap} {k i : Nat} {o : Oper} (ho : ops[k]? = some o) {x y : Rc} (h1 : x.ld = ldOf P ng o (T k) (H k)) (h2 : y.hb = H i) (h3 : y.ha = H (i + 1)) (h : ldF P x y = true) : LD P ng ops T H k i := by
  unfold ldF at h
  cases hl : x.ld with
  | none => rw [hl] at h; cases h
  | some q =>
    obtain ⟨ty, p, v⟩ := q
    rw [hl] at h h1
    simp only [Bool.and_eq_true, h2, h3] at h
    unfold ldOf at h1
    split at h1
    · rename_i ty' a hop
      split at h1
      · rename_i v' hv
        cases h1
        exact ⟨o, _, a, _, ho, hop, hv, eqO_eq h.1, eqO_eq h.2⟩
      · cases h1
    · cases h1

theorem Tr.dt (hc : CallOk P ng cf) (he : CallExt cf) {rec F : List Nat} {t t' : PT V} {h h' : Heap} {its : List Rc} {T : Nat → PT V} {H : Nat → Heap} {I : Nat → Inf} {R : Nat → List Rc} (hp : planL P ops rec F ops.toList 0 = true) (tr : Tr P cf ng nt ops rec ops.toList 0 t h [] t' h' its T H I R)
    (hck : its.Pairwise fun x y => (F.getD y.j 0).testBit x.j = true ∨ pc P x y = true) : DT P cf ng nt ops T H I (fun i k => (F.getD k 0).testBit i = true) := by
  have hop : ∀ {i : Nat} {o : Oper}, ops[i]? = some o → ops.toList[i]? = some o := fun ho => by rw [Array.getElem?_toList]; exact ho
  refine ⟨hc, he, fun i o ho => (tr.step i o (hop ho)).1, fun i j o ho hb => ?_, fun j o ho e hee hb => ?_, fun i j oi oj hij hi hj => ?_⟩
  · obtain ⟨_, h2, _⟩ := planL_spec hp j o (hop ho)
    rw [Nat.zero_add] at h2
    rw [h2] at hb
    obtain ⟨e, q1, q2⟩ := mask2_bit hb
    exact ⟨e, by simpa using q1, q2⟩
  · obtain ⟨h1, _, _⟩ := planL_spec hp j o (hop ho)
    have := backE_spec h1 e (by simpa using hee) hb
    omega
  · obtain ⟨_, _, h3⟩ := planL_spec hp i oi (hop hi)
    have h3 := h3 j oj hij (hop hj)
    rw [Nat.zero_add, Nat.zero_add] at h3
    refine h3.elim .inl fun ⟨ap, n1, n2⟩ => ?_
    obtain ⟨_, ri⟩ := tr.step i oi (hop hi)
    obtain ⟨_, rj⟩ := tr.step j oj (hop hj)
    rw [Nat.zero_add] at ri rj
    have accE : ∀ {a b : Inf}, a.acc = some [] → accFree a b = true := fun h => by unfold accFree; rw [h]; rfl
    have both : quiet (I i) → quiet (I j) → (oi.apart ops oj = true ∧ noTouch (I j) (I i).wr = true ∧ noTouch (I i) (I j).wr = true ∧ (accFree (I i) (I j) = true ∨ LD P ng ops T H i j) ∧ (accFree (I j) (I i) = true ∨ LD P ng ops T H j i)) := fun q1 q2 =>
      ⟨ap, q2.no _, q1.no _, .inl (q2.acc _), .inl (q1.acc _)⟩
    rcases ri with ⟨_, ei⟩ | ⟨_, li, mi, wi, hi', _⟩ | ⟨x, ex, xj, xi, xb, xa, xl, xt⟩
    · have qi : quiet (I i) := by rw [ei]; exact ⟨rfl, rfl⟩
      refine .inr ⟨ap, ?_, qi.no _, .inl (accE (by rw [ei])), .inl (qi.acc _)⟩
      rw [ei]; rfl
    · have qi : quiet (I i) := ⟨wi, hi'⟩
      rcases rj with ⟨_, ej⟩ | ⟨_, lj, mj, wj, hj', _⟩ | ⟨y, ey, yj, yi, yb, ya, yl, yt⟩
      · exact .inr (both qi (by rw [ej]; exact ⟨rfl, rfl⟩))
      · exact .inr (both qi ⟨wj, hj'⟩)
      · rcases yt with yt | yt
        · exact absurd ⟨li, mi, yt⟩ n1
        · exact .inr (both qi yt)
    · rcases rj with ⟨_, ej⟩ | ⟨_, lj, mj, wj, hj', _⟩ | ⟨y, ey, yj, yi, yb, ya, yl, yt⟩
      · have qj : quiet (I j) := by rw [ej]; exact ⟨rfl, rfl⟩
        refine .inr ⟨ap, qj.no _, ?_, .inl (qj.acc _), .inl (accE (by rw [ej]))⟩
        rw [ej]; rfl
      · rcases xt with xt | xt
        · exact absurd ⟨xt, lj, mj⟩ n2
        · exact .inr (both xt ⟨wj, hj'⟩)
      · have hpair : (F.getD y.j 0).testBit x.j = true ∨ pc P x y = true := by
          have e := tr.its
          rw [List.nil_append] at e
          rw [e, List.pairwise_flatMap] at hck
          have := List.pairwise_iff_getElem.1 hck.2 i j (by simp; have := op_lt hi; omega) (by simp; have := op_lt hj; omega) hij
          simp only [List.getElem_range] at this
          exact this x (by rw [ex]; simp) y (by rw [ey]; simp)
        rw [xj, yj] at hpair
        refine hpair.imp id fun hpc => ?_
        unfold pc at hpc
        simp only [Bool.and_eq_true, Bool.or_eq_true, xi, yi] at hpc
        obtain ⟨⟨q1, q2⟩, q3, q4⟩ := hpc
        exact ⟨ap, q1, q2, q3.imp id fun h => ldF_spec (rec := rec) hi xl yb ya h, q4.imp id fun h => ldF_spec (rec := rec) hj yl xb xa h⟩
theorem wrR_mem : ∀ {l : List Rc} {x : Nat}, x ∈ wrR l ↔ ∃ y ∈ l, x ∈ y.i.wr
  | [], x => by simp [wrR]
  | y :: l, x => by
    have e : wrR (y :: l) = y.i.wr ++ wrR l := rfl
    rw [e, List.mem_append, wrR_mem]
    simp
theorem Tr.wr {rec : List Nat} {l : List Oper} {t t' : PT V} {h h' : Heap} {its : List Rc} {T : Nat → PT V} {H : Nat → Heap} {I : Nat → Inf} {R : Nat → List Rc} (tr : Tr P cf ng nt ops rec l 0 t h [] t' h' its T H I R) (x : Nat) : x ∈ wrR its ↔ ∃ i, i < l.length ∧ x ∈ (I i).wr := by
  have e := tr.its
  rw [List.nil_append] at e
  rw [e, wrR_mem]
  constructor
  · rintro ⟨y, hy, hx⟩
    obtain ⟨i, hi, hy⟩ := List.mem_flatMap.1 hy
    have hi := List.mem_range.1 hi
    obtain ⟨_, ri⟩ := tr.step i l[i] (List.getElem?_eq_getElem hi)
    rcases ri with ⟨er, _⟩ | ⟨er, _⟩ | ⟨z, er, zj, zi, _⟩
    · rw [er] at hy; cases hy
    · rw [er] at hy; cases hy
    · rw [er] at hy
      simp at hy
      subst hy
      exact ⟨i, hi, by rw [← zi]; exact hx⟩
  · rintro ⟨i, hi, hx⟩
    obtain ⟨_, ri⟩ := tr.step i l[i] (List.getElem?_eq_getElem hi)
    rcases ri with ⟨er, ei⟩ | ⟨er, _, _, ei, _⟩ | ⟨z, er, zj, zi, _⟩
    · rw [ei] at hx; cases hx
    · rw [ei] at hx; cases hx
    · exact ⟨z, List.mem_flatMap.2 ⟨i, List.mem_range.2 hi, by rw [er]; simp⟩, by rw [zi]; exact hx⟩

/-- what a row in whatever order comes to -/
theorem regR_inv (hc : CallOk P ng cf) (he : CallExt cf) {sp rec F : List Nat} {K : PT V → Heap → ROut} {t : PT V} {h : Heap} (hnf : regR P cf ng nt ops sp rec F K t h ≠ .fail) :
    ∃ (t' : PT V) (h' : Heap) (T : Nat → PT V) (H : Nat → Heap) (I : Nat → Inf) (B : Nat → Nat → Prop) (l : List Nat), regR P cf ng nt ops sp rec F K t h = K t' h' ∧ DT P cf ng nt ops T H I B ∧ T 0 = t ∧ H 0 = h ∧ T ops.size = t' ∧ (∀ x, h'.get x = (H ops.size).get x) ∧ h'.next = (H ops.size).next ∧ h'.wl = l ++ h.wl ∧ (∀ x, x ∈ l ↔ ∃ i, i < ops.size ∧ x ∈ (I i).wr) := by
  have hlen : ops.toList.length = ops.size := Array.length_toList
  unfold regR at hnf ⊢
  cases hp : planL P ops rec F ops.toList 0 with
  | false => rw [hp] at hnf; exact absurd rfl hnf
  | true =>
    rw [hp] at hnf
    have hnf : seqD P cf ng nt ops sp rec (fun t2 h2 its => List.casesOn (motive := fun _ => ROut) its (K t2 ⟨h2.next, h2.t, h.wl⟩) fun x l => chkR P F (x :: l) (fh ⟨h2.next, h2.t, wrR (x :: l) ++ h.wl⟩ fun h3 => K t2 h3)) ops.toList 0 t h [] ≠ .fail := hnf
    show ∃ (t' : PT V) (h' : Heap) (T : Nat → PT V) (H : Nat → Heap) (I : Nat → Inf) (B : Nat → Nat → Prop) (l : List Nat), seqD P cf ng nt ops sp rec (fun t2 h2 its => List.casesOn (motive := fun _ => ROut) its (K t2 ⟨h2.next, h2.t, h.wl⟩) fun x l => chkR P F (x :: l) (fh ⟨h2.next, h2.t, wrR (x :: l) ++ h.wl⟩ fun h3 => K t2 h3)) ops.toList 0 t h [] = K t' h' ∧ _
    obtain ⟨t2, h2, its, T, H, I, R, q1, tr⟩ := seqD_tr he ops.toList 0 t h [] hnf
    rw [q1] at hnf ⊢
    have e7 := tr.wr
    rw [hlen] at e7
    have k1 := tr.t1
    have k2 := tr.h1
    rw [hlen] at k1 k2
    cases its with
    | nil => exact ⟨t2, ⟨h2.next, h2.t, h.wl⟩, T, H, I, _, [], rfl, tr.dt hc he hp List.Pairwise.nil, tr.t0, tr.h0, k1, fun x => (by rw [k2]; rfl), by rw [k2], rfl, e7⟩
    | cons x l =>
      simp only at hnf ⊢
      obtain ⟨c1, c2⟩ := chkR_spec hnf
      rw [c1]
      exact ⟨t2, ⟨h2.next, h2.t, wrR (x :: l) ++ h.wl⟩, T, H, I, _, wrR (x :: l), fh_eq _ _, tr.dt hc he hp c2, tr.t0, tr.h0, k1, fun x => (by rw [k2]; rfl), by rw [k2], rfl, e7⟩
theorem regR_ext (hc : CallOk P ng cf) (he : CallExt cf) {sp rec F : List Nat} {K : PT V → Heap → ROut} (hK : XtK K) (t : PT V) (h : Heap) : Xt h (regR P cf ng nt ops sp rec F K t h) := by
  by_cases hnf : regR P cf ng nt ops sp rec F K t h = .fail
  · rw [hnf]; exact Xt.fail h
  · obtain ⟨t', h', T, H, I, B, l, q1, d, e1, e2, e3, e4, e5, e6, e7⟩ := regR_inv hc he hnf
    rw [q1]
    exact Xt.trans (d.ext' e2 e4 e5 e6 e7) (hK t' h')
end
end Go.Ab
