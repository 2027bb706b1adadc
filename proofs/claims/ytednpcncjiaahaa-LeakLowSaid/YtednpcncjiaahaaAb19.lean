/-
  An abstract interpreter of the model's code, part 19: rows of operations in whatever order: the run, what it checks, and that it is right. Conditions: none.
-/
import Derived.Test.YtednpcncjiaahaaAb18
set_option linter.unusedVariables false
set_option linter.unusedSimpArgs false
namespace Go.Ab
open Go

def hardE (e : Edge) : Bool :=
  match e.ground with
  | .textOnly _ => false
  | .gcOnly _ => false
  | _ => true
theorem hardE_eq (e : Edge) : Region.binds .any e = hardE e := by
  obtain ⟨on, g⟩ := e
  cases g <;> rfl

structure It where
  o : Oper
  m : Nat
  i : Inf
  ld : Option (TypeId × V × V)
  hb : Heap
  ha : Heap
noncomputable def ldOf (P : Program) (ng : Nat) (o : Oper) (t : PT V) (h : Heap) : Option (TypeId × V × V) :=
  match o.op with
  | .load ty a => match loadV P ty (ev ng t a) h with
    | some v => some (ty, ev ng t a, v)
    | none => none
  | _ => none
noncomputable def ldFree (P : Program) (x y : It) : Bool :=
  match x.ld with
  | some (ty, p, v) => and (eqO (loadV P ty p y.hb) v) (eqO (loadV P ty p y.ha) v)
  | none => false
noncomputable def pairOk (P : Program) (x y : It) : Bool := and (and (noTouch y.i x.i.wr) (noTouch x.i y.i.wr)) (and (or (accFree x.i y.i) (ldFree P x y)) (or (accFree y.i x.i) (ldFree P y x)))

noncomputable def mask1 (acc : PT Nat) (es : List Edge) : Nat :=
  List.rec (motive := fun _ => Nat) 0 (fun e _ ih => cond (hardE e) (Nat.lor (Nat.lor ih (Nat.pow 2 e.on)) ((acc.get e.on).getD 0)) ih) es
theorem mask1_bit {acc : PT Nat} {i : Nat} : ∀ {es : List Edge}, (mask1 acc es).testBit i = true → ∃ e ∈ es, Region.binds .any e = true ∧ (e.on = i ∨ ((acc.get e.on).getD 0).testBit i = true)
  | [], h => by simp [mask1] at h
  | e :: es, h => by
    have e1 : mask1 acc (e :: es) = cond (hardE e) ((mask1 acc es ||| 2 ^ e.on) ||| ((acc.get e.on).getD 0)) (mask1 acc es) := rfl
    rw [e1] at h
    have next : (mask1 acc es).testBit i = true → ∃ e' ∈ e :: es, Region.binds .any e' = true ∧ (e'.on = i ∨ ((acc.get e'.on).getD 0).testBit i = true) := fun h => by
      obtain ⟨e', h1, h2⟩ := mask1_bit h
      exact ⟨e', List.mem_cons_of_mem _ h1, h2⟩
    cases hh : hardE e with
    | false => rw [hh] at h; exact next h
    | true =>
      rw [hh] at h
      simp only [cond_true, Nat.testBit_or, Bool.or_eq_true] at h
      rcases h with (h | h) | h
      · exact next h
      · refine ⟨e, List.mem_cons_self, by rw [hardE_eq, hh], .inl ?_⟩
        rw [Nat.testBit_two_pow] at h
        simpa using h
      · exact ⟨e, List.mem_cons_self, by rw [hardE_eq, hh], .inr h⟩
noncomputable def backE (j : Nat) (es : List Edge) : Bool := List.rec (motive := fun _ => Bool) true (fun e _ ih => and (cond (hardE e) (Nat.blt e.on j) true) ih) es
theorem backE_spec {j : Nat} : ∀ {es : List Edge}, backE j es = true → ∀ e ∈ es, Region.binds .any e = true → e.on < j
  | [], _, _, he, _ => by cases he
  | x :: es, h, e, he, hb => by
    have e1 : backE j (x :: es) = and (cond (hardE x) (Nat.blt x.on j) true) (backE j es) := rfl
    rw [e1, Bool.and_eq_true] at h
    rcases List.mem_cons.1 he with rfl | he
    · rw [hardE_eq] at hb
      rw [hb] at h
      exact Nat.le_of_ble_eq_true h.1
    · exact backE_spec h.2 e he hb

section
variable (P : Program) (callF : CallF) (ng nt : Nat) (ops : Array Oper)

noncomputable def runD (l : List Oper) : Nat → PT Nat → PT V → Heap → Option (PT V × Heap × List It) :=
  List.rec (motive := fun _ => Nat → PT Nat → PT V → Heap → Option (PT V × Heap × List It)) (fun _ _ t h => some (t, h, []))
    (fun o _ ih j acc t h => cond (backE j o.after.toList) (forceN (mask1 acc o.after.toList) fun m =>
      match stepD P callF ng nt ops o t h with
      | some (t1, h1, i) => (match ih (Nat.succ j) (acc.set j m) t1 h1 with
        | some (t2, h2, its) => some (t2, h2, ⟨o, m, i, ldOf P ng o t h, h, h1⟩ :: its)
        | none => none)
      | none => none) none) l

noncomputable def chk1 (P : Program) (ops : Array Oper) (x : It) (j : Nat) (l : List It) : Bool :=
  List.rec (motive := fun _ => Bool) true (fun y _ ih => and (or (Nat.testBit y.m j) (and (x.o.apart ops y.o) (pairOk P x y))) ih) l
noncomputable def chkD (P : Program) (ops : Array Oper) (l : List It) : Nat → Bool :=
  List.rec (motive := fun _ => Nat → Bool) (fun _ => true) (fun x rest ih j => and (chk1 P ops x j rest) (ih (Nat.succ j))) l
noncomputable def allW (l : List It) : List Nat := List.rec (motive := fun _ => List Nat) [] (fun x _ ih => x.i.wr ++ ih) l

noncomputable def regD (t : PT V) (h : Heap) : ROut :=
  match runD P callF ng nt ops ops.toList 0 .e t h with
  | some (t2, h2, its) => cond (chkD P ops its 0) (.ok t2 { next := h2.next, t := h2.t, wl := allW its ++ h.wl }) .fail
  | none => .fail
end

section
variable {P : Program} {callF : CallF} {ng nt : Nat} {ops : Array Oper}
theorem runD_cons {o : Oper} {l : List Oper} {j : Nat} {acc : PT Nat} {t : PT V} {h : Heap} {r : PT V × Heap × List It} (e : runD P callF ng nt ops (o :: l) j acc t h = some r) :
    backE j o.after.toList = true ∧ ∃ t1 h1 i its, stepD P callF ng nt ops o t h = some (t1, h1, i) ∧ runD P callF ng nt ops l (j + 1) (acc.set j (mask1 acc o.after.toList)) t1 h1 = some (r.1, r.2.1, its) ∧ r.2.2 = ⟨o, mask1 acc o.after.toList, i, ldOf P ng o t h, h, h1⟩ :: its := by
  have e1 : runD P callF ng nt ops (o :: l) j acc t h = cond (backE j o.after.toList) (forceN (mask1 acc o.after.toList) fun m =>
      match stepD P callF ng nt ops o t h with
      | some (t1, h1, i) => (match runD P callF ng nt ops l (Nat.succ j) (acc.set j m) t1 h1 with
        | some (t2, h2, its) => some (t2, h2, ⟨o, m, i, ldOf P ng o t h, h, h1⟩ :: its)
        | none => none)
      | none => none) none := rfl
  rw [e1, forceN_eq] at e
  cases hb : backE j o.after.toList with
  | false => rw [hb] at e; cases e
  | true =>
    rw [hb] at e
    simp only [cond_true] at e
    refine ⟨rfl, ?_⟩
    cases hs : stepD P callF ng nt ops o t h with
    | none => rw [hs] at e; cases e
    | some q =>
      obtain ⟨t1, h1, i⟩ := q
      rw [hs] at e
      simp only at e
      cases hr : runD P callF ng nt ops l (Nat.succ j) (acc.set j (mask1 acc o.after.toList)) t1 h1 with
      | none => rw [hr] at e; cases e
      | some q2 =>
        obtain ⟨t2, h2, its⟩ := q2
        rw [hr] at e
        cases e
        exact ⟨t1, h1, i, its, rfl, hr, rfl⟩

theorem ldFree_spec {T : Nat → PT V} {H : Nat → Heap} {k i : Nat} {o : Oper} (ho : ops[k]? = some o) {x y : It} (h1 : x.ld = ldOf P ng o (T k) (H k)) (h2 : y.hb = H i) (h3 : y.ha = H (i + 1)) (h : ldFree P x y = true) : LD P ng ops T H k i := by
  unfold ldFree at h
  cases hl : x.ld with
  | none => rw [hl] at h; cases h
  | some q =>
    obtain ⟨ty, p, v⟩ := q
    rw [hl] at h h1
    simp only [Bool.and_eq_true, h2, h3] at h
    unfold ldOf at h1
    split at h1
    · rename_i ty' a hop
      split at h1
      · rename_i v' hv
        cases h1
        exact ⟨o, _, a, _, ho, hop, hv, eqO_eq h.1, eqO_eq h.2⟩
      · cases h1
    · cases h1

theorem runD_trace : ∀ (l : List Oper) (j : Nat) (acc : PT Nat) (t : PT V) (h : Heap) (r : PT V × Heap × List It), runD P callF ng nt ops l j acc t h = some r →
    ∃ (T : Nat → PT V) (H : Nat → Heap) (I : Nat → Inf) (M : Nat → Nat) (A : Nat → PT Nat), T 0 = t ∧ H 0 = h ∧ A 0 = acc ∧ T l.length = r.1 ∧ H l.length = r.2.1 ∧ r.2.2.length = l.length ∧
      ∀ i o, l[i]? = some o → SD P callF ng nt ops o (T i) (H i) (T (i + 1)) (H (i + 1)) (I i) ∧ r.2.2[i]? = some ⟨o, M i, I i, ldOf P ng o (T i) (H i), H i, H (i + 1)⟩ ∧ backE (j + i) o.after.toList = true ∧ M i = mask1 (A i) o.after.toList ∧ A (i + 1) = (A i).set (j + i) (M i)
  | [], j, acc, t, h, r, e => by
    cases e
    exact ⟨fun _ => t, fun _ => h, fun _ => ⟨none, [], 0, 0⟩, fun _ => 0, fun _ => acc, rfl, rfl, rfl, rfl, rfl, rfl, fun i o ho => by simp at ho⟩
  | o :: l, j, acc, t, h, r, e => by
    obtain ⟨h1, t1, H1, i, its, h2, h3, h4⟩ := runD_cons e
    obtain ⟨T, H, I, M, A, k1, k2, k3, k4, k5, k6, k7⟩ := runD_trace l (j + 1) _ t1 H1 _ h3
    refine ⟨fun n => Nat.casesOn n t T, fun n => Nat.casesOn n h H, fun n => Nat.casesOn n i I, fun n => Nat.casesOn n (mask1 acc o.after.toList) M, fun n => Nat.casesOn n acc A, rfl, rfl, rfl, k4, k5, by rw [h4]; simp [k6], fun n on hn => ?_⟩
    cases n with
    | zero =>
      simp at hn; subst hn
      refine ⟨?_, (by rw [h4]; show some (It.mk o (mask1 acc o.after.toList) i (ldOf P ng o t h) h H1) = some (It.mk o (mask1 acc o.after.toList) i (ldOf P ng o t h) h (H 0)); rw [k2]), h1, rfl, ?_⟩
      · show SD P callF ng nt ops o t h (T 0) (H 0) i
        rw [k1, k2]; exact stepD_sd h2
      · show A 0 = _
        rw [k3]; rfl
    | succ n =>
      simp at hn
      obtain ⟨a1, a2, a3, a4, a5⟩ := k7 n on hn
      refine ⟨a1, by rw [h4]; simpa using a2, by rw [← Nat.add_assoc, Nat.add_right_comm] ; exact a3, a4, ?_⟩
      show A (n + 1) = _
      rw [a5]
      congr 1
      omega

theorem chk1_spec {x : It} {j : Nat} : ∀ {l : List It}, chk1 P ops x j l = true → ∀ y ∈ l, y.m.testBit j = true ∨ (x.o.apart ops y.o = true ∧ pairOk P x y = true)
  | [], _, _, hy => by cases hy
  | z :: l, h, y, hy => by
    have e : chk1 P ops x j (z :: l) = and (or (Nat.testBit z.m j) (and (x.o.apart ops z.o) (pairOk P x z))) (chk1 P ops x j l) := rfl
    rw [e, Bool.and_eq_true, Bool.or_eq_true, Bool.and_eq_true] at h
    rcases List.mem_cons.1 hy with rfl | hy
    · exact h.1
    · exact chk1_spec h.2 y hy
theorem chkD_spec : ∀ {l : List It} {b : Nat}, chkD P ops l b = true → ∀ (i j : Nat) (x y : It), i < j → l[i]? = some x → l[j]? = some y → y.m.testBit (b + i) = true ∨ (x.o.apart ops y.o = true ∧ pairOk P x y = true)
  | [], _, _, i, j, x, y, _, hx, _ => by simp at hx
  | z :: l, b, h, i, j, x, y, hij, hx, hy => by
    have e : chkD P ops (z :: l) b = and (chk1 P ops z b l) (chkD P ops l (Nat.succ b)) := rfl
    rw [e, Bool.and_eq_true] at h
    cases j with
    | zero => omega
    | succ j =>
      simp at hy
      cases i with
      | zero =>
        simp at hx; subst hx
        exact chk1_spec h.1 y (List.mem_of_getElem? hy)
      | succ i =>
        simp at hx
        have := chkD_spec h.2 i j x y (by omega) hx hy
        rw [show b + (i + 1) = Nat.succ b + i by omega]
        exact this
theorem allW_mem : ∀ {l : List It} {x : Nat}, x ∈ allW l ↔ ∃ y ∈ l, x ∈ y.i.wr
  | [], x => by simp [allW]
  | y :: l, x => by
    have e : allW (y :: l) = y.i.wr ++ allW l := rfl
    rw [e, List.mem_append, allW_mem]
    simp

/-- that the row is right -/
theorem regD_dt (hc : CallOk P ng callF) (he : CallExt callF) {t t' : PT V} {h h' : Heap} (e : regD P callF ng nt ops t h = .ok t' h') :
    ∃ T H I B l, DT P callF ng nt ops T H I B ∧ T 0 = t ∧ H 0 = h ∧ T ops.size = t' ∧ (∀ x, h'.get x = (H ops.size).get x) ∧ h'.next = (H ops.size).next ∧ h'.wl = l ++ h.wl ∧ (∀ x, x ∈ l ↔ ∃ i, i < ops.size ∧ x ∈ (I i).wr) := by
  unfold regD at e
  cases hr : runD P callF ng nt ops ops.toList 0 .e t h with
  | none => rw [hr] at e; cases e
  | some r =>
    obtain ⟨t2, h2, its⟩ := r
    rw [hr] at e
    simp only at e
    cases hck : chkD P ops its 0 with
    | false => rw [hck] at e; cases e
    | true =>
      rw [hck] at e
      cases e
      obtain ⟨T, H, I, M, A, k1, k2, k3, k4, k5, k6, k7⟩ := runD_trace _ _ _ _ _ _ hr
      have hlen : ops.toList.length = ops.size := Array.length_toList
      rw [hlen] at k4 k5 k6
      have hop : ∀ i o, ops[i]? = some o → ops.toList[i]? = some o := fun i o ho => by rw [Array.getElem?_toList]; exact ho
      have hA : ∀ k m, k ≤ ops.size → m < k → (A k).get m = some (M m) := by
        intro k
        induction k with
        | zero => intro m _ h; omega
        | succ k ih =>
          intro m hk hm
          obtain ⟨o, ho⟩ := get_op (show k < ops.size by omega)
          obtain ⟨_, _, _, _, a5⟩ := k7 k o (hop k o ho)
          rw [a5, Nat.zero_add, PT.get_set]
          by_cases hkm : k = m
          · subst hkm; rw [if_pos rfl]
          · rw [if_neg hkm]; exact ih m (by omega) (by omega)
      refine ⟨T, H, I, fun i k => (M k).testBit i = true, allW its, ⟨hc, he, fun i o ho => (k7 i o (hop i o ho)).1, fun i j o ho hb => ?_, fun j o ho ed hed hb => ?_, fun i j oi oj hij hi hj => ?_⟩, k1, k2, k4, fun x => by rw [k5]; rfl, by rw [k5], rfl, fun x => ?_⟩
      · obtain ⟨_, _, a3, a4, _⟩ := k7 j o (hop j o ho)
        simp only [a4] at hb
        obtain ⟨ed, h1, h2, h3⟩ := mask1_bit hb
        refine ⟨ed, by simpa using h1, h2, h3.imp id fun h4 => ?_⟩
        have := backE_spec a3 ed h1 h2
        rw [hA j ed.on (by have := op_lt ho; omega) (by omega)] at h4
        exact h4
      · have := backE_spec (k7 j o (hop j o ho)).2.2.1 ed (by simpa using hed) hb
        omega
      · obtain ⟨_, a2, _⟩ := k7 i oi (hop i oi hi)
        obtain ⟨_, b2, _⟩ := k7 j oj (hop j oj hj)
        have := chkD_spec hck i j _ _ hij a2 b2
        rw [Nat.zero_add] at this
        refine this.imp id fun ⟨p1, p2⟩ => ⟨p1, ?_⟩
        unfold pairOk at p2
        simp only [Bool.and_eq_true, Bool.or_eq_true] at p2
        obtain ⟨⟨q1, q2⟩, q3, q4⟩ := p2
        exact ⟨q1, q2, q3.imp id fun h => ldFree_spec hi rfl rfl rfl h, q4.imp id fun h => ldFree_spec hj rfl rfl rfl h⟩
      · rw [allW_mem]
        constructor
        · rintro ⟨y, hy, hx⟩
          obtain ⟨i, hi, rfl⟩ := List.getElem_of_mem hy
          have k6' : its.length = ops.size := k6
          have hi' : i < ops.size := by rw [← k6']; exact hi
          obtain ⟨o, ho⟩ := get_op hi'
          obtain ⟨_, a2, _⟩ := k7 i o (hop i o ho)
          have a2 : its[i]? = _ := a2
          rw [List.getElem?_eq_getElem hi] at a2
          cases a2' : its[i]
          rw [a2'] at a2 hx
          cases a2
          exact ⟨i, hi', hx⟩
        · rintro ⟨i, hi, hx⟩
          obtain ⟨o, ho⟩ := get_op hi
          obtain ⟨_, a2, _⟩ := k7 i o (hop i o ho)
          exact ⟨_, List.mem_of_getElem? a2, hx⟩

theorem regD_ext (he : CallExt callF) (hc : CallOk P ng callF) {t t' : PT V} {h h' : Heap} (e : regD P callF ng nt ops t h = .ok t' h') : ∃ l, Ext h h' l := by
  obtain ⟨T, H, I, B, l, d, e1, e2, e3, e4, e5, e6, e7⟩ := regD_dt hc he e
  refine ⟨l, ?_, e6, fun x hx hn => ?_⟩
  · rw [e5, ← e2]; exact d.mono (Nat.zero_le _) (Nat.le_refl _)
  · rw [e4, ← e2]
    refine d.keep (Nat.zero_le _) (Nat.le_refl _) fun m _ hm ht => ?_
    rcases ht with ht | ⟨t1, t2⟩
    · exact hn ((e7 x).2 ⟨m, hm, ht⟩)
    · obtain ⟨a1, _, _⟩ := d.nx hm
      have := d.mono (i := 0) (j := m) (Nat.zero_le _) (by omega)
      rw [e2] at this
      omega

theorem regD_ok (hc : CallOk P ng callF) (he : CallExt callF) (hm : P.follows .mixedOrders = true) {id : Nat} {D : List Deferred} {t t' : PT V} {h h' : Heap} (e : regD P callF ng nt ops t h = .ok t' h') {φ : Map} {w : World} {a : Act}
    (hr : HR φ h.get w) (fr : Fresh φ h.next (h'.next + 1)) (hg : Glob ng φ) (ht : TR φ nt t a.tmps) (hd : a.defers = D) {Q : Exit → Act → World → Prop}
    (hQ : ∀ a' w' φ' l, TR φ' nt t' a'.tmps → a'.defers = D → Ext h h' l → Post φ h.get h h' l φ' w w' → Q .normal a' w') : (Code.region id ops true).wp P Q a w := by
  obtain ⟨l0, hext⟩ := regD_ext he hc e
  obtain ⟨T, H, I, B, l, d, e1, e2, e3, e4, e5, e6, e7⟩ := regD_dt hc he e
  have hgn : h'.get = (H ops.size).get := funext e4
  refine wp_region_any hm (d.any (D := D) (φ0 := φ) (w0 := { w with drawn := w.drawn + 1 }) (fun a' w' φ' L hall v => ?_) _ _ _ _ φ ?_ ?_)
  · have hgS : gS ops H I L = (H ops.size).get := funext fun x => d.gS_eq (Nat.le_refl _) fun i hi _ => ⟨fun _ => hi, fun _ => hall i hi⟩
    have hT : TR φ' nt t' a'.tmps := ⟨v.tsize, fun k u hu => v.temp k ops.size (Nat.le_refl _) (fun i o ho _ => ⟨fun _ => op_lt ho, fun _ => hall i (op_lt ho)⟩) u (by rw [e3]; exact hu)⟩
    refine hQ a' w' φ' l0 hT v.defers hext ⟨v.le, fun x h1 h2 => ?_, ?_, ?_, fun x C hx hC hl => ?_⟩
    · have := v.new x h1 h2; rw [e2, ← e5] at this; exact this
    · rw [mix_self hext, hgn, ← hgS]; exact v.hr
    · rw [mix_self hext, hgn, ← hgS]
      have f := v.fr
      rw [e2] at f
      exact ⟨f.os, f.tape, f.output, f.size, f.block, f.owned⟩
    · have hl0 : l0 = l := by
        have h1 := hext.wl
        rw [e6] at h1
        exact (List.append_cancel_right h1).symm
      subst hl0
      -- the last one that touched it
      have key : ∀ j, j ≤ ops.size → (∃ i, i < j ∧ (I i).touch x) → ∀ C, (H j).get x = some C → C.live = true → C.own = true := by
        intro j
        induction j with
        | zero => rintro _ ⟨i, hi, _⟩; omega
        | succ j ih =>
          rintro hj ⟨i, hi, ht⟩ C hC hl
          by_cases htj : (I j).touch x
          · exact v.own j (hall j (by omega)) x C htj hC hl
          · rw [d.keep (i := j) (j := j + 1) (by omega) hj fun m h1 h2 => by
              have : m = j := by omega
              subst this; exact htj] at hC
            have hne : i ≠ j := fun e => by subst e; exact htj ht
            exact ih (by omega) ⟨i, by omega, ht⟩ C hC hl
      rw [hgn] at hC
      refine key ops.size (Nat.le_refl _) ?_ C hC hl
      rcases hx with hx | hx
      · obtain ⟨i, hi, hx⟩ := (e7 x).1 hx
        exact ⟨i, hi, .inl hx⟩
      · obtain ⟨i, hi, h1, h2⟩ := d.cover (Nat.le_refl _) (by rw [e2]; exact hx) (Heap.lt_of_get hC)
        exact ⟨i, hi, .inr ⟨h1, h2⟩⟩
  · have hno : ∀ i, (Array.replicate ops.size false).getD i false = true → False := fun i hi => by
      simp [Array.getD] at hi
    have hgS : gS ops H I (Array.replicate ops.size false) = h.get := funext fun x => by
      rw [d.gS_eq (Nat.zero_le _) fun i hi _ => ⟨fun h => (hno i h).elim, fun h => by omega⟩, e2]
    refine ⟨by simp, fun j o ed _ hj => (hno j hj).elim, ht.size, fun x j hj hw u hu => ?_, by rw [hgS]; exact hr.drawn ⟨rfl, rfl, rfl, rfl⟩, fun x h1 h2 h3 => ?_, hg, Map.le_refl φ, fun x h1 h2 => absurd h1 h2, ?_, fun i hi => (hno i hi).elim, hd, by rw [← e5]; exact fr _ hext.next (Nat.lt_succ_self _)⟩
    · rw [d.tmp (i := 0) (Nat.zero_le _) hj fun m o _ hm ho hdst => hno m ((hw m o ho hdst).2 hm), e1] at hu
      exact ht.val x u hu
    · rw [e2] at h2
      rw [← e5] at h3
      exact absurd (fr x h2 (by omega)) h1
    · rw [hgS, e2]; exact Fr.refl _ _ _
  · refine Nat.le_trans (List.countP_le_length) ?_
    rw [List.length_range]; exact Nat.le_refl _
end
end Go.Ab
