/-
  leak.Low and the document's: the loops; the law LeakLow. Conditions: none.
-/
import Derived.Test.YtednpcncjiaahaaL6
set_option linter.unusedVariables false
set_option linter.unusedSimpArgs false
namespace Go.Ab
open Go
theorem pc_free {P : Program} {x y : Rc} (hx : x.i.wr = []) (hy : y.i.wr = []) (h3 : accFree x.i y.i = true) (h4 : accFree y.i x.i = true) : pc P x y = true := by
  unfold pc; rw [hx, hy, h3, h4]; rfl
theorem acc_none {a b : Inf} (h : a.acc = none) (hw : b.wr = []) : accFree a b = true := by
  unfold accFree; rw [h, hw]
theorem noTouch_1 {i : Inf} {a : Nat} (h1 : memN a i.wr = false) (h2 : a < i.lo ∨ i.hi ≤ a) : noTouch i [a] = true := by
  show and (not (i.touchB a)) true = true
  unfold Inf.touchB
  rw [h1]
  rcases h2 with h | h
  · have : Nat.ble i.lo a = false := by cases hq : Nat.ble i.lo a with | false => rfl | true => have := Nat.le_of_ble_eq_true hq; omega
    rw [this]; rfl
  · rw [blt_false h]; simp
theorem acc_one {a b : Inf} {x : Nat} (h : a.acc = some [x]) (hw : b.wr = []) (hl : x < b.lo ∨ b.hi ≤ x) : accFree a b = true := by
  unfold accFree; rw [h]
  exact noTouch_1 (by rw [hw]; rfl) hl
end Go.Ab
namespace Go.Proofs.Try
open Go Go.Ab
namespace R
def encX (l : List Bx) : List (List V) := l.map Bx.enc
def bidx (f : Bx → Bool) : Nat → List Bx → Int
  | i, b :: l => if f b = true then (i : Int) else bidx f (i + 1) l
  | _, [] => Int.negSucc 0
theorem bidx_any (f : Bx → Bool) : ∀ (l : List Bx) (i : Nat), decide ((0 : Int) ≤ bidx f i l) = l.any f
  | [], i => rfl
  | b :: l, i => by
    show decide ((0 : Int) ≤ if f b = true then (i : Int) else bidx f (i + 1) l) = (f b || l.any f)
    cases h : f b with
    | true => simp
    | false => simpa using bidx_any f l (i + 1)
theorem find_loop (n : Nat) {l : List SB} (hl : l.length < 10000) {sec : List Bool} {cs : List V} (hs : cs.all V.sc = true) (h4 : cs.length = 4) {v w : V} (hc : cs[1]? = some v) (bs : List Bx) (hb : bs.length < 10000) (z : V) (h0 : Heap) (hz : SlAt h0 z 5 (encX bs)) (hv : SlAt h0 v 1 (encS l)) (hw : SlAt h0 w 1 (encB sec)) {x y : Nat} (hx : Has h0 x cs) (hy : Has h0 y [w]) :
    ∀ (d i lf : Nat) (H : Heap), i + d = bs.length → d < lf → Keep h0 H →
    RetsQ (loop 4 lf (F40_b1 (callG tab 10000 (n + 3)) 10000) z (.f (.func 34) [] [.p (some (x, 0)), .p (some (y, 0))]) (.i .i64 (bs.length : Int)) (.i .i64 (i : Int)) H) h0 fun u _ => u = .i .i64 (bidx (hit l sec) i (bs.drop i)) := by
  intro d
  induction d with
  | zero =>
    intro i lf H hi hlf k
    obtain ⟨lf, rfl⟩ : ∃ m, lf = m + 1 := ⟨lf - 1, by omega⟩
    rw [loop_succ, F40_b1, lssN, vb_b, ifB_dec, if_neg (by omega), List.drop_of_length_le (by omega)]
    exact RetsQ.rt k rfl
  | succ d ih =>
    intro i lf H hi hlf k
    obtain ⟨lf, rfl⟩ : ∃ m, lf = m + 1 := ⟨lf - 1, by omega⟩
    have h1 : i < bs.length := by omega
    have hd : bidx (hit l sec) i (bs.drop i) = if hit l sec bs[i] = true then (i : Int) else bidx (hit l sec) (i + 1) (bs.drop (i + 1)) := by
      rw [List.drop_eq_getElem_cons h1]; rfl
    rw [loop_succ, F40_b1, lssN, vb_b, ifB_dec, if_pos h1, hz.ldn (show (encX bs)[i]? = some bs[i].enc by simp [encX, h1]) .i64 k]
    show RetsQ (cl (callG tab 10000 (n + 3) 34 [.agg bs[i].enc, .p (some (x, 0)), .p (some (y, 0))] H) _) h0 _
    refine RetsQ.call k (hit_ok n bs[i] hl hs h4 hc (hv.keep k) (hw.keep k) (hx.mem k.mem) (hy.mem k.mem)) fun u H1 k1 e => ?_
    subst e
    have k1 := k.trans k1
    rw [vb_b, ifB_ite, hd]
    by_cases e : hit l sec bs[i] = true
    · rw [if_pos e, if_pos e]; exact RetsQ.rt k1 rfl
    · rw [if_neg e, if_neg e, Int.ofNat_eq_natCast, add64 _ _ (by omega)]
      exact ih (i + 1) lf H1 (by omega) (by omega) k1
noncomputable def manV (q : Int) (tv bv kv : V) : List V := [.i .i64 q, tv, bv, kv]
theorem low_ok (n : Nat) {l : List SB} (hl : l.length < 10000) {sec : List Bool} {bs : List Bx} (hb : bs.length < 10000) {q : Int} {tv bv kv w : V} (h1 : tv.sc = true) (h2 : bv.sc = true) (h3 : kv.sc = true) (h5 : w.cells = [w]) (h6 : w.sc = true) {h : Heap} (ht : SlAt h tv 1 (encS l)) (hbx : SlAt h bv 5 (encX bs)) (hw : SlAt h w 1 (encB sec)) :
    Does (callG tab 10000 (n + 6) 19 [.agg (manV q tv bv kv), w] h) h fun u _ => u = .b (lowR l bs sec) := by
  have hs : (manV q tv bv kv).all V.sc = true := by simp only [manV, List.all_cons, List.all_nil, h1, h2, h3, Bool.and_true]; rfl
  rw [callG_at tab19]
  refine RetsQ.does ?_
  show RetsQ (F19 (callG tab 10000 (n + 5)) 10000 (.agg (manV q tv bv kv)) w h) h _
  unfold F19
  rw [show V.cells (.agg (manV q tv bv kv)) = manV q tv bv kv from rfl, h5]
  refine e_al (Sx.start h) hs fun a H S _ _ _ => ?_
  refine e_al S (by simp [h6]) fun b H2 S _ _ _ => ?_
  rw [fa_p, ld_st S (.tail _ (.head _)) (show (manV q tv bv kv)[0 + 2]? = some bv from rfl)]
  refine e_call S (Q' := fun u _ => u = .b (bs.any (hit l sec))) ?_ fun u H3 S e _ => ?_
  · rw [callG_at tab33]
    refine RetsQ.does ?_
    show RetsQ (F33 (callG tab 10000 (n + 4)) 10000 bv (.f (.func 34) [] [.p (some (a, 0)), .p (some (b, 0))]) H2) H2 _
    unfold F33
    refine e_call (Sx.start H2) (Q' := fun u _ => u = .i .i64 (bidx (hit l sec) 0 bs)) ?_ fun u H4 S4 e _ => ?_
    · rw [callG_at tab40]
      refine RetsQ.does ?_
      show RetsQ (F40 (callG tab 10000 (n + 3)) 10000 bv (.f (.func 34) [] [.p (some (a, 0)), .p (some (b, 0))]) H2) H2 _
      unfold F40
      rw [(hbx.mem S.mem).lns, show (encX bs).length = bs.length by simp [encX]]
      exact find_loop n hl hs rfl (show (manV q tv bv kv)[1]? = some tv from rfl) bs hb bv H2 (hbx.mem S.mem) (ht.mem S.mem) (hw.mem S.mem) (S.has (.tail _ (.head _))) (S.has (.head _)) bs.length 0 10000 H2 (by omega) (by omega) (Keep.refl _)
    · subst e
      rw [bi_i, ia_geq, show Int.ofNat 0 = 0 from rfl, bidx_any]
      exact e_rt S4 rfl
  · subst e
    rw [un_not]
    exact e_rt S rfl
theorem zl52 : zl prog 52 = Bx.enc ⟨⟨0, 0⟩, ⟨0, 0⟩, ⟨0, 0⟩, 0, false⟩ := by kernel_rfl
theorem bx_len (b : Bx) : b.enc.length = 5 := rfl
theorem low_loop (n : Nat) {l : List SB} (hl : l.length < 10000) {sec : List Bool} {bs : List Bx} (hb : bs.length < 10000) {q : Int} {tv bv kv w : V} (hs : (manV q tv bv kv).all V.sc = true) (h0 : Heap) (ht : SlAt h0 tv 1 (encS l)) (hbx : SlAt h0 bv 5 (encX bs)) (hw : SlAt h0 w 1 (encB sec)) (a : Nat) :
    ∀ (d i lf : Nat) (H : Heap) (L : List Res), i + d = bs.length → d < lf → Sx h0 H h0.wl (.c a (manV q tv bv kv) :: L) →
    RetsQ (loop 3 lf (F20_b3 (callG tab 10000 (n + 2)) 10000) w (.p (some (a, 0))) (.i .i64 (i : Int)) H) h0 fun u _ => u = .b (lowR l (bs.drop i) sec) := by
  intro d
  induction d with
  | zero =>
    intro i lf H L hi hlf S
    obtain ⟨lf, rfl⟩ : ∃ m, lf = m + 1 := ⟨lf - 1, by omega⟩
    rw [loop_succ, F20_b3, fa_p, ld_st S (.head _) (show (manV q tv bv kv)[0 + 2]? = some bv from rfl), (hbx.mem S.mem).lns, show (encX bs).length = bs.length by simp [encX], lssN, vb_b, ifB_dec, if_neg (by omega), List.drop_of_length_le (by omega)]
    exact e_rt S rfl
  | succ d ih =>
    intro i lf H L hi hlf S
    obtain ⟨lf, rfl⟩ : ∃ m, lf = m + 1 := ⟨lf - 1, by omega⟩
    have h1 : i < bs.length := by omega
    have hd : lowR l (bs.drop i) sec = (!hit l sec bs[i] && lowR l (bs.drop (i + 1)) sec) := by
      rw [List.drop_eq_getElem_cons h1]; unfold lowR; rw [List.any_cons, Bool.not_or]
    have m2 : (manV q tv bv kv)[0 + 2]? = some bv := rfl
    rw [loop_succ, F20_b3, fa_p, ld_st S (.head _) m2, (hbx.mem S.mem).lns, show (encX bs).length = bs.length by simp [encX], lssN, vb_b, ifB_dec, if_pos h1, fa_p, ld_st S (.head _) m2, (hbx.mem S.mem).ldn (show (encX bs)[i]? = some bs[i].enc by simp [encX, h1]) .i64 (Keep.refl _), zl52]
    refine e_al S (bx_sc _) fun c H1 S _ _ _ => ?_
    refine e_st S (.head _ _ _) (bx_sc bs[i]) (bx_len _) (by rw [bx_len]; decide) fun H2 S _ _ => ?_
    rw [show V.cells (.agg bs[i].enc) = bs[i].enc from rfl, lay_all (Bx.enc ⟨⟨0, 0⟩, ⟨0, 0⟩, ⟨0, 0⟩, 0, false⟩) bs[i].enc rfl] at S
    have S2 := S
    have la : a < H2.next := S.lt (.tail _ (.head _)) rfl
    have lc : c < H2.next := S.lt (.head _) rfl
    rw [ldw_st S (n := 4) (.tail _ (.head _)) rfl, fa_p, ld_st S (.head _) (show bs[i].enc[0 + 1]? = some (.s bs[i].fr) from rfl)]
    refine e_cln S.clr (task_ok n hl bs[i].fr hs rfl (show (manV q tv bv kv)[1]? = some tv from rfl) (ht.mem S.clr.mem)) fun u H3 S e k3 => ?_
    subst e
    have q3 := k3.fresh rfl
    have n3 : H2.next ≤ H3.next := k3.next
    refine e_dead S fun H4 S n4 _ _ => ?_
    rw [ldw_st S (n := 4) (.tail _ (.head _)) rfl, fa_p, ld_st S (.head _) (show bs[i].enc[0 + 2]? = some (.s bs[i].to) from rfl)]
    refine e_cln S.clr (task_ok n hl bs[i].to hs rfl (show (manV q tv bv kv)[1]? = some tv from rfl) (ht.mem S.clr.mem)) fun u H5 S e k5 => ?_
    subst e
    have q5 := k5.fresh rfl
    refine e_dead S fun H6 S _ _ _ => ?_
    rw [pc_free (by exact q3) rfl (acc_none rfl rfl) (acc_one (x := a) rfl (by exact q3) (.inl la)), ifB_true, pc_free (by exact q3) rfl (acc_none rfl rfl) (acc_one (x := c) rfl (by exact q3) (.inl lc)), ifB_true,
      pc_free rfl rfl (acc_one (x := a) rfl rfl (.inl (show a < H4.next by omega))) (acc_one (x := c) rfl rfl (.inl (show c < H4.next by omega))), ifB_true, fh_eq]
    have S := S.fin (w := H2.wl) (W := wrR [⟨3, ⟨none, H3.wl.filter (fun x => Nat.blt x H2.next), H2.next, Nat.succ H3.next⟩, none, H2, H4⟩, ⟨4, ⟨some (V.ids (.p (some (a, 0)))), [], H4.next, H4.next⟩, some (46, .p (some (a, 0)), .agg (manV q tv bv kv)), H4, H4⟩,
      ⟨6, ⟨some (V.ids (.p (some (c, 0 + 2)))), [], H4.next, H4.next⟩, some (9, .p (some (c, 0 + 2)), .s bs[i].to), H4, H4⟩, ⟨7, ⟨none, H5.wl.filter (fun x => Nat.blt x H4.next), H4.next, Nat.succ H5.next⟩, none, H4, H6⟩]) S2.wl (by
        intro p hp
        have hp : p ∈ H3.wl.filter (fun x => Nat.blt x H2.next) ++ ([] ++ ([] ++ (H5.wl.filter (fun x => Nat.blt x H4.next) ++ []))) := hp
        rw [show H3.wl.filter (fun x => Nat.blt x H2.next) = [] from q3, show H5.wl.filter (fun x => Nat.blt x H4.next) = [] from q5] at hp
        simp at hp)
    have last : ∀ (hi lo : Bool), hi = isP true l sec bs[i].fr → lo = isP false l sec bs[i].to → ∀ H7, Sx h0 H7 h0.wl (.c c bs[i].enc :: .c a (manV q tv bv kv) :: L) →
        RetsQ (F20_j1 (callG tab 10000 (n + 2)) 10000 (loop 3 lf (F20_b3 (callG tab 10000 (n + 2)) 10000)) w (.p (some (a, 0))) (.i .i64 (i : Int)) (.p (some (c, 0))) (.b hi) (.b lo) H7) h0 fun u _ => u = .b (lowR l (bs.drop i) sec) := by
      intro hi' lo' e1 e2 H7 S
      have nxt := ih (i + 1) lf H7 _ (by omega) (by omega) S.drop
      unfold F20_j1
      rw [hd]; unfold hit
      rw [← e1, ← e2, vb_b]
      cases hi' with
      | false => rw [ifB_false, Int.ofNat_eq_natCast, add64 _ _ (by omega)]; simpa using nxt
      | true =>
        rw [ifB_true, vb_b]
        cases lo' with
        | false => rw [ifB_false, Int.ofNat_eq_natCast, add64 _ _ (by omega)]; simpa using nxt
        | true =>
          rw [ifB_true, fa_p, ld_st S (.head _) (show bs[i].enc[0 + 4]? = some (.b bs[i].sec) from rfl), vb_b]
          cases hb : bs[i].sec with
          | true => rw [ifB_true]; exact e_rt S rfl
          | false => rw [ifB_false, Int.ofNat_eq_natCast, add64 _ _ (by omega)]; simpa using nxt
    have two : ∀ (hi : Bool), hi = isP true l sec bs[i].fr → ∀ H7, Sx h0 H7 h0.wl (.c c bs[i].enc :: .c a (manV q tv bv kv) :: L) →
        RetsQ (F20_j2 (callG tab 10000 (n + 2)) 10000 (loop 3 lf (F20_b3 (callG tab 10000 (n + 2)) 10000)) w (.p (some (a, 0))) (.i .i64 (i : Int)) (.p (some (c, 0))) (.i .i64 (idxF 0 l bs[i].to)) (.b hi) H7) h0 fun u _ => u = .b (lowR l (bs.drop i) sec) := by
      intro hi' e1 H7 S
      unfold F20_j2
      rw [jn_eq]
      have hw := hw.mem S.mem
      have lo : isP false l sec bs[i].to = (match idxF 0 l bs[i].to with | .ofNat k => (sec.getD k false == false) | .negSucc _ => false) := rfl
      cases ht : idxF 0 l bs[i].to with
      | negSucc k => rw [bi_i, ia_geq, vb_b, ifB_dec, if_neg (by simp)]; exact last _ _ e1 (by rw [lo, ht]) H7 S
      | ofNat k =>
        rw [Int.ofNat_eq_natCast, Int.ofNat_eq_natCast, geqN, vb_b, ifB_dec, if_pos (Nat.zero_le _), hw.lns, show (encB sec).length = sec.length by simp [encB], geqN, vb_b, ifB_dec]
        by_cases c' : sec.length ≤ k
        · rw [if_pos c']; exact last _ _ e1 (by rw [lo, ht]; simp [List.getD_eq_getElem?_getD, List.getElem?_eq_none c']) H7 S
        · rw [if_neg c', hw.ld1 (show (encB sec)[k]? = some [.b (sec[k]'(by omega))] by simp [encB]) .i64 (Keep.refl _), un_not]
          exact last _ _ e1 (by rw [lo, ht]; simp [List.getD_eq_getElem?_getD, show k < sec.length by omega]) H7 S
    rw [jn_eq]
    have hw := hw.mem S.mem
    have hi' : isP true l sec bs[i].fr = (match idxF 0 l bs[i].fr with | .ofNat k => (sec.getD k false == true) | .negSucc _ => false) := rfl
    cases hf : idxF 0 l bs[i].fr with
    | negSucc k => rw [bi_i, ia_geq, vb_b, ifB_dec, if_neg (by simp)]; exact two _ (by rw [hi', hf]) _ S
    | ofNat k =>
      rw [Int.ofNat_eq_natCast, Int.ofNat_eq_natCast, geqN, vb_b, ifB_dec, if_pos (Nat.zero_le _), hw.lns, show (encB sec).length = sec.length by simp [encB], lssN, vb_b, ifB_dec]
      by_cases c' : k < sec.length
      · rw [if_pos c', hw.ld1 (show (encB sec)[k]? = some [.b sec[k]] by simp [encB, c']) .i64 (Keep.refl _)]
        exact two _ (by rw [hi', hf]; simp [List.getD_eq_getElem?_getD, c']) _ S
      · rw [if_neg c']
        exact two _ (by rw [hi', hf]; simp [List.getD_eq_getElem?_getD, List.getElem?_eq_none (Nat.le_of_not_lt c')]) _ S
theorem low_ok' (n : Nat) {l : List SB} (hl : l.length < 10000) {sec : List Bool} {bs : List Bx} (hb : bs.length < 10000) {q : Int} {tv bv kv w : V} (h1 : tv.sc = true) (h2 : bv.sc = true) (h3 : kv.sc = true) {h : Heap} (ht : SlAt h tv 1 (encS l)) (hbx : SlAt h bv 5 (encX bs)) (hw : SlAt h w 1 (encB sec)) :
    Does (callG tab 10000 (n + 3) 20 [.agg (manV q tv bv kv), w] h) h fun u _ => u = .b (lowR l bs sec) := by
  have hs : (manV q tv bv kv).all V.sc = true := by simp only [manV, List.all_cons, List.all_nil, h1, h2, h3, Bool.and_true]; rfl
  rw [callG_at tab20]
  refine RetsQ.does ?_
  show RetsQ (F20 (callG tab 10000 (n + 2)) 10000 (.agg (manV q tv bv kv)) w h) h _
  unfold F20
  rw [show V.cells (.agg (manV q tv bv kv)) = manV q tv bv kv from rfl]
  refine e_al (Sx.start h) hs fun a H S _ _ _ => ?_
  exact low_loop n hl hb hs h ht hbx hw a bs.length 0 10000 H [] (by omega) (by omega) S
end R
end Go.Proofs.Try
