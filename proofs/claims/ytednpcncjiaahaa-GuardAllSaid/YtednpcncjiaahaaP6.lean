/-
  guard.Put: the walk. Conditions: none.
-/
import Derived.Test.YtednpcncjiaahaaP5
set_option linter.unusedVariables false
set_option linter.unusedSimpArgs false
namespace Go.Ab
open Go
theorem mul64 (a b : Nat) (h : a * b < 9223372036854775808) (K : V → ROut) : bi .mul (.i .i64 (a : Int)) (.i .i64 (b : Int)) K = K (.i .i64 ((a * b : Nat) : Int)) := by
  rw [bi_i, ia_mul, show (a : Int) * (b : Int) = ((a * b : Nat) : Int) by simp, wrap64n h]
/-- two steps of a row that look at nothing of one another's -/
theorem pc_ok {P : Program} {x y : Rc} (h1 : noTouch y.i x.i.wr = true) (h2 : noTouch x.i y.i.wr = true) (h3 : accFree x.i y.i = true) (h4 : accFree y.i x.i = true) : pc P x y = true := by
  unfold pc; rw [h1, h2, h3, h4]; rfl
theorem noTouch_nil (i : Inf) : noTouch i [] = true := rfl
theorem noTouch_one {i : Inf} {a : Nat} (h1 : memN a i.wr = false) (h2 : a < i.lo ∨ i.hi ≤ a) : noTouch i [a] = true := by
  show and (not (i.touchB a)) true = true
  unfold Inf.touchB
  rw [h1]
  rcases h2 with h | h
  · have : Nat.ble i.lo a = false := by cases hq : Nat.ble i.lo a with | false => rfl | true => have := Nat.le_of_ble_eq_true hq; omega
    rw [this]; rfl
  · rw [blt_false h]; simp
end Go.Ab
namespace Go.Proofs.Try
open Go Go.Ab
namespace R
theorem tab22 : tab 22 = some (wrapF 1 F22) := by kernel_rfl
theorem tab39 : tab 39 = some (wrapF 1 F39) := by kernel_rfl
theorem high_ok (n : Nat) (r : Rg) (hr : r.ok) (hf : r.fit) (h : Heap) : Does (callG tab 10000 (n + 1) 39 [.agg r.enc] h) h fun u _ => u = .i .u32 (highN r : Int) := by
  rw [callG_at tab39]
  exact RetsQ.does (high_spec (callG tab 10000 n) 10000 r hr hf h)
theorem encW_len (ws : List Nat) : (encW ws).length = ws.length := by simp [encW]
theorem encW_set (ws : List Nat) (i x : Nat) : (encW ws).set i (.i .u32 (x : Int)) = encW (ws.set i x) := by simp [encW, List.map_set]
theorem zl55 : zl prog 55 = encW zeros := by kernel_rfl
theorem zeros_len : zeros.length = 16 := rfl
theorem put_len : ∀ (l : List Rg) (i : Nat) (ws : List Nat), (putAll i l ws).length = ws.length
  | [], i, ws => rfl
  | r :: l, i, ws => by rw [putAll, put_len]; simp
theorem fit_iff (r : Rg) (hr : r.ok) : (((BitVec.ofNat 32 r.lo &&& BitVec.ofNat 32 3).toNat = 0) ∧ ((BitVec.ofNat 32 r.hi &&& BitVec.ofNat 32 3).toNat = 0)) ↔ r.fit := by
  rw [ofNat_and3 _ hr.1, ofNat_and3 _ hr.2]; rfl
theorem put_loop1 (n : Nat) (l : List Rg) (hl : l.length ≤ 8) (ho : ∀ r ∈ l, r.ok) (hf : ∀ r ∈ l, r.fit) (x : V) (h0 : Heap) (hx : SlAt h0 x 4 (l.map Rg.enc)) (a b : Nat) :
    ∀ (d i lf : Nat) (H : Heap) (L : List Res) (ws : List Nat), i + d = l.length → d < lf → ws.length = 16 → Sx h0 H h0.wl (.c b (encW ws) :: .c a (encW zeros) :: L) →
    RetsQ (loop 5 lf (F22_b1 (callG tab 10000 (n + 1)) 10000) (.p (some (a, 0))) (.p (some (b, 0))) x (.i .i64 (l.length : Int)) (.i .i64 (i : Int)) H) h0 fun u _ => u = .tup [.agg (encW (putAll i (l.drop i) ws)), .i .i64 0] := by
  intro d
  induction d with
  | zero =>
    intro i lf H L ws hi hlf hw S
    obtain ⟨lf, rfl⟩ : ∃ m, lf = m + 1 := ⟨lf - 1, by omega⟩
    rw [loop_succ, F22_b1, lssN, vb_b, ifB_dec, if_neg (by omega), ldw_st S (.head _) (by rw [encW_len, hw]), List.drop_of_length_le (by omega)]
    refine e_st S (.tail _ (.head _ _ _)) (encW_sc ws) (by rw [show V.cells (.agg (encW ws)) = encW ws from rfl, encW_len, hw]) (by rw [encW_len]; decide) fun H' S _ _ => ?_
    rw [show V.cells (.agg (encW ws)) = encW ws from rfl, lay_all _ _ (by rw [encW_len, encW_len, hw]; rfl)] at S
    rw [ldw_st S (.tail _ (.head _)) (by rw [encW_len, hw])]
    exact e_rt S rfl
  | succ d ih =>
    intro i lf H L ws hi hlf hw S
    obtain ⟨lf, rfl⟩ : ∃ m, lf = m + 1 := ⟨lf - 1, by omega⟩
    have hlt : i < l.length := by omega
    have hri : (l.map Rg.enc)[i]? = some l[i].enc := by simp [hlt]
    have ok := ho _ (List.getElem_mem hlt)
    have ft := hf _ (List.getElem_mem hlt)
    rw [loop_succ, F22_b1, lssN, vb_b, ifB_dec, if_pos hlt, (hx.mem S.mem).ldn hri .i64 (Keep.refl _), zl37]
    refine e_al S rfl fun c H1 S _ _ _ => ?_
    refine e_st S (.head _ _ _) (enc_sc l[i]) rfl (by decide) fun H2 S _ _ => ?_
    rw [show V.cells (.agg l[i].enc) = l[i].enc from rfl, lay_all [.i .u32 0, .i .u32 0, .b false, .b false] l[i].enc rfl] at S
    rw [Int.ofNat_eq_natCast, mul64 _ _ (by omega), mul64 _ _ (by omega), Int.ofNat_eq_natCast, add64 _ _ (by omega), fa_p, ld_st S (.head _) (show l[i].enc[0 + 0]? = some (.i .u32 (l[i].lo : Int)) from rfl)]
    rw [ldw_st S (n := 4) (.head _) rfl]
    have S2 := S
    have hc : c < H2.next := S.lt (.head _) rfl
    have hb : b < H2.next := S.lt (.tail _ (.head _)) rfl
    refine e_cln S.clr (high_ok n _ ok ft _) fun v H3 S e k => ?_
    subst e
    have wl3 : H3.wl.filter (fun x => Nat.blt x H2.next) = [] := k.fresh rfl
    have nx3 : H2.next ≤ H3.next := k.next
    refine e_dead S fun H4 S n4 w4 m4 => ?_
    rw [ixa_p _ _ _ _ _ _ _ (show 2 * i < 16 by omega)]
    refine e_st S.clr (.tail _ (.head _ _ _)) rfl rfl (by rw [encW_len, hw]; omega) fun H5 S n5 w5 => ?_
    rw [show V.cells (.i .u32 (l[i].lo : Int)) = [.i .u32 (l[i].lo : Int)] from rfl, lay_one, Nat.zero_add, Nat.mul_one, encW_set] at S
    refine e_dead S fun H6 S n6 w6 m6 => ?_
    rw [ixa_p _ _ _ _ _ _ _ (show 2 * i + 1 < 16 by omega)]
    refine e_st S.clr (.tail _ (.head _ _ _)) rfl rfl (by rw [encW_len, List.length_set, hw]; omega) fun H7 S n7 w7 => ?_
    rw [show V.cells (.i .u32 (highN l[i] : Int)) = [.i .u32 (highN l[i] : Int)] from rfl, lay_one, Nat.zero_add, Nat.mul_one, encW_set] at S
    refine e_dead S fun H8 S n8 w8 m8 => ?_
    rw [pc_ok (by rw [show (Rc.i ⟨6, ⟨some (V.ids (.p (some (c, 0 + 0)))), [], H2.next, H2.next⟩, some (28, .p (some (c, 0 + 0)), .i .u32 (l[i].lo : Int)), H2, H2⟩).wr = [] from rfl]; rfl) (by show noTouch _ (H3.wl.filter _) = true; rw [wl3]; rfl)
      (by show noTouch ⟨none, H3.wl.filter (fun x => Nat.blt x H2.next), H2.next, Nat.succ H3.next⟩ [c] = true; rw [wl3]; exact noTouch_one rfl (.inl hc)) rfl, ifB_true, fh_eq]
    have bS := (S.own _ (.tail _ (.head _))).2 b rfl
    have S := S.fin (w := H2.wl) (W := wrR [⟨6, ⟨some (V.ids (.p (some (c, 0 + 0)))), [], H2.next, H2.next⟩, some (28, .p (some (c, 0 + 0)), .i .u32 (l[i].lo : Int)), H2, H2⟩,
      ⟨8, ⟨none, H3.wl.filter (fun x => Nat.blt x H2.next), H2.next, Nat.succ H3.next⟩, none, H2, H4⟩,
      ⟨10, ⟨some (List.flatMap V.ids [.p (some (b, 0 + 2 * i * 1))]), H5.wl.filter (fun x => Nat.blt x H4.next), H4.next, Nat.succ H5.next⟩, none, H4, H6⟩,
      ⟨12, ⟨some (List.flatMap V.ids [.p (some (b, 0 + (2 * i + 1) * 1))]), H7.wl.filter (fun x => Nat.blt x H6.next), H6.next, Nat.succ H7.next⟩, none, H6, H8⟩]) S2.wl (by
        intro q hq
        have hq : q ∈ [] ++ (H3.wl.filter (fun x => Nat.blt x H2.next) ++ (H5.wl.filter (fun x => Nat.blt x H4.next) ++ (H7.wl.filter (fun x => Nat.blt x H6.next) ++ []))) := hq
        rw [wl3, w5, w7] at hq
        simp only [List.nil_append, List.append_nil, List.mem_append, List.mem_filter, List.mem_singleton] at hq
        rcases hq with ⟨rfl, _⟩ | ⟨rfl, _⟩ <;> exact bS)
    rw [add64 _ _ (by omega)]
    have hd : l.drop i = l[i] :: l.drop (i + 1) := List.drop_eq_getElem_cons hlt
    rw [hd]
    refine ih (i + 1) lf _ _ _ (by omega) (by omega) (by simp [hw]) S.drop
theorem put_loop2 (n : Nat) (l : List Rg) (hl : l.length ≤ 8) (ho : ∀ r ∈ l, r.ok) (x : V) (h0 : Heap) (hx : SlAt h0 x 4 (l.map Rg.enc)) (a b : Nat) :
    ∀ (d i lf : Nat) (H : Heap) (L : List Res), i + d = l.length → d < lf → (∀ (j : Nat) (hj : j < l.length), j < i → l[j].fit) → Sx h0 H h0.wl (.c b (encW zeros) :: .c a (encW zeros) :: L) →
    RetsQ (loop 6 lf (F22_b2 (callG tab 10000 (n + 1)) 10000) x (.p (some (a, 0))) (.p (some (b, 0))) x (.i .i64 (l.length : Int)) (.i .i64 (i : Int)) H) h0 fun u _ => u = .tup [.agg (encW (if ∀ r ∈ l, r.fit then putAll 0 l zeros else zeros)), .i .i64 (if ∀ r ∈ l, r.fit then 0 else 4)] := by
  intro d
  induction d with
  | zero =>
    intro i lf H L hi hlf hf S
    obtain ⟨lf, rfl⟩ : ∃ m, lf = m + 1 := ⟨lf - 1, by omega⟩
    have hall : ∀ r ∈ l, r.fit := fun r hr => by
      obtain ⟨j, hj, rfl⟩ := List.getElem_of_mem hr
      exact hf j hj (by omega)
    rw [loop_succ, F22_b2, lssN, vb_b, ifB_dec, if_neg (by omega), (hx.mem S.mem).lns, List.length_map, if_pos hall, if_pos hall]
    exact put_loop1 n l hl ho hall x h0 hx a b l.length 0 10000 H L zeros (by omega) (by omega) rfl S
  | succ d ih =>
    intro i lf H L hi hlf hf S
    obtain ⟨lf, rfl⟩ : ∃ m, lf = m + 1 := ⟨lf - 1, by omega⟩
    have hlt : i < l.length := by omega
    have hri : (l.map Rg.enc)[i]? = some l[i].enc := by simp [hlt]
    have ok := ho _ (List.getElem_mem hlt)
    rw [loop_succ, F22_b2, lssN, vb_b, ifB_dec, if_pos hlt, (hx.mem S.mem).ldn hri .i64 (Keep.refl _), zl37]
    refine e_al S rfl fun c H1 S _ _ _ => ?_
    refine e_st S (.head _ _ _) (enc_sc l[i]) rfl (by decide) fun H2 S _ _ => ?_
    rw [show V.cells (.agg l[i].enc) = l[i].enc from rfl, lay_all [.i .u32 0, .i .u32 0, .b false, .b false] l[i].enc rfl] at S
    have bad : ¬ l[i].fit → RetsQ (ldn 16 (.p (some (b, 0))) H2 fun v32 => st 16 (.p (some (a, 0))) v32 H2 fun h33 => ldn 16 (.p (some (a, 0))) h33 fun v34 => rt (.tup [v34, (.i .i64 (.ofNat 4))]) h33) h0 fun u _ => u = .tup [.agg (encW (if ∀ r ∈ l, r.fit then putAll 0 l zeros else zeros)), .i .i64 (if ∀ r ∈ l, r.fit then 0 else 4)] := fun hb => by
      have hn : ¬ ∀ r ∈ l, r.fit := fun h => hb (h _ (List.getElem_mem hlt))
      rw [if_neg hn, if_neg hn, ldw_st S (n := 16) (.tail _ (.head _)) rfl]
      refine e_st S (.tail _ (.tail _ (.head _ _ _))) (encW_sc zeros) rfl (by decide) fun H' S _ _ => ?_
      rw [show V.cells (.agg (encW zeros)) = encW zeros from rfl, lay_all (encW zeros) (encW zeros) rfl] at S
      rw [ldw_st S (n := 16) (.tail _ (.tail _ (.head _))) rfl]
      exact e_rt S rfl
    have a1 := ofNat_and3 _ ok.1
    have a2 := ofNat_and3 _ ok.2
    rw [fa_p, ld_st S (.head _) (show l[i].enc[0 + 0]? = some (.i .u32 (l[i].lo : Int)) from rfl), bi_i, Int.ofNat_eq_natCast, ia_and32, a1, Int.ofNat_eq_natCast, neqN, vb_b]
    by_cases h1 : l[i].lo % 4 = 0
    · rw [decide_eq_true h1, Bool.not_true, ifB_false, fa_p, ld_st S (.head _) (show l[i].enc[0 + 1]? = some (.i .u32 (l[i].hi : Int)) from rfl), bi_i, ia_and32, a2, neqN, vb_b]
      by_cases h2 : l[i].hi % 4 = 0
      · rw [decide_eq_true h2, Bool.not_true, ifB_false, Int.ofNat_eq_natCast, add64 _ _ (by omega)]
        refine ih (i + 1) lf _ _ (by omega) (by omega) (fun j hj hji => ?_) S.drop
        rcases Nat.lt_succ_iff_lt_or_eq.1 hji with h | rfl
        · exact hf j hj h
        · exact ⟨h1, h2⟩
      · rw [decide_eq_false h2, Bool.not_false, ifB_true]
        exact bad fun h => h2 h.2
    · rw [decide_eq_false h1, Bool.not_false, ifB_true]
      exact bad fun h => h1 h.1
noncomputable def putV (l : List Rg) : V := .tup [.agg (encW (putN l).1), .i .i64 ((putN l).2 : Int)]
theorem put_ok (n : Nat) {l : List Rg} (ho : ∀ r ∈ l, r.ok) {x : V} {h : Heap} (hx : SlAt h x 4 (l.map Rg.enc)) : Does (callG tab 10000 (n + 2) 22 [x] h) h fun u _ => u = putV l := by
  rw [callG_at tab22]
  refine RetsQ.does ?_
  show RetsQ (F22 (callG tab 10000 (n + 1)) 10000 x h) h _
  unfold F22 putV putN
  rw [zl55]
  refine e_al (Sx.start h) (encW_sc zeros) fun a H1 S _ _ _ => ?_
  refine e_al S (encW_sc zeros) fun b H2 S _ _ _ => ?_
  rw [(hx.mem S.mem).lns, List.length_map, Int.ofNat_eq_natCast, gtrN, vb_b, ifB_dec]
  by_cases c : 8 < l.length
  · rw [if_pos c, if_pos c, ldw_st S (n := 16) (.head _) rfl]
    refine e_st S (.tail _ (.head _ _ _)) (encW_sc zeros) rfl (by decide) fun H' S _ _ => ?_
    rw [show V.cells (.agg (encW zeros)) = encW zeros from rfl, lay_all (encW zeros) (encW zeros) rfl] at S
    rw [ldw_st S (n := 16) (.tail _ (.head _)) rfl]
    exact e_rt S rfl
  · rw [if_neg c, if_neg c, (hx.mem S.mem).lns, List.length_map]
    have := put_loop2 n l (by omega) ho x h hx a b l.length 0 10000 H2 [] (by omega) (by omega) (fun j hj hji => by omega) S
    obtain ⟨v, h', k, e, q⟩ := this
    refine ⟨v, h', k, e, q.trans ?_⟩
    split <;> rfl
end R
end Go.Proofs.Try
