/-
  The document's words of regions. Conditions: none.
-/
import Derived.Test.YtednpcncjiaahaaP9
set_option linter.unusedVariables false
set_option linter.unusedSimpArgs false
namespace Go.Proofs.Try
open Go Go.Ab
namespace R
noncomputable def rowsV (w : List Nat) (e : Nat) : List V := encW w ++ [.i .i64 (e : Int)]
theorem rows60' (a0 a1 a2 a3 a4 a5 a6 a7 a8 a9 a10 a11 a12 a13 a14 a15 : Nat) : buildV prog 60 [(0, .agg (encW [a0, a1, a2, a3, a4, a5, a6, a7, a8, a9, a10, a11, a12, a13, a14, a15]))] = some (.agg (rowsV [a0, a1, a2, a3, a4, a5, a6, a7, a8, a9, a10, a11, a12, a13, a14, a15] 0)) := by kernel_rfl
theorem rows60 (w : List Nat) (hw : w.length = 16) : buildV prog 60 [(0, .agg (encW w))] = some (.agg (rowsV w 0)) := by
  match w, hw with
  | [a0, a1, a2, a3, a4, a5, a6, a7, a8, a9, a10, a11, a12, a13, a14, a15], _ => exact rows60' a0 a1 a2 a3 a4 a5 a6 a7 a8 a9 a10 a11 a12 a13 a14 a15
theorem rows60e (e : Nat) : buildV prog 60 [(1, .i .i64 (e : Int))] = some (.agg (rowsV zeros e)) := by kernel_rfl
theorem zl60 : zl prog 60 = rowsV zeros 0 := by kernel_rfl
theorem rowsV_sc (w : List Nat) (e : Nat) : (rowsV w e).all V.sc = true := by
  unfold rowsV; rw [List.all_append, encW_sc]; rfl
theorem rowsV_len (w : List Nat) (hw : w.length = 16) (e : Nat) : (rowsV w e).length = 17 := by
  unfold rowsV; rw [List.length_append, encW_len, hw]; rfl
/-- the result is laid down and told -/
theorem put_fin {h0 H : Heap} {L : List Res} {a : Nat} {Q : V → Heap → Prop} {L' : List Res} {z : List V} (hz : z.length = 17) (w : List Nat) (hw : w.length = 16) (e : Nat) (S : Sx h0 H h0.wl L) (hu : Upd L (.c a z) (.c a (rowsV w e)) L') (q : ∀ h, Q (.agg (rowsV w e)) h) :
    RetsQ (st 17 (.p (some (a, 0))) (.agg (rowsV w e)) H fun h28 => ldn 17 (.p (some (a, 0))) h28 fun v29 => rt v29 h28) h0 Q := by
  have hl := lay_all z (rowsV w e) (by rw [rowsV_len w hw, hz])
  refine e_st S (cs := z) (by rw [show V.cells (.agg (rowsV w e)) = rowsV w e from rfl, hl]; exact hu) (rowsV_sc w e) (rowsV_len w hw e) (by omega) fun H' S _ _ => ?_
  obtain ⟨p, r, _, rfl⟩ := hu.split
  rw [ldw_st S (n := 17) (a := a) (cs := rowsV w e) (List.mem_append_right _ (List.mem_cons_self ..)) (rowsV_len w hw e)]
  exact e_rt S (q _)
def putR (l : List Rg) : List Nat := if ∀ r ∈ l, r.fit then putAll 0 l zeros else zeros
def putE (l : List Rg) : Nat := if ∀ r ∈ l, r.fit then 0 else 4
theorem put_loop (cf : CallF) (lf0 : Nat) (l : List Rg) (hl : l.length ≤ 8) (ho : ∀ r ∈ l, r.ok) (x : V) (h0 : Heap) (hx : SlAt h0 x 4 (l.map Rg.enc)) (a b : Nat) :
    ∀ (d i lf : Nat) (H : Heap) (L : List Res) (ws : List Nat), i + d = l.length → d < lf → ws.length = 16 → putAll i (l.drop i) ws = putAll 0 l zeros → (∀ (j : Nat) (hj : j < l.length), j < i → l[j].fit) → Sx h0 H h0.wl (.c b (encW ws) :: .c a (rowsV zeros 0) :: L) →
    RetsQ (loop 4 lf (F23_b3 cf lf0) x (.p (some (a, 0))) (.p (some (b, 0))) (.i .i64 (i : Int)) H) h0 fun u _ => u = .agg (rowsV (putR l) (putE l)) := by
  intro d
  induction d with
  | zero =>
    intro i lf H L ws hi hlf hw hp hf S
    obtain ⟨lf, rfl⟩ : ∃ m, lf = m + 1 := ⟨lf - 1, by omega⟩
    have hall : ∀ r ∈ l, r.fit := fun r hr => by
      obtain ⟨j, hj, rfl⟩ := List.getElem_of_mem hr
      exact hf j hj (by omega)
    rw [List.drop_of_length_le (by omega)] at hp
    have hp : ws = putAll 0 l zeros := hp
    rw [loop_succ, F23_b3, (hx.mem S.mem).lns, List.length_map, lssN, vb_b, ifB_dec, if_neg (by omega), ldw_st S (n := 16) (.head _) (by rw [encW_len, hw]), rows60 ws hw, o1_some]
    refine put_fin (rowsV_len zeros rfl 0) ws hw 0 S (.tail _ (.head _ _ _)) fun h => ?_
    unfold putR putE
    rw [if_pos hall, if_pos hall, ← hp]
  | succ d ih =>
    intro i lf H L ws hi hlf hw hp hf S
    obtain ⟨lf, rfl⟩ : ∃ m, lf = m + 1 := ⟨lf - 1, by omega⟩
    have hlt : i < l.length := by omega
    have hri : (l.map Rg.enc)[i]? = some l[i].enc := by simp [hlt]
    have ok := ho _ (List.getElem_mem hlt)
    have ok1 := ok.1
    have ok2 := ok.2
    have f0 : l[i].enc[0]? = some (.i .u32 (l[i].lo : Int)) := rfl
    have f1 : l[i].enc[1]? = some (.i .u32 (l[i].hi : Int)) := rfl
    have f2 : l[i].enc[2]? = some (.b l[i].x) := rfl
    have f3 : l[i].enc[3]? = some (.b l[i].w) := rfl
    have bad : ¬ l[i].fit → RetsQ (o1 (buildV prog 60 [(1, (.i .i64 (.ofNat 4)))]) fun v27 => st 17 (.p (some (a, 0))) v27 H fun h28 => ldn 17 (.p (some (a, 0))) h28 fun v29 => rt v29 h28) h0 fun u _ => u = .agg (rowsV (putR l) (putE l)) := fun hb => by
      have hn : ¬ ∀ r ∈ l, r.fit := fun h => hb (h _ (List.getElem_mem hlt))
      rw [Int.ofNat_eq_natCast, rows60e, o1_some]
      refine put_fin (rowsV_len zeros rfl 0) zeros rfl 4 S (.tail _ (.head _ _ _)) fun h => ?_
      unfold putR putE
      rw [if_neg hn, if_neg hn]
    rw [loop_succ, F23_b3, (hx.mem S.mem).lns, List.length_map, lssN, vb_b, ifB_dec, if_pos hlt, jn_eq, (hx.mem S.mem).fld hri .i64 (Keep.refl _) f0, Int.ofNat_eq_natCast, rem32 _ _ _ (by decide), Int.ofNat_eq_natCast, neqN, vb_b]
    by_cases c1 : l[i].lo % 4 = 0
    case neg => rw [decide_eq_false c1, Bool.not_false, ifB_true]; exact bad fun h => c1 h.1
    rw [decide_eq_true c1, Bool.not_true, ifB_false, (hx.mem S.mem).fld hri .i64 (Keep.refl _) f1, rem32 _ _ _ (by decide), neqN, vb_b]
    by_cases c2 : l[i].hi % 4 = 0
    case neg => rw [decide_eq_false c2, Bool.not_false, ifB_true]; exact bad fun h => c2 h.2
    rw [decide_eq_true c2, Bool.not_true, ifB_false]
    unfold F23_j2
    rw [Int.ofNat_eq_natCast, mul64 _ _ (by omega), (hx.mem S.mem).fld hri .i64 (Keep.refl _) f0, ixa_p _ _ _ _ _ _ _ (show 2 * i < 16 by omega)]
    refine e_st S (.head _ _ _) rfl rfl (by rw [encW_len, hw]; omega) fun H1 S _ _ => ?_
    rw [show V.cells (.i .u32 (l[i].lo : Int)) = [.i .u32 (l[i].lo : Int)] from rfl, lay_one, Nat.zero_add, Nat.mul_one, encW_set] at S
    rw [mul64 _ _ (by omega), Int.ofNat_eq_natCast, add64 _ _ (by omega), (hx.mem S.mem).fld hri .i64 (Keep.refl _) f1, ixa_p _ _ _ _ _ _ _ (show 2 * i + 1 < 16 by omega)]
    refine e_st S (.head _ _ _) rfl rfl (by rw [encW_len, List.length_set, hw]; omega) fun H2 S _ _ => ?_
    rw [show V.cells (.i .u32 (l[i].hi : Int)) = [.i .u32 (l[i].hi : Int)] from rfl, lay_one, Nat.zero_add, Nat.mul_one, encW_set] at S
    rw [jn_eq]
    have hd : l.drop i = l[i] :: l.drop (i + 1) := List.drop_eq_getElem_cons hlt
    rw [hd] at hp
    have hp : putAll (i + 1) (l.drop (i + 1)) ((ws.set (2 * i) l[i].lo).set (2 * i + 1) (highN l[i])) = putAll 0 l zeros := hp
    have ft : l[i].fit := ⟨c1, c2⟩
    have nxt : ∀ H3, Sx h0 H3 h0.wl (.c b (encW ((ws.set (2 * i) l[i].lo).set (2 * i + 1) (highN l[i]))) :: .c a (rowsV zeros 0) :: L) → RetsQ (loop 4 lf (F23_b3 cf lf0) x (.p (some (a, 0))) (.p (some (b, 0))) (.i .i64 ((i + 1 : Nat) : Int)) H3) h0 fun u _ => u = .agg (rowsV (putR l) (putE l)) := fun H3 S => by
      refine ih (i + 1) lf H3 L _ (by omega) (by omega) (by simp [hw]) hp (fun j hj hji => ?_) S
      rcases Nat.lt_succ_iff_lt_or_eq.1 hji with h | rfl
      · exact hf j hj h
      · exact ft
    have gw : ∀ y : Nat, (encW ((ws.set (2 * i) l[i].lo).set (2 * i + 1) y))[0 + (2 * i + 1) * 1]? = some (.i .u32 (y : Int)) := fun y => by
      simp only [encW, List.getElem?_map, Nat.zero_add, Nat.mul_one]
      rw [List.getElem?_set, if_pos rfl, if_pos (by simp [hw]; omega)]; rfl
    -- the last bit
    have last : ∀ (y : Nat) (H3 : Heap), y < 4294967294 → y % 4 < 2 → y + (if l[i].w then 2 else 0) = highN l[i] → Sx h0 H3 h0.wl (.c b (encW ((ws.set (2 * i) l[i].lo).set (2 * i + 1) y)) :: .c a (rowsV zeros 0) :: L) →
        RetsQ (F23_j1 cf lf0 (loop 4 lf (F23_b3 cf lf0)) x (.p (some (a, 0))) (.p (some (b, 0))) (.i .i64 (i : Int)) H3) h0 fun u _ => u = .agg (rowsV (putR l) (putE l)) := fun y H3 hy hy2 he S => by
      unfold F23_j1
      rw [(hx.mem S.mem).fld hri .i64 (Keep.refl _) f3, vb_b]
      cases hw' : l[i].w with
      | true =>
        rw [hw', if_pos rfl] at he
        have w3 : (BitVec.ofNat 32 y ||| BitVec.ofNat 32 2).toNat = y + 2 := by
          rcases (by omega : y % 4 = 0 ∨ y % 4 = 1) with h | h
          · exact ofNat_or _ _ 2 (by omega) (by omega) (by omega)
          · obtain ⟨z, rfl⟩ : ∃ z, y = z + 1 := ⟨y - 1, by omega⟩
            have w1 : (BitVec.ofNat 32 z ||| BitVec.ofNat 32 1).toNat = z + 1 := ofNat_or _ _ 2 (by omega) (by omega) (by omega)
            have := BitVec.eq_of_toNat_eq (x := BitVec.ofNat 32 (z + 1)) (y := BitVec.ofNat 32 z ||| BitVec.ofNat 32 1) (by rw [w1, BitVec.toNat_ofNat, Nat.mod_eq_of_lt (show z + 1 < 2 ^ 32 by omega)])
            rw [this, BitVec.or_assoc]
            show (BitVec.ofNat 32 z ||| BitVec.ofNat 32 3).toNat = z + 3
            exact ofNat_or z 3 2 (by omega) (by omega) (by omega)
        rw [ifB_true, Int.ofNat_eq_natCast, mul64 _ _ (by omega), Int.ofNat_eq_natCast, add64 _ _ (by omega), ixa_p _ _ _ _ _ _ _ (show 2 * i + 1 < 16 by omega), ld_st S (.head _) (gw y), bi_i, ia_or32, w3, ixa_p _ _ _ _ _ _ _ (show 2 * i + 1 < 16 by omega)]
        refine e_st S (.head _ _ _) rfl rfl (by rw [encW_len, List.length_set, List.length_set, hw]; omega) fun H4 S _ _ => ?_
        rw [show V.cells (.i .u32 ((y + 2 : Nat) : Int)) = [.i .u32 ((y + 2 : Nat) : Int)] from rfl, lay_one, Nat.zero_add, Nat.mul_one, encW_set, List.set_set, he] at S
        rw [add64 _ _ (by omega)]
        exact nxt H4 S
      | false =>
        rw [hw', if_neg (by simp)] at he
        rw [Nat.add_zero] at he
        rw [he] at S
        rw [ifB_false, Int.ofNat_eq_natCast, add64 _ _ (by omega)]
        exact nxt H3 S
    rw [(hx.mem S.mem).fld hri .i64 (Keep.refl _) f2, vb_b]
    cases hx' : l[i].x with
    | true =>
      have w1 : (BitVec.ofNat 32 l[i].hi ||| BitVec.ofNat 32 1).toNat = l[i].hi + 1 := ofNat_or _ _ 2 (by omega) (by omega) (by omega)
      rw [ifB_true, mul64 _ _ (by omega), add64 _ _ (by omega), ixa_p _ _ _ _ _ _ _ (show 2 * i + 1 < 16 by omega), ld_st S (.head _) (gw l[i].hi), bi_i, ia_or32, w1, ixa_p _ _ _ _ _ _ _ (show 2 * i + 1 < 16 by omega)]
      refine e_st S (.head _ _ _) rfl rfl (by rw [encW_len, List.length_set, List.length_set, hw]; omega) fun H4 S _ _ => ?_
      rw [show V.cells (.i .u32 ((l[i].hi + 1 : Nat) : Int)) = [.i .u32 ((l[i].hi + 1 : Nat) : Int)] from rfl, lay_one, Nat.zero_add, Nat.mul_one, encW_set, List.set_set] at S
      exact last (l[i].hi + 1) H4 (by omega) (by omega) (by unfold highN; rw [hx']; simp) S
    | false =>
      rw [ifB_false]
      exact last l[i].hi H2 (by omega) (by omega) (by unfold highN; rw [hx']; simp) S
theorem putG_ok (n : Nat) {l : List Rg} (ho : ∀ r ∈ l, r.ok) {x : V} {h : Heap} (hx : SlAt h x 4 (l.map Rg.enc)) : Does (callG tab 10000 (n + 1) 23 [x] h) h fun u _ => u = .agg (rowsV (putN l).1 (putN l).2) := by
  rw [callG_at tab23]
  refine RetsQ.does ?_
  show RetsQ (F23 (callG tab 10000 n) 10000 x h) h _
  unfold F23 putN
  rw [zl60, zl55]
  refine e_al (Sx.start h) (rowsV_sc zeros 0) fun a H1 S _ _ _ => ?_
  rw [(hx.mem S.mem).lns, List.length_map, Int.ofNat_eq_natCast, gtrN, vb_b, ifB_dec]
  by_cases c : 8 < l.length
  · rw [if_pos c, if_pos c, Int.ofNat_eq_natCast, rows60e, o1_some]
    exact put_fin (rowsV_len zeros rfl 0) zeros rfl 9 S (.head _ _ _) fun h => rfl
  · rw [if_neg c, if_neg c]
    refine e_al S (encW_sc zeros) fun b H2 S _ _ _ => ?_
    obtain ⟨v, h', k, e, q⟩ := put_loop (callG tab 10000 n) 10000 l (by omega) ho x h hx a b l.length 0 10000 H2 [] zeros (by omega) (by omega) rfl rfl (fun j hj hji => by omega) S
    refine ⟨v, h', k, e, q.trans ?_⟩
    unfold putR putE
    split <;> rfl
end R
end Go.Proofs.Try
