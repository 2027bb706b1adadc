/-
  The law GuardAll. Conditions: none.
-/
import Derived.Test.YtednpcncjiaahaaP10
set_option linter.unusedVariables false
set_option linter.unusedSimpArgs false
namespace Go.Proofs.Try
open Go Go.Ab
namespace R
theorem eqIs_self (ws : List Nat) : ∀ (is : List Nat), (∀ i ∈ is, i < ws.length) → eqIs prog (eqV prog 9999) 28 1 (encW ws) (encW ws) is = some true
  | [], _ => rfl
  | i :: is, h => by
    have hi := h i (List.mem_cons_self ..)
    have p : partV prog 28 (encW ws) (i * 1) = some (.i .u32 (ws[i] : Int)) := by
      unfold partV; rw [underlying28]
      show (encW ws)[i * 1]? = _
      simp [encW, hi]
    unfold eqIs
    rw [p]; simp only
    rw [show (9999 : Nat) = 9998 + 1 from rfl, eqV_int underlying28, decide_eq_true rfl]; simp only
    exact eqIs_self ws is fun j hj => h j (List.mem_cons_of_mem _ hj)
theorem eql55 (ws : List Nat) (hw : ws.length = 16) (K : V → ROut) : bn prog .eql 55 (.agg (encW ws)) (.agg (encW ws)) K = K (.b true) := by
  have e : eqV prog 10000 55 (.agg (encW ws)) (.agg (encW ws)) = some true := by
    rw [show (10000 : Nat) = 9999 + 1 from rfl, eqV_succ]; unfold eqBy; rw [underlying55]; simp only
    have hi : ∃ i, prog.info? 28 = some i ∧ i.size = 1 := by
      cases h : prog.info? 28 with
      | none => exact absurd h (by have : (prog.info? 28).isSome = true := by kernel_rfl
                                   intro h; rw [h] at this; cases this)
      | some i =>
        have : ((prog.info? 28).map (·.size)) = some 1 := by kernel_rfl
        rw [h] at this
        exact ⟨i, rfl, by simpa using this⟩
    obtain ⟨i, h1, h2⟩ := hi
    rw [h1]; simp only
    rw [h2]
    exact eqIs_self ws _ fun j hj => by rw [hw]; exact List.mem_range.1 hj
  show o1 (okc (not (prog.eqGuardType prog.depth 55)) ((eqV prog 10000 55 (.agg (encW ws)) (.agg (encW ws))).map .b)) K = _
  rw [okc_true (by kernel_rfl), e, Option.map_some, o1_some]
theorem putN_len (l : List Rg) : (putN l).1.length = 16 := by
  unfold putN
  split
  · rfl
  · split
    · show (putAll 0 l zeros).length = 16; rw [put_len]; rfl
    · rfl
theorem wrR_nil : ∀ (l : List Rc), (∀ r ∈ l, r.i.wr = []) → wrR l = []
  | [], _ => rfl
  | r :: l, h => by
    show r.i.wr ++ wrR l = []
    rw [h r (List.mem_cons_self ..), wrR_nil l fun q hq => h q (List.mem_cons_of_mem _ hq)]; rfl
theorem all_ok (n : Nat) {ns : List Nat} (hn : ∀ k ∈ ns, k < 4294967296) {l : List Rg} (ho : ∀ r ∈ l, r.ok) {x y : V} {a s : Nat} (ha : a < 4294967296) (hs : s < 4294967296) (how : Int) {h : Heap} (hx : SlAt h x 1 (ns.map fun (k : Nat) => [.i .u32 (k : Int)])) (hy : SlAt h y 4 (l.map Rg.enc)) :
    Does (callG tab 10000 (n + 4) 10 [x, y, .i .u32 (a : Int), .i .u32 (s : Int), .i .i64 how] h) h fun u _ => u = .b true := by
  rw [callG_at tab10]
  refine RetsQ.does ?_
  show RetsQ (F10 (callG tab 10000 (n + 3)) 10000 x y (.i .u32 (a : Int)) (.i .u32 (s : Int)) (.i .i64 how) h) h _
  unfold F10
  rw [hy.lns, List.length_map, Int.ofNat_eq_natCast, gtrN, vb_b, ifB_dec]
  by_cases c : 20 < l.length
  · rw [if_pos c]; exact RetsQ.call (Keep.refl h) (awake_ok n h) fun v h' k e => RetsQ.rt k e
  rw [if_neg c]
  have rl : (rowK (min ns.length 16) ns).length = 16 := rowK_len _ _
  have rb := rowK_lt (i := min ns.length 16) hn
  refine e_call (Sx.start h) (put_ok (n + 1) ho hy) fun u H1 S e _ => ?_
  subst e
  unfold putV
  rw [ext_tup0, ext_tup1, zl55, zl60]
  refine e_al S (encW_sc zeros) fun b1 H2 S _ _ _ => ?_
  refine e_st S (.head _ _ _) (encW_sc _) (by rw [show V.cells (.agg (encW (putN l).1)) = encW (putN l).1 from rfl, encW_len, putN_len]) (by decide) fun H3 S _ _ => ?_
  rw [show V.cells (.agg (encW (putN l).1)) = encW (putN l).1 from rfl, lay_all (encW zeros) (encW (putN l).1) (by rw [encW_len, putN_len]; rfl)] at S
  refine e_call S (putG_ok (n + 2) ho (hy.mem S.mem)) fun u H4 S e _ => ?_
  subst e
  refine e_al S (rowsV_sc zeros 0) fun b2 H5 S _ _ _ => ?_
  refine e_st S (.head _ _ _) (rowsV_sc _ _) (rowsV_len _ (putN_len l) _) (by rw [rowsV_len zeros rfl]; decide) fun H6 S _ _ => ?_
  rw [show V.cells (.agg (rowsV (putN l).1 (putN l).2)) = rowsV (putN l).1 (putN l).2 from rfl, lay_all (rowsV zeros 0) (rowsV (putN l).1 (putN l).2) (by rw [rowsV_len _ (putN_len l), rowsV_len zeros rfl])] at S
  have S6 := S
  -- a row of any order
  refine e_cln S.clr (row_ok (n + 2) (hx.mem S.clr.mem)) fun u H7 S e k1 => ?_
  subst e
  have q1 := k1.fresh rfl
  refine e_dead S fun H8 S _ _ _ => ?_
  obtain ⟨g1, H9, k2, e2, o2'⟩ := of_ok (n + 2) (rowK (min ns.length 16) ns) (Heap.mk H8.next H8.t []) rl
  rw [e2, cln_val]
  have S := S.clr.gain k2 o2'
  have q2 := k2.fresh rfl
  refine e_dead S fun H10 S _ _ _ => ?_
  refine e_cln S.clr (row_ok (n + 2) (hx.mem S.clr.mem)) fun u H11 S e k3 => ?_
  subst e
  have q3 := k3.fresh rfl
  refine e_dead S fun H12 S _ _ _ => ?_
  obtain ⟨g2, H13, k4, e4, o4⟩ := of_ok' (n + 2) rl rb (Heap.mk H12.next H12.t [])
  rw [e4, cln_val]
  have S := S.clr.gain k4 o4
  have q4 := k4.fresh rfl
  refine e_dead S fun H14 S _ _ _ => ?_
  have rn : (rowsN (rowK (min ns.length 16) ns)).length < 10000 := by
    have : ∀ (m : Nat) (w : List Nat), w.length = m → (rowsN w).length ≤ m := by
      intro m
      induction m using Nat.strongRecOn with
      | ind m ih =>
        intro w hw
        match w, hw with
        | [], _ => simp [rowsN]
        | [p], _ => simp [rowsN]
        | p :: q :: t, hw =>
          have := ih t.length (by simp at hw; omega) t rfl
          simp [rowsN] at hw ⊢; omega
    have := this _ _ rl; omega
  refine e_cln S.clr (same_ok (n + 2) rn (S.clr.sl (.tail _ (.head _))) (S.clr.sl (.head _))) fun u H15 S e k5 => ?_
  subst e
  have q5 := k5.fresh rfl
  refine e_dead S fun H16 S _ _ _ => ?_
  rw [decide_eq_true rfl, vb_b, ifB_true, ldw_st S (n := 16) (.tail _ (.tail _ (.tail _ (.head _)))) (by rw [encW_len, putN_len]), fa_p]
  rw [ldn_st S (n := 16) (xs := encW (putN l).1) (.tail _ (.tail _ (.head _))) (by rw [encW_len, putN_len]) (fun j u hj => by
    unfold rowsV
    rw [Nat.zero_add, List.getElem?_append_left (List.getElem?_eq_some_iff.1 hj).1]; exact hj) (by rw [rowsV_len _ (putN_len l)]; decide), eql55 _ (putN_len l), vb_b, ifB_true]
  have S16 := S
  refine e_cln S.clr (err_ok (n + 2) _ _) fun u H17 S e k6 => ?_
  subst e
  have q6 := k6.fresh rfl
  have n17 : H16.next ≤ H17.next := k6.next
  refine e_dead S fun H18 S _ _ _ => ?_
  have hE : (rowsV (putN l).1 (putN l).2)[0 + 16]? = some (.i .i64 ((putN l).2 : Int)) := by
    unfold rowsV
    rw [List.getElem?_append_right (by rw [encW_len, putN_len]; decide), encW_len, putN_len]; rfl
  rw [fa_p, ld_st S (.tail _ (.tail _ (.head _))) hE, eqlN, vb_b, decide_eq_true rfl, ifB_true]
  have b2lt : b2 < H16.next := S16.lt (.tail _ (.tail _ (.head _))) rfl
  refine e_cln S.clr (allow_ok (n + 1) l y _ a s how (by omega) ho ha hs (hy.mem S.clr.mem)) fun u H19 S e k7 => ?_
  subst e
  have q7 := k7.fresh rfl
  refine e_dead S fun H20 S _ _ _ => ?_
  refine e_cln S.clr (allow_ok' (n + 2) (by omega) ho ha hs how (hy.mem S.clr.mem)) fun u H21 S e k8 => ?_
  subst e
  have q8 := k8.fresh rfl
  refine e_dead S fun H22 S _ _ _ => ?_
  rw [bn_bool, beq_self_eq_true, vb_b, ifB_true]
  refine e_cln S.clr (awake_ok n _) fun u H23 S e k9 => ?_
  subst e
  have q9 := k9.fresh rfl
  refine e_dead S fun H24 S _ _ _ => ?_
  rw [pc_ok (by show noTouch _ (H17.wl.filter _) = true; rw [q6]; rfl) rfl rfl (by
    show noTouch ⟨none, H17.wl.filter (fun x => Nat.blt x H16.next), H16.next, Nat.succ H17.next⟩ [b2] = true
    rw [q6]; exact noTouch_one rfl (.inl b2lt)), ifB_true, fh_eq]
  have S := S.fin (w := H6.wl) (W := []) S6.wl (by simp)
  refine e_rt (v := .b true) (l := _) (by
    rw [wrR_nil _ (by
      intro r hr
      simp only [List.mem_cons, List.not_mem_nil, or_false] at hr
      rcases hr with rfl | rfl | rfl | rfl | rfl | rfl | rfl | rfl | rfl | rfl
      · exact q1
      · exact q2
      · exact q3
      · exact q4
      · exact q5
      · exact q6
      · rfl
      · exact q7
      · exact q8
      · exact q9)]
    exact S) rfl
end R
end Go.Proofs.Try
