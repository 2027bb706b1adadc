/-
  The law GuardBack: the walk. Conditions: none.
-/
import Derived.Test.YtednpcncjiaahaaP7
set_option linter.unusedVariables false
set_option linter.unusedSimpArgs false
namespace Go.Proofs.Try
open Go Go.Ab
namespace R
def mkRg (a b : Nat) : Rg := ⟨a / 4 * 4, b / 4 * 4, decide (a % 2 = 1), decide (b % 2 = 1)⟩
theorem mk_ok {a b : Nat} (ha : a < 4294967296) (hb : b < 4294967296) : (mkRg a b).ok ∧ (mkRg a b).fit := by
  refine ⟨⟨?_, ?_⟩, ?_, ?_⟩
  · show a / 4 * 4 < _; omega
  · show b / 4 * 4 < _; omega
  · show a / 4 * 4 % 4 = 0; omega
  · show b / 4 * 4 % 4 = 0; omega
theorem enlR (l : List Rg) : ∀ r ∈ l.map Rg.enc, r.length = 4 := fun r hr => by obtain ⟨q, _, rfl⟩ := List.mem_map.1 hr; rfl
theorem ensR (l : List Rg) : ∀ r ∈ l.map Rg.enc, r.all V.sc = true := fun r hr => by obtain ⟨q, _, rfl⟩ := List.mem_map.1 hr; rfl
theorem back_loop (cf : CallF) (lf0 : Nat) (ns : List Nat) (hn : ∀ k ∈ ns, k < 4294967296) (x : V) (h0 : Heap) (hx : SlAt h0 x 1 (ns.map fun (k : Nat) => [.i .u32 (k : Int)])) (J : Fv 1) (Q : V → Heap → Prop)
    (hJ : ∀ H L v (l : List Rg), l.length ≤ 8 → (∀ r ∈ l, r.ok) → (∀ r ∈ l, r.fit) → Sx h0 H h0.wl (.o v 4 (l.map Rg.enc) :: L) → RetsQ (J v H) h0 Q) :
    ∀ (d lf : Nat) (H : Heap) (L : List Res) (v : V) (l : List Rg), l.length + d = 8 → d < lf → (∀ r ∈ l, r.ok) → (∀ r ∈ l, r.fit) → Sx h0 H h0.wl (.o v 4 (l.map Rg.enc) :: L) →
    RetsQ (loop 3 lf (F11_b2 cf lf0 J) x v (.i .i64 ((2 * l.length : Nat) : Int)) H) h0 Q := by
  intro d
  induction d with
  | zero =>
    intro lf H L v l hd hlf ho hf S
    obtain ⟨lf, rfl⟩ : ∃ m, lf = m + 1 := ⟨lf - 1, by omega⟩
    rw [loop_succ, F11_b2, jn_eq, Int.ofNat_eq_natCast, add64 _ _ (by omega), (hx.mem S.mem).lns, List.length_map, lssN, vb_b, ifB_dec]
    by_cases c : 2 * l.length + 1 < ns.length
    · rw [if_pos c, (S.sl (.head _)).lns, List.length_map, Int.ofNat_eq_natCast, lssN, vb_b, ifB_dec, if_neg (by omega)]
      exact hJ H L v l (by omega) ho hf S
    · rw [if_neg c]; exact hJ H L v l (by omega) ho hf S
  | succ d ih =>
    intro lf H L v l hd hlf ho hf S
    obtain ⟨lf, rfl⟩ : ∃ m, lf = m + 1 := ⟨lf - 1, by omega⟩
    rw [loop_succ, F11_b2, jn_eq, Int.ofNat_eq_natCast, add64 _ _ (by omega), (hx.mem S.mem).lns, List.length_map, lssN, vb_b, ifB_dec]
    by_cases c : 2 * l.length + 1 < ns.length
    case neg => rw [if_neg c]; exact hJ H L v l (by omega) ho hf S
    rw [if_pos c, (S.sl (.head _)).lns, List.length_map, Int.ofNat_eq_natCast, lssN, vb_b, ifB_dec, if_pos (by omega)]
    unfold F11_j1
    have i0 : 2 * l.length < ns.length := by omega
    have r0 : (ns.map fun (k : Nat) => [V.i .u32 (k : Int)])[2 * l.length]? = some [.i .u32 (ns[2 * l.length] : Int)] := by simp [i0]
    have r1 : (ns.map fun (k : Nat) => [V.i .u32 (k : Int)])[2 * l.length + 1]? = some [.i .u32 (ns[2 * l.length + 1] : Int)] := by simp [c]
    have b0 := hn _ (List.getElem_mem i0)
    have b1 := hn _ (List.getElem_mem c)
    have d0 := Nat.div_mul_le_self ns[2 * l.length] 4
    have d1 := Nat.div_mul_le_self ns[2 * l.length + 1] 4
    rw [(hx.mem S.mem).ld1 r0 .i64 (Keep.refl _), Int.ofNat_eq_natCast, quo32 _ _ (by decide) b0, mul32 _ _ (by omega), Int.ofNat_eq_natCast, add64 _ _ (by omega), (hx.mem S.mem).ld1 r1 .i64 (Keep.refl _), quo32 _ _ (by decide) b1, mul32 _ _ (by omega),
      (hx.mem S.mem).ld1 r0 .i64 (Keep.refl _), Int.ofNat_eq_natCast, rem32 _ _ _ (by decide), eqlN, add64 _ _ (by omega), (hx.mem S.mem).ld1 r1 .i64 (Keep.refl _), rem32 _ _ _ (by decide), eqlN, rg_build, o1_some]
    show RetsQ (o2 (buildSliceV prog 38 1 [(0, .agg (mkRg ns[2 * l.length] ns[2 * l.length + 1]).enc)] (Heap.mk H.next H.t [])) _) h0 Q
    have S0 := S
    refine e_bsl S.clr (rg_build1 _ _) (rows := [(mkRg ns[2 * l.length] ns[2 * l.length + 1]).enc]) (by simp [enc_len]) (by simp) rfl fun w H1 S _ n1 w1 => ?_
    have W1 : H1.wl = [] := w1
    refine e_dead S fun H2 S _ _ _ => ?_
    refine e_app rg_slTy S.clr (S.clr.sl (.head _)) (by simp [enc_len]) (fun r hr => by rw [List.mem_singleton.1 hr]; rfl) (by simp; omega) (by simp; omega) (fun v' => .tail _ (.head _ _ _)) fun v' H3 S n3 => ?_
    have G3 := S.ge
    refine e_dead S fun H4 S _ _ _ => ?_
    rw [fh_eq]
    have S := S.fin (w := H.wl) (W := wrR [⟨28, ⟨some (List.flatMap V.ids []), H1.wl.filter (fun x => Nat.blt x H.next), H.next, Nat.succ H1.next⟩, none, H, H2⟩,
      ⟨29, ⟨some (List.flatMap V.ids [v, w]), H3.wl.filter (fun x => Nat.blt x H2.next), H2.next, Nat.succ H3.next⟩, none, H2, H4⟩]) S0.wl (by
        intro q hq
        have hq : q ∈ H1.wl.filter (fun x => Nat.blt x H.next) ++ (H3.wl.filter (fun x => Nat.blt x H2.next) ++ []) := hq
        rw [W1] at hq
        simp only [List.filter_nil, List.nil_append, List.append_nil, List.mem_filter] at hq
        exact G3 q hq.1)
    obtain ⟨m1, m2⟩ := mk_ok b0 b1
    have hl : (l ++ [mkRg ns[2 * l.length] ns[2 * l.length + 1]]).length = l.length + 1 := by simp
    rw [add64 _ _ (by omega), show 2 * l.length + 2 = 2 * (l ++ [mkRg ns[2 * l.length] ns[2 * l.length + 1]]).length by rw [hl]; omega]
    refine ih lf _ L v' (l ++ [mkRg ns[2 * l.length] ns[2 * l.length + 1]]) (by rw [hl]; omega) (by omega) (fun r hr => ?_) (fun r hr => ?_) ?_
    · rcases List.mem_append.1 hr with h | h
      · exact ho r h
      · rw [List.mem_singleton.1 h]; exact m1
    · rcases List.mem_append.1 hr with h | h
      · exact hf r h
      · rw [List.mem_singleton.1 h]; exact m2
    · rw [List.map_append]
      exact S.drop
theorem nul_build : buildV prog 37 [] = some (.agg Rg.nul.enc) := by kernel_rfl
theorem two_build : buildV prog 37 [(0, .i .u32 (.ofNat 2))] = some (.agg (Rg.enc ⟨2, 0, false, false⟩)) := by kernel_rfl
theorem nul_ok : Rg.nul.ok := ⟨by decide, by decide⟩
theorem ext_tup0 (a b : V) (K : V → ROut) : o1 (extractV (.tup [a, b]) 0) K = K a := o1_some _ _
theorem ext_tup1 (a b : V) (K : V → ROut) : o1 (extractV (.tup [a, b]) 1) K = K b := o1_some _ _
theorem back_b3 (n : Nat) (l : List Rg) (m : List Rg) (hm : m = l ++ List.replicate (8 - l.length) Rg.nul) (hl : l.length ≤ 8) (hmo : ∀ r ∈ m, r.ok) (h0 : Heap) :
    ∀ (d i lf : Nat) (H : Heap) (L : List Res) (v : V), i + d = 8 → l.length ≤ i → d < lf → Sx h0 H h0.wl (.o v 4 (m.map Rg.enc) :: L) →
    RetsQ (loop 2 lf (F11_b3 (callG tab 10000 (n + 3)) 10000) v (.i .i64 (i : Int)) H) h0 fun u _ => u = .b true := by
  have hm8 : m.length = 8 := by rw [hm]; simp; omega
  intro d
  induction d with
  | zero =>
    intro i lf H L v hi hil hlf S
    obtain ⟨lf, rfl⟩ : ∃ m, lf = m + 1 := ⟨lf - 1, by omega⟩
    rw [loop_succ, F11_b3, Int.ofNat_eq_natCast, lssN, vb_b, ifB_dec, if_neg (by omega)]
    refine e_bsl S (rg_build0 _) (rows := []) (by simp) (by simp) rfl fun v1 H1 S _ _ _ => ?_
    refine e_app rg_slTy S (S.sl (.tail _ (.head _))) (enlR m) (ensR m) (by simp; omega) (by simp; omega) (fun v' => .head _ _ _) fun v2 H2 S _ => ?_
    rw [nul_build, o1_some]
    refine e_bsl S (rg_build1 _ _) (rows := [Rg.nul.enc]) (by simp [enc_len]) (by simp) rfl fun v3 H3 S _ _ _ => ?_
    refine e_app rg_slTy S (S.sl (.head _)) (by simp [enc_len]) (fun r hr => by rw [List.mem_singleton.1 hr]; rfl) (by simp; omega) (by simp; omega) (fun v' => .tail _ (.head _ _ _)) fun v4 H4 S _ => ?_
    have s4 := S.sl (.tail _ (.head _))
    rw [List.nil_append, show m.map Rg.enc ++ [Rg.nul.enc] = (m ++ [Rg.nul]).map Rg.enc by simp] at s4
    refine e_call S (put_ok (n + 1) (fun r hr => by rcases List.mem_append.1 hr with h | h; exact hmo r h; rw [List.mem_singleton.1 h]; exact nul_ok) s4) fun u H5 S e _ => ?_
    subst e
    have p9 : putN (m ++ [Rg.nul]) = (zeros, 9) := by unfold putN; rw [if_pos (by simp; omega)]
    unfold putV
    rw [p9, ext_tup0, ext_tup1, zl55]
    refine e_al S (encW_sc zeros) fun a H6 S _ _ _ => ?_
    refine e_st S (.head _ _ _) (encW_sc zeros) rfl (by decide) fun H7 S _ _ => ?_
    rw [o1_some, two_build, o1_some]
    refine e_bsl S (rg_build2 _ _ _) (rows := [Rg.nul.enc, Rg.enc ⟨2, 0, false, false⟩]) (by simp [enc_len]) (by simp) rfl fun v5 H8 S _ _ _ => ?_
    have ho2 : ∀ r ∈ [Rg.nul, ⟨2, 0, false, false⟩], r.ok := fun r hr => by
      rcases List.mem_cons.1 hr with rfl | hr
      · exact nul_ok
      · rw [List.mem_singleton.1 hr]; exact ⟨by decide, by decide⟩
    refine e_call S (put_ok (n + 1) ho2 (S.sl (.head _))) fun u H9 S e _ => ?_
    subst e
    have p4 : putN [Rg.nul, ⟨2, 0, false, false⟩] = (zeros, 4) := by decide
    unfold putV
    rw [p4, ext_tup0, ext_tup1]
    refine e_al S (encW_sc zeros) fun a H6 S _ _ _ => ?_
    refine e_st S (.head _ _ _) (encW_sc zeros) rfl (by decide) fun H7 S _ _ => ?_
    refine e_call S (err_ok (n + 2) _ _) fun u H10 S e _ => ?_
    subst e
    rw [Int.ofNat_eq_natCast, eqlN, vb_b, ifB_dec, if_pos rfl]
    refine e_call S (err_ok (n + 2) _ _) fun u H11 S e _ => ?_
    subst e
    rw [Int.ofNat_eq_natCast, eqlN, vb_b, ifB_dec, if_pos rfl]
    exact e_call S (awake_ok n _) fun u H12 S e _ => e_rt S e
  | succ d ih =>
    intro i lf H L v hi hil hlf S
    obtain ⟨lf, rfl⟩ : ∃ m, lf = m + 1 := ⟨lf - 1, by omega⟩
    have hri : (m.map Rg.enc)[i]? = some Rg.nul.enc := by
      rw [List.getElem?_map, hm, List.getElem?_append_right hil, List.getElem?_replicate, if_pos (by omega)]; rfl
    rw [loop_succ, F11_b3, Int.ofNat_eq_natCast, lssN, vb_b, ifB_dec, if_pos (by omega), (S.sl (.head _)).ldn hri .i64 (Keep.refl _), nul_build, o1_some, neq37, vb_b, decide_eq_true rfl, Bool.not_true, ifB_false, Int.ofNat_eq_natCast, add64 _ _ (by omega)]
    exact ih (i + 1) lf H L v (by omega) (by omega) (by omega) S
theorem back_j5 (n : Nat) (l : List Rg) (hl : l.length ≤ 8) (ho : ∀ r ∈ l, r.ok) (hf : ∀ r ∈ l, r.fit) (h0 H : Heap) (L : List Res) (v : V) (S : Sx h0 H h0.wl (.o v 4 (l.map Rg.enc) :: L)) :
    RetsQ (F11_j5 (callG tab 10000 (n + 3)) 10000 v H) h0 fun u _ => u = .b true := by
  obtain ⟨hrow, herr⟩ := rows_put hl ho hf
  have hlen : (putN l).1.length = 16 := by
    unfold putN; rw [if_neg (by omega), if_pos hf]; show (putAll 0 l zeros).length = 16; rw [put_len]; rfl
  have hmo : ∀ r ∈ l ++ List.replicate (8 - l.length) Rg.nul, r.ok := fun r hr => by
    rcases List.mem_append.1 hr with h | h
    · exact ho r h
    · rw [(List.mem_replicate.1 h).2]; exact nul_ok
  unfold F11_j5
  refine e_call S (put_ok (n + 1) ho (S.sl (.head _))) fun u H1 S e _ => ?_
  subst e
  unfold putV
  rw [ext_tup0, ext_tup1, zl55]
  refine e_al S (encW_sc zeros) fun a H2 S _ _ _ => ?_
  refine e_st S (.head _ _ _) (encW_sc _) (by rw [show V.cells (.agg (encW (putN l).1)) = encW (putN l).1 from rfl, encW_len, hlen]) (by decide) fun H3 S _ _ => ?_
  rw [show V.cells (.agg (encW (putN l).1)) = encW (putN l).1 from rfl, lay_all (encW zeros) (encW (putN l).1) (by rw [encW_len, hlen]; rfl)] at S
  rw [ldw_st S (n := 16) (.head _) (by rw [encW_len, hlen])]
  obtain ⟨w, H4, k4, e4, o4⟩ := of_ok (n + 2) (putN l).1 H3 hlen
  rw [e4, cl_val, jn_eq, herr]
  rw [hrow] at o4
  have S := S.gain k4 o4
  refine e_call S (err_ok (n + 2) _ _) fun u H5 S e _ => ?_
  subst e
  have w8 : ((l ++ List.replicate (8 - l.length) Rg.nul).map Rg.enc).length = 8 := by simp; omega
  rw [Int.ofNat_eq_natCast, neqN, vb_b, decide_eq_true rfl, Bool.not_true, ifB_false, (S.sl (.head _)).lns, w8, Int.ofNat_eq_natCast, neqN, vb_b, decide_eq_true rfl, Bool.not_true, ifB_false, (S.sl (.tail _ (.tail _ (.head _)))).lns, List.length_map]
  obtain ⟨w', e', s'⟩ := own_slice underlying38 (show szOf prog 37 = some 4 by kernel_rfl) (S.own _ (.head _)).1 (n := l.length) (by rw [w8]; exact hl) (by omega)
  rw [e', o2_some]
  rw [← List.map_take, List.take_left] at s'
  refine e_call S (same_ok (n + 2) (by omega) s' (S.sl (.tail _ (.tail _ (.head _))))) fun u H6 S e _ => ?_
  subst e
  rw [un_not, vb_b, decide_eq_true rfl, Bool.not_true, ifB_false]
  unfold F11_j4
  rw [(S.sl (.tail _ (.tail _ (.head _)))).lns, List.length_map]
  exact back_b3 n l _ rfl hl hmo h0 (8 - l.length) l.length 10000 H6 _ w (by omega) (Nat.le_refl _) (by omega) S
theorem back_ok (n : Nat) {ns : List Nat} (hn : ∀ k ∈ ns, k < 4294967296) {x : V} {h : Heap} (hx : SlAt h x 1 (ns.map fun (k : Nat) => [.i .u32 (k : Int)])) : Does (callG tab 10000 (n + 4) 11 [x] h) h fun u _ => u = .b true := by
  rw [callG_at tab11]
  refine RetsQ.does ?_
  show RetsQ (F11 (callG tab 10000 (n + 3)) 10000 x h) h _
  unfold F11
  rw [jn_eq]
  have S : Sx h h h.wl [.o (.sl none 0 0 true) 4 (([] : List Rg).map Rg.enc)] := (Sx.start h).gain (Keep.refl h) (Own.nil _ _ _)
  exact back_loop _ _ ns hn x h hx _ _ (fun H L v l hl ho hf S => back_j5 n l hl ho hf h H L v S) 8 10000 h [] _ [] rfl (by omega) (by simp) (by simp) S
end R
end Go.Proofs.Try
