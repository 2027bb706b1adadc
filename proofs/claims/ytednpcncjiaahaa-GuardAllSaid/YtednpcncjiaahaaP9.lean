/-
  The document's regions, words of regions, what is allowed. Conditions: none.
-/
import Derived.Test.YtednpcncjiaahaaP8
set_option linter.unusedVariables false
set_option linter.unusedSimpArgs false
namespace Go.Proofs.Try
open Go Go.Ab
namespace R
theorem tab26 : tab 26 = some (wrapF 1 F26) := by kernel_rfl
theorem tab27 : tab 27 = some (wrapF 1 F27) := by kernel_rfl
theorem tab23 : tab 23 = some (wrapF 1 F23) := by kernel_rfl
theorem tab29 : tab 29 = some (wrapF 4 F29) := by kernel_rfl
theorem tab10 : tab 10 = some (wrapF 5 F10) := by kernel_rfl
theorem regN_eq {x y : Nat} (hx : x < 4294967296) (hy : y < 4294967296) : regN x y = ⟨x / 4 * 4, y / 4 * 4, decide (y % 2 = 1), decide (y / 2 % 2 = 1)⟩ := by
  unfold regN
  rw [ofNat_not3 _ hx, ofNat_not3 _ hy, ofNat_and1 _ hy, ofNat_and2 _ hy, Rg.ext']
  refine ⟨rfl, rfl, ?_, ?_⟩
  · show (!decide (((y % 2 : Nat) : Int) = ((0 : Nat) : Int))) = decide (y % 2 = 1)
    rcases Nat.mod_two_eq_zero_or_one y with h | h <;> rw [h] <;> rfl
  · show (!decide (((y / 2 % 2 * 2 : Nat) : Int) = ((0 : Nat) : Int))) = decide (y / 2 % 2 = 1)
    rcases Nat.mod_two_eq_zero_or_one (y / 2) with h | h <;> rw [h] <;> rfl
/-! row -/
def rowK (i : Nat) (ns : List Nat) : List Nat := (List.range 16).map fun j => if j < i then ns.getD j 0 else 0
theorem rowK_len (i : Nat) (ns : List Nat) : (rowK i ns).length = 16 := by simp [rowK]
theorem rowK_set {i : Nat} {ns : List Nat} (h1 : i < 16) (h2 : i < ns.length) : (rowK i ns).set i ns[i] = rowK (i + 1) ns := by
  apply List.ext_getElem?
  intro j
  rw [List.getElem?_set]
  by_cases hj : i = j
  · subst hj
    rw [if_pos rfl, if_pos (by rw [rowK_len]; exact h1)]
    simp [rowK, h1, h2]
  · rw [if_neg hj]
    simp only [rowK, List.getElem?_map]
    cases hr : (List.range 16)[j]? with
    | none => rfl
    | some k =>
      have hjk := (List.getElem?_eq_some_iff.1 hr)
      obtain ⟨hlt, hk⟩ := hjk
      simp at hk
      subst hk
      simp only [Option.map_some, Option.some.injEq]
      by_cases hji : j < i
      · rw [if_pos hji, if_pos (by omega)]
      · rw [if_neg hji, if_neg (by omega)]
theorem rowK_zero (ns : List Nat) : rowK 0 ns = zeros := by simp [rowK, zeros]; rfl
theorem rowK_lt {i : Nat} {ns : List Nat} (h : ∀ k ∈ ns, k < 4294967296) : ∀ k ∈ rowK i ns, k < 4294967296 := by
  intro k hk
  obtain ⟨j, _, rfl⟩ := List.mem_map.1 hk
  show (if j < i then ns.getD j 0 else 0) < 4294967296
  split
  · rw [List.getD_eq_getElem?_getD]
    cases hq : ns[j]? with
    | none => simp
    | some v => simp; exact h v (List.mem_of_getElem? hq)
  · omega
theorem row_loop (cf : CallF) (lf0 : Nat) (ns : List Nat) (x : V) (h0 : Heap) (hx : SlAt h0 x 1 (ns.map fun (k : Nat) => [.i .u32 (k : Int)])) (a b : Nat) :
    ∀ (d i lf : Nat) (H : Heap) (L : List Res), i + d = min ns.length 16 → d < lf → Sx h0 H h0.wl (.c b (encW (rowK i ns)) :: .c a (encW zeros) :: L) →
    RetsQ (loop 4 lf (F26_b1 cf lf0) x (.p (some (a, 0))) (.p (some (b, 0))) (.i .i64 (i : Int)) H) h0 fun u _ => u = .agg (encW (rowK (min ns.length 16) ns)) := by
  intro d
  induction d with
  | zero =>
    intro i lf H L hi hlf S
    obtain ⟨lf, rfl⟩ : ∃ m, lf = m + 1 := ⟨lf - 1, by omega⟩
    have fin : RetsQ (ldn 16 (.p (some (b, 0))) H fun v21 => st 16 (.p (some (a, 0))) v21 H fun h22 => ldn 16 (.p (some (a, 0))) h22 fun v23 => rt v23 h22) h0 fun u _ => u = .agg (encW (rowK (min ns.length 16) ns)) := by
      rw [ldw_st S (n := 16) (.head _) (by rw [encW_len, rowK_len])]
      refine e_st S (.tail _ (.head _ _ _)) (encW_sc _) (by rw [show V.cells (.agg (encW (rowK i ns))) = encW (rowK i ns) from rfl, encW_len, rowK_len]) (by decide) fun H' S _ _ => ?_
      rw [show V.cells (.agg (encW (rowK i ns))) = encW (rowK i ns) from rfl, lay_all (encW zeros) (encW (rowK i ns)) (by rw [encW_len, rowK_len]; rfl)] at S
      rw [ldw_st S (n := 16) (.tail _ (.head _)) (by rw [encW_len, rowK_len])]
      refine e_rt S ?_
      rw [show i = min ns.length 16 by omega]
    rw [loop_succ, F26_b1, (hx.mem S.mem).lns, List.length_map, lssN, vb_b, ifB_dec]
    by_cases c : i < ns.length
    · rw [if_pos c, Int.ofNat_eq_natCast, lssN, vb_b, ifB_dec, if_neg (by omega)]; exact fin
    · rw [if_neg c]; exact fin
  | succ d ih =>
    intro i lf H L hi hlf S
    obtain ⟨lf, rfl⟩ : ∃ m, lf = m + 1 := ⟨lf - 1, by omega⟩
    have c : i < ns.length := by omega
    have c2 : i < 16 := by omega
    rw [loop_succ, F26_b1, (hx.mem S.mem).lns, List.length_map, lssN, vb_b, ifB_dec, if_pos c, Int.ofNat_eq_natCast, lssN, vb_b, ifB_dec, if_pos c2]
    have r0 : (ns.map fun (k : Nat) => [V.i .u32 (k : Int)])[i]? = some [.i .u32 (ns[i] : Int)] := by simp [c]
    rw [(hx.mem S.mem).ld1 r0 .i64 (Keep.refl _), ixa_p _ _ _ _ _ _ _ c2]
    refine e_st S (.head _ _ _) rfl rfl (by rw [encW_len, rowK_len]; omega) fun H' S _ _ => ?_
    rw [show V.cells (.i .u32 (ns[i] : Int)) = [.i .u32 (ns[i] : Int)] from rfl, lay_one, Nat.zero_add, Nat.mul_one, encW_set, rowK_set c2 c] at S
    rw [Int.ofNat_eq_natCast, add64 _ _ (by omega)]
    exact ih (i + 1) lf H' L (by omega) (by omega) S
theorem row_ok (n : Nat) {ns : List Nat} {x : V} {h : Heap} (hx : SlAt h x 1 (ns.map fun (k : Nat) => [.i .u32 (k : Int)])) : Does (callG tab 10000 (n + 1) 26 [x] h) h fun u _ => u = .agg (encW (rowK (min ns.length 16) ns)) := by
  rw [callG_at tab26]
  refine RetsQ.does ?_
  show RetsQ (F26 (callG tab 10000 n) 10000 x h) h _
  unfold F26
  rw [zl55]
  refine e_al (Sx.start h) (encW_sc zeros) fun a H1 S _ _ _ => ?_
  refine e_al S (encW_sc zeros) fun b H2 S _ _ _ => ?_
  rw [← rowK_zero ns] at S
  have := row_loop (callG tab 10000 n) 10000 ns x h hx a b (min ns.length 16) 0 10000 H2 [] (by omega) (by omega) (by rw [rowK_zero] at S ⊢; exact S)
  exact this
/-! the document's regions -/
theorem of_loop' (cf : CallF) (lf0 : Nat) (ws : List Nat) (hw : ws.length = 16) (hb : ∀ k ∈ ws, k < 4294967296) (b : Nat) (h0 : Heap) :
    ∀ (d i lf : Nat) (v : V) (H : Heap) (L : List Res) (rows : List Rg), i + 2 * d = 16 → d < lf → rows.length * 2 = i → Sx h0 H h0.wl (.o v 4 (rows.map Rg.enc) :: .c b (encW ws) :: L) →
    RetsQ (loop 3 lf (F27_b1 cf lf0) (.p (some (b, 0))) v (.i .i64 (i : Int)) H) h0 fun u h' => Own h0 h' u 4 ((rows ++ rowsN (ws.drop i)).map Rg.enc) := by
  intro d
  induction d with
  | zero =>
    intro i lf v H L rows hi hlf hr S
    obtain ⟨lf, rfl⟩ : ∃ m, lf = m + 1 := ⟨lf - 1, by omega⟩
    rw [loop_succ, F27_b1, Int.ofNat_eq_natCast, lssN, vb_b, ifB_dec, if_neg (by omega)]
    refine e_rt S ?_
    rw [List.drop_of_length_le (by omega)]
    have o : Own h0 H v 4 (rows.map Rg.enc) := (S.own _ (.head _)).1
    simpa [rowsN] using o
  | succ d ih =>
    intro i lf v H L rows hi hlf hr S
    obtain ⟨lf, rfl⟩ : ∃ m, lf = m + 1 := ⟨lf - 1, by omega⟩
    have i0 : i < ws.length := by omega
    have i1 : i + 1 < ws.length := by omega
    have g0 : (encW ws)[0 + i * 1]? = some (.i .u32 (ws[i] : Int)) := by simp [encW, i0]
    have g1 : (encW ws)[0 + (i + 1) * 1]? = some (.i .u32 (ws[i + 1] : Int)) := by simp [encW, i1]
    have b0 := hb _ (List.getElem_mem i0)
    have b1 := hb _ (List.getElem_mem i1)
    have d0 := Nat.div_mul_le_self ws[i] 4
    have d1 := Nat.div_mul_le_self ws[i + 1] 4
    rw [loop_succ, F27_b1, Int.ofNat_eq_natCast, lssN, vb_b, ifB_dec, if_pos (by omega), ixa_p _ _ _ _ _ _ _ (show i < 16 by omega), ld_st S (.tail _ (.head _)) g0, Int.ofNat_eq_natCast, quo32 _ _ (by decide) b0, mul32 _ _ (by omega), Int.ofNat_eq_natCast, add64 _ _ (by omega),
      ixa_p _ _ _ _ _ _ _ (show i + 1 < 16 by omega), ld_st S (.tail _ (.head _)) g1, quo32 _ _ (by decide) b1, mul32 _ _ (by omega), add64 _ _ (by omega), ixa_p _ _ _ _ _ _ _ (show i + 1 < 16 by omega), ld_st S (.tail _ (.head _)) g1, Int.ofNat_eq_natCast, rem32 _ _ _ (by decide), eqlN,
      add64 _ _ (by omega), ixa_p _ _ _ _ _ _ _ (show i + 1 < 16 by omega), ld_st S (.tail _ (.head _)) g1, quo32 _ _ (by decide) b1, rem32 _ _ _ (by decide), eqlN, rg_build, o1_some, ← regN_eq b0 b1]
    have hdrop : rowsN (ws.drop i) = regN ws[i] ws[i + 1] :: rowsN (ws.drop (i + 2)) := by
      rw [List.drop_eq_getElem_cons i0, List.drop_eq_getElem_cons i1]; rfl
    have S0 := S
    refine e_bsl S.clr (rg_build1 _ _) (rows := [(regN ws[i] ws[i + 1]).enc]) (by simp [enc_len]) (by simp) rfl fun w H1 S _ n1 w1 => ?_
    have W1 : H1.wl = [] := w1
    refine e_dead S fun H2 S _ _ _ => ?_
    refine e_app rg_slTy S.clr (S.clr.sl (.head _)) (by simp [enc_len]) (fun r hr => by rw [List.mem_singleton.1 hr]; rfl) (by simp; omega) (by simp; omega) (fun v' => .tail _ (.head _ _ _)) fun v' H3 S n3 => ?_
    have G3 := S.ge
    refine e_dead S fun H4 S _ _ _ => ?_
    rw [fh_eq]
    have S := S.fin (w := H.wl) (W := wrR [⟨26, ⟨some (List.flatMap V.ids []), H1.wl.filter (fun x => Nat.blt x H.next), H.next, Nat.succ H1.next⟩, none, H, H2⟩,
      ⟨27, ⟨some (List.flatMap V.ids [v, w]), H3.wl.filter (fun x => Nat.blt x H2.next), H2.next, Nat.succ H3.next⟩, none, H2, H4⟩]) S0.wl (by
        intro q hq
        have hq : q ∈ H1.wl.filter (fun x => Nat.blt x H.next) ++ (H3.wl.filter (fun x => Nat.blt x H2.next) ++ []) := hq
        rw [W1] at hq
        simp only [List.filter_nil, List.nil_append, List.append_nil, List.mem_filter] at hq
        exact G3 q hq.1)
    rw [add64 _ _ (by omega)]
    have := ih (i + 2) lf v' _ L (rows ++ [regN ws[i] ws[i + 1]]) (by omega) (by omega) (by simp; omega) (by rw [List.map_append]; exact S.drop)
    rw [List.append_assoc, List.singleton_append, ← hdrop] at this
    exact this
theorem of_ok' (n : Nat) {ws : List Nat} (hw : ws.length = 16) (hb : ∀ k ∈ ws, k < 4294967296) (h : Heap) : Does (callG tab 10000 (n + 1) 27 [.agg (encW ws)] h) h fun u h' => Own h h' u 4 ((rowsN ws).map Rg.enc) := by
  rw [callG_at tab27]
  refine RetsQ.does ?_
  show RetsQ (F27 (callG tab 10000 n) 10000 (.agg (encW ws)) h) h _
  unfold F27
  simp only [V.cells]
  refine e_al (Sx.start h) (encW_sc ws) fun a H1 S _ _ _ => ?_
  have := of_loop' (callG tab 10000 n) 10000 ws hw hb a h 8 0 10000 (.sl none 0 0 true) H1 [] [] rfl (by omega) rfl (S.gain (Keep.refl _) (Own.nil _ _ _))
  rw [List.drop_zero, List.nil_append] at this
  exact this
/-! the document's leave -/
theorem one_ref (r : Rg) (a s : Nat) (how : Int) (hh : 0 ≤ how ∧ how ≤ 2) : oneR r a s how = (decide (r.lo ≤ a) && (decide (a + s ≤ r.hi) && ((decide (how ≠ 2) || r.x) && (decide (how ≠ 1) || r.w)))) := by
  unfold oneR mayR
  rcases (by omega : how = 0 ∨ how = 1 ∨ how = 2) with rfl | rfl | rfl <;> simp [Bool.and_comm, Bool.and_assoc, Bool.and_left_comm]
theorem allow_loop' (cf : CallF) (lf0 : Nat) (l : List Rg) (hl : l.length < 10000) (ho : ∀ r ∈ l, r.ok) (v : V) (a s : Nat) (ha : a < 4294967296) (hs : s < 4294967296) (how : Int) (hh : 0 ≤ how ∧ how ≤ 2) (h0 : Heap) (hv : SlAt h0 v 4 (l.map Rg.enc)) :
    ∀ (d i lf : Nat) (H : Heap) (L : List Res), i + d = l.length → d < lf → Sx h0 H h0.wl L →
    RetsQ (loop 5 lf (F29_b1 cf lf0) v (.i .u32 (a : Int)) (.i .u32 (s : Int)) (.i .i64 how) (.i .i64 (i : Int)) H) h0 fun u _ => u = .b (anyR (l.drop i) a s how) := by
  intro d
  induction d with
  | zero =>
    intro i lf H L hi hlf S
    obtain ⟨lf, rfl⟩ : ∃ m, lf = m + 1 := ⟨lf - 1, by omega⟩
    rw [loop_succ, F29_b1, (hv.mem S.mem).lns, List.length_map, lssN, vb_b, ifB_dec, if_neg (by omega), List.drop_of_length_le (by omega)]
    exact e_rt S rfl
  | succ d ih =>
    intro i lf H L hi hlf S
    obtain ⟨lf, rfl⟩ : ∃ m, lf = m + 1 := ⟨lf - 1, by omega⟩
    have hlt : i < l.length := by omega
    have hri : (l.map Rg.enc)[i]? = some l[i].enc := by simp [hlt]
    obtain ⟨ok1, ok2⟩ := ho _ (List.getElem_mem hlt)
    rw [loop_succ, F29_b1, (hv.mem S.mem).lns, List.length_map, lssN, vb_b, ifB_dec, if_pos hlt, (hv.mem S.mem).ldn hri .i64 (Keep.refl _), zl37]
    refine e_al S rfl fun c H1 S _ _ _ => ?_
    refine e_st S (.head _ _ _) (enc_sc l[i]) rfl (by decide) fun H2 S _ _ => ?_
    rw [show V.cells (.agg l[i].enc) = l[i].enc from rfl, lay_all [.i .u32 0, .i .u32 0, .b false, .b false] l[i].enc rfl] at S
    have nxt : RetsQ (loop 5 lf (F29_b1 cf lf0) v (.i .u32 (a : Int)) (.i .u32 (s : Int)) (.i .i64 how) (.i .i64 ((i + 1 : Nat) : Int)) H2) h0 fun u _ => u = .b (anyR (l.drop (i + 1)) a s how) := ih (i + 1) lf H2 _ (by omega) (by omega) S
    have drop : anyR (l.drop i) a s how = (oneR l[i] a s how || anyR (l.drop (i + 1)) a s how) := by
      rw [List.drop_eq_getElem_cons hlt]; rfl
    rw [drop, one_ref _ _ _ _ hh, fa_p, ld_st S (.head _) (show l[i].enc[0 + 0]? = some (.i .u32 (l[i].lo : Int)) from rfl), geqN, vb_b]
    by_cases c1 : l[i].lo ≤ a
    case neg =>
      rw [decide_eq_false c1, ifB_false, Bool.false_and, Bool.false_or, Int.ofNat_eq_natCast, add64 _ _ (by omega)]; exact nxt
    rw [decide_eq_true c1, ifB_true, Bool.true_and, cv64 _ (by omega), cv64 _ (by omega), add64 _ _ (by omega), fa_p, ld_st S (.head _) (show l[i].enc[0 + 1]? = some (.i .u32 (l[i].hi : Int)) from rfl), cv64 _ (by omega), leqN, vb_b]
    by_cases c2 : a + s ≤ l[i].hi
    case neg =>
      rw [decide_eq_false c2, ifB_false, Bool.false_and, Bool.false_or, Int.ofNat_eq_natCast, add64 _ _ (by omega)]; exact nxt
    rw [decide_eq_true c2, ifB_true, Bool.true_and, bi_i, ia_neq, vb_b]
    rcases (by omega : how = 0 ∨ how = 1 ∨ how = 2) with rfl | rfl | rfl
    · rw [show (!decide ((0 : Int) = Int.ofNat 2)) = true from rfl, ifB_true, bi_i, ia_neq, vb_b, show (!decide ((0 : Int) = Int.ofNat 1)) = true from rfl, ifB_true]
      exact e_rt S (by simp)
    · rw [show (!decide ((1 : Int) = Int.ofNat 2)) = true from rfl, ifB_true, bi_i, ia_neq, vb_b, show (!decide ((1 : Int) = Int.ofNat 1)) = false from rfl, ifB_false, fa_p, ld_st S (.head _) (show l[i].enc[0 + 3]? = some (.b l[i].w) from rfl), vb_b]
      cases hw : l[i].w with
      | true => rw [ifB_true]; exact e_rt S (by simp)
      | false => rw [ifB_false, Int.ofNat_eq_natCast, add64 _ _ (by omega)]; simpa using nxt
    · rw [show (!decide ((2 : Int) = Int.ofNat 2)) = false from rfl, ifB_false, fa_p, ld_st S (.head _) (show l[i].enc[0 + 2]? = some (.b l[i].x) from rfl), vb_b]
      cases hw : l[i].x with
      | true => rw [ifB_true, bi_i, ia_neq, vb_b, show (!decide ((2 : Int) = Int.ofNat 1)) = true from rfl, ifB_true]; exact e_rt S (by simp)
      | false => rw [ifB_false, Int.ofNat_eq_natCast, add64 _ _ (by omega)]; simpa using nxt
theorem any_far (l : List Rg) (a s : Nat) (how : Int) (h : ¬ (0 ≤ how ∧ how ≤ 2)) : anyR l a s how = false := by
  unfold anyR
  rw [List.any_eq_false]
  intro r _
  unfold oneR mayR
  rw [if_neg (by omega), if_neg (by omega), if_neg (by omega)]; simp
theorem allow_ok' (n : Nat) {l : List Rg} (hl : l.length < 10000) (ho : ∀ r ∈ l, r.ok) {v : V} {a s : Nat} (ha : a < 4294967296) (hs : s < 4294967296) (how : Int) {h : Heap} (hv : SlAt h v 4 (l.map Rg.enc)) :
    Does (callG tab 10000 (n + 1) 29 [v, .i .u32 (a : Int), .i .u32 (s : Int), .i .i64 how] h) h fun u _ => u = .b (allowR l a s how) := by
  rw [callG_at tab29]
  refine RetsQ.does ?_
  show RetsQ (F29 (callG tab 10000 n) 10000 v (.i .u32 (a : Int)) (.i .u32 (s : Int)) (.i .i64 how) h) h _
  unfold F29 allowR
  rw [jn_eq, Int.ofNat_eq_natCast, lssN, vb_b, ifB_dec]
  by_cases h1 : s < 1
  · rw [if_pos h1, if_pos h1]; exact RetsQ.rt (Keep.refl _) rfl
  rw [if_neg h1, if_neg h1, bi_i, ia_lss, vb_b, ifB_dec]
  by_cases h2 : how < Int.ofNat 0
  · rw [if_pos h2, any_far _ _ _ _ (fun h => by have : how < 0 := h2; omega)]; exact RetsQ.rt (Keep.refl _) rfl
  rw [if_neg h2, bi_i, ia_gtr, vb_b, ifB_dec]
  by_cases h3 : Int.ofNat 2 < how
  · rw [if_pos h3, any_far _ _ _ _ (fun h => by have : (2 : Int) < how := h3; omega)]; exact RetsQ.rt (Keep.refl _) rfl
  rw [if_neg h3]
  have hh : 0 ≤ how ∧ how ≤ 2 := ⟨Int.not_lt.1 h2, Int.not_lt.1 h3⟩
  unfold F29_j2
  exact allow_loop' _ _ l hl ho v a s ha hs how hh h hv l.length 0 10000 h [] (by omega) (by omega) (Sx.start h)
end R
end Go.Proofs.Try
