/-
  guard.Allow, guard.Of, the document's example. Conditions: none.
-/
import Derived.Test.YtednpcncjiaahaaP1
set_option linter.unusedVariables false
set_option linter.unusedSimpArgs false
namespace Go.Proofs.Try
open Go Go.Ab
namespace R
def allowR (l : List Rg) (a s : Nat) (how : Int) : Bool := if s < 1 then false else anyR l a s how
def AllowOk (cf : CallF) : Prop := ∀ (l : List Rg) (v : V) (h : Heap) (a s : Nat) (how : Int), l.length < 10000 → (∀ r ∈ l, r.ok) → a < 4294967296 → s < 4294967296 → SlAt h v 4 (l.map Rg.enc) →
  Does (cf 17 [v, .i .u32 (a : Int), .i .u32 (s : Int), .i .i64 how] h) h fun u _ => u = .b (allowR l a s how)
theorem tab17 : tab 17 = some (wrapF 4 F17) := by kernel_rfl
theorem tab32 : tab 32 = some (wrapF 2 F32) := by kernel_rfl
theorem tab18 : tab 18 = some (wrapF 0 F18) := by kernel_rfl
theorem tab25 : tab 25 = some (wrapF 1 F25) := by kernel_rfl
theorem tab7 : tab 7 = some (wrapF 5 F7) := by kernel_rfl
theorem tab6 : tab 6 = some (wrapF 6 F6) := by kernel_rfl
theorem may_ok (n : Nat) (r : Rg) (how : Int) : Gives (callG tab 10000 (n + 1)) 32 [.agg r.enc, .i .i64 how] (.b (mayR r how)) := by
  intro h
  rw [callG_at tab32]
  obtain ⟨h', k, e⟩ := may_spec (callG tab 10000 n) 10000 r how h
  refine ⟨h', k, ?_⟩
  rw [show wrapF 2 F32 (callG tab 10000 n) 10000 [.agg r.enc, .i .i64 how] h = F32 (callG tab 10000 n) 10000 (.agg r.enc) (.i .i64 how) h from rfl, e]; rfl
theorem allow_ok (n : Nat) : AllowOk (callG tab 10000 (n + 2)) := by
  intro l v h a s how hl ho ha hs hv
  rw [callG_at tab17]
  refine RetsQ.does (RetsQ.ofRets ?_)
  show Rets (F17 (callG tab 10000 (n + 1)) 10000 v (.i .u32 (a : Int)) (.i .u32 (s : Int)) (.i .i64 how) h) _ h
  unfold F17
  simp only [bi_i, ia_lss, vb_b, ifB_dec, Int.ofNat_eq_natCast]
  unfold allowR
  by_cases h1 : s < 1
  · rw [if_pos (by omega), if_pos h1]; exact Rets.rt (Keep.refl _)
  · rw [if_neg (by omega), if_neg h1]
    simp only [cv_i, bi_i, ia_add]
    rw [wrapU64 (by omega), wrapU64 (by omega), show (a : Int) + (s : Int) = ((a + s : Nat) : Int) from by simp, wrapU64 (by omega), hv.lns, List.length_map]
    exact allow_loop _ _ (may_ok n) l (by omega) ho v a s ha hs how l.length 0 10000 h (by omega) hl hv
noncomputable def encW (ws : List Nat) : List V := ws.map fun (w : Nat) => .i .u32 (w : Int)
def regN (x y : Nat) : Rg := ⟨(BitVec.ofNat 32 x &&& ~~~ BitVec.ofNat 32 3).toNat, (BitVec.ofNat 32 y &&& ~~~ BitVec.ofNat 32 3).toNat, !decide (((BitVec.ofNat 32 y &&& BitVec.ofNat 32 1).toNat : Int) = (0 : Nat)), !decide (((BitVec.ofNat 32 y &&& BitVec.ofNat 32 2).toNat : Int) = (0 : Nat))⟩
def rowsN : List Nat → List Rg
  | x :: y :: t => regN x y :: rowsN t
  | _ => []
theorem rg_build (a b : Nat) (x w : Bool) : buildV prog 37 [(0, .i .u32 (a : Int)), (1, .i .u32 (b : Int)), (2, .b x), (3, .b w)] = some (.agg (Rg.enc ⟨a, b, x, w⟩)) := by kernel_rfl
theorem rg_build1 (r : Rg) (h : Heap) : buildSliceV prog 38 1 [(0, .agg r.enc)] h = some (newSl r.enc 4 1 h) := by kernel_rfl
theorem rg_build0 (h : Heap) : buildSliceV prog 38 0 [] h = some (newSl [] 4 0 h) := by kernel_rfl
theorem rg_build2 (r s : Rg) (h : Heap) : buildSliceV prog 38 2 [(0, .agg r.enc), (1, .agg s.enc)] h = some (newSl (r.enc ++ s.enc) 4 2 h) := by kernel_rfl
theorem rg_slTy : slTy prog 38 4 12 = true := by kernel_rfl
theorem enc_len (r : Rg) : r.enc.length = 4 := rfl
theorem enc_sc (r : Rg) : r.enc.all V.sc = true := rfl
theorem _root_.Go.Ab.Own.weak {h0 h1 h : Heap} {v : V} {es : Nat} {rows : List (List V)} (o : Own h1 h v es rows) (k : h0.next ≤ h1.next) : Own h0 h v es rows := by
  rcases o with o | ⟨a, ex, n, tr, q1, q2, q3⟩
  · exact .inl o
  · exact .inr ⟨a, ex, n, tr, q1, Nat.le_trans k q2, q3⟩
theorem of_loop (cf : CallF) (lf0 : Nat) (ws : List Nat) (hw : ws.length = 16) (b : Nat) (h0 : Heap) (e : Nat) (hb0 : h0.get b = some (.cells 16 e (wr .e 0 (encW ws)) true)) :
    ∀ (d i lf : Nat) (v : V) (h : Heap) (rows : List Rg), i + 2 * d = 16 → d < lf → rows.length * 2 = i → Keep h0 h → Own h0 h v 4 (rows.map Rg.enc) →
    RetsQ (loop 3 lf (F25_b1 cf lf0) (.p (some (b, 0))) v (.i .i64 (i : Int)) h) h0 fun u h' => Own h0 h' u 4 ((rows ++ rowsN (ws.drop i)).map Rg.enc) := by
  intro d
  induction d with
  | zero =>
    intro i lf v h rows hi hlf hr k ho
    obtain ⟨lf, rfl⟩ : ∃ m, lf = m + 1 := ⟨lf - 1, by omega⟩
    rw [loop_succ, F25_b1]
    simp only [bi_i, ia_lss, vb_b, ifB_dec, Int.ofNat_eq_natCast]
    rw [if_neg (by omega)]
    refine RetsQ.rt k ?_
    rw [List.drop_of_length_le (by omega)]
    simpa [rowsN] using ho
  | succ d ih =>
    intro i lf v h rows hi hlf hr k ho
    obtain ⟨lf, rfl⟩ : ∃ m, lf = m + 1 := ⟨lf - 1, by omega⟩
    rw [loop_succ, F25_b1]
    simp only [bi_i, ia_lss, vb_b, ifB_dec, Int.ofNat_eq_natCast]
    rw [if_pos (by omega), ixa_p _ _ _ _ _ _ _ (show i < 16 by omega)]
    have hb := k.get hb0
    have hg : ∀ j (hj : j < ws.length), (wr .e 0 (encW ws)).get (0 + j * 1) = some (V.i .u32 (ws[j] : Int)) := by
      intro j hj
      rw [wr_get, if_pos (by simp [encW]; omega)]
      simp [encW, hj]
    rw [ld_p hb (by omega) (hg i (by omega))]
    simp only [ia_add]
    rw [show ((i : Int) + ((1 : Nat) : Int)) = ((i + 1 : Nat) : Int) by simp, wrap64n (by omega), ixa_p _ _ _ _ _ _ _ (show i + 1 < 16 by omega), ld_p hb (by omega) (hg (i + 1) (by omega))]
    simp only [bi_i, ia_andNot32, ia_and32, ia_neq]
    have hdrop : rowsN (ws.drop i) = regN ws[i] ws[i + 1] :: rowsN (ws.drop (i + 2)) := by
      rw [List.drop_eq_getElem_cons (show i < ws.length by omega), List.drop_eq_getElem_cons (show i + 1 < ws.length by omega)]; rfl
    rw [rg_build, o1_some]
    show RetsQ (o2 (buildSliceV prog 38 1 [(0, .agg (regN ws[i] ws[i + 1]).enc)] h) _) h0 _
    rw [rg_build1, o2_pair]
    have k1 : Keep h0 (newSl (regN ws[i] ws[i + 1]).enc 4 1 h).2 := k.newSl _ _ _
    have o1' := Own.made (h0 := h0) k (rows := [(regN ws[i] ws[i + 1]).enc]) (es := 4) (by simp [enc_len]) (l := (regN ws[i] ws[i + 1]).enc) (by simp) (len := 1) rfl
    have hlen : rows.length ≤ 8 := by omega
    obtain ⟨v', h', ea, k2, o2'⟩ := append_own rg_slTy (ho.keep (Keep.new h _)) o1'.sl (by simp [enc_len]) (fun r hr => by rw [List.mem_singleton.1 hr]; rfl) (by simp; omega) (by simp; omega) k1
    rw [show appendV prog 38 38 v (newSl (regN ws[i] ws[i + 1]).enc 4 1 h).1 (newSl (regN ws[i] ws[i + 1]).enc 4 1 h).2 = some (v', h') from ea, o2_some, show ((i : Int) + ((2 : Nat) : Int)) = ((i + 2 : Nat) : Int) by simp, wrap64n (by omega)]
    have := ih (i + 2) lf v' h' (rows ++ [regN ws[i] ws[i + 1]]) (by omega) (by omega) (by simp; omega) k2 (by simpa using o2')
    rw [List.append_assoc, List.singleton_append, ← hdrop] at this
    exact this
def OfOk (cf : CallF) : Prop := ∀ (ws : List Nat) (h : Heap), ws.length = 16 → Does (cf 25 [.agg (encW ws)] h) h fun u h' => Own h h' u 4 ((rowsN ws).map Rg.enc)
theorem encW_sc (ws : List Nat) : (encW ws).all V.sc = true := by simp [encW, V.sc]
theorem of_ok (n : Nat) : OfOk (callG tab 10000 (n + 1)) := by
  intro ws h hw
  rw [callG_at tab25]
  refine RetsQ.does ?_
  show RetsQ (F25 (callG tab 10000 n) 10000 (.agg (encW ws)) h) h _
  unfold F25
  simp only [V.cells]
  rw [al_all (encW_sc ws)]
  refine RetsQ.of (Keep.new h (.cells (encW ws).length 1 (wr .e 0 (encW ws)) true)) ?_
  have hl : (encW ws).length = 16 := by simp [encW, hw]
  have := of_loop (callG tab 10000 n) 10000 ws hw h.next (h.new (.cells (encW ws).length 1 (wr .e 0 (encW ws)) true)) 1 (by rw [Heap.get_new, hl]) 8 0 10000 (.sl none 0 0 true) _ [] (by omega) (by omega) rfl (Keep.refl _) (Own.nil _ _ _)
  rw [List.drop_zero, List.nil_append] at this
  obtain ⟨v, h', k, e, q⟩ := this
  exact ⟨v, h', k, e, q.weak (Nat.le_succ _)⟩
theorem rg_zero : zl prog 55 = encW (List.replicate 16 0) := by kernel_rfl
theorem rg_buildw : buildV prog 55 [] = some (.agg (encW (List.replicate 16 0))) := by kernel_rfl
theorem rg_build8 : buildV prog 37 [(1, .i .u32 (.ofNat 8))] = some (.agg (Rg.enc ⟨0, 8, false, false⟩)) := by kernel_rfl
def AwakeOk (cf : CallF) : Prop := ∀ h, Does (cf 18 [] h) h fun u _ => u = .b true
theorem awake_ok (n : Nat) : AwakeOk (callG tab 10000 (n + 3)) := by
  intro h
  rw [callG_at tab18]
  refine RetsQ.does ?_
  show RetsQ (F18 (callG tab 10000 (n + 2)) 10000 h) h _
  unfold F18
  refine RetsQ.call (Keep.refl _) (allow_ok n [] _ h 0 1 0 (by decide) (by simp) (by omega) (by omega) (.inl ⟨rfl, rfl⟩)) fun v h1 k1 e1 => ?_
  subst e1
  simp only [un_not, vb_b]
  rw [show (!allowR [] 0 1 0) = true from rfl, ifB_true, rg_build8, o1_some]
  rw [rg_build1, o2_pair]
  have k2 : Keep h (newSl (Rg.enc ⟨0, 8, false, false⟩) 4 1 h1).2 := k1.newSl _ _ _
  have s2 := Own.made (h0 := h) k1 (rows := [Rg.enc ⟨0, 8, false, false⟩]) (es := 4) (by simp [enc_len]) (l := Rg.enc ⟨0, 8, false, false⟩) (by simp) (len := 1) rfl
  refine RetsQ.call k2 (allow_ok n [⟨0, 8, false, false⟩] _ _ 4 4 0 (by decide) (by simp [Rg.ok]) (by omega) (by omega) s2.sl) fun v h3 k3 e3 => ?_
  subst e3
  simp only [vb_b]
  rw [show allowR [⟨0, 8, false, false⟩] 4 4 0 = true from rfl, ifB_true, rg_buildw, o1_some]
  refine RetsQ.call (k2.trans k3) (of_ok (n + 1) (List.replicate 16 0) h3 rfl) fun v h4 k4 e4 => ?_
  rw [e4.sl.lns]
  simp only [bi_i, ia_eql]
  exact RetsQ.rt ((k2.trans k3).trans k4) rfl
end R
end Go.Proofs.Try
