/-
  The law GuardBack. Conditions: none.
-/
import Derived.Test.YtednpcncjiaahaaP3
import Derived.Test.YtednpcncjiaahaaP6
import Derived.Test.YtednpcncjiaahaaSym5
set_option linter.unusedVariables false
set_option linter.unusedSimpArgs false
namespace Go.Ab
open Go
theorem quo32 (a b : Nat) (hb : b ≠ 0) (ha : a < 4294967296) (K : V → ROut) : bi .quo (.i .u32 (a : Int)) (.i .u32 (b : Int)) K = K (.i .u32 ((a / b : Nat) : Int)) := by
  rw [bi_i, ia_eq']
  show o1 (okc (not (ieq (b : Int) 0)) (some (.i .u32 (wrapI .u32 ((a : Int).tdiv (b : Int)))))) K = _
  rw [okc_true (by rw [ieq_eq]; simp; omega), o1_some]
  have e : (a : Int).tdiv (b : Int) = ((a / b : Nat) : Int) := rfl
  have := Nat.div_le_self a b
  rw [e]
  congr 2
  exact fits_wrap (by show Nat.blt (a / b) (hiN .u32) = true; exact blt_true (show a / b < 4294967296 by omega))
theorem Sx.sl {h0 H : Heap} {c : List Nat} {L : List Res} (S : Sx h0 H c L) {v : V} {es : Nat} {rows : List (List V)} (hm : .o v es rows ∈ L) : SlAt H v es rows := (S.own _ hm).1.sl
/-- what a call has made of its own is the caller's own -/
theorem Sx.gain {h0 H H' : Heap} {c : List Nat} {L : List Res} (S : Sx h0 H c L) (k : Keep H H') {v : V} {es : Nat} {rows : List (List V)} (o : Own H H' v es rows) : Sx h0 H' c (.o v es rows :: L) := by
  have S' := S.keep' k
  have hn := S.mem.next
  have o' : Own h0 H' v es rows := by
    rcases o with o | ⟨a, ex, n, tr, q1, q2, q3⟩
    · exact .inl o
    · exact .inr ⟨a, ex, n, tr, q1, Nat.le_trans hn q2, q3⟩
  exact S.new S'.mem S'.wl (fun a ha => k.old a ha) ⟨o', fun a ha => by rw [addr_o] at ha; exact o'.ge ha⟩ (fun a ha => by rw [addr_o] at ha; exact o.ge ha)
end Go.Ab
namespace Go.Proofs.Try
open Go Go.Ab
namespace R
theorem tab24 : tab 24 = some (wrapF 2 F24) := by kernel_rfl
theorem tab28 : tab 28 = some (wrapF 1 F28) := by kernel_rfl
theorem tab11 : tab 11 = some (wrapF 1 F11) := by kernel_rfl
theorem Rg.ext' (x y : Rg) : x = y ↔ x.lo = y.lo ∧ x.hi = y.hi ∧ x.x = y.x ∧ x.w = y.w := by cases x; cases y; simp
instance : DecidableEq Rg := fun x y => decidable_of_iff _ (Rg.ext' x y).symm
theorem eqV_bool (d : Nat) (x y : Bool) : eqV prog (d + 1) 4 (.b x) (.b y) = some (x == y) := by
  rw [eqV_succ]; unfold eqBy; rw [underlying4]
theorem eq37 (x y : Rg) : eqV prog 10000 37 (.agg x.enc) (.agg y.enc) = some (decide (x = y)) := by
  rw [show (10000 : Nat) = 9998 + 1 + 1 from rfl, eqV_succ]; unfold eqBy; rw [underlying37]; simp only
  rw [okc_true (by kernel_rfl)]
  have p0 : ∀ x : Rg, partV prog 28 x.enc 0 = some (.i .u32 (x.lo : Int)) := fun x => by kernel_rfl
  have p1 : ∀ x : Rg, partV prog 28 x.enc 1 = some (.i .u32 (x.hi : Int)) := fun x => by kernel_rfl
  have p2 : ∀ x : Rg, partV prog 4 x.enc 2 = some (.b x.x) := fun x => by kernel_rfl
  have p3 : ∀ x : Rg, partV prog 4 x.enc 3 = some (.b x.w) := fun x => by kernel_rfl
  simp only [eqFs, p0, p1, p2, p3, eqV_int underlying28, eqV_bool, Rg.ext' x y]
  have c1 : ((x.lo : Int) = (y.lo : Int)) ↔ x.lo = y.lo := by omega
  have c2 : ((x.hi : Int) = (y.hi : Int)) ↔ x.hi = y.hi := by omega
  simp only [c1, c2]
  by_cases h1 : x.lo = y.lo <;> by_cases h2 : x.hi = y.hi <;> cases hx : x.x <;> cases hy : y.x <;> cases hw : x.w <;> cases hv : y.w <;> simp [h1, h2]
theorem neq37 (x y : Rg) (K : V → ROut) : bn prog .neq 37 (.agg x.enc) (.agg y.enc) K = K (.b (!decide (x = y))) := by
  show o1 (okc (not (prog.eqGuardType prog.depth 37)) ((eqV prog 10000 37 (.agg x.enc) (.agg y.enc)).map fun r => .b (not r))) K = _
  rw [okc_true (by kernel_rfl), eq37, Option.map_some, o1_some]
theorem all_stepR {l m : List Rg} (hl : l.length = m.length) {i : Nat} (h1 : i < l.length) : decide (l.drop i = m.drop i) = (decide (l[i] = m[i]'(hl ▸ h1)) && decide (l.drop (i + 1) = m.drop (i + 1))) := by
  rw [List.drop_eq_getElem_cons h1, List.drop_eq_getElem_cons (show i < m.length by omega), Bool.eq_iff_iff]
  simp only [decide_eq_true_eq, Bool.and_eq_true, List.cons.injEq]
theorem same_loop (cf : CallF) (lf0 : Nat) (l m : List Rg) (hl : l.length < 9223372036854775807) (hm : l.length = m.length) (v w : V) (h0 : Heap) (hv : SlAt h0 v 4 (l.map Rg.enc)) (hw : SlAt h0 w 4 (m.map Rg.enc)) :
    ∀ (d i lf : Nat), i + d = l.length → d < lf →
    RetsQ (loop 3 lf (F24_b1 cf lf0) v w (.i .i64 (i : Int)) h0) h0 fun u _ => u = .b (decide (l.drop i = m.drop i)) := by
  intro d
  induction d with
  | zero =>
    intro i lf hi hlf
    obtain ⟨lf, rfl⟩ : ∃ m, lf = m + 1 := ⟨lf - 1, by omega⟩
    rw [loop_succ, F24_b1, hv.lns, List.length_map, lssN, vb_b, ifB_dec, if_neg (by omega), List.drop_of_length_le (by omega), List.drop_of_length_le (by omega)]
    exact RetsQ.rt (Keep.refl _) rfl
  | succ d ih =>
    intro i lf hi hlf
    obtain ⟨lf, rfl⟩ : ∃ m, lf = m + 1 := ⟨lf - 1, by omega⟩
    have h1 : i < l.length := by omega
    have h2 : i < m.length := by omega
    rw [loop_succ, F24_b1, hv.lns, List.length_map, lssN, vb_b, ifB_dec, if_pos h1]
    rw [hv.ldn (show (l.map Rg.enc)[i]? = some l[i].enc by simp [h1]) .i64 (Keep.refl _), hw.ldn (show (m.map Rg.enc)[i]? = some m[i].enc by simp [h2]) .i64 (Keep.refl _), neq37, vb_b, all_stepR hm h1]
    by_cases e : l[i] = m[i]
    · rw [decide_eq_true e, Int.ofNat_eq_natCast]
      simp only [Bool.not_true, ifB_false, Bool.true_and]
      rw [add64 _ _ (by omega)]
      exact ih (i + 1) lf (by omega) (by omega)
    · rw [decide_eq_false e]
      exact RetsQ.rt (Keep.refl _) rfl
theorem same_ok (n : Nat) {l m : List Rg} (hl : l.length < 10000) {v w : V} {h : Heap} (hv : SlAt h v 4 (l.map Rg.enc)) (hw : SlAt h w 4 (m.map Rg.enc)) : Does (callG tab 10000 (n + 1) 24 [v, w] h) h fun u _ => u = .b (decide (l = m)) := by
  rw [callG_at tab24]
  refine RetsQ.does ?_
  show RetsQ (F24 (callG tab 10000 n) 10000 v w h) h _
  unfold F24
  rw [hv.lns, hw.lns, List.length_map, List.length_map, neqN, vb_b]
  by_cases e : l.length = m.length
  · rw [decide_eq_true e]
    simp only [Bool.not_true, ifB_false]
    exact same_loop _ _ l m (by omega) e v w h hv hw l.length 0 10000 (by omega) (by omega)
  · rw [decide_eq_false e, decide_eq_false (fun h => e (by rw [h]))]; exact RetsQ.rt (Keep.refl _) rfl
theorem err_ok (n : Nat) (v : V) (h : Heap) : Does (callG tab 10000 (n + 1) 28 [v] h) h fun u _ => u = v := by
  rw [callG_at tab28]
  exact RetsQ.does (RetsQ.rt (Keep.refl h) rfl)
/-! plain: there and back -/
theorem reg_fit (r : Rg) (ho : r.ok) (hf : r.fit) : regN r.lo (highN r) = r := by
  have h1 := ho.1
  have h2 := ho.2
  have f1 := hf.1
  have f2 := hf.2
  have hh : highN r < 4294967296 := by unfold highN; split <;> split <;> omega
  have hx : highN r % 2 = if r.x then 1 else 0 := by unfold highN; split <;> split <;> omega
  have hw : highN r / 2 % 2 = if r.w then 1 else 0 := by unfold highN; split <;> split <;> omega
  have hq : highN r / 4 * 4 = r.hi := by unfold highN; split <;> split <;> omega
  have hl : r.lo / 4 * 4 = r.lo := by omega
  unfold regN
  rw [Rg.ext']
  refine ⟨?_, ?_, ?_, ?_⟩
  · show (BitVec.ofNat 32 r.lo &&& ~~~ BitVec.ofNat 32 3).toNat = _; rw [ofNat_not3 _ h1, hl]
  · show (BitVec.ofNat 32 (highN r) &&& ~~~ BitVec.ofNat 32 3).toNat = _; rw [ofNat_not3 _ hh, hq]
  · show (!decide (((BitVec.ofNat 32 (highN r) &&& BitVec.ofNat 32 1).toNat : Int) = ((0 : Nat) : Int))) = r.x
    rw [ofNat_and1 _ hh, hx]; cases r.x <;> rfl
  · show (!decide (((BitVec.ofNat 32 (highN r) &&& BitVec.ofNat 32 2).toNat : Int) = ((0 : Nat) : Int))) = r.w
    rw [ofNat_and2 _ hh, hw]; cases r.w <;> rfl
theorem put_rows : ∀ (l : List Rg) (i : Nat) (p : List Nat) (k : Nat), p.length = 2 * i → 2 * l.length ≤ k → putAll i l (p ++ List.replicate k 0) = p ++ (l.flatMap fun r => [r.lo, highN r]) ++ List.replicate (k - 2 * l.length) 0
  | [], i, p, k, _, _ => by simp [putAll]
  | r :: l, i, p, k, hp, hk => by
    obtain ⟨k, rfl⟩ : ∃ q, k = q + 2 := ⟨k - 2, by simp at hk; omega⟩
    have e : ((p ++ List.replicate (k + 2) 0).set (2 * i) r.lo).set (2 * i + 1) (highN r) = (p ++ [r.lo, highN r]) ++ List.replicate k 0 := by
      rw [List.set_append_right _ _ (by omega), List.set_append_right _ _ (by omega), hp]
      simp [List.replicate_succ]
    rw [putAll, e, put_rows l (i + 1) _ k (by simp; omega) (by simp at hk; omega)]
    simp [List.append_assoc]; omega
theorem rows_flat : ∀ (l : List Rg) (t : List Nat), (∀ r ∈ l, r.ok) → (∀ r ∈ l, r.fit) → rowsN ((l.flatMap fun r => [r.lo, highN r]) ++ t) = l ++ rowsN t
  | [], t, _, _ => rfl
  | r :: l, t, ho, hf => by
    show regN r.lo (highN r) :: rowsN ((l.flatMap fun r => [r.lo, highN r]) ++ t) = _
    rw [reg_fit r (ho r (List.mem_cons_self ..)) (hf r (List.mem_cons_self ..)), rows_flat l t (fun q hq => ho q (List.mem_cons_of_mem _ hq)) (fun q hq => hf q (List.mem_cons_of_mem _ hq))]; rfl
def Rg.nul : Rg := ⟨0, 0, false, false⟩
theorem rows_zero : ∀ (k : Nat), rowsN (List.replicate (2 * k) 0) = List.replicate k Rg.nul
  | 0 => rfl
  | k + 1 => by
    rw [show 2 * (k + 1) = 2 * k + 1 + 1 by omega, List.replicate_succ, List.replicate_succ, List.replicate_succ]
    show regN 0 0 :: rowsN (List.replicate (2 * k) 0) = _
    rw [rows_zero k]; rfl
theorem rows_put {l : List Rg} (hl : l.length ≤ 8) (ho : ∀ r ∈ l, r.ok) (hf : ∀ r ∈ l, r.fit) : rowsN (putN l).1 = l ++ List.replicate (8 - l.length) Rg.nul ∧ (putN l).2 = 0 := by
  unfold putN
  rw [if_neg (by omega), if_pos hf]
  refine ⟨?_, rfl⟩
  have := put_rows l 0 [] 16 rfl (by omega)
  show rowsN (putAll 0 l (List.replicate 16 0)) = _
  rw [List.nil_append, List.nil_append] at this
  rw [this, rows_flat l _ ho hf, show 16 - 2 * l.length = 2 * (8 - l.length) by omega, rows_zero]
end R
end Go.Proofs.Try
