/-
  guard.may and the loop of guard.Allow. Conditions: none.
-/
import Derived.Test.YtednpcncjiaahaaSym3
import Derived.Test.YtednpcncjiaahaaGA
set_option linter.unusedVariables false
set_option linter.unusedSimpArgs false
namespace Go.Proofs.Try
open Go Go.Ab
namespace R
structure Rg where
  lo : Nat
  hi : Nat
  x : Bool
  w : Bool
def Rg.enc (r : Rg) : List V := [.i .u32 (r.lo : Int), .i .u32 (r.hi : Int), .b r.x, .b r.w]
def Rg.ok (r : Rg) : Prop := r.lo < 4294967296 ∧ r.hi < 4294967296
def mayR (r : Rg) (how : Int) : Bool := if how = 0 then true else if how = 1 then r.w else if how = 2 then r.x else false
def oneR (r : Rg) (at_ size : Nat) (how : Int) : Bool := mayR r how && decide (r.lo ≤ at_) && decide (at_ + size ≤ r.hi)
def anyR (l : List Rg) (at_ size : Nat) (how : Int) : Bool := l.any fun r => oneR r at_ size how
theorem may_spec (cf : CallF) (lf : Nat) (r : Rg) (how : Int) (h : Heap) : Rets (F32 cf lf (.agg r.enc) (.i .i64 how) h) (.b (mayR r how)) h := by
  unfold F32
  simp only [V.cells]
  rw [al_all (by rfl)]
  simp only [bi_i, ia_eql, vb_b, ifB_dec, fa_p]
  unfold mayR
  have k := Keep.new h (.cells r.enc.length 1 (wr .e 0 r.enc) true)
  have e0 : (Int.ofNat 0) = 0 := rfl
  have e1 : (Int.ofNat 1) = 1 := rfl
  have e2 : (Int.ofNat 2) = 2 := rfl
  rw [e0, e1, e2]
  refine Rets.of k ?_
  by_cases h0 : how = 0
  · rw [if_pos h0, if_pos h0]; exact Rets.rt (Keep.refl _)
  · rw [if_neg h0, if_neg h0]
    by_cases h1 : how = 1
    · rw [if_pos h1, if_pos h1, ld_p (Heap.get_new h _) (by simp [Rg.enc]) (by rfl)]; exact Rets.rt (Keep.refl _)
    · rw [if_neg h1, if_neg h1]
      by_cases h2 : how = 2
      · rw [if_pos h2, if_pos h2, ld_p (Heap.get_new h _) (by simp [Rg.enc]) (by rfl)]; exact Rets.rt (Keep.refl _)
      · rw [if_neg h2, if_neg h2]; exact Rets.rt (Keep.refl _)
theorem zl37 : zl prog 37 = [.i .u32 0, .i .u32 0, .b false, .b false] := by kernel_rfl
theorem allow_loop (cf : CallF) (lf0 : Nat) (hm : ∀ (r : Rg) (how : Int), Gives cf 32 [.agg r.enc, .i .i64 how] (.b (mayR r how))) (l : List Rg) (hl : l.length ≤ 140737488355328) (ho : ∀ r ∈ l, r.ok) (v : V) (a s : Nat) (ha : a < 4294967296) (hs : s < 4294967296) (how : Int) :
    ∀ (d i lf : Nat) (h : Heap), i + d = l.length → d < lf → SlAt h v 4 (l.map Rg.enc) →
    Rets (loop 6 lf (F17_b1 cf lf0) (.i .u32 (a : Int)) (.i .i64 how) (.i .u64 ((a + s : Nat) : Int)) v (.i .i64 (l.length : Int)) (.i .i64 (i : Int)) h) (.b (anyR (l.drop i) a s how)) h := by
  intro d
  induction d with
  | zero =>
    intro i lf h hi hlf hsl
    obtain ⟨lf, rfl⟩ : ∃ m, lf = m + 1 := ⟨lf - 1, by omega⟩
    rw [loop_succ, F17_b1]
    simp only [bi_i, ia_lss, vb_b, ifB_dec]
    rw [if_neg (by omega)]
    refine Rets.eq ?_ (Keep.refl _)
    rw [List.drop_of_length_le (by omega)]; rfl
  | succ d ih =>
    intro i lf h hi hlf hsl
    obtain ⟨lf, rfl⟩ : ∃ m, lf = m + 1 := ⟨lf - 1, by omega⟩
    rw [loop_succ, F17_b1]
    have hlt : i < l.length := by omega
    simp only [bi_i, ia_lss, vb_b, ifB_dec]
    rw [if_pos (by omega)]
    have hri : (l.map Rg.enc)[i]? = some l[i].enc := by simp [hlt]
    have hok : l[i].ok := ho _ (List.getElem_mem hlt)
    obtain ⟨hok1, hok2⟩ := hok
    rw [hsl.ldn hri .i64 (Keep.refl _), zl37, al_all (by rfl)]
    have k1 := Keep.new h (.cells 4 1 (wr .e 0 [.i .u32 0, .i .u32 0, .b false, .b false]) true)
    rw [st_p (Heap.get_new h _) (by rfl) (by rfl) (by simp)]
    have k2 := k1.upd (Nat.le_refl h.next) (.cells 4 1 (wr (wr .e 0 [.i .u32 0, .i .u32 0, .b false, .b false]) 0 l[i].enc) true)
    have g2 : (Heap.upd (h.new (.cells 4 1 (wr .e 0 [.i .u32 0, .i .u32 0, .b false, .b false]) true)) h.next (.cells 4 1 (wr (wr .e 0 [.i .u32 0, .i .u32 0, .b false, .b false]) 0 l[i].enc) true)).get h.next = some (.cells 4 1 (wr (wr .e 0 [.i .u32 0, .i .u32 0, .b false, .b false]) 0 l[i].enc) true) := Heap.get_upd _ _ _ (Nat.lt_succ_self _)
    refine Rets.of k2 ?_
    generalize hh2 : (Heap.upd (h.new (.cells 4 1 (wr .e 0 [.i .u32 0, .i .u32 0, .b false, .b false]) true)) h.next (.cells 4 1 (wr (wr .e 0 [.i .u32 0, .i .u32 0, .b false, .b false]) 0 l[i].enc) true)) = h2 at k2 g2
    have e2 : Heap.upd (h.new (.cells (List.length [V.i .u32 0, .i .u32 0, .b false, .b false]) 1 (wr .e 0 [.i .u32 0, .i .u32 0, .b false, .b false]) true)) h.next (.cells (List.length [V.i .u32 0, .i .u32 0, .b false, .b false]) 1 (wr (wr .e 0 [.i .u32 0, .i .u32 0, .b false, .b false]) 0 (V.cells (.agg l[i].enc))) true) = h2 := hh2
    rw [e2, ldn_p g2 (Nat.le_refl 4) (by rfl)]
    refine Rets.call (hm l[i] how) fun h3 k3 => ?_
    have g3 := k3.get g2
    have nxt : Rets (loop 6 lf (F17_b1 cf lf0) (.i .u32 (a : Int)) (.i .i64 how) (.i .u64 ((a + s : Nat) : Int)) v (.i .i64 (l.length : Int)) (.i .i64 ((i + 1 : Nat) : Int)) h3) (.b (anyR (l.drop (i + 1)) a s how)) h3 := ih (i + 1) lf h3 (by omega) (by omega) (hsl.keep (k2.trans k3))
    have drop : anyR (l.drop i) a s how = (oneR l[i] a s how || anyR (l.drop (i + 1)) a s how) := by
      rw [List.drop_eq_getElem_cons hlt]; rfl
    have w1 : wrapI .i64 ((i : Int) + Int.ofNat 1) = ((i + 1 : Nat) : Int) := by
      have : (i : Int) + Int.ofNat 1 = ((i + 1 : Nat) : Int) := by simp
      rw [this, wrap64n (by omega)]
    simp only [fa_p, vb_b]
    rw [ifB_ite]
    by_cases hmay : mayR l[i] how = true
    · rw [if_pos hmay, ld_p g3 (by simp) (show _ = some (V.i .u32 (l[i].lo : Int)) from rfl)]
      simp only [bi_i, ia_geq, vb_b, ifB_dec]
      by_cases hlo : l[i].lo ≤ a
      · rw [if_pos (by omega), ld_p g3 (by simp) (show _ = some (V.i .u32 (l[i].hi : Int)) from rfl)]
        simp only [cv_i, bi_i, ia_leq, vb_b, ifB_dec]
        rw [wrapU64 (by omega)]
        by_cases hhi : a + s ≤ l[i].hi
        · rw [if_pos (by omega)]
          refine Rets.eq ?_ (Keep.refl _)
          rw [drop]; simp [oneR, hmay, hlo, hhi]
        · rw [if_neg (by omega)]
          simp only [ia_add, w1]
          rw [drop]; simp only [oneR, hmay, hlo, hhi, decide_false, Bool.and_false, Bool.false_or]
          exact nxt
      · rw [if_neg (by omega)]
        simp only [ia_add, w1]
        rw [drop]; simp only [oneR, hlo, decide_false, Bool.and_false, Bool.false_and, Bool.false_or]
        exact nxt
    · rw [if_neg hmay]
      simp only [bi_i, ia_add, w1]
      have hmay : mayR l[i] how = false := by simpa using hmay
      rw [drop]; simp only [oneR, hmay, Bool.false_and, Bool.false_or]
      exact nxt
end R
end Go.Proofs.Try
