/-
  Values of the law, worked out. Conditions: none.
-/
import Derived.Test.YtfpcbdihdgolbaaGN
import Derived.Test.YtfpcbdihdgolbaaSym1
set_option linter.unusedVariables false
set_option linter.unusedSimpArgs false
namespace Go.Ab
open Go
theorem o2_congr {r : Option (V × Heap)} {K K' : Kt} (h : ∀ v h, K v h = K' v h) : o2 r K = o2 r K' := congrArg (o2 r) (funext fun v => funext fun x => h v x)
theorem o1_congr {r : Option V} {K K' : V → ROut} (h : ∀ v, K v = K' v) : o1 r K = o1 r K' := congrArg (o1 r) (funext h)
theorem al_congr {l : List V} {m : Heap} {K K' : Kt} (h : ∀ v x, K v x = K' v x) : al l m K = al l m K' := congrArg (al l m) (funext fun v => funext fun x => h v x)
theorem st_congr {sz : Nat} {a x : V} {m : Heap} {K K' : Heap → ROut} (h : ∀ m, K m = K' m) : st sz a x m K = st sz a x m K' := congrArg (st sz a x m) (funext h)
theorem bsl_len {P : Program} {t : TypeId} {len : Nat} {parts : List (Nat × V)} {h : Heap} {r : V × Heap} (e : buildSliceV P t len parts h = some r) : ∃ a, r.1 = .sl a len len true := by
  unfold buildSliceV at e
  split at e <;> try (cases e; done)
  split at e <;> try (cases e; done)
  split at e <;> try (cases e; done)
  split at e <;> try (cases e; done)
  obtain ⟨_, e2⟩ := okc_some e
  cases e2
  exact ⟨_, rfl⟩
theorem o2_bsl_congr {P : Program} {t : TypeId} {len : Nat} {parts : List (Nat × V)} {m : Heap} {K K' : Kt} (h : ∀ a x, K (.sl a len len true) x = K' (.sl a len len true) x) : o2 (buildSliceV P t len parts m) K = o2 (buildSliceV P t len parts m) K' := by
  cases e : buildSliceV P t len parts m with
  | none => rfl
  | some r =>
    obtain ⟨v, x⟩ := r
    obtain ⟨a, ha⟩ := bsl_len e
    simp only at ha
    subst ha
    rw [o2_some, o2_some, h]
theorem ia_rem (k : IntKind) (a b : Int) (K : V → ROut) (hb : b ≠ 0) : ia .rem k a b K = K (.i k (a.tmod b)) := by
  show o1 (okc (not (ieq b 0)) (some (.i k (a.tmod b)))) K = _
  rw [ieq_eq]
  have : (b == 0) = false := by simp [hb]
  rw [this]; exact o1_some _ _
theorem mod_nat (n m : Nat) : (n : Int).tmod (m : Int) = ((n % m : Nat) : Int) := by
  rw [Int.tmod_eq_emod_of_nonneg (by omega)]; rfl
theorem wrap64n {n : Nat} (h : n < 9223372036854775808) : wrapI .i64 (n : Int) = n := fits_wrap (by
  show Nat.blt n (hiN .i64) = true
  exact blt_true h)
end Go.Ab
namespace Go.Proofs.Try
open Go Go.Ab
namespace R
theorem nf_mod (cf : CallF) (lf : Nat) (n m : Nat) (hn : n < 256) (hm : m < 256) (e : n % 22 = m % 22) (h : Heap) : F6 cf lf (.i .u8 (n : Int)) h = F6 cf lf (.i .u8 (m : Int)) h := by
  unfold F6
  refine o2_congr fun v1 h2 => o1_congr fun v3 => o2_congr fun v4 h5 => o1_congr fun v6 => o2_congr fun v7 h8 => o1_congr fun v9 => al_congr fun v10 h11 => st_congr fun h12 => o2_bsl_congr fun a h14 => o2_congr fun v15 h16 => o2_congr fun v17 h18 => ?_
  have e1 : ((n : Int).tmod ((22 : Nat) : Int)) = (m : Int).tmod ((22 : Nat) : Int) := by rw [mod_nat, mod_nat, e]
  simp only [cv_i, wrap64n (show n < 9223372036854775808 by omega), wrap64n (show m < 9223372036854775808 by omega), lns_sl, bi_i, ia_rem .i64 _ ((22 : Nat) : Int) _ (by decide), e1]
end R
end Go.Proofs.Try
