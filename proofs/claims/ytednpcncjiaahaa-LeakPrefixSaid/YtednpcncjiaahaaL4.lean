/-
  The law LeakPrefix. Conditions: none.
-/
import Derived.Test.YtednpcncjiaahaaL3
set_option linter.unusedVariables false
set_option linter.unusedSimpArgs false
namespace Go.Proofs.Try
open Go Go.Ab
namespace R
theorem evl (l : List Lk) : ∀ r ∈ l.map Lk.ev, r.length = 3 := fun r hr => by obtain ⟨q, _, rfl⟩ := List.mem_map.1 hr; rfl
theorem evs (l : List Lk) : ∀ r ∈ l.map Lk.ev, r.all V.sc = true := fun r hr => by obtain ⟨q, _, rfl⟩ := List.mem_map.1 hr; rfl
theorem next_ne {c : Int} (h : (Go.Lit.int .u32 c).wf = true) : c ≠ wrapI .u32 (c + 1) := by
  rw [wrapI_eq]
  simp [Lit.wf, IntKind.min, IntKind.max, IntKind.signed, IntKind.bits] at h
  simp [IntKind.wrap, IntKind.bits, IntKind.signed]; omega
theorem prefix_j1 (n : Nat) {l : List Lk} (ho : ∀ r ∈ l, r.ok2) (hl : l.length ≤ 200) {k at_ : Nat} (hk : k ≤ l.length) (h1 : at_ < 256) {v : V} {h0 h : Heap} (k0 : Keep h0 h) (hv : SlAt h0 v 3 (l.map Lk.ev)) (hx : Lit' v) :
    RetsQ (F5_j1 (callG tab 10000 (n + 3)) 10000 v (.i .u8 (at_ : Int)) (.i .i64 (k : Int)) h) h0 fun u _ => u = .b true := by
  unfold F5_j1
  rw [Int.ofNat_eq_natCast, eqlN, vb_b, ifB_dec]
  by_cases c : k = 0
  · rw [if_pos c]; exact finL n k0
  rw [if_neg c, ev_s0, o2_pair]
  have k1 := k0.newSl [] 3 0
  obtain ⟨v', e', hv', _⟩ := slice_hi underlying23 sz33 (hv.keep k1) hx (n := k) (by rw [List.length_map]; exact hk)
  rw [← List.map_take] at hv'
  rw [e', o2_some]
  obtain ⟨w, h3, e3, k3, o3⟩ := append_own ev_slTy (s0 k0) hv' (evl _) (evs _) (by simp; omega) (by simp; omega) k1
  rw [e3, o2_some, cv64 _ (by omega), rem32 _ _ _ c]
  have hj : at_ % k < k := Nat.mod_lt _ (by omega)
  generalize at_ % k = j at *
  have hj' : j < l.length := by omega
  rw [List.nil_append] at o3
  have hi : ((l.take k).map Lk.ev)[j]? = some l[j].ev := by rw [List.getElem?_map, List.getElem?_take, if_pos hj, List.getElem?_eq_getElem hj']; rfl
  have hok := (ho _ (List.getElem_mem hj')).2.2
  rw [o3.fld hi (show l[j].ev[2]? = some (.i .u32 l[j].c) from rfl), bi_i, ia_add]
  obtain ⟨h4, k4, o4, e4⟩ := o3.put k3 hi (f := 2) (u := .i .u32 (wrapI .u32 (l[j].c + Int.ofNat 1))) (by show 2 < 3; omega) rfl rfl
  rw [show l[j].ev.set 2 (.i .u32 (wrapI .u32 (l[j].c + Int.ofNat 1))) = Lk.ev ⟨l[j].a, l[j].b, wrapI .u32 (l[j].c + Int.ofNat 1)⟩ from rfl, ← List.map_set] at o4
  refine (e4 .i64 _).symm ▸ ?_
  have hp := pre_set l k j ⟨l[j].a, l[j].b, wrapI .u32 (l[j].c + Int.ofNat 1)⟩ hk hj (fun h => next_ne hok (congrArg Lk.c h))
  refine RetsQ.call k4 (prefix_ok (n + 1) (by rw [List.length_set, List.length_take]; omega) o4.sl (hv.keep k4) hx) fun v5 h5 k5 e => ?_
  subst e
  rw [hp, un_not, vb_b, Bool.not_false, ifB_true]
  exact finL n (k4.trans k5)
theorem leakPrefix_ok (n : Nat) {l : List Lk} (ho : ∀ r ∈ l, r.ok2) {cut at_ : Nat} {x : Int} (h1 : cut < 256) (h2 : at_ < 256) {v : V} {h : Heap} (hv : SlAt h v 3 (l.map Lk.ev)) (hx : Lit' v) :
    Does (callG tab 10000 (n + 4) 5 [v, .i .u8 (cut : Int), .i .u8 (at_ : Int), .i .u32 x] h) h fun u _ => u = .b true := by
  rw [callG_at tab5]
  refine RetsQ.does ?_
  show RetsQ (F5 (callG tab 10000 (n + 3)) 10000 v (.i .u8 (cut : Int)) (.i .u8 (at_ : Int)) (.i .u32 x) h) h _
  unfold F5
  rw [hv.lns, List.length_map, Int.ofNat_eq_natCast, gtrN, vb_b, ifB_dec]
  by_cases c2 : 200 < l.length
  · rw [if_pos c2]; exact finL n (Keep.refl h)
  rw [if_neg c2, cv64 _ (by omega), hv.lns, List.length_map, Int.ofNat_eq_natCast, add64 _ _ (by omega), rem32 _ _ _ (by omega), jn_eq]
  have hk : cut % (l.length + 1) < l.length + 1 := Nat.mod_lt _ (by omega)
  generalize cut % (l.length + 1) = k at *
  obtain ⟨v', e', hv', _⟩ := slice_hi underlying23 sz33 hv hx (n := k) (by rw [List.length_map]; omega)
  rw [← List.map_take] at hv'
  rw [e', o2_some]
  refine RetsQ.call (Keep.refl h) (prefix_ok (n + 1) (by rw [List.length_take]; omega) hv' hv hx) fun v1 k1 kk1 e => ?_
  subst e
  rw [pre_take l k (by omega), un_not, vb_b, Bool.not_true, ifB_false, ev_s0, o2_pair]
  have k2 := kk1.newSl [] 3 0
  obtain ⟨w, h3, e3, k3, o3⟩ := append_own ev_slTy (s0 kk1) (hv.keep k2) (evl _) (evs _) (by simp; omega) (by simp; omega) k2
  rw [e3, o2_some, ev_b, o1_some, ev_s1, o2_pair]
  have k4 := k3.newSl (Lk.ev ⟨0, 0, x⟩) 3 1
  obtain ⟨w', h5, e5, k5, o5⟩ := append_own ev_slTy (o3.keep (Keep.new h3 _)) (s1_ev k3 ⟨0, 0, x⟩).sl (by simp [Lk.ev]) (fun r hr => by rw [List.mem_singleton.1 hr]; rfl) (by simp; omega) (by simp; omega) k4
  rw [show appendV prog 23 23 w (newSl (Lk.ev ⟨0, 0, x⟩) 3 1 h3).1 (newSl (Lk.ev ⟨0, 0, x⟩) 3 1 h3).2 = some (w', h5) from e5, o2_some]
  have s5 := o5.sl
  rw [List.nil_append, show l.map Lk.ev ++ [Lk.ev ⟨0, 0, x⟩] = (l ++ [(⟨0, 0, x⟩ : Lk)]).map Lk.ev by simp] at s5
  refine RetsQ.call k5 (prefix_ok (n + 1) (by simp; omega) s5 (hv.keep k5) hx) fun v6 h6 k6 e => ?_
  subst e
  rw [pre_more, vb_b, ifB_false]
  exact prefix_j1 n ho (by omega) (by omega) h2 (k5.trans k6) hv hx
end R
end Go.Proofs.Try
