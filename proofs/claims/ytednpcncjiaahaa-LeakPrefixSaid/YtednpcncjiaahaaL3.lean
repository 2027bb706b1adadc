/-
  The law LeakMade. Conditions: none.
-/
import Derived.Test.YtednpcncjiaahaaL2
set_option linter.unusedVariables false
set_option linter.unusedSimpArgs false
namespace Go.Ab
open Go
/-- as xor has it -/
def xorI (k : IntKind) (a b : Int) : Int := k.wrap (BitVec.ofInt k.bits a ^^^ BitVec.ofInt k.bits b).toNat
theorem xorI_self {k : IntKind} (hk : k = .u32 ∨ k = .i64) {a : Int} (ha : (Lit.int k a).wf = true) {b : Nat} (hb : b < 4294967296) : xorI k a (b : Int) = a ↔ b = 0 := by
  constructor
  · intro h
    have h1 := congrArg (BitVec.ofInt k.bits) h
    unfold xorI at h1
    rw [ofInt_wrap, BitVec.ofInt_natCast, BitVec.ofNat_toNat, BitVec.setWidth_eq, BitVec.ofInt_natCast] at h1
    have h2 : BitVec.ofNat k.bits b = 0 := by
      have := congrArg (fun z => BitVec.ofInt k.bits a ^^^ z) h1
      simpa [← BitVec.xor_assoc] using this
    have h3 := congrArg BitVec.toNat h2
    rcases hk with rfl | rfl <;> simp [IntKind.bits] at h3 <;> omega
  · rintro rfl
    unfold xorI
    have : BitVec.ofInt k.bits ((0 : Nat) : Int) = 0#k.bits := by simp
    rw [this, BitVec.xor_zero]
    rcases hk with rfl | rfl
    · simp [Lit.wf, IntKind.min, IntKind.max, IntKind.signed, IntKind.bits] at ha
      simp [IntKind.wrap, IntKind.bits, IntKind.signed, BitVec.toNat_ofInt]; omega
    · simp [Lit.wf, IntKind.min, IntKind.max, IntKind.signed, IntKind.bits] at ha
      simp [IntKind.wrap, IntKind.bits, IntKind.signed, BitVec.toNat_ofInt]; split <;> omega
end Go.Ab
namespace Go.Proofs.Try
open Go Go.Ab
namespace R
theorem enl (l : List Lk) : ∀ r ∈ l.map Lk.enc, r.length = 3 := fun r hr => by obtain ⟨q, _, rfl⟩ := List.mem_map.1 hr; rfl
theorem ens (l : List Lk) : ∀ r ∈ l.map Lk.enc, r.all V.sc = true := fun r hr => by obtain ⟨q, _, rfl⟩ := List.mem_map.1 hr; rfl
theorem made_j1 (n : Nat) {l m : List Lk} (hl : l.length ≤ 200) {k : Nat} (hk : k < l.length) (want : Int) (h1 : dif 0 l m = want) (h2 : dif 0 m l = want) (hm : m.length = l.length) {v w : V} {h0 h : Heap} (k0 : Keep h0 h) (hv : SlAt h0 v 3 (l.map Lk.enc)) (hx : Lit' v) (hw : SlAt h w 3 (m.map Lk.enc)) :
    RetsQ (F4_j1 (callG tab 10000 (n + 3)) 10000 v w (.i .i64 (k : Int)) (.i .i64 want) h) h0 fun u _ => u = .b true := by
  have dt := dif_take l 0 k hk
  rw [Nat.zero_add] at dt
  unfold F4_j1
  refine RetsQ.call k0 (differ_ok (n + 2) (by omega) (hv.keep k0) hw) fun v1 h1' k1 e => ?_
  subst e
  rw [bi_i, ia_eql, vb_b, ifB_dec, if_pos h1]
  have k1' := k0.trans k1
  refine RetsQ.call k1' (differ_ok (n + 2) (by omega) (hw.keep k1) (hv.keep k1')) fun v2 h2' k2 e => ?_
  subst e
  rw [bi_i, ia_eql, vb_b, ifB_dec, if_pos h2]
  have k2' := k1'.trans k2
  obtain ⟨v', e', hv', _⟩ := slice_hi underlying22 sz30 (hv.keep k2') hx (n := k) (by rw [List.length_map]; omega)
  rw [← List.map_take] at hv'
  rw [e', o2_some]
  refine RetsQ.call k2' (differ_ok (n + 2) (by omega) (hv.keep k2') hv') fun v3 h3 k3 e => ?_
  subst e
  rw [bi_i, ia_eql, vb_b, ifB_dec, if_pos dt.1]
  have k3' := k2'.trans k3
  obtain ⟨v', e', hv', _⟩ := slice_hi underlying22 sz30 (hv.keep k3') hx (n := k) (by rw [List.length_map]; omega)
  rw [← List.map_take] at hv'
  rw [e', o2_some]
  refine RetsQ.call k3' (differ_ok (n + 2) (by rw [List.length_take]; omega) hv' (hv.keep k3')) fun v4 h4 k4 e => ?_
  subst e
  rw [bi_i, ia_eql, vb_b, ifB_dec, if_pos dt.2]
  have k4' := k3'.trans k4
  refine RetsQ.call k4' (differ_ok (n + 2) (by omega) (hv.keep k4') (hv.keep k4')) fun v5 h5 k5 e => ?_
  subst e
  rw [bi_i, ia_eql, vb_b, ifB_dec, if_pos (show dif 0 l l = Int.negSucc 0 from dif_self l 0)]
  exact finL n (k4'.trans k5)
theorem made_j2 (n : Nat) {l : List Lk} (hl : l.length ≤ 200) {k : Nat} (hk : k < l.length) (y : Lk) (by_ : Nat) (hy : l[k] = y ↔ by_ = 0) {v w : V} {h0 h : Heap} (k0 : Keep h0 h) (hv : SlAt h0 v 3 (l.map Lk.enc)) (hx : Lit' v) (hw : SlAt h w 3 ((l.set k y).map Lk.enc)) :
    RetsQ (F4_j2 (callG tab 10000 (n + 3)) 10000 v (.i .u32 (by_ : Int)) w (.i .i64 (k : Int)) h) h0 fun u _ => u = .b true := by
  unfold F4_j2
  rw [jn_eq, Int.ofNat_eq_natCast, eqlN, vb_b, ifB_dec]
  by_cases e : by_ = 0
  · rw [if_pos e]
    have hs : l.set k y = l := by rw [← hy.2 e]; exact List.set_getElem_self hk
    rw [hs] at hw
    exact made_j1 n hl hk (Int.negSucc 0) (dif_self l 0) (dif_self l 0) rfl k0 hv hx hw
  · rw [if_neg e]
    have ds := dif_set l 0 k y hk (fun h => e (hy.1 h))
    rw [Nat.zero_add] at ds
    exact made_j1 n hl hk (k : Int) ds.1 ds.2 (by simp) k0 hv hx hw
theorem leakMade_ok (n : Nat) {l : List Lk} (ho : ∀ r ∈ l, r.ok) {at_ by_ which : Nat} (h1 : at_ < 256) (h2 : by_ < 4294967296) {v : V} {h : Heap} (hv : SlAt h v 3 (l.map Lk.enc)) (hx : Lit' v) :
    Does (callG tab 10000 (n + 4) 4 [v, .i .u8 (at_ : Int), .i .u32 (by_ : Int), .i .u8 (which : Int)] h) h fun u _ => u = .b true := by
  rw [callG_at tab4]
  refine RetsQ.does ?_
  show RetsQ (F4 (callG tab 10000 (n + 3)) 10000 v (.i .u8 (at_ : Int)) (.i .u32 (by_ : Int)) (.i .u8 (which : Int)) h) h _
  unfold F4
  have fin := finL n (Keep.refl h)
  rw [jn_eq, hv.lns, List.length_map, Int.ofNat_eq_natCast, eqlN, vb_b, ifB_dec]
  by_cases c1 : l.length = 0
  · rw [if_pos c1]; exact fin
  rw [if_neg c1, hv.lns, List.length_map, Int.ofNat_eq_natCast, gtrN, vb_b, ifB_dec]
  by_cases c2 : 200 < l.length
  · rw [if_pos c2]; exact fin
  rw [if_neg c2]
  unfold F4_j3
  have kr := Keep.refl h
  rw [leak_s0, o2_pair]
  obtain ⟨w, h3, e3, k3, o3⟩ := append_own leak_slTy (s0 kr) (hv.keep (kr.newSl [] 3 0)) (enl l) (ens l) (by simp; omega) (by simp; omega) (kr.newSl [] 3 0)
  rw [e3, o2_some, cv64 _ (by omega), hv.lns, List.length_map, rem32 _ _ _ c1, jn_eq, Int.ofNat_eq_natCast, rem32 _ _ _ (by decide), Int.ofNat_eq_natCast, eqlN, vb_b, ifB_dec]
  have hk : at_ % l.length < l.length := Nat.mod_lt _ (by omega)
  generalize at_ % l.length = k at *
  rw [List.nil_append] at o3
  have hi : (l.map Lk.enc)[k]? = some l[k].enc := by simp [hk]
  have hok := ho _ (List.getElem_mem hk)
  have upd : ∀ (f : Nat) (u : V) (y : Lk), f < 3 → u.sc = true → u.cells = [u] → l[k].enc.set f u = y.enc → (l[k] = y ↔ by_ = 0) →
      ∃ h', (∀ (K : Heap → ROut), (ix 3 w (.i .i64 (k : Int)) fun p => fa f p fun p => st 1 p u h3 K) = K h') ∧ RetsQ (F4_j2 (callG tab 10000 (n + 3)) 10000 v (.i .u32 (by_ : Int)) w (.i .i64 (k : Int)) h') h fun u _ => u = .b true := by
    intro f u y hf hu hc he hy
    obtain ⟨h', k4, o4, e4⟩ := o3.put k3 hi (f := f) (u := u) hf hu hc
    refine ⟨h', fun K => e4 .i64 K, ?_⟩
    rw [he, ← List.map_set] at o4
    exact made_j2 n (by omega) hk y by_ hy k4 hv hx o4.sl
  by_cases w0 : which % 3 = 0
  · rw [if_pos w0, o3.fld hi (show l[k].enc[0]? = some (.i .u32 l[k].a) from rfl), bi_i, ia_xor]
    obtain ⟨h', e4, r⟩ := upd 0 (.i .u32 (xorI .u32 l[k].a (by_ : Int))) ⟨xorI .u32 l[k].a (by_ : Int), l[k].b, l[k].c⟩ (by omega) rfl rfl rfl (by
      rw [Lk.ext']; simp only [and_true]
      exact Iff.trans eq_comm (xorI_self (.inl rfl) hok.1 h2))
    exact (e4 _).symm ▸ r
  rw [if_neg w0, Int.ofNat_eq_natCast, eqlN, vb_b, ifB_dec]
  by_cases w1 : which % 3 = 1
  · rw [if_pos w1, o3.fld hi (show l[k].enc[1]? = some (.i .u32 l[k].b) from rfl), bi_i, ia_xor]
    obtain ⟨h', e4, r⟩ := upd 1 (.i .u32 (xorI .u32 l[k].b (by_ : Int))) ⟨l[k].a, xorI .u32 l[k].b (by_ : Int), l[k].c⟩ (by omega) rfl rfl rfl (by
      rw [Lk.ext']; simp only [and_true, true_and]
      exact Iff.trans eq_comm (xorI_self (.inl rfl) hok.2.1 h2))
    exact (e4 _).symm ▸ r
  · rw [if_neg w1, o3.fld hi (show l[k].enc[2]? = some (.i .i64 l[k].c) from rfl), cv64 _ (by omega), bi_i, ia_xor]
    obtain ⟨h', e4, r⟩ := upd 2 (.i .i64 (xorI .i64 l[k].c (by_ : Int))) ⟨l[k].a, l[k].b, xorI .i64 l[k].c (by_ : Int)⟩ (by omega) rfl rfl rfl (by
      rw [Lk.ext']; simp only [true_and]
      exact Iff.trans eq_comm (xorI_self (.inr rfl) hok.2.2 h2))
    exact (e4 _).symm ▸ r
end R
end Go.Proofs.Try
