/-
  The law LeakLow. Conditions: none.
-/
import Derived.Test.YtednpcncjiaahaaL7
import Derived.Test.YtednpcncjiaahaaL5
import Derived.Test.YtednpcncjiaahaaRow4
set_option linter.unusedVariables false
set_option linter.unusedSimpArgs false
namespace Go.Ab
open Go
theorem SlAt.cells {H : Heap} {v : V} {es : Nat} {rows : List (List V)} (s : SlAt H v es rows) : v.cells = [v] ∧ v.sc = true := by
  rcases s with ⟨rfl, _⟩ | ⟨b, o, cap, x, rfl, _⟩ <;> exact ⟨rfl, rfl⟩
end Go.Ab
namespace Go.Proofs.Try
open Go Go.Ab
namespace R
theorem leakLow_ok (n : Nat) {l : List SB} {sec : List Bool} {bs : List Bx} {q : Int} {tv bv kv w : V} (h1 : tv.sc = true) (h2 : bv.sc = true) (h3 : kv.sc = true) {h : Heap} (ht : SlAt h tv 1 (encS l)) (hbx : SlAt h bv 5 (encX bs)) (hw : SlAt h w 1 (encB sec)) :
    Does (callG tab 10000 (n + 7) 8 [.agg (manV q tv bv kv), w] h) h fun u _ => u = .b true := by
  have hs : (manV q tv bv kv).all V.sc = true := by simp only [manV, List.all_cons, List.all_nil, h1, h2, h3, Bool.and_true]; rfl
  rw [callG_at tab8]
  refine RetsQ.does ?_
  show RetsQ (F8 (callG tab 10000 (n + 6)) 10000 (.agg (manV q tv bv kv)) w h) h _
  unfold F8
  rw [show V.cells (.agg (manV q tv bv kv)) = manV q tv bv kv from rfl]
  refine e_al (Sx.start h) hs fun a H S _ _ _ => ?_
  rw [jn_eq, fa_p, ld_st S (.head _) (show (manV q tv bv kv)[0 + 2]? = some bv from rfl), (hbx.mem S.mem).lns, show (encX bs).length = bs.length by simp [encX], Int.ofNat_eq_natCast, gtrN, vb_b, ifB_dec]
  have fin : RetsQ (cl (callG tab 10000 (n + 6) 12 [] H) fun v9 h10 => rt v9 h10) h fun u _ => u = .b true := finL (n + 3) S.keep
  by_cases c1 : 60 < bs.length
  · rw [if_pos c1]; exact fin
  rw [if_neg c1, fa_p, ld_st S (.head _) (show (manV q tv bv kv)[0 + 1]? = some tv from rfl), (ht.mem S.mem).lns, show (encS l).length = l.length by simp [encS], gtrN, vb_b, ifB_dec]
  by_cases c2 : 60 < l.length
  · rw [if_pos c2]; exact fin
  rw [if_neg c2]
  unfold F8_j1
  have S2 := S
  have la : a < H.next := S.lt (.head _) rfl
  have cl' := hw.cells
  rw [ldw_st S (n := 4) (.head _) rfl]
  refine e_cln S.clr (low_ok n (by omega) (by omega) h1 h2 h3 cl'.1 cl'.2 (ht.mem S.clr.mem) (hbx.mem S.clr.mem) (hw.mem S.clr.mem)) fun u H3 S e k3 => ?_
  subst e
  have q3 := k3.fresh rfl
  refine e_dead S fun H4 S _ _ _ => ?_
  rw [ldw_st S (n := 4) (.head _) rfl]
  refine e_cln S.clr (low_ok' (n + 3) (by omega) (by omega) h1 h2 h3 (ht.mem S.clr.mem) (hbx.mem S.clr.mem) (hw.mem S.clr.mem)) fun u H5 S e k5 => ?_
  subst e
  have q5 := k5.fresh rfl
  refine e_dead S fun H6 S _ _ _ => ?_
  have bb : ∀ (x y : Bool) (K : V → ROut), bn prog .eql 4 (.b x) (.b y) K = K (.b (x == y)) := fun x y K => by cases x <;> cases y <;> kernel_rfl
  rw [bb, beq_self_eq_true, vb_b, ifB_true]
  refine e_cln S.clr (awakeL_ok (n + 3) _) fun u H7 S e k7 => ?_
  subst e
  have q7 := k7.fresh rfl
  refine e_dead S fun H8 S _ _ _ => ?_
  rw [pc_free (by exact q3) rfl (acc_none rfl rfl) (acc_one (x := a) rfl (by exact q3) (.inl la)), ifB_true, fh_eq]
  have S := S.fin (w := H.wl) (W := wrR [⟨2, ⟨none, H3.wl.filter (fun x => Nat.blt x H.next), H.next, Nat.succ H3.next⟩, none, H, H4⟩, ⟨3, ⟨some (V.ids (.p (some (a, 0)))), [], H4.next, H4.next⟩, some (46, .p (some (a, 0)), .agg (manV q tv bv kv)), H4, H4⟩,
    ⟨5, ⟨none, H5.wl.filter (fun x => Nat.blt x H4.next), H4.next, Nat.succ H5.next⟩, none, H4, H6⟩, ⟨8, ⟨none, H7.wl.filter (fun x => Nat.blt x H6.next), H6.next, Nat.succ H7.next⟩, none, H6, H8⟩]) S2.wl (by
      intro p hp
      have hp : p ∈ H3.wl.filter (fun x => Nat.blt x H.next) ++ ([] ++ (H5.wl.filter (fun x => Nat.blt x H4.next) ++ (H7.wl.filter (fun x => Nat.blt x H6.next) ++ []))) := hp
      rw [show H3.wl.filter (fun x => Nat.blt x H.next) = [] from q3, show H5.wl.filter (fun x => Nat.blt x H4.next) = [] from q5, show H7.wl.filter (fun x => Nat.blt x H6.next) = [] from q7] at hp
      simp at hp)
  exact e_rt S rfl
theorem open_box {h : Heap} : ∀ {n : Nat} {r : List V}, Ty prog h n 52 r → ∃ b : Bx, True ∧ r = b.enc
  | 0, r, t => absurd t ty_zero
  | 1, r, t => absurd ((ty_struct underlying52 t).2 _ (List.mem_cons_self ..)) ty_zero
  | n + 2, r, t => by
    obtain ⟨hl, hf⟩ := ty_struct underlying52 t
    rw [show prog.cellsOf 52 = 5 by kernel_rfl] at hl
    match r, hl with
    | [a, b, c, d, e], _ =>
      simp only [List.forall_mem_cons] at hf
      have h1 := hf.1
      have h2 := hf.2.1
      have h3 := hf.2.2.1
      have h4 := hf.2.2.2.1
      have h5 := hf.2.2.2.2.1
      rw [show prog.cellsOf 9 = 1 by kernel_rfl] at h1 h2 h3
      rw [show prog.cellsOf 3 = 1 by kernel_rfl] at h4
      rw [show prog.cellsOf 4 = 1 by kernel_rfl] at h5
      obtain ⟨x1, h1, _⟩ := ty_string underlying9 h1
      obtain ⟨x2, h2, _⟩ := ty_string underlying9 h2
      obtain ⟨x3, h3, _⟩ := ty_string underlying9 h3
      obtain ⟨x4, h4, _⟩ := ty_int underlying3 h4
      obtain ⟨x5, h5⟩ := ty_bool underlying4 h5
      simp at h1 h2 h3 h4 h5
      exact ⟨⟨_, _, _, x4, x5⟩, trivial, by rw [h1, h2, h3, h4, h5]; rfl⟩
theorem open_str {h : Heap} : ∀ {n : Nat} {r : List V}, Ty prog h n 9 r → ∃ s : SB, True ∧ r = [.s s]
  | 0, r, t => absurd t ty_zero
  | n + 1, r, t => by
    obtain ⟨s, rfl, _⟩ := ty_string underlying9 t
    exact ⟨_, trivial, rfl⟩
theorem open_bl {h : Heap} : ∀ {n : Nat} {r : List V}, Ty prog h n 4 r → ∃ s : Bool, True ∧ r = [.b s]
  | 0, r, t => absurd t ty_zero
  | n + 1, r, t => by
    obtain ⟨b, rfl⟩ := ty_bool underlying4 t
    exact ⟨b, trivial, rfl⟩
/-- a manifest of a row -/
theorem open_man {W : World} {r : Reach} {b0 : Nat} {cs : List Value} {fuel : Nat} (hl : cs.length = prog.cellsOf 46) (ty : Ty prog (heapW W) fuel 46 (cs.map (abs0 W))) (hc : ∀ (i : Nat) (c : Value) (u : TypeId), cs[i]? = some c → ([3, 42, 43, 44] : List TypeId)[i]? = some u → Cell.okWide prog W r b0 u c) :
    ∃ q tv bv kv l bs, cs.map (abs0 W) = manV q tv bv kv ∧ tv.sc = true ∧ bv.sc = true ∧ kv.sc = true ∧ SlAt (heapW W) tv 1 (encS l) ∧ SlAt (heapW W) bv 5 (encX bs) := by
  rw [show prog.cellsOf 46 = 4 by kernel_rfl] at hl
  match cs, hl with
  | [a, b, c, d], _ =>
    match fuel, ty with
    | 0, ty => exact absurd ty ty_zero
    | 1, ty => exact absurd ((ty_struct underlying46 ty).2 _ (List.mem_cons_self ..)) ty_zero
    | fuel + 2, ty =>
      obtain ⟨_, hf⟩ := ty_struct underlying46 ty
      simp only [List.forall_mem_cons] at hf
      have h1 := hf.1
      have h2 := hf.2.1
      have h3 := hf.2.2.1
      rw [show prog.cellsOf 3 = 1 by kernel_rfl] at h1
      rw [show prog.cellsOf 42 = 1 by kernel_rfl] at h2
      rw [show prog.cellsOf 43 = 1 by kernel_rfl] at h3
      obtain ⟨n2, s2⟩ := cell_slice underlying42 (hc 1 b 42 rfl rfl)
      obtain ⟨n3, s3⟩ := cell_slice underlying43 (hc 2 c 43 rfl rfl)
      obtain ⟨n4, s4⟩ := cell_slice underlying44 (hc 3 d 44 rfl rfl)
      obtain ⟨q, h1, _⟩ := ty_int underlying3 h1
      obtain ⟨r2, a2, _, t2⟩ := ty_slice underlying42 (by decide +kernel) n2 h2
      obtain ⟨r3, a3, _, t3⟩ := ty_slice underlying43 (by decide +kernel) n3 h3
      rw [show prog.cellsOf 9 = 1 by kernel_rfl] at a2
      rw [show prog.cellsOf 52 = 5 by kernel_rfl] at a3
      obtain ⟨l, _, rfl⟩ := open_all (fun r t => open_str t) t2
      obtain ⟨bs, _, rfl⟩ := open_all (fun r t => open_box t) t3
      simp at h1
      exact ⟨q, _, _, _, l, bs, by rw [manV, ← h1]; rfl, s2, s3, s4, a2, a3⟩
end R
end Go.Proofs.Try
