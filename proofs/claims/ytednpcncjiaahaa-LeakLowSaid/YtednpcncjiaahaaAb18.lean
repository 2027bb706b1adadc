/-
  An abstract interpreter of the model's code, part 18: rows of operations in whatever order: one operation more, and all. Conditions: none.
-/
import Derived.Test.YtednpcncjiaahaaAb17
set_option linter.unusedVariables false
set_option linter.unusedSimpArgs false
namespace Go.Ab
open Go

theorem HR.sub {φ : Map} {g g' : Nat → Option Blk} {w : World} (h : HR φ g w) (s : ∀ x B, g' x = some B → g x = some B) : HR φ g' w where
  blk := fun a B pl hg hp => h.blk a B pl (s a B hg) hp
  inj := fun a a' B B' pl pl' hne h1 h2 h3 h4 h5 h6 => h.inj a a' B B' pl pl' hne (s a B h1) (s a' B' h2) h3 h4 h5 h6

theorem RV.p_inv {φ : Map} {b off : Nat} {v' : Value} (h : RV φ (.p (some (b, off))) v') : ∃ pl, φ b = some pl ∧ v' = .pointer (some ⟨pl.b, pl.base + off, none⟩) := by
  cases h with
  | p _ _ pl hp => exact ⟨pl, hp, rfl⟩
theorem loadV_congr {P : Program} {ty : TypeId} {b off : Nat} {h h' : Heap} (e : h.get b = h'.get b) : loadV P ty (.p (some (b, off))) h = loadV P ty (.p (some (b, off))) h' := by
  unfold loadV
  simp only [e]
theorem loadV_ptr {P : Program} {ty : TypeId} {p : V} {h : Heap} {u : V} (e : loadV P ty p h = some u) : ∃ b off, p = .p (some (b, off)) := by
  unfold loadV at e
  split at e
  · exact ⟨_, _, rfl⟩
  · cases e
theorem greatest {p : Nat → Prop} : ∀ {n : Nat}, (∃ i, i < n ∧ p i) → ∃ i, i < n ∧ p i ∧ ∀ j, i < j → j < n → ¬ p j
  | 0, h => by obtain ⟨i, hi, _⟩ := h; omega
  | n + 1, h => by
    by_cases hn : p n
    · exact ⟨n, by omega, hn, fun j h1 h2 => by omega⟩
    · obtain ⟨i, hi, hp⟩ := h
      have hne : i ≠ n := fun e => by subst e; exact hn hp
      obtain ⟨i0, a1, a2, a3⟩ := greatest (n := n) ⟨i, by omega, hp⟩
      refine ⟨i0, by omega, a2, fun j h1 h2 hpj => ?_⟩
      by_cases hj : j = n
      · subst hj; exact hn hpj
      · exact a3 j h1 (by omega) hpj

section
variable {P : Program} {callF : CallF} {ng nt : Nat} {ops : Array Oper} {T : Nat → PT V} {H : Nat → Heap} {I : Nat → Inf} {B : Nat → Nat → Prop}
variable {D : List Deferred} {φ0 : Map} {w0 : World} {L : Array Bool} {a : Act} {w : World} {φ : Map}

/-- operands that an operation looks at -/
theorem Inv.opnd (v : Inv ops nt ng T H I D φ0 w0 L a w φ) (d : DT P callF ng nt ops T H I B) {k : Nat} {o : Oper} (ho : ops[k]? = some o) (hk : L.getD k false = false) (hr : ∀ e ∈ o.after, Region.binds .any e = true → L.getD e.on false = true)
    {x : Operand} (hxx : x ∈ o.op.operands) : RV φ (ev ng (T k) x) (a.eval x) := by
  cases x with
  | tmp q =>
    show RV φ (((T k).get q).getD .und) (a.tmps.getD q undef)
    cases hq : (T k).get q with
    | none => exact .und _
    | some r =>
      refine v.look d ho hk hr ?_ hq
      exact List.mem_append_left _ (List.mem_filterMap.2 ⟨.tmp q, by simpa using hxx, rfl⟩)
  | const c => exact RV.ofC φ c
  | global q =>
    show RV φ (cond (Nat.blt q ng) (.p (some (q, 0))) .und) (.pointer (some ⟨q, 0, none⟩))
    cases hq : Nat.blt q ng with
    | false => exact .und _
    | true =>
      obtain ⟨pl, h1, h2, h3⟩ := v.glob q (Nat.le_of_ble_eq_true hq)
      have := RV.p (φ := φ) q 0 pl h1
      rw [h2, h3] at this
      exact this
  | func f => exact RV.f_mk (RVs.nil φ) (RVs.nil φ)

/-- what stands in memory where a load may come ahead of others -/
theorem Inv.version (v : Inv ops nt ng T H I D φ0 w0 L a w φ) (d : DT P callF ng nt ops T H I B) {k : Nat} {o : Oper} (ho : ops[k]? = some o) (hk : L.getD k false = false) (hr : ∀ e ∈ o.after, Region.binds .any e = true → L.getD e.on false = true)
    {ty : TypeId} {b off : Nat} {u : V} (hl : loadV P ty (.p (some (b, off))) (H k) = some u)
    (hun : ∀ i, i < ops.size → (I i).touch b → i ≠ k → B i k ∨ B k i ∨ (loadV P ty (.p (some (b, off))) (H i) = some u ∧ loadV P ty (.p (some (b, off))) (H (i + 1)) = some u)) :
    ∃ m, gS ops H I L b = (H m).get b ∧ loadV P ty (.p (some (b, off))) (H m) = some u := by
  have hkn := op_lt ho
  have chain : ∀ i j, i < ops.size → j < ops.size → (I i).touch b → (I j).touch b → i ≠ j → B i j ∨ B j i := fun i j hi hj ti tj hne => by
    rcases d.un hi hj hne with h | h | h
    · exact .inl h
    · exact .inr h
    · exfalso
      rcases ti with h1 | ⟨h1, h2⟩
      · exact h.wr b h1 tj
      · rcases tj with h3 | ⟨h3, h4⟩
        · exact h.wr' b h3 (.inr ⟨h1, h2⟩)
        · exact hne (d.uniq hi hj h1 h2 h3 h4)
  have low : ∀ (c m : Nat), m + c = k → (∀ i, m ≤ i → i < k → (I i).touch b → L.getD i false ≠ true) → loadV P ty (.p (some (b, off))) (H m) = some u := by
    intro c
    induction c with
    | zero => intro m hm _; have : m = k := by omega
              subst this; exact hl
    | succ c ih =>
      intro m hm hn
      by_cases ht : (I m).touch b
      · rcases hun m (by omega) ht (by omega) with h | h | h
        · exact absurd (v.anc_ready d ho hr h) (hn m (Nat.le_refl _) (by omega) ht)
        · have := d.lt (by omega) h; omega
        · exact h.1
      · obtain ⟨om, hom⟩ := get_op (show m < ops.size by omega)
        have := (d.sel m om hom).keep d.ext ht
        rw [← loadV_congr this]
        exact ih (m + 1) (by omega) fun i h1 h2 h3 => hn i (by omega) h2 h3
  by_cases hex : ∃ i, i < ops.size ∧ (L.getD i false = true ∧ (I i).touch b)
  · obtain ⟨i0, h1, ⟨h2, h3⟩, h4⟩ := greatest hex
    have hne : i0 ≠ k := fun e => by subst e; rw [hk] at h2; cases h2
    refine ⟨i0 + 1, d.gS_eq (by omega) fun i hi ht => ⟨fun hl => ?_, fun hlt => ?_⟩, ?_⟩
    · rcases Nat.lt_or_ge i0 i with h5 | h5
      · exact absurd ⟨hl, ht⟩ (h4 i h5 hi)
      · omega
    · by_cases he : i = i0
      · subst he; exact h2
      · rcases chain i i0 hi h1 ht h3 he with h5 | h5
        · exact v.anc d h2 h5
        · have := d.lt hi h5; omega
    · rcases Nat.lt_or_ge k i0 with h5 | h5
      · rcases hun i0 h1 h3 hne with h6 | h6 | h6
        · have := d.lt hkn h6; omega
        · have := v.anc d h2 h6; rw [hk] at this; cases this
        · exact h6.2
      · exact low (k - (i0 + 1)) (i0 + 1) (by omega) fun i h6 h7 h8 h9 => h4 i (by omega) (by omega) ⟨h9, h8⟩
  · refine ⟨0, d.gS_eq (Nat.zero_le _) fun i hi ht => ⟨fun hl => absurd ⟨i, hi, hl, ht⟩ hex, fun h => by omega⟩, ?_⟩
    exact low k 0 (by omega) fun i _ h2 h3 h4 => hex ⟨i, by omega, h4, h3⟩

/-- a load -/
theorem Inv.ld (v : Inv ops nt ng T H I D φ0 w0 L a w φ) (d : DT P callF ng nt ops T H I B) {k : Nat} {o : Oper} (ho : ops[k]? = some o) (hk : L.getD k false = false) (hr : ∀ e ∈ o.after, Region.binds .any e = true → L.getD e.on false = true)
    {ty : TypeId} {x : Operand} {u : V} (hop : o.op = .load ty x) (hl : loadV P ty (ev ng (T k) x) (H k) = some u) (hp : putV nt (T k) o.dst u = some (T (k + 1))) (hI : I k = ⟨some (ev ng (T k) x).ids, [], (H k).next, (H k).next⟩)
    {K : Act → World → Prop} {Q : Exit → Act → World → Prop} (hK : ∀ a', Inv ops nt ng T H I D φ0 w0 (L.setIfInBounds k true) a' w φ → K a' w) : o.wp P a w K Q := by
  have hx := v.opnd d ho hk hr (x := x) (by rw [hop]; simp [Op.operands])
  obtain ⟨b, off, hpv⟩ := loadV_ptr hl
  rw [hpv] at hl hx hI
  obtain ⟨pl, h1, h2⟩ := hx.p_inv
  obtain ⟨m, h3, h4⟩ := v.version d ho hk hr hl fun i hi ht hne => by
    rcases d.un hi (op_lt ho) hne with h | h | h
    · exact .inl h
    · exact .inr (.inl h)
    · right; right
      rcases h.acc with h5 | ⟨o', ty', x', v', g1, g2, g3, g4, g5⟩
      · exact absurd ht (h5.1 [b] (by rw [hI]; rfl) b (by simp))
      · rw [ho] at g1; cases g1
        rw [hop] at g2; cases g2
        rw [hpv] at g3 g4 g5
        rw [hl] at g3; cases g3
        exact ⟨g4, g5⟩
  obtain ⟨r', k1, k2⟩ := load_var h4 v.hr h3 h1
  have hrun : (execOp a.eval o).run P w = .ok (.value r') w := by
    obtain ⟨dst, op, type, pos, after, guard⟩ := o
    simp only at hop
    subst hop
    simp [execOp, h2, Instr.loadAt, Instr.sureAddr, k1]
  unfold Oper.wp
  rw [hrun]
  show K (a.put o.dst r') w
  refine hK _ (v.skip d ho hk hr k2 hp fun y ht => ?_)
  rw [hI] at ht
  rcases ht with ht | ⟨t1, t2⟩
  · cases ht
  · have t1 : (H k).next ≤ y := t1
    have t2 : y < (H k).next := t2
    omega

open Classical in
/-- an operation that is carried out -/
theorem Inv.run (v : Inv ops nt ng T H I D φ0 w0 L a w φ) (d : DT P callF ng nt ops T H I B) {k : Nat} {o : Oper} (ho : ops[k]? = some o) (hk : L.getD k false = false) (hr : ∀ e ∈ o.after, Region.binds .any e = true → L.getD e.on false = true)
    (hnl : ∀ ty x, o.op ≠ .load ty x) {u : V} {h1 : Heap} (hx : opN P callF o (ev ng (T k)) (H k).bare = .val u h1) (hp : putV nt (T k) o.dst u = some (T (k + 1))) (hH : H (k + 1) = h1.new .dead) (hI : I k = ⟨accO o (ev ng (T k)), h1.wl.filter (fun x => Nat.blt x (H k).next), (H k).next, Nat.succ h1.next⟩)
    {K : Act → World → Prop} {Q : Exit → Act → World → Prop} (hK : ∀ a' w' φ', Inv ops nt ng T H I D φ0 w0 (L.setIfInBounds k true) a' w' φ' → K a' w') : o.wp P a w K Q := by
  have hkn := op_lt ho
  have hks : k < L.size := by rw [v.size]; exact hkn
  obtain ⟨hx1, hx2⟩ := opN_val hx
  have hx2 : (H k).next ≤ h1.next := hx2
  have m0 : (H 0).next ≤ (H k).next := d.mono (Nat.zero_le _) (by omega)
  have mn : h1.next + 1 ≤ (H ops.size).next := by
    have := d.mono (i := k + 1) (j := ops.size) (by omega) (Nat.le_refl _)
    rw [hH] at this; exact this
  have hlo : (I k).lo = (H k).next := by rw [hI]
  have hhi : (I k).hi = h1.next + 1 := by rw [hI]
  -- what is asked of values
  let ρ : Operand → V := fun x => if x ∈ o.op.operands then ev ng (T k) x else .und
  have hρ : ∀ x ∈ o.op.operands, ev ng (T k) x = ρ x := fun x hxx => by show _ = if _ then _ else _; rw [if_pos hxx]
  have hx3 : opX P callF o ρ (H k).bare = .val u h1 := by rw [← opX_congr o hρ]; exact hx1
  have hacc : accO o (ev ng (T k)) = accO o ρ := accO_congr o hρ
  have hev : ∀ x, RV φ (ρ x) (a.eval x) := fun x => by
    show RV φ (if _ then _ else _) _
    by_cases hxx : x ∈ o.op.operands
    · rw [if_pos hxx]; exact v.opnd d ho hk hr hxx
    · rw [if_neg hxx]; exact .und _
  -- blocks
  let g' : Nat → Option Blk := fun x => if x < (H k).next then gS ops H I L x else none
  have sub : ∀ x C, g' x = some C → gS ops H I L x = some C := fun x C h => by
    have h : (if x < (H k).next then gS ops H I L x else none) = some C := h
    split at h
    · exact h
    · cases h
  have low : ∀ x, (H k).next ≤ x → g' x = none := fun x h => by show (if _ then _ else _) = _; rw [if_neg (by omega)]
  have glow : ∀ x, x < (H k).next → g' x = gS ops H I L x := fun x h => by show (if _ then _ else _) = _; rw [if_pos h]
  have bey : Beyond φ g' (H k).bare := fun x hxx _ => by rw [low x hxx]; exact (Heap.get_ge (h := (H k).bare) hxx).symm
  have fresh : Fresh φ (H k).bare.next (h1.next + 1) := fun x a1 a2 => by
    have a1 : (H k).next ≤ x := a1
    cases hq : φ x with
    | none => rfl
    | some pl =>
      obtain ⟨i, b1, b2, b3⟩ := v.fresh x (by rw [hq]; simp) (by omega) (by omega)
      have := d.uniq (v.size ▸ getD_lt b1) hkn b2 b3 (by omega) (by omega)
      subst this
      rw [hk] at b1; cases b1
  have un : ∀ i x, i < ops.size → i ≠ k → (I i).touch x → (∀ l, accO o ρ = some l → x ∈ l → B i k ∨ B k i ∨ (L.getD i false = true ↔ i < k)) := fun i x hi hne ht l hl hxl => by
    rcases d.un hi hkn hne with h | h | h
    · exact .inl h
    · exact .inr (.inl h)
    · rcases h.acc with h5 | ⟨o', ty', x', v', g1, g2, _⟩
      · exact absurd ht (h5.1 l (by rw [hI, hacc]; exact hl) x hxl)
      · rw [ho] at g1; cases g1; exact absurd g2 (hnl _ _)
  have ag : match accO o ρ with | some l => ∀ x ∈ l, g' x = (H k).bare.get x | none => ∀ x, φ x ≠ none → g' x = (H k).bare.get x := by
    cases hl : accO o ρ with
    | some l =>
      simp only
      intro x hxl
      rcases Nat.lt_or_ge x (H k).next with h2 | h2
      · rw [glow x h2]
        exact v.touched d ho hk hr fun i hi ht hne => un i x hi hne ht l hl hxl
      · rw [low x h2]; exact (Heap.get_ge (h := (H k).bare) h2).symm
    | none =>
      simp only
      intro x hpx
      rcases Nat.lt_or_ge x (H k).next with h2 | h2
      · rw [glow x h2]
        refine v.touched d ho hk hr fun i hi ht hne => ?_
        rcases d.un hi hkn hne with h | h | h
        · exact .inl h
        · exact .inr (.inl h)
        · refine .inr (.inr ?_)
          rcases ht with ht | ⟨t1, t2⟩
          · rcases h.acc with h5 | ⟨o', ty', x', v', g1, g2, _⟩
            · rw [h5.2 (by rw [hI, hacc]; exact hl)] at ht; cases ht
            · rw [ho] at g1; cases g1; exact absurd g2 (hnl _ _)
          · obtain ⟨b1, b2, _⟩ := d.nx hi
            have b0 : (H 0).next ≤ (H i).next := d.mono (Nat.zero_le _) (by omega)
            obtain ⟨i', c1, c2, c3⟩ := v.fresh x hpx (by omega) (by omega)
            have := d.uniq hi (v.size ▸ getD_lt c1) t1 t2 c2 c3
            subst this
            refine ⟨fun _ => ?_, fun _ => c1⟩
            rcases Nat.lt_or_ge i k with h3 | h3
            · exact h3
            · have := d.mono (i := k) (j := i) h3 (by omega)
              omega
      · rw [low x h2]; exact (Heap.get_ge (h := (H k).bare) h2).symm
  refine op_ok d.cok hx3 v.glob (v.hr.sub sub) bey fresh (fun _ => fresh _ (Nat.le_refl _) (by show (H k).next < _; omega)) hev ag ?_
  intro u' w' φ' l hu hE hP
  refine hK _ _ φ' ?_
  have hwl : h1.wl = l := by have := hE.wl; rw [this]; show l ++ [] = l; simp
  have hwr : (I k).wr = l.filter (fun x => Nat.blt x (H k).next) := by rw [hI, ← hwl]
  have hpn : φ h1.next = none := fresh _ (by show (H k).next ≤ _; omega) (by omega)
  have hpn' : φ' h1.next = none := by
    cases hq : φ' h1.next with
    | none => rfl
    | some pl => have := hP.new _ hpn (by rw [hq]; simp); omega
  -- blocks touched now
  have hnow : ∀ x, (I k).touch x → gS ops H I (L.setIfInBounds k true) x = (H (k + 1)).get x := fun x ht => by
    refine d.gS_eq (by omega) fun i hi hti => ?_
    rw [set_iff hks]
    by_cases hne : i = k
    · subst hne; exact ⟨fun _ => by omega, fun _ => .inr rfl⟩
    rcases d.un hi hkn hne with h | h | h
    · have h2 := v.anc_ready d ho hr h
      have h3 := d.lt hkn h
      exact ⟨fun _ => by omega, fun _ => .inl h2⟩
    · have h3 := d.lt hi h
      refine ⟨fun h2 => ?_, fun _ => by omega⟩
      have h2 := h2.resolve_right hne
      have := v.anc d h2 h; rw [hk] at this; cases this
    · exfalso
      rcases hti with h2 | ⟨h2, h3⟩
      · exact h.wr x h2 ht
      · rcases ht with h4 | ⟨h4, h5⟩
        · exact h.wr' x h4 (.inr ⟨h2, h3⟩)
        · exact hne (d.uniq hi hkn h2 h3 h4 h5)
  have hnot : ∀ x, ¬ (I k).touch x → gS ops H I (L.setIfInBounds k true) x = gS ops H I L x := fun x ht => by
    refine d.gS_congr fun i hi hti => ?_
    rw [set_iff hks]
    exact ⟨fun h => h.resolve_right fun e => by subst e; exact ht hti, .inl⟩
  have hdead : ∀ x, φ' x ≠ none → (H (k + 1)).get x = h1.get x := fun x hxx => by
    rw [hH]
    exact Heap.get_new_other h1 .dead fun e => by subst e; exact hxx hpn'
  have G1 : ∀ x, φ' x ≠ none → x < h1.next + 1 → gS ops H I (L.setIfInBounds k true) x = mix g' (H k).bare h1 l x := fun x hxx hlt => by
    by_cases ht : (I k).touch x
    · rw [hnow x ht, hdead x hxx]
      rcases ht with ht | ⟨t1, t2⟩
      · rw [hwr, List.mem_filter] at ht
        rw [mix_in ht.1]
      · rw [mix_new (show (H k).bare.next ≤ x from by show (H k).next ≤ x; omega)]
    · rw [hnot x ht]
      unfold Inf.touch at ht
      rw [not_or] at ht
      have hx4 : x < (H k).next := by
        rcases Nat.lt_or_ge x (H k).next with h2 | h2
        · exact h2
        · exact absurd ⟨by omega, by omega⟩ ht.2
      rw [mix_old (h := (H k).bare) (fun hm => ht.1 (by rw [hwr, List.mem_filter]; exact ⟨hm, blt_true hx4⟩)) hx4, glow x hx4]
  have G2 : ∀ x, φ' x ≠ none → h1.next + 1 ≤ x → gS ops H I (L.setIfInBounds k true) x = gS ops H I L x := fun x hxx hle => by
    refine hnot x fun ht => ?_
    rcases ht with ht | ⟨t1, t2⟩
    · rw [hwr, List.mem_filter] at ht
      have := Nat.le_of_ble_eq_true ht.2
      omega
    · omega
  obtain ⟨j1, j2⟩ := join (h := (H k).bare) v.hr sub low hP (show h1.next ≤ h1.next + 1 by omega) (show (H k).bare.next ≤ h1.next from hx2) G1 G2
  refine ⟨by simp [v.size], v.closed_put ho hr, ?_, v.temp_put d ho hk hP.le hu hp, j1, fun x a1 a2 a3 => ?_, v.glob.mono hP.le, Map.le_trans v.le hP.le, fun x a1 a2 => ?_, v.fr.trans j2, fun i hi x C ht hC hl => ?_, ?_, ?_⟩
  · cases hd : o.dst <;> simp [Act.put, v.tsize]
  · by_cases hq : φ x = none
    · have hn := hP.new x hq a1
      have hn1 : (H k).next ≤ x := hn.1
      exact ⟨k, (set_iff hks).2 (.inr rfl), by omega, by omega⟩
    · obtain ⟨i, b1, b2⟩ := v.fresh x hq a2 a3
      exact ⟨i, (set_iff hks).2 (.inl b1), b2⟩
  · by_cases hq : φ x = none
    · have hn := hP.new x hq a2
      have hn1 : (H k).next ≤ x := hn.1
      omega
    · exact v.new x a1 hq
  · rcases (set_iff hks).1 hi with hi | rfl
    · exact v.own i hi x C ht hC hl
    · rw [hH] at hC
      have hne : x ≠ h1.next := fun e => by
        subst e
        rw [Heap.get_new] at hC; cases hC; cases hl
      rw [Heap.get_new_other h1 .dead hne] at hC
      refine hP.own x C ?_ hC hl
      rcases ht with ht | ⟨t1, t2⟩
      · rw [hwr, List.mem_filter] at ht; exact .inl ht.1
      · right; show (H i).next ≤ x; omega
  · cases hd : o.dst <;> exact v.defers
  · cases hq : φ' (H ops.size).next with
    | none => rfl
    | some pl => have := hP.new _ v.top (by rw [hq]; simp); omega

/-- the same world, as far as memory goes -/
theorem Inv.world (v : Inv ops nt ng T H I D φ0 w0 L a w φ) {w' : World} (e1 : w'.os = w.os) (e2 : w'.tape = w.tape) (e3 : w'.output = w.output) (e4 : w.heap.size ≤ w'.heap.size) (e5 : ∀ b, b < w.heap.size → w'.heap[b]? = w.heap[b]?) : Inv ops nt ng T H I D φ0 w0 L a w' φ :=
  ⟨v.size, v.closed, v.tsize, v.temp, ⟨fun x C pl h1 h2 => by
    have := v.hr.blk x C pl h1 h2
    by_cases hl : C.live = true
    · exact this.world (e5 _ (this.lt hl))
    · cases C <;> first | trivial | exact absurd rfl hl, v.hr.inj⟩, v.fresh, v.glob, v.le, v.new,
    v.fr.trans ⟨e1, e2, e3, e4, fun b hb _ => e5 b hb, fun b h => .inl h⟩, v.own, v.defers, v.top⟩

open Classical in
/-- an operation that looks at nothing but its operands -/
theorem Inv.pure (v : Inv ops nt ng T H I D φ0 w0 L a w φ) (d : DT P callF ng nt ops T H I B) {k : Nat} {o : Oper} (ho : ops[k]? = some o) (hk : L.getD k false = false) (hr : ∀ e ∈ o.after, Region.binds .any e = true → L.getD e.on false = true)
    (hpu : pureO P o = true) {u : V} (hx : stepV P o (ev ng (T k)) (H k) = some (u, H k)) (hp : putV nt (T k) o.dst u = some (T (k + 1))) (hI : I k = ⟨some [], [], (H k).next, (H k).next⟩)
    {K : Act → World → Prop} {Q : Exit → Act → World → Prop} (hK : ∀ a' w', Inv ops nt ng T H I D φ0 w0 (L.setIfInBounds k true) a' w' φ → K a' w') : o.wp P a w K Q := by
  let ρ : Operand → V := fun x => if x ∈ o.op.operands then ev ng (T k) x else .und
  have hρ : ∀ x ∈ o.op.operands, ev ng (T k) x = ρ x := fun x hxx => by show _ = if _ then _ else _; rw [if_pos hxx]
  let h2 : Heap := ⟨(H ops.size).next, .e, []⟩
  have h2g : ∀ x, h2.get x = none := fun x => by
    rcases Nat.lt_or_ge x h2.next with h | h
    · rw [Heap.get_lt h]; exact PT.get_e x
    · exact Heap.get_ge h
  have hX : ∀ (h : Heap) ρ', opX P callF o ρ' h = (match stepV P o ρ' h with | some r => .val r.1 r.2 | none => .fail) := fun h ρ' => by
    unfold opX
    split
    · rename_i x hox
      unfold pureO at hpu
      rw [hox] at hpu; exact absurd hpu (by simp)
    · rename_i c hoc
      obtain ⟨cal, as, ts⟩ := c
      cases cal with
      | value f => unfold pureO at hpu; rw [hoc] at hpu; exact absurd hpu (by simp)
      | _ => rfl
    · rfl
  have hx2 : opX P callF o (ev ng (T k)) h2 = .val u h2 := by rw [hX, (pure_spec hpu hx).2 h2]
  have hx3 : opX P callF o ρ h2 = .val u h2 := by rw [← opX_congr o hρ]; exact hx2
  have hev : ∀ x, RV φ (ρ x) (a.eval x) := fun x => by
    show RV φ (if _ then _ else _) _
    by_cases hxx : x ∈ o.op.operands
    · rw [if_pos hxx]; exact v.opnd d ho hk hr hxx
    · rw [if_neg hxx]; exact .und _
  have fresh : Fresh φ h2.next (h2.next + 1) := fun x a1 a2 => by
    have : x = (H ops.size).next := by
      have a1 : (H ops.size).next ≤ x := a1
      have a2 : x < (H ops.size).next + 1 := a2
      omega
    rw [this]; exact v.top
  refine op_ok d.cok hx3 (g := fun _ => none) v.glob ⟨fun x C pl h _ => (by cases h), fun x x' C C' pl pl' _ h _ _ _ _ _ => (by cases h)⟩ (fun x _ _ => (h2g x).symm) fresh (fun _ => v.top) hev (by split <;> intro x _ <;> exact (h2g x).symm) ?_
  intro u' w' φ' l hu hE hP
  have hφ : φ' = φ := by
    funext x
    cases hq : φ x with
    | some pl => exact hP.le x pl hq
    | none =>
      cases hq' : φ' x with
      | none => rfl
      | some pl => have := hP.new x hq (by rw [hq']; simp); omega
  subst hφ
  refine hK _ _ ((v.world hP.fr.os hP.fr.tape hP.fr.output hP.fr.size fun b hb => hP.fr.block b hb fun ⟨x, C, pl, q1, _⟩ => by cases q1).skip d ho hk hr hu hp fun x ht => ?_)
  rw [hI] at ht
  rcases ht with ht | ⟨t1, t2⟩
  · cases ht
  · have t1 : (H k).next ≤ x := t1
    have t2 : x < (H k).next := t2
    omega

theorem cnt_le {p p' : Nat → Bool} (h : ∀ i, p' i = true → p i = true) : ∀ (l : List Nat), l.countP p' ≤ l.countP p
  | [] => Nat.le_refl _
  | x :: l => by
    have ih := cnt_le h l
    rw [List.countP_cons, List.countP_cons]
    cases hp : p' x with
    | true => rw [h x hp]; simp; exact ih
    | false => cases p x <;> simp <;> omega
theorem cnt_lt {p p' : Nat → Bool} (h : ∀ i, p' i = true → p i = true) {k : Nat} (h1 : p k = true) (h2 : p' k = false) : ∀ {l : List Nat}, k ∈ l → l.countP p' < l.countP p
  | [], hk => by cases hk
  | x :: l, hk => by
    rw [List.countP_cons, List.countP_cons]
    by_cases hx : x = k
    · subst hx
      rw [h1, h2]
      have := cnt_le h l
      simp; omega
    · have hk := (List.mem_cons.1 hk).resolve_left fun e => hx e.symm
      have ih := cnt_lt h h1 h2 hk
      cases hp : p' x with
      | true => rw [h x hp]; simp; exact ih
      | false => cases p x <;> simp <;> omega

/-- all operations, in whatever order -/
theorem DT.any (d : DT P callF ng nt ops T H I B) {Q : Exit → Act → World → Prop} (hQ : ∀ a' w' φ' L, (∀ i, i < ops.size → L.getD i false = true) → Inv ops nt ng T H I D φ0 w0 L a' w' φ' → Q .normal a' w') : ∀ (fuel : Nat) (L : Array Bool) (a : Act) (w : World) (φ : Map), Inv ops nt ng T H I D φ0 w0 L a w φ →
    (List.range ops.size).countP (fun i => !L.getD i false) ≤ fuel → wpAny P .any ops Q fuel L a w := by
  have done : ∀ (L : Array Bool) (a : Act) (w : World) (φ : Map), Inv ops nt ng T H I D φ0 w0 L a w φ → Region.ready .any ops L = [] → Q .normal a w := fun L a w φ v hr => by
    refine hQ a w φ L (fun i => ?_) v
    induction i using Nat.strongRecOn with
    | ind i ih =>
      intro hi
      cases hl : L.getD i false with
      | true => rfl
      | false =>
        obtain ⟨o, ho⟩ := get_op hi
        have : i ∈ Region.ready .any ops L := mem_ready.2 ⟨?_, o, ho, fun e he hb => ih e.on (d.back i o ho e he hb) (by have := d.back i o ho e he hb; omega)⟩
        · rw [hr] at this; cases this
        · have hs : i < L.size := by rw [v.size]; exact hi
          simp [Array.getD, hs] at hl ⊢
          exact hl
  intro fuel
  induction fuel with
  | zero =>
    intro L a w φ v hc
    have hr : Region.ready .any ops L = [] := by
      cases hq : Region.ready .any ops L with
      | nil => rfl
      | cons k ks =>
        exfalso
        have hk : k ∈ Region.ready .any ops L := by rw [hq]; simp
        obtain ⟨h1, o, ho, _⟩ := mem_ready.1 hk
        have hkn := op_lt ho
        have : 0 < (List.range ops.size).countP (fun i => !L.getD i false) := by
          rw [List.countP_pos_iff]
          refine ⟨k, List.mem_range.2 hkn, ?_⟩
          have hs : k < L.size := by rw [v.size]; exact hkn
          simp [Array.getD, hs] at h1 ⊢
          exact h1
        omega
    exact ⟨hr, done L a w φ v hr⟩
  | succ fuel ih =>
    intro L a w φ v hc
    refine ⟨fun hr => done L a w φ v hr, fun k hk => ?_⟩
    obtain ⟨h1, o, ho, hr⟩ := mem_ready.1 hk
    have hkn := op_lt ho
    have hs : k < L.size := by rw [v.size]; exact hkn
    have hkf : L.getD k false = false := by simp [Array.getD, hs] at h1 ⊢; exact h1
    have hcount : (List.range ops.size).countP (fun i => !(L.setIfInBounds k true).getD i false) ≤ fuel := by
      have := cnt_lt (p := fun i => !L.getD i false) (p' := fun i => !(L.setIfInBounds k true).getD i false) (fun i hi => ?_) (k := k) (by simp only [hkf]; rfl) ?_ (List.mem_range.2 hkn)
      · omega
      · cases hq : L.getD i false with
        | false => rfl
        | true => simp only [(set_iff hs).2 (.inl hq)] at hi; cases hi
      · simp only [(set_iff hs).2 (.inr rfl)]; rfl
    have hwant : ∀ b, wantedV nt ops o (T k) = some b → Region.wanted o (yielded ops a.tmps) = b := fun b hb => wanted_ok hb v.tsize fun j want x hg hx u hu => by
      refine v.look d ho hkf hr ?_ hu
      refine List.mem_append_right _ ?_
      rw [hg]; simp [hx]
    unfold wpOp
    rw [ho]
    simp only
    rcases d.sel k o ho with ⟨s1, s2, s3, s4⟩ | ⟨ty, x, u, s0, s1, s2, s3, s4, s5⟩ | ⟨u, h1', s0, s1, s2, s3, s4, s5⟩ | ⟨u, s0, s1, s2, s3, s4, s5⟩
    rotate_right
    · rw [hwant true s1]
      simp only [if_true]
      exact .inl (v.pure d ho hkf hr s0 s2 s3 s5 fun a' w' v' => ih _ a' w' φ v' hcount)
    · rw [hwant false s1]
      simp only [Bool.false_eq_true, if_false]
      refine ih _ _ _ φ (v.skip d ho hkf hr (RV.undef φ) s2 (fun x ht => ?_)) hcount
      rw [s4] at ht
      rcases ht with ht | ⟨t1, t2⟩
      · cases ht
      · have t1 : (H k).next ≤ x := t1
        have t2 : x < (H k).next := t2
        omega
    · rw [hwant true s1]
      simp only [if_true]
      exact .inl (v.ld d ho hkf hr s0 s2 s3 s5 fun a' v' => ih _ a' w φ v' hcount)
    · rw [hwant true s1]
      simp only [if_true]
      exact .inl (v.run d ho hkf hr s0 s2 s3 s4 s5 fun a' w' φ' v' => ih _ a' w' φ' v' hcount)
end
end Go.Ab
