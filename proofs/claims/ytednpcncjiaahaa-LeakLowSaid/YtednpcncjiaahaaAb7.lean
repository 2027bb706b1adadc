/-
  An abstract interpreter of the model's code, part 7: slices, maps, and what the language brings. Conditions: none.
-/
import Derived.Test.YtednpcncjiaahaaAb6
set_option linter.unusedVariables false
set_option linter.unusedSimpArgs false
namespace Go.Ab
open Go

/-! slicing -/
noncomputable def sliceV (P : Program) (t : TypeId) (x : V) (low high max : Option V) (h : Heap) : Option (V × Heap) :=
  match P.underlying t, x with
  | some (.array n elem), .p (some (a, o)) =>
    match boundsV n n low high max, szOf P elem with
    | some (l, hi, m), some sz => okc (and (Nat.ble l hi) (Nat.ble hi m)) (some (.sl (some (a, cond (Nat.beq m l) o (o + l * sz))) (hi - l) (m - l) true, h))
    | _, _ => none
  | some (.pointer arr), .p (some (a, o)) =>
    match P.underlying arr with
    | some (.array n elem) =>
      match boundsV n n low high max, szOf P elem with
      | some (l, hi, m), some sz => okc (and (Nat.ble l hi) (Nat.ble hi m)) (some (.sl (some (a, cond (Nat.beq m l) o (o + l * sz))) (hi - l) (m - l) true, h))
      | _, _ => none
    | _ => none
  | some .string, .s s =>
    match max with
    | none => match boundsV s.n s.n low high none with
      | some (l, hi, _) => okc (Nat.ble hi s.n) (some (.s (s.sub l hi), h))
      | none => none
    | some _ => none
  | some (.slice elem), .sl none _ _ _ =>
    match boundsV 0 0 low high max, szOf P elem with
    | some _, some _ => some (.sl none 0 0 true, h)
    | _, _ => none
  | some (.slice elem), .sl (some (a, o)) len cap ex =>
    match boundsV len cap low high max, szOf P elem with
    | some (l, hi, m), some sz =>
      okc (and (Nat.ble l hi) (Nat.ble hi m)) (match or ex max.isSome with
        | true => some (.sl (some (a, cond (Nat.beq m l) o (o + l * sz))) (hi - l) (m - l) true, h)
        | false =>
          match h.get a with
          | some (.cells _ es _ _) => okc (Nat.beq es sz) (match Nat.blt l cap with
            | true => some (.sl (some (a, o + l * sz)) (hi - l) (cap - l) false, h)
            | false => some (.sl (some (h.next, 0)) 0 0 false, h.new .dead))
          | _ => none)
    | _, _ => none
  | _, _ => none

theorem RO.isSome {φ : Map} {x : Option V} {x' : Option Value} (h : RO φ x x') : x.isSome = x'.isSome := by
  cases x <;> cases x' <;> first | rfl | exact h.elim

theorem snd_slice_arr {P : Program} {n : Nat} {elem : TypeId} {a o : Nat} {low high max : Option V} {h : Heap} {r : V × Heap} {l hi m sz : Nat} (hb : boundsV n n low high max = some (l, hi, m)) (hs : szOf P elem = some sz)
    (e : okc (and (Nat.ble l hi) (Nat.ble hi m)) (some (V.sl (some (a, cond (Nat.beq m l) o (o + l * sz))) (hi - l) (m - l) true, h)) = some r)
    {φ : Map} {g : Nat → Option Blk} {w : World} (c : Cx φ g h w) {pl : Place} (hp : φ a = some pl) {low' high' max' : Option Value} (r1 : RO φ low low') (r2 : RO φ high high') (r3 : RO φ max max') {s : Sem Value}
    (hs' : s.run P w = (do let (l, h, m) ← Instr.sliceBounds false n n low' high' max'; let size ← sizeOf elem; pure (.slice (some (if m = l then (⟨pl.b, pl.base + o, none⟩ : Addr) else (⟨pl.b, pl.base + o, none⟩ : Addr).add (l * size))) (h - l) (m - l)) : Sem Value).run P w) :
    Snd P s φ g h w r := by
  obtain ⟨h1, h2⟩ := okc_some e
  cases h2
  simp only [Bool.and_eq_true] at h1
  have q1 := Nat.le_of_ble_eq_true h1.1
  have q2 := Nat.le_of_ble_eq_true h1.2
  obtain ⟨k1, k2, _⟩ := run_boundsV (P := P) hb r1 r2 r3 false w
  by_cases hm : m = l
  · subst hm
    have hbq : Nat.beq m m = true := Nat.beq_refl m
    refine .pure c (v' := .slice (some ⟨pl.b, pl.base + o, none⟩) (hi - m) (m - m)) ?_ ?_
    · rw [hs']; simp [k1, run_sizeOf hs]
    · rw [hbq]; exact .sl a o (hi - m) (m - m) (m - m) true pl hp (by omega) (Nat.le_refl _) (fun _ => rfl) (fun h => by cases h)
  · have hbq : Nat.beq m l = false := by cases hq : Nat.beq m l with
      | false => rfl
      | true => exact absurd (Nat.eq_of_beq_eq_true hq) hm
    refine .pure c (v' := .slice (some ⟨pl.b, pl.base + (o + l * sz), none⟩) (hi - l) (m - l)) ?_ ?_
    · rw [hs']; simp [k1, run_sizeOf hs, hm, Addr.add_lit, Nat.add_assoc]
    · rw [hbq]; exact .sl a (o + l * sz) (hi - l) (m - l) (m - l) true pl hp (by omega) (Nat.le_refl _) (fun _ => rfl) (fun h => by cases h)

theorem extract_data (s : ByteArray) (l h : Nat) : (s.extract l h).data.toList = (s.data.toList.take h).drop l := by
  rw [ByteArray.data_extract]
  simp only [Array.toList_extract, List.take_drop]
  by_cases hl : l ≤ h
  · rw [show l + (h - l) = h by omega]
  · rw [List.drop_eq_nil_of_le (by simp; omega), List.drop_eq_nil_of_le (by simp; omega)]

/-- a block that is never asked -/
theorem Post.dead1 {φ : Map} {g : Nat → Option Blk} {h : Heap} {w : World} (c : Cx φ g h w) (pl : Place) : Post φ g h (h.new .dead) [] (φ.ext h.next pl) w w := by
  have hgo : ∀ x, x ≠ h.next → (h.new .dead).get x = h.get x := fun x hx => Heap.get_new_other h .dead hx
  have hn : mix g h (h.new .dead) [] h.next = some .dead := by rw [mix_new (Nat.le_refl _)]; exact Heap.get_new h .dead
  have old : ∀ a A q, mix g h (h.new .dead) [] a = some A → (φ.ext h.next pl) a = some q → a ≠ h.next → g a = some A ∧ φ a = some q := fun a A q h1 h2 h3 => by
    rw [Map.ext_other _ _ _ _ h3] at h2
    refine ⟨?_, h2⟩
    by_cases h4 : a < h.next
    · rw [mix_old (by simp) h4] at h1; exact h1
    · rw [mix_new (by omega), hgo a h3] at h1
      rw [c.bey a (by omega) (by rw [h2]; simp)]; exact h1
  have nd : ∀ a A, mix g h (h.new .dead) [] a = some A → (A.live = true ∨ A.own = true) → a ≠ h.next := fun a A h1 h2 e => by
    subst e; rw [hn] at h1; cases h1; simp [Blk.live, Blk.own] at h2
  refine ⟨Map.le_ext pl c.fresh, fun x h1 h2 => ?_, ⟨fun a A q h1 h2 => ?_, fun a a' A A' q q' hne h1 h2 h3 h4 h5 h6 => ?_⟩, ⟨rfl, rfl, rfl, Nat.le_refl _, fun _ _ _ => rfl, fun b ho => ?_⟩, fun x C h1 h2 h3 => ?_⟩
  · by_cases hx : x = h.next
    · subst hx; exact ⟨Nat.le_refl _, Nat.lt_succ_self _⟩
    · rw [Map.ext_other _ _ _ _ hx] at h2; exact absurd h1 h2
  · by_cases ha : a = h.next
    · subst ha; rw [hn] at h1; cases h1; trivial
    · obtain ⟨h3, h4⟩ := old a A q h1 h2 ha
      exact (c.hr.blk a A q h3 h4).mono (Map.le_ext pl c.fresh)
  · obtain ⟨k1, k2⟩ := old a A q h1 h3 (nd a A h1 (.inr h5))
    obtain ⟨k3, k4⟩ := old a' A' q' h2 h4 (nd a' A' h2 (.inl h6))
    exact c.hr.inj a a' A A' q q' hne k1 k3 k2 k4 h5 h6
  · obtain ⟨a, A, q, h1, h2, h3, h4⟩ := ho
    obtain ⟨k1, k2⟩ := old a A q h1 h3 (nd a A h1 (.inr h2))
    exact .inl ⟨a, A, q, k1, h2, k2, h4⟩
  · rcases h1 with h1 | h1
    · cases h1
    · by_cases hx : x = h.next
      · subst hx; rw [Heap.get_new] at h2; cases h2; cases h3
      · rw [hgo x hx, Heap.get_ge h1] at h2; cases h2

theorem snd_slice {P : Program} {t : TypeId} {x : V} {low high max : Option V} {h : Heap} {r : V × Heap} (e : sliceV P t x low high max h = some r) {φ : Map} {g : Nat → Option Blk} {w : World} (c : Cx φ g h w)
    {x' : Value} {low' high' max' : Option Value} (hx : RV φ x x') (r1 : RO φ low low') (r2 : RO φ high high') (r3 : RO φ max max') (ag : Ag g h [x]) : Snd P (Instr.sliceAt t x' low' high' max') φ g h w r := by
  unfold sliceV at e
  cases hu : P.underlying t with
  | none => rw [hu] at e; cases e
  | some d =>
    rw [hu] at e
    cases d <;> try (cases e; done)
    case array n elem =>
      cases hx <;> try (cases e; done)
      case p a o pl hp =>
        simp only at e
        cases hb : boundsV n n low high max with
        | none => rw [hb] at e; cases e
        | some q =>
          obtain ⟨l, hi, m⟩ := q
          cases hs : szOf P elem with
          | none => rw [hb, hs] at e; cases e
          | some sz =>
            rw [hb, hs] at e
            refine snd_slice_arr hb hs e c hp r1 r2 r3 ?_
            simp [Instr.sliceAt, run_underlying hu, Instr.sureAddr]
    case pointer arr =>
      cases hx <;> try (cases e; done)
      case p a o pl hp =>
        simp only at e
        cases hu2 : P.underlying arr with
        | none => rw [hu2] at e; cases e
        | some d2 =>
          rw [hu2] at e
          cases d2 <;> try (cases e; done)
          case array n elem =>
            simp only at e
            cases hb : boundsV n n low high max with
            | none => rw [hb] at e; cases e
            | some q =>
              obtain ⟨l, hi, m⟩ := q
              cases hs : szOf P elem with
              | none => rw [hb, hs] at e; cases e
              | some sz =>
                rw [hb, hs] at e
                refine snd_slice_arr hb hs e c hp r1 r2 r3 ?_
                simp [Instr.sliceAt, Instr.slice, run_underlying hu, run_underlying hu2, asAddr]
    case string =>
      cases hx <;> try (cases e; done)
      case s sb s hsb =>
        simp only at e
        have hsn : s.size = sb.n := by rw [size_data, hsb, SB.list_length]
        cases max with
        | some _ => cases e
        | none =>
          simp only at e
          cases max' with
          | some _ => exact r3.elim
          | none =>
            cases hb : boundsV sb.n sb.n low high none with
            | none => rw [hb] at e; cases e
            | some q =>
              obtain ⟨l, hi, m⟩ := q
              rw [hb] at e
              obtain ⟨e1, e2⟩ := okc_some e
              cases e2
              rw [← hsn] at hb
              obtain ⟨k1, _⟩ := run_boundsV (P := P) (max' := none) hb r1 r2 trivial false w
              refine .pure c (v' := .string (s.extract l hi)) ?_ ?_
              · simp [Instr.sliceAt, Instr.slice, run_underlying hu, k1]
              · exact .s _ _ (by rw [extract_data, hsb, SB.sub_list _ (Nat.le_of_ble_eq_true e1)])
    case slice elem =>
      cases hx <;> try (cases e; done)
      case sl0 =>
        simp only at e
        cases hb : boundsV 0 0 low high max with
        | none => rw [hb] at e; cases e
        | some q =>
          obtain ⟨l, hi, m⟩ := q
          cases hs : szOf P elem with
          | none => rw [hb, hs] at e; cases e
          | some sz =>
            rw [hb, hs] at e
            cases e
            obtain ⟨k1, k2, k3, k4, k5, k6, k7⟩ := run_boundsV (P := P) hb r1 r2 r3 true w
            have hm : m = 0 := by omega
            subst hm
            have hh : hi = 0 := by
              cases high with
              | none => exact k4 rfl
              | some v => have := k5 (by simp); omega
            subst hh
            have hl : l = 0 := by
              cases low with
              | none => exact k6 rfl
              | some v => have := k7 (by simp); omega
            subst hl
            exact .pure c (v' := .slice none 0 0) (by simp [Instr.sliceAt, Instr.slice, run_underlying hu, k1, run_sizeOf hs]) .sl0
      case sl a o len cap cc ex pl hp h1 h2 h3 h4 =>
        simp only at e
        cases hb : boundsV len cap low high max with
        | none => rw [hb] at e; cases e
        | some q =>
          obtain ⟨l, hi, m⟩ := q
          cases hs : szOf P elem with
          | none => rw [hb, hs] at e; cases e
          | some sz =>
            rw [hb, hs] at e
            simp only at e
            obtain ⟨e1, e2⟩ := okc_some e
            simp only [Bool.and_eq_true] at e1
            have q1 := Nat.le_of_ble_eq_true e1.1
            have q2 := Nat.le_of_ble_eq_true e1.2
            -- the real bounds
            have real : ∀ m', (max = none → m' = cc) → (max ≠ none → m' = m) → (Instr.sliceBounds true len cc low' high' max').run P w = .ok (l, hi, m') w := fun m' hm1 hm2 => by
              have hbc : boundsV len cc low high max = some (l, hi, m') := by
                unfold boundsV at hb ⊢
                cases max with
                | some v =>
                  have hm' := hm2 (by simp)
                  subst hm'
                  have : maxB cc (some v) = maxB cap (some v) ∨ maxB cap (some v) = none := by
                    cases v <;> first
                      | exact .inl rfl
                      | (rename_i k n
                         cases n with
                         | negSucc _ => exact .inl rfl
                         | ofNat z =>
                           by_cases hz : z ≤ cap
                           · left
                             have hz' : z ≤ cc := by omega
                             simp [maxB, natOf, okc, Nat.ble_eq_true_of_le hz, Nat.ble_eq_true_of_le hz']
                           · right
                             have : Nat.ble z cap = false := by
                               cases hq : Nat.ble z cap with
                               | false => rfl
                               | true => exact absurd (Nat.le_of_ble_eq_true hq) hz
                             simp [maxB, natOf, okc, this])
                  rcases this with h5 | h5
                  · rw [h5]; exact hb
                  · rw [h5] at hb; cases hb
                | none =>
                  have hm' := hm1 rfl
                  subst hm'
                  have hmc : m = cap := by
                    simp only [maxB] at hb
                    split at hb
                    · split at hb
                      · cases hb; rfl
                      · cases hb
                    · cases hb
                  subst hmc
                  simp only [maxB] at hb ⊢
                  cases high with
                  | none => exact (by
                      simp only [highB] at hb ⊢
                      split at hb
                      · cases hb; rfl
                      · cases hb)
                  | some v =>
                    simp only [highB] at hb ⊢
                    cases hv : natOf v m with
                    | none => rw [hv] at hb; cases hb
                    | some h0 =>
                      rw [hv] at hb
                      have hv' : natOf v m' = some h0 := by
                        cases v <;> try (cases hv; done)
                        rename_i k n
                        cases n with
                        | negSucc _ => cases hv
                        | ofNat z =>
                          obtain ⟨z1, z2⟩ := okc_some hv
                          have z1 := Nat.le_of_ble_eq_true z1
                          have z3 : z ≤ m' := by omega
                          simp only [natOf, okc, Nat.ble_eq_true_of_le z3, cond_true]
                          exact z2
                      rw [hv']
                      simp only at hb ⊢
                      split at hb
                      · cases hb; rfl
                      · cases hb
              exact (run_boundsV (P := P) hbc r1 r2 r3 true w).1
            have run1 : ∀ m' v', (Instr.sliceBounds true len cc low' high' max').run P w = .ok (l, hi, m') w →
                v' = Value.slice (some (if m' = l then (⟨pl.b, pl.base + o, none⟩ : Addr) else ⟨pl.b, pl.base + (o + l * sz), none⟩)) (hi - l) (m' - l) →
                (Instr.sliceAt t (.slice (some ⟨pl.b, pl.base + o, none⟩) len cc) low' high' max').run P w = .ok v' w := fun m' v' hr hv => by
              subst hv
              by_cases hm : m' = l
              · simp [Instr.sliceAt, Instr.slice, run_underlying hu, hr, run_sizeOf hs, hm]
              · simp [Instr.sliceAt, Instr.slice, run_underlying hu, hr, run_sizeOf hs, hm, Addr.add_lit, Nat.add_assoc]
            -- the exact ones
            have exact1 : ∀ m', m' = m → (Instr.sliceBounds true len cc low' high' max').run P w = .ok (l, hi, m') w → some (V.sl (some (a, cond (Nat.beq m l) o (o + l * sz))) (hi - l) (m - l) true, h) = some r →
                Snd P (Instr.sliceAt t (.slice (some ⟨pl.b, pl.base + o, none⟩) len cc) low' high' max') φ g h w r := fun m' hm' hr he => by
              subst hm'
              cases he
              by_cases hm : m' = l
              · subst hm
                refine .pure c (run1 m' _ hr rfl) ?_
                rw [if_pos rfl, Nat.beq_refl]
                exact .sl a o (hi - m') (m' - m') (m' - m') true pl hp (by omega) (Nat.le_refl _) (fun _ => rfl) (fun h => by cases h)
              · refine .pure c (run1 m' _ hr rfl) ?_
                have hbq : Nat.beq m' l = false := by
                  cases hq : Nat.beq m' l with
                  | false => rfl
                  | true => exact absurd (Nat.eq_of_beq_eq_true hq) hm
                rw [if_neg hm, hbq]
                exact .sl a (o + l * sz) (hi - l) (m' - l) (m' - l) true pl hp (by omega) (Nat.le_refl _) (fun _ => rfl) (fun h => by cases h)
            cases hmax : max with
            | some v =>
              subst hmax
              have e2' : some (V.sl (some (a, cond (Nat.beq m l) o (o + l * sz))) (hi - l) (m - l) true, h) = some r := by
                simpa using e2
              exact exact1 m rfl (real m (fun h => by cases h) (fun _ => rfl)) e2'
            | none =>
              subst hmax
              have hm : m = cap := (run_boundsV (P := P) (max' := none) (low' := low') (high' := high') hb r1 r2 trivial true w).2.2.1 rfl
              cases ex with
              | true =>
                have hcc := h3 rfl
                have e2' : some (V.sl (some (a, cond (Nat.beq m l) o (o + l * sz))) (hi - l) (m - l) true, h) = some r := by simpa using e2
                exact exact1 cc (by omega) (real cc (fun _ => rfl) (fun h => absurd rfl h)) e2'
              | false =>
                have hr := real cc (fun _ => rfl) (fun h => absurd rfl h)
                have e2 : (match h.get a with
                  | some (.cells _ es _ _) => okc (Nat.beq es sz) (match Nat.blt l cap with
                    | true => some (V.sl (some (a, o + l * sz)) (hi - l) (cap - l) false, h)
                    | false => some (V.sl (some (h.next, 0)) 0 0 false, h.new .dead))
                  | _ => none) = some r := e2
                have hag := ag (.sl (some (a, o)) len cap false) (by simp) a (by simp [V.ids])
                cases hg : h.get a with
                | none => rw [hg] at e2; cases e2
                | some B =>
                  rw [hg] at e2 hag
                  cases B <;> try (cases e2; done)
                  case cells n es tr own =>
                    obtain ⟨f1, f2⟩ := okc_some e2
                    have f1 := Nat.eq_of_beq_eq_true f1
                    obtain ⟨_, _, _, _, f3, _⟩ := c.hr.blk a _ pl hag hp
                    have ht := h4 rfl
                    rw [f3, f1] at ht
                    have hle : l * sz + (cc - l) * sz = cc * sz := by rw [← Nat.add_mul]; congr 1; omega
                    cases hlt : Nat.blt l cap with
                    | true =>
                      rw [hlt] at f2
                      cases f2
                      have hlt : l < cap := Nat.le_of_ble_eq_true hlt
                      refine .pure c (run1 cc _ hr rfl) ?_
                      rw [if_neg (by omega)]
                      exact .sl a (o + l * sz) (hi - l) (cap - l) (cc - l) false pl hp (by omega) (by omega) (fun h => by cases h) (fun _ => by rw [f3, f1]; omega)
                    | false =>
                      rw [hlt] at f2
                      cases f2
                      have hge : cap ≤ l := by
                        rcases Nat.lt_or_ge l cap with hq | hq
                        · have : Nat.blt l cap = true := by rw [nat_blt]; simpa using hq
                          rw [this] at hlt; cases hlt
                        · exact hq
                      have hlc : l = cap := by omega
                      have hih : hi = l := by omega
                      subst hih
                      by_cases hcl : cc = hi
                      · refine ⟨_, w, _, [], run1 cc _ hr rfl, Ext.new h _, ?_, Post.dead1 c ⟨pl.b, pl.base + o, pl.tot, pl.es⟩⟩
                        rw [if_pos hcl, Nat.sub_self]
                        have := RV.sl (φ := φ.ext h.next ⟨pl.b, pl.base + o, pl.tot, pl.es⟩) h.next 0 0 0 (cc - hi) false _ (Map.ext_same _ _ _) (Nat.le_refl _) (Nat.zero_le _) (fun h => by cases h) (fun _ => by simp only [f3, f1]; rw [hcl, Nat.sub_self]; omega)
                        exact this
                      · refine ⟨_, w, _, [], run1 cc _ hr rfl, Ext.new h _, ?_, Post.dead1 c ⟨pl.b, pl.base + (o + hi * sz), pl.tot, pl.es⟩⟩
                        rw [if_neg hcl, Nat.sub_self]
                        have := RV.sl (φ := φ.ext h.next ⟨pl.b, pl.base + (o + hi * sz), pl.tot, pl.es⟩) h.next 0 0 0 (cc - hi) false _ (Map.ext_same _ _ _) (Nat.le_refl _) (Nat.zero_le _) (fun h => by cases h) (fun _ => by simp only [f3, f1]; omega)
                        exact this

end Go.Ab
