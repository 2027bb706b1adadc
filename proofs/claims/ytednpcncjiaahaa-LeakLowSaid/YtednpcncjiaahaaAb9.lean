/-
  An abstract interpreter of the model's code, part 9: append, copy. Conditions: none.
-/
import Derived.Test.YtednpcncjiaahaaAb8
set_option linter.unusedVariables false
set_option linter.unusedSimpArgs false
namespace Go.Ab
open Go

/-- what is appended, as the model has it -/
structure ASrc (P : Program) (i : TypeInfo) (e tx : TypeId) (x : Value) (n : Nat) (news : List Value) (w : World) : Prop where
  len : news.length = n * i.size
  one : ∀ u ∈ news, u.oneCell' = true
  room : ∀ (t ty : TypeId) (b off sLen sCap : Nat) (w' : World), P.underlying t = some (.slice e) → sLen + n ≤ sCap → (storeCells ⟨b, off + sLen * i.size, none⟩ news).run P w = .ok () w' →
    (Builtin.append_ #[t, tx] ty #[.slice (some ⟨b, off, none⟩) sLen sCap, x]).run P w = .ok (.slice (some ⟨b, off, none⟩) (sLen + n) sCap) w'
  nil0 : ∀ (t ty : TypeId), P.underlying t = some (.slice e) → n = 0 → (Builtin.append_ #[t, tx] ty #[.slice none 0 0, x]).run P w = .ok (.slice none 0 0) w
  grow : ∀ (t ty : TypeId) (base : Option Addr) (sLen sCap : Nat) (olds : List Value), P.underlying t = some (.slice e) → (Builtin.firstCells i.size sLen (.slice base sLen sCap)).run P w.drew = .ok olds.toArray w.drew → olds.length = sLen * i.size →
    sCap < sLen + n → sLen + n ≤ 4611686018427387904 → (sLen + n) * i.bytes ≤ 140737488355328 →
    ∃ (more : List Value) (cap' : Nat), (Builtin.append_ #[t, tx] ty #[.slice base sLen sCap, x]).run P w = .ok (.slice (some ⟨w.heap.size, 0, none⟩) (sLen + n) cap') { w.drew with heap := w.drew.heap.push (.cells ((olds ++ news) ++ more).toArray e (0, 0)) } ∧
      sLen + n ≤ cap' ∧ ((olds ++ news) ++ more).length = cap' * i.size

theorem ASrc.ofSrc {P : Program} {i : TypeInfo} {e tx : TypeId} {x : Value} {n : Nat} {news : List Value} {w : World} {z : Value} (hi : P.info? e = some i) (hz : i.zero = some z) (hzs : z.cells.size = i.size) (hs : Src P i.size tx x n news w) : ASrc P i e tx x n news w where
  len := hs.newsLen
  one := hs.one
  room := fun t ty b off sLen sCap w' ht hroom hst => by
    rcases hs.kind with ⟨e', hk⟩ | hk <;> simp [Builtin.append_, run_underlying ht, run_underlying hk, sizeOf, typeInfo, hi, hs.len, hroom, hs.cells, Addr.add_lit, hst]
  nil0 := fun t ty ht hn => by
    subst hn
    rcases hs.kind with ⟨e', hk⟩ | hk <;> simp [Builtin.append_, run_underlying ht, run_underlying hk, sizeOf, typeInfo, hi, hs.len, hs.cells]
  grow := fun t ty base sLen sCap olds ht hold hol hg h62 hb => by
    have hfit := growslice_fits (by omega : sCap < sLen + n) hb
    have hr := run_append_grow_src (P := P) w t tx ty e i z ht hi hz base sLen sCap olds hold x n news hs hg (by omega) hfit
    refine ⟨(Builtin.zeroCells z.cells (grownCap w (sLen + n) sCap e - (sLen + n))).toList, grownCap w (sLen + n) sCap e, ?_, grownCap_ge w _ _ e, ?_⟩
    · rw [hr]
      congr 1
      show World.alloc _ _ = _
      unfold World.alloc
      congr 3
      apply Array.ext'
      simp
    · have hge := grownCap_ge w (sLen + n) sCap e
      simp only [List.length_append, hol, hs.newsLen, Array.length_toList, size_zeroCells, hzs, ← Nat.add_mul]
      congr 1
      omega

theorem ASrc.ofZeros {P : Program} {i : TypeInfo} {e tx : TypeId} {kq kn : IntKind} {n : Nat} {w : World} {z : Value} (hi : P.info? e = some i) (hz : i.zero = some z) (hzs : z.cells.size = i.size) (h1 : ∀ u ∈ z.cells.toList, u.oneCell' = true) (hsz : 0 < i.size) (htn : P.underlying tx = some (.int kn))
    (hn62 : n ≤ 4611686018427387904) (hnb : n * i.bytes ≤ 140737488355328) : ASrc P i e tx (.int kq n) n (repV z.cells.toList n) w where
  len := by rw [repV_length]; simp [hzs]
  one := fun u hu => h1 u (repV_mem hu)
  room := fun t ty b off sLen sCap w' ht hroom hst => by
    have hw : IntKind.i64.wrap (n : Int) = n := by rw [IntKind.wrap_i64]; omega
    have hneg : ¬ ((n : Int) < 0) := by omega
    have h48i : ¬ (281474976710656 < (n : Int) * (i.bytes : Int)) := by rw [← Int.natCast_mul]; omega
    by_cases hn : n = 0
    · subst hn
      have hst' : (storeCells ⟨b, off + sLen * i.size, none⟩ []).run P w = .ok () w' := hst
      simp [storeCells] at hst'
      subst hst'
      have hr : sLen ≤ sCap := by omega
      simp [Builtin.append_, run_underlying ht, run_underlying htn, sizeOf, typeInfo, hi, asInt, asIntOf, hr, storeCells, IntKind.wrap_i64]
    · have hns : ¬ (n * i.size = 0) := Nat.mul_ne_zero hn (by omega)
      have hz' : (storeCells ⟨b, off + sLen * i.size, none⟩ (Builtin.zeroCells z.cells n).toList).run P w = .ok () w' := by rw [zeroCells_list]; exact hst
      simp [Builtin.append_, run_underlying ht, run_underlying htn, sizeOf, typeInfo, hi, asInt, asIntOf, hw, hneg, h48i, hroom, hns, hz, zeroValue, Addr.add_lit, hz']
  nil0 := fun t ty ht hn => by
    subst hn
    simp [Builtin.append_, run_underlying ht, run_underlying htn, sizeOf, typeInfo, hi, asInt, asIntOf, IntKind.wrap_i64]
  grow := fun t ty base sLen sCap olds ht hold hol hg h62 hb => by
    have hfit := growslice_fits (by omega : sCap < sLen + n) hb
    have hn0 : 0 < n ∨ n = 0 := by omega
    rcases hn0 with h0 | h0
    · have hr := Go.Lib.run_append_grow_zeros (P := P) w t tx ty e i z kq kn ht htn hi hz base sLen sCap olds hold n h0 hsz hg (by omega) (by omega) hfit
      refine ⟨(Builtin.zeroCells z.cells (grownCap w (sLen + n) sCap e - (sLen + n))).toList, grownCap w (sLen + n) sCap e, ?_, grownCap_ge w _ _ e, ?_⟩
      · rw [hr]
        congr 1
        show World.alloc _ _ = _
        unfold World.alloc
        congr 3
        apply Array.ext'
        simp [zeroCells_list]
      · have hge := grownCap_ge w (sLen + n) sCap e
        have hl : (repV z.cells.toList n).length = n * i.size := by rw [repV_length]; simp [hzs]
        simp only [List.length_append, hol, hl, Array.length_toList, size_zeroCells, hzs, ← Nat.add_mul]
        congr 1
        omega
    · subst h0
      -- a slice has no more elements than room: this does not come
      have hneg : IntKind.i64.wrap ((0 : Nat) : Int) = 0 := by rw [IntKind.wrap_i64]; omega
      have hn : ¬ (sLen ≤ sCap) := by omega
      have h63' : ¬ (9223372036854775807 < (sLen : Int)) := by omega
      have h48' : ¬ (281474976710656 < Builtin.nextslicecap sLen sCap * i.bytes) := by simpa using hfit
      refine ⟨(Builtin.zeroCells z.cells (grownCap w (sLen + 0) sCap e - (sLen + 0))).toList, grownCap w (sLen + 0) sCap e, ?_, grownCap_ge w _ _ e, ?_⟩
      · have e1 : (Builtin.append_ #[t, tx] ty #[.slice base sLen sCap, .int kq ((0 : Nat) : Int)]).run P w = .ok (.slice (some ⟨w.heap.size, 0, none⟩) sLen (grownCap w sLen sCap e)) (w.drew.alloc (.cells (olds.toArray ++ Builtin.zeroCells z.cells (grownCap w sLen sCap e - sLen)) e)) := by
          simp [Builtin.append_, run_underlying ht, run_underlying htn, sizeOf, typeInfo, zeroValue, hi, hz, asInt, asIntOf, IntKind.wrap_i64, hn, h63', h48', Question.forced, hold, newRow, grownCap]
        rw [e1]
        congr 1
        show World.alloc _ _ = _
        unfold World.alloc
        congr 3
        apply Array.ext'
        simp [repV]
        rfl
      · have hge := grownCap_ge w (sLen + 0) sCap e
        have hl : (repV z.cells.toList 0).length = 0 * i.size := by rw [repV_length]; simp [hzs]
        simp only [List.length_append, hol, hl, Array.length_toList, size_zeroCells, hzs, ← Nat.add_mul]
        congr 1
        omega

/-! the abstract sources -/
noncomputable def srcV (P : Program) (size : Nat) (zc : List V) (tx : TypeId) (x : V) (h : Heap) : Option (Nat × List V) :=
  match P.underlying tx, x with
  | some (.int _), .i _ (.ofNat m) => okc (and (Nat.ble m 4611686018427387904) (and (Nat.beq zc.length size) (and (Nat.blt 0 size) (zc.all V.sc)))) (some (m, repV zc m))
  | some (.slice _), .sl none _ _ _ => some (0, [])
  | some (.slice _), .sl (some (b, q)) m _ _ =>
    match m with
    | 0 => some (0, [])
    | m + 1 => match h.get b with
      | some (.cells n _ tr own) => okc (Nat.ble (q + (m + 1) * size) n) (match readN tr q ((m + 1) * size) with
        | some l => okc (or own (l.all V.sc)) (some (m + 1, l))
        | none => none)
      | _ => none
  | some .string, .s l => okc (Nat.beq size 1) (some (l.n, l.nats.map fun b => .i .u8 (.ofNat b)))
  | _, _ => none

theorem src_ok {P : Program} {i : TypeInfo} {e tx : TypeId} {x : V} {h : Heap} {n : Nat} {l : List V} {z : Value} (hi : P.info? e = some i) (hz : i.zero = some z) (hnu : (ofC z).nu = true) (hzs : (ofC z).cells.length = i.size)
    (es : srcV P i.size (ofC z).cells tx x h = some (n, l)) (hnb : n * i.bytes ≤ 140737488355328) {φ : Map} {g : Nat → Option Blk} {w : World} (c : HR φ g w) (ag : Ag g h [x]) {x' : Value} (hx : RV φ x x') :
    ∃ l', ASrc P i e tx x' n l' w ∧ RVs φ l l' := by
  have hzc := (RV.ofC φ z).cells' hnu
  have hzs' : z.cells.size = i.size := by rw [← hzs, hzc.1]; simp
  unfold srcV at es
  cases hu : P.underlying tx with
  | none => rw [hu] at es; cases es
  | some d =>
    rw [hu] at es
    cases d <;> try (cases es; done)
    case int kn =>
      cases hx <;> try (cases es; done)
      case i kq m =>
        cases m <;> try (cases es; done)
        case ofNat m =>
          obtain ⟨e1, e2⟩ := okc_some es
          cases e2
          simp only [Bool.and_eq_true] at e1
          obtain ⟨q1, q2, q3, q4⟩ := e1
          exact ⟨_, ASrc.ofZeros hi hz hzs' (all_oneCell hzc q4) (Nat.le_of_ble_eq_true q3) hu (Nat.le_of_ble_eq_true q1) hnb, hzc.repV _⟩
    case slice e' =>
      cases hx <;> try (cases es; done)
      case sl0 => cases es; exact ⟨[], ASrc.ofSrc hi hz hzs' (Src.ofNil w hu 0), RVs.nil φ⟩
      case sl b q len cap cc ex pl hp h1 h2 h3 h4 =>
        cases len with
        | zero => cases es; exact ⟨[], ASrc.ofSrc hi hz hzs' (Src.ofSlice w hu _ 0 cc [] (by simp) (fun j u h => by simp at h) (fun u h => by cases h)), RVs.nil φ⟩
        | succ m =>
          simp only at es
          have hag := ag (.sl (some (b, q)) (m + 1) cap ex) (by simp) b (by simp [V.ids])
          cases hg : h.get b with
          | none => rw [hg] at es; cases es
          | some B =>
            rw [hg] at es hag
            cases B <;> try (cases es; done)
            case cells nn es' tr own =>
              obtain ⟨e1, e2⟩ := okc_some es
              cases hr : readN tr q ((m + 1) * i.size) with
              | none => rw [hr] at e2; cases e2
              | some k =>
                rw [hr] at e2
                obtain ⟨e3, e2⟩ := okc_some e2
                cases e2
                obtain ⟨l', r1, r2, r3, r4⟩ := (c.blk b _ pl hag hp).readN hr (Nat.le_of_ble_eq_true e1)
                exact ⟨l', ASrc.ofSrc hi hz hzs' (Src.ofSlice w hu _ (m + 1) cc l' r2 r3 (r4 e3)), r1⟩
    case string =>
      cases hx <;> try (cases es; done)
      case s sb s hsb =>
        obtain ⟨e1, e2⟩ := okc_some es
        cases e2
        have hs1 : i.size = 1 := Nat.eq_of_beq_eq_true e1
        rw [SB.nats_eq, ← hsb, List.map_map]
        refine ⟨byteCells s, ?_, ?_⟩
        · rw [← SB.list_length sb, ← hsb, ← size_data]
          refine ASrc.ofSrc hi hz hzs' ?_
          rw [hs1]; exact Src.ofString w hu s
        · unfold byteCells
          generalize s.data.toList = k
          induction k with
          | nil => exact RVs.nil φ
          | cons b k ih => exact RVs.cons (.i _ _) ih

noncomputable def appendV (P : Program) (t tx : TypeId) (s x : V) (h : Heap) : Option (V × Heap) :=
  match P.underlying t with
  | some (.slice e) =>
    match P.info? e with
    | some i =>
      match i.zero with
      | some z =>
        okc (and (ofC z).nu (Nat.beq (ofC z).cells.length i.size)) (match srcV P i.size (ofC z).cells tx x h with
        | some (m, news) =>
          match s with
          | .sl none _ _ _ => cond (Nat.beq m 0) (some (.sl none 0 0 true, h))
              (okc (and (Nat.ble m 4611686018427387904) (Nat.ble (m * i.bytes) 140737488355328)) (some (.sl (some (h.next, 0)) m m false, h.new (.cells news.length i.size (wr .e 0 news) true))))
          | .sl (some (a, o)) len cap ex =>
            okc (and (Nat.ble (len + m) 4611686018427387904) (Nat.ble ((len + m) * i.bytes) 140737488355328)) (
            cond (Nat.ble (len + m) cap)
              (cond (Nat.beq m 0) (some (.sl (some (a, o)) len cap ex, h))
                (match h.get a with
                | some (.cells n es tr true) => okc (Nat.ble (o + len * i.size + news.length) n) (some (.sl (some (a, o)) (len + m) cap ex, h.upd a (.cells n es (wr tr (o + len * i.size) news) true)))
                | _ => none))
              (match ex with
              | true =>
                match len with
                | 0 => some (.sl (some (h.next, 0)) m m false, h.new (.cells news.length i.size (wr .e 0 news) true))
                | len + 1 =>
                  match h.get a with
                  | some (.cells n _ tr own) => okc (Nat.ble (o + (len + 1) * i.size) n) (match readN tr o ((len + 1) * i.size) with
                    | some olds => okc (or own (olds.all V.sc)) (some (.sl (some (h.next, 0)) (len + 1 + m) (len + 1 + m) false, h.new (.cells (olds ++ news).length i.size (wr .e 0 (olds ++ news)) true)))
                    | none => none)
                  | _ => none
              | false =>
                match h.get a with
                | some (.cells n es tr true) => okc (and (Nat.blt a h.next) (and (Nat.beq o 0) (and (Nat.beq es i.size) (Nat.ble (len * i.size) n)))) (some (.sl (some (h.next, 0)) (len + m) (len + m) false, (h.upd a .dead).new (.cells ((len + m) * i.size) i.size (wr tr (len * i.size) news) true)))
                | _ => none))
          | _ => none
        | none => none)
      | none => none
    | none => none
  | _ => none

/-- a new row, of unknown room -/
theorem snd_grown {P : Program} {s : Sem Value} {φ : Map} {g : Nat → Option Blk} {h : Heap} {w : World} (c : Cx φ g h w) {l : List V} {l' : List Value} (hl : RVs φ l l') (h1 : ∀ u ∈ l', u.oneCell' = true) (es len cap' : Nat) (e : TypeId) (more : List Value)
    (hr : s.run P w = .ok (.slice (some ⟨w.heap.size, 0, none⟩) len cap') { w.drew with heap := w.drew.heap.push (.cells (l' ++ more).toArray e (0, 0)) }) (hc : len ≤ cap') (ht : (l' ++ more).length = cap' * es) :
    Snd P s φ g h w (.sl (some (h.next, 0)) len len false, h.new (.cells l.length es (wr .e 0 l) true)) := by
  have hp := new_row c (w0 := w.drew) ⟨rfl, rfl, rfl, rfl⟩ l l' hl h1 es e more
  refine ⟨_, _, _, [], hr, Ext.new h _, ?_, hp⟩
  have := RV.sl (φ := φ.ext h.next ⟨w.heap.size, 0, l'.length + more.length, es⟩) h.next 0 len len cap' false _ (Map.ext_same _ _ _) (Nat.le_refl _) hc (fun h => by cases h) (fun _ => by
    show 0 + 0 + cap' * es ≤ l'.length + more.length
    rw [← List.length_append, ht]; omega)
  exact this

theorem snd_append {P : Program} {t tx ty : TypeId} {s x : V} {h : Heap} {r : V × Heap} (e : appendV P t tx s x h = some r) {φ : Map} {g : Nat → Option Blk} {w : World} (c : Cx φ g h w)
    {s' x' : Value} (hs : RV φ s s') (hx : RV φ x x') (ag : Ag g h [s, x]) : Snd P (Builtin.append_ #[t, tx] ty #[s', x']) φ g h w r := by
  have agx : Ag g h [x] := fun v hv => ag v (by simp at hv; simp [hv])
  unfold appendV at e
  cases hu : P.underlying t with
  | none => rw [hu] at e; cases e
  | some d =>
    rw [hu] at e
    cases d <;> try (cases e; done)
    case slice el =>
      simp only at e
      cases hi : P.info? el with
      | none => rw [hi] at e; cases e
      | some i =>
        rw [hi] at e
        simp only at e
        cases hz : i.zero with
        | none => rw [hz] at e; cases e
        | some z =>
          rw [hz] at e
          simp only at e
          obtain ⟨e1, e2⟩ := okc_some e
          simp only [Bool.and_eq_true] at e1
          obtain ⟨hnu, hzl⟩ := e1
          have hzl := Nat.eq_of_beq_eq_true hzl
          cases hsrc : srcV P i.size (ofC z).cells tx x h with
          | none => rw [hsrc] at e2; cases e2
          | some q =>
            obtain ⟨m, news⟩ := q
            rw [hsrc] at e2
            simp only at e2
            cases hs <;> try (cases e2; done)
            case sl0 =>
              simp only at e2
              cases hm : Nat.beq m 0 with
              | true =>
                rw [hm] at e2
                cases e2
                have hm := Nat.eq_of_beq_eq_true hm
                obtain ⟨l', a1, a2⟩ := src_ok hi hz hnu hzl hsrc (by subst hm; simp) c.hr agx hx
                exact .pure c (a1.nil0 t ty hu hm) .sl0
              | false =>
                rw [hm] at e2
                obtain ⟨f1, f2⟩ := okc_some e2
                cases f2
                simp only [Bool.and_eq_true] at f1
                have q1 := Nat.le_of_ble_eq_true f1.1
                have q2 := Nat.le_of_ble_eq_true f1.2
                have hm0 : m ≠ 0 := Nat.ne_of_beq_eq_false hm
                obtain ⟨l', a1, a2⟩ := src_ok hi hz hnu hzl hsrc q2 c.hr agx hx
                obtain ⟨more, cap', b1, b2, b3⟩ := a1.grow t ty none 0 0 [] hu (by simp [Builtin.firstCells]) (by simp) (by omega) (by omega) (by simpa using q2)
                simp only [List.nil_append, Nat.zero_add] at b1 b2 b3
                exact snd_grown c a2 a1.one i.size m cap' el more b1 b2 b3
            case sl a o len cap cc ex pl hp h1 h2 h3 h4 =>
              simp only at e2
              obtain ⟨f1, f2⟩ := okc_some e2
              simp only [Bool.and_eq_true] at f1
              have q1 := Nat.le_of_ble_eq_true f1.1
              have q2 := Nat.le_of_ble_eq_true f1.2
              have hmb : m * i.bytes ≤ 140737488355328 := Nat.le_trans (Nat.mul_le_mul_right _ (by omega)) q2
              obtain ⟨l', a1, a2⟩ := src_ok hi hz hnu hzl hsrc hmb c.hr agx hx
              have hnl : news.length = m * i.size := by rw [a2.1, a1.len]
              have hag := ag (.sl (some (a, o)) len cap ex) (by simp) a (by simp [V.ids])
              cases hroom : Nat.ble (len + m) cap with
              | true =>
                rw [hroom] at f2
                simp only [cond_true] at f2
                have hroom := Nat.le_of_ble_eq_true hroom
                cases hm : Nat.beq m 0 with
                | true =>
                  rw [hm] at f2
                  cases f2
                  have hm := Nat.eq_of_beq_eq_true hm
                  subst hm
                  have hl' : l' = [] := List.eq_nil_of_length_eq_zero (by rw [a1.len]; simp)
                  subst hl'
                  have := a1.room t ty pl.b (pl.base + o) len cc w hu (by omega) (by simp [storeCells])
                  exact .pure c this (.sl a o len cap cc ex pl hp h1 h2 h3 h4)
                | false =>
                  rw [hm] at f2
                  simp only [cond_false] at f2
                  cases hg : h.get a with
                  | none => rw [hg] at f2; cases f2
                  | some B =>
                    rw [hg] at f2 hag
                    cases B <;> try (cases f2; done)
                    case cells n es tr own =>
                      cases own <;> try (cases f2; done)
                      case true =>
                        obtain ⟨g1, g2⟩ := okc_some f2
                        cases g2
                        have g1 := Nat.le_of_ble_eq_true g1
                        obtain ⟨w', s1, s2⟩ := store_cells (P := P) c.hr c.bey (Heap.lt_of_get hg) hag hp a2 a1.one (off := o + len * i.size) g1
                        have hr := a1.room t ty pl.b (pl.base + o) len cc w' hu (by omega) (by rw [Nat.add_assoc]; exact s1)
                        exact ⟨_, w', φ, [a], hr, Ext.upd h a _, .sl a o (len + m) cap cc ex pl hp hroom h2 h3 h4, s2⟩
              | false =>
                rw [hroom] at f2
                simp only [cond_false] at f2
                have hnr : cap < len + m := by
                  rcases Nat.lt_or_ge cap (len + m) with hq | hq
                  · exact hq
                  · rw [Nat.ble_eq_true_of_le hq] at hroom; cases hroom
                cases ex with
                | true =>
                  have hcc := h3 rfl
                  subst hcc
                  simp only at f2
                  cases len with
                  | zero =>
                    simp only at f2
                    cases f2
                    obtain ⟨more, cap', b1, b2, b3⟩ := a1.grow t ty (some ⟨pl.b, pl.base + o, none⟩) 0 cc [] hu (by simp [Builtin.firstCells, loadCells, loadCellsFrom]) (by simp) (by omega) (by omega) (by simpa using q2)
                    simp only [List.nil_append, Nat.zero_add] at b1 b2 b3
                    exact snd_grown c a2 a1.one i.size m cap' el more b1 b2 b3
                  | succ len =>
                    simp only at f2
                    cases hg : h.get a with
                    | none => rw [hg] at f2; cases f2
                    | some B =>
                      rw [hg] at f2 hag
                      cases B <;> try (cases f2; done)
                      case cells n es tr own =>
                        obtain ⟨g1, g2⟩ := okc_some f2
                        cases hrd : readN tr o ((len + 1) * i.size) with
                        | none => rw [hrd] at g2; cases g2
                        | some olds =>
                          rw [hrd] at g2
                          obtain ⟨g3, g2⟩ := okc_some g2
                          cases g2
                          obtain ⟨olds', r1, r2, r3, r4⟩ := (c.hr.blk a _ pl hag hp).readN hrd (Nat.le_of_ble_eq_true g1)
                          obtain ⟨more, cap', b1, b2, b3⟩ := a1.grow t ty (some ⟨pl.b, pl.base + o, none⟩) (len + 1) cc olds' hu (run_firstCells_some w.drew i.size (len + 1) _ _ _ olds' r2 (by simpa using r3)) r2 hnr q1 q2
                          exact snd_grown c (r1.append a2) (fun u hu => by
                            rcases List.mem_append.1 hu with hu | hu
                            · exact r4 g3 u hu
                            · exact a1.one u hu) i.size (len + 1 + m) cap' el more b1 b2 b3
                | false =>
                  simp only at f2
                  cases hg : h.get a with
                  | none => rw [hg] at f2; cases f2
                  | some B =>
                    rw [hg] at f2 hag
                    cases B <;> try (cases f2; done)
                    case cells n es tr own =>
                      cases own <;> try (cases f2; done)
                      case true =>
                        obtain ⟨g1, g2⟩ := okc_some f2
                        cases g2
                        simp only [Bool.and_eq_true] at g1
                        obtain ⟨p1, p2, p3, p4⟩ := g1
                        have p1 : a < h.next := Nat.le_of_ble_eq_true p1
                        have p2 := Nat.eq_of_beq_eq_true p2
                        have p3 := Nat.eq_of_beq_eq_true p3
                        have p4 := Nat.le_of_ble_eq_true p4
                        subst p2
                        have hbr := c.hr.blk a _ pl hag hp
                        have hbr' := hbr
                        obtain ⟨cs, el', fr, k1, k2, k3, k4, k5, k6⟩ := hbr'
                        obtain ⟨k7, k8⟩ := k6 rfl
                        have ht := h4 rfl
                        rw [k2, p3, k3, k7] at ht
                        have hext : Ext h ((h.upd a .dead).new (.cells ((len + m) * i.size) i.size (wr tr (len * i.size) news) true)) [a] := (Ext.upd h a .dead).trans (Ext.new _ _)
                        -- what stands in the new row, in either case
                        by_cases hin : len + m ≤ cc
                        · -- in place
                          have hfit : pl.base + 0 + len * i.size + 0 + l'.length ≤ cs.size := by
                            rw [a1.len, k7]
                            have := Nat.mul_le_mul_right i.size hin
                            rw [Nat.add_mul] at this
                            omega
                          obtain ⟨w', c', m1, m2, m3, m4, m5, m6, m7, m8, m9⟩ := run_storeCells_gen P pl.b (pl.base + 0 + len * i.size) el' fr l' 0 cs w k1 hfit k8 a1.one
                          have hr := a1.room t ty pl.b (pl.base + 0) len cc w' hu hin m1
                          refine ⟨_, w', φ.ext h.next ⟨pl.b, 0, pl.tot, i.size⟩, [a], hr, hext, ?_, ?_⟩
                          · have := RV.sl (φ := φ.ext h.next ⟨pl.b, 0, pl.tot, i.size⟩) h.next 0 (len + m) (len + m) cc false _ (Map.ext_same _ _ _) (Nat.le_refl _) hin (fun h => by cases h) (fun _ => by
                              show 0 + 0 + cc * i.size ≤ pl.tot
                              omega)
                            simp only [Nat.add_zero] at this ⊢
                            rw [k7]
                            exact this
                          · refine Post.move1 c.hr (fun x hx hpx => c.bey x (by omega) hpx) c.fresh a p1 _ _ pl _ hag rfl hp m7 m8 m9 (by omega) (fun b _ hb => m6 b hb) (.inl rfl) ⟨c', el', fr, m2, rfl, by rw [m3]; exact k3, ?_, fun j hj => ?_, fun _ => ⟨rfl, by rw [m3]; exact k8⟩⟩ (fun _ => rfl)
                            · show 0 + (len + m) * i.size ≤ c'.size
                              rw [m3]
                              have := Nat.mul_le_mul_right i.size hin
                              omega
                            · show ∃ v v', (wr tr (len * i.size) news).get j = some v ∧ c'[0 + j]? = some v' ∧ _
                              rw [wr_get, m4, Nat.zero_add, k7]
                              rw [Nat.add_mul] at hj
                              by_cases hjn : len * i.size ≤ j
                              · rw [if_pos (by omega), if_pos (by rw [a1.len]; omega)]
                                have hlt : j - len * i.size < news.length := by omega
                                obtain ⟨v', y1, y2⟩ := a2.get (List.getElem?_eq_getElem hlt)
                                refine ⟨_, v', List.getElem?_eq_getElem hlt, ?_, y2.mono (Map.le_ext _ c.fresh), fun _ => a1.one v' (List.mem_of_getElem? y1)⟩
                                rw [← y1]; congr 1; omega
                              · rw [if_neg (by omega), if_neg (by omega)]
                                obtain ⟨v, v', y1, y2, y3, y4⟩ := k5 j (by omega)
                                rw [k7, Nat.zero_add] at y2
                                exact ⟨v, v', y1, y2, y3.mono (Map.le_ext _ c.fresh), y4⟩
                        · -- a new one
                          have hrd : ∃ olds' : List Value, olds'.length = len * i.size ∧ (∀ j v, olds'[j]? = some v → w.cell? ((⟨pl.b, pl.base + 0, none⟩ : Addr).add j) = some v) ∧ (∀ u ∈ olds', u.oneCell' = true) ∧
                              ∀ j, j < len * i.size → ∃ v v', tr.get j = some v ∧ olds'[j]? = some v' ∧ RV φ v v' := by
                            let f : Nat → Value := fun j => (w.cell? ⟨pl.b, pl.base + j, none⟩).getD undef
                            have hf : ∀ j, j < len * i.size → ∃ v v', tr.get j = some v ∧ w.cell? ⟨pl.b, pl.base + j, none⟩ = some v' ∧ f j = v' ∧ RV φ v v' ∧ v'.oneCell' = true := fun j hj => by
                              obtain ⟨v, v', y1, y2, y3, y4⟩ := hbr.cell (j := j) (by omega)
                              exact ⟨v, v', y1, y2, by show (w.cell? _).getD undef = v'; rw [y2]; rfl, y3, y4 rfl⟩
                            refine ⟨(List.range (len * i.size)).map f, by simp, fun j v hv => ?_, fun u hu => ?_, fun j hj => ?_⟩
                            · have hj : j < len * i.size := by have := (List.getElem?_eq_some_iff.1 hv).1; simpa using this
                              rw [List.getElem?_map, List.getElem?_range hj] at hv
                              simp at hv
                              obtain ⟨u, u', y1, y2, y3, _⟩ := hf j hj
                              rw [Addr.add_lit, Nat.add_zero, y2, ← hv, y3]
                            · obtain ⟨j, hj, rfl⟩ := List.mem_map.1 hu
                              obtain ⟨u, u', y1, y2, y3, _, y5⟩ := hf j (by simpa using hj)
                              rw [y3]; exact y5
                            · obtain ⟨u, u', y1, y2, y3, y4, _⟩ := hf j hj
                              exact ⟨u, u', y1, by rw [List.getElem?_map, List.getElem?_range hj]; simp [y3], y4⟩
                          obtain ⟨olds', r2, r3, r4, r5⟩ := hrd
                          obtain ⟨more, cap', b1, b2, b3⟩ := a1.grow t ty (some ⟨pl.b, pl.base + 0, none⟩) len cc olds' hu (run_firstCells_some w.drew i.size len _ _ _ olds' r2 (by simpa using r3)) r2 (by omega) q1 q2
                          refine ⟨_, _, φ.ext h.next ⟨w.heap.size, 0, ((olds' ++ l') ++ more).length, i.size⟩, [a], b1, hext, ?_, ?_⟩
                          · have := RV.sl (φ := φ.ext h.next ⟨w.heap.size, 0, ((olds' ++ l') ++ more).length, i.size⟩) h.next 0 (len + m) (len + m) cap' false _ (Map.ext_same _ _ _) (Nat.le_refl _) b2 (fun h => by cases h) (fun _ => by
                              show 0 + 0 + cap' * i.size ≤ ((olds' ++ l') ++ more).length
                              rw [b3]; omega)
                            exact this
                          · refine Post.move1 c.hr (fun x hx hpx => c.bey x (by omega) hpx) c.fresh a p1 _ _ pl _ hag rfl hp rfl rfl rfl (by simp) (fun b hb _ => ?_) (.inr (Nat.le_refl _)) ⟨((olds' ++ l') ++ more).toArray, el, (0, 0), ?_, rfl, by simp, ?_, fun j hj => ?_, fun _ => ⟨rfl, fun j _ => by simp⟩⟩ (fun _ => rfl)
                            · show (w.heap.push _)[b]? = _
                              rw [Array.getElem?_push, if_neg (by omega)]
                            · show (w.heap.push _)[w.heap.size]? = _
                              rw [Array.getElem?_push, if_pos rfl]
                            · show 0 + (len + m) * i.size ≤ ((olds' ++ l') ++ more).toArray.size
                              simp only [List.size_toArray, List.length_append, r2, a1.len, Nat.add_mul]
                              omega
                            · show ∃ v v', (wr tr (len * i.size) news).get j = some v ∧ ((olds' ++ l') ++ more).toArray[0 + j]? = some v' ∧ _
                              rw [wr_get, Nat.zero_add, List.getElem?_toArray]
                              rw [Nat.add_mul] at hj
                              rw [List.getElem?_append_left (by simp only [List.length_append, r2, a1.len]; omega)]
                              by_cases hjn : len * i.size ≤ j
                              · rw [if_pos (by omega), List.getElem?_append_right (by omega), r2]
                                have hlt : j - len * i.size < news.length := by omega
                                obtain ⟨v', y1, y2⟩ := a2.get (List.getElem?_eq_getElem hlt)
                                exact ⟨_, v', List.getElem?_eq_getElem hlt, y1, y2.mono (Map.le_ext _ c.fresh), fun _ => a1.one v' (List.mem_of_getElem? y1)⟩
                              · rw [if_neg (by omega), List.getElem?_append_left (by omega)]
                                obtain ⟨v, v', y1, y2, y3⟩ := r5 j (by omega)
                                exact ⟨v, v', y1, y2, y3.mono (Map.le_ext _ c.fresh), fun _ => r4 v' (List.mem_of_getElem? y2)⟩

end Go.Ab
