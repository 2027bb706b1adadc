/-
  An abstract interpreter of the model's code, part 4: operations on values alone. Conditions: none.
-/
import Derived.Test.YtednpcncjiaahaaAb3
import Derived.Laws.Tables
import Derived.Laws.StructEq
set_option linter.unusedVariables false
set_option linter.unusedSimpArgs false
namespace Go.Ab
open Go

/-! aggregates -/
def V.nu : V → Bool
  | .und => false
  | _ => true
theorem RV.cells' {φ : Map} {v : V} {v' : Value} (h : RV φ v v') (hn : v.nu = true) : RVs φ v.cells v'.cells.toList := by
  cases h with
  | und => simp [V.nu] at hn
  | agg l l' h1 h2 => exact ⟨by simpa [V.cells, Value.cells] using h1, fun j a b ha hb => h2 j a b ha (by simpa [Value.cells] using hb)⟩
  | b => exact RVs.cons (.b _) (RVs.nil φ)
  | i => exact RVs.cons (.i _ _) (RVs.nil φ)
  | s b x h => exact RVs.cons (.s b x h) (RVs.nil φ)
  | p0 => exact RVs.cons .p0 (RVs.nil φ)
  | p a o pl h => exact RVs.cons (.p a o pl h) (RVs.nil φ)
  | sl0 => exact RVs.cons .sl0 (RVs.nil φ)
  | sl a o len cap c x pl h1 h2 h3 h4 h5 => exact RVs.cons (.sl a o len cap c x pl h1 h2 h3 h4 h5) (RVs.nil φ)
  | m0 => exact RVs.cons .m0 (RVs.nil φ)
  | m r pl h h0 => exact RVs.cons (.m r pl h h0) (RVs.nil φ)
  | f fn fs cs fs' cs' h1 h2 h3 h4 => exact RVs.cons (.f fn fs cs fs' cs' h1 h2 h3 h4) (RVs.nil φ)
  | f0 => exact RVs.cons .f0 (RVs.nil φ)
  | ifc t v v' h => exact RVs.cons (.ifc t v v' h) (RVs.nil φ)
  | i0 => exact RVs.cons .i0 (RVs.nil φ)
  | tup l l' h1 h2 => exact RVs.cons (.tup l l' h1 h2) (RVs.nil φ)

def splice (cells : List V) (off : Nat) (x : List V) : List V := cells.take off ++ (x ++ cells.drop (off + x.length))
theorem splice_get {α : Type} (cells x : List α) (off j : Nat) (h : off + x.length ≤ cells.length) :
    (cells.take off ++ (x ++ cells.drop (off + x.length)))[j]? = if off ≤ j ∧ j < off + x.length then x[j - off]? else cells[j]? := by
  have hl : (cells.take off).length = off := by rw [List.length_take]; omega
  by_cases h1 : j < off
  · rw [List.getElem?_append_left (by omega), if_neg (by omega), List.getElem?_take, if_pos h1]
  · rw [List.getElem?_append_right (by omega), hl]
    by_cases h2 : j < off + x.length
    · rw [List.getElem?_append_left (by omega), if_pos (by omega)]
    · rw [List.getElem?_append_right (by omega), if_neg (by omega), List.getElem?_drop]
      congr 1; omega
theorem foldl_set (off : Nat) : ∀ (x : List Value) (k : Nat) (cs : Array Value), off + k + x.length ≤ cs.size →
    ((x.zipIdx k).foldl (fun (cs : Array Value) (p : Value × Nat) => cs.setIfInBounds (off + p.2) p.1) cs).size = cs.size ∧
    ∀ j, ((x.zipIdx k).foldl (fun (cs : Array Value) (p : Value × Nat) => cs.setIfInBounds (off + p.2) p.1) cs)[j]? = if off + k ≤ j ∧ j < off + k + x.length then x[j - (off + k)]? else cs[j]?
  | [], k, cs, _ => ⟨rfl, fun j => by rw [if_neg (by simp)]; rfl⟩
  | v :: x, k, cs, h => by
    obtain ⟨h1, h2⟩ := foldl_set off x (k + 1) (cs.setIfInBounds (off + k) v) (by simp at h ⊢; omega)
    refine ⟨by simpa using h1, fun j => ?_⟩
    have h3 := h2 j
    simp only [List.zipIdx_cons, List.foldl_cons]
    rw [h3]
    by_cases hj : j = off + k
    · subst hj
      rw [if_neg (by omega), if_pos (by simp)]
      have : off + k < cs.size := by simp at h; omega
      simp [this]
    · by_cases h4 : off + (k + 1) ≤ j ∧ j < off + (k + 1) + x.length
      · rw [if_pos h4, if_pos (by simp; omega), show j - (off + k) = (j - (off + (k + 1))) + 1 by omega]; simp
      · rw [if_neg h4, if_neg (by simp; omega), Array.getElem?_setIfInBounds, if_neg (fun e => hj e.symm)]
theorem RVs.splice {φ : Map} {cells x : List V} {cs : Array Value} {x' : Array Value} {off : Nat} (h : RVs φ cells cs.toList) (hx : RVs φ x x'.toList) (hl : off + x.length ≤ cells.length) :
    RVs φ (Ab.splice cells off x) (x'.zipIdx.foldl (fun (cs : Array Value) (p : Value × Nat) => cs.setIfInBounds (off + p.2) p.1) cs).toList := by
  have hxl : x.length = x'.toList.length := hx.1
  have hcl : cells.length = cs.toList.length := h.1
  obtain ⟨h1, h2⟩ := foldl_set off x'.toList 0 cs (by simp at hcl hxl ⊢; omega)
  have e : x'.zipIdx.foldl (fun (cs : Array Value) (p : Value × Nat) => cs.setIfInBounds (off + p.2) p.1) cs = (x'.toList.zipIdx 0).foldl (fun (cs : Array Value) (p : Value × Nat) => cs.setIfInBounds (off + p.2) p.1) cs := by
    rw [← Array.foldl_toList]; simp
  rw [e]
  refine ⟨?_, fun j v v' hv hv' => ?_⟩
  · simp only [Array.length_toList, h1, Ab.splice, List.length_append, List.length_take, List.length_drop]
    simp at hcl
    omega
  · rw [Array.getElem?_toList, h2 j] at hv'
    rw [Ab.splice, splice_get cells x off j hl] at hv
    simp only [Nat.add_zero] at hv'
    by_cases hin : off ≤ j ∧ j < off + x.length
    · rw [if_pos hin] at hv
      rw [if_pos (by omega)] at hv'
      exact hx.2 _ _ _ hv hv'
    · rw [if_neg hin] at hv
      rw [if_neg (by omega)] at hv'
      exact h.2 j v v' hv (by simpa using hv')

noncomputable def fillV (place : Nat → Option (Nat × Nat)) (cells : List V) (l : List (Nat × V)) : Option (List V) :=
  List.rec (motive := fun _ => List V → Option (List V)) (fun cells => some cells)
    (fun p _ ih cells => match place p.1 with
      | none => none
      | some (off, size) => okc (and p.2.nu (and (Nat.beq p.2.cells.length size) (Nat.ble (off + p.2.cells.length) cells.length))) (ih (splice cells off p.2.cells))) l cells

def RParts (φ : Map) (l : List (Nat × V)) (l' : List (Nat × Value)) : Prop := l.map (·.1) = l'.map (·.1) ∧ RVs φ (l.map (·.2)) (l'.map (·.2))
theorem fill_ok {φ : Map} {place : Nat → Option (Nat × Nat)} : ∀ {l : List (Nat × V)} {l' : List (Nat × Value)} {cells r : List V} {cs : Array Value}, fillV place cells l = some r → RParts φ l l' → RVs φ cells cs.toList →
    ∃ rs, Instr.fill place cs l' = some rs ∧ RVs φ r rs.toList
  | [], l', cells, r, cs, h, hp, hc => by
    have : l' = [] := by have := hp.1; simpa using this.symm
    subst this
    cases h
    exact ⟨cs, rfl, hc⟩
  | (i, v) :: l, l', cells, r, cs, h, hp, hc => by
    cases l' with
    | nil => exact absurd hp.1 (by simp)
    | cons p' l' =>
      obtain ⟨i', v'⟩ := p'
      obtain ⟨hp1, hp2⟩ := hp
      simp at hp1
      obtain ⟨rfl, hp1⟩ := hp1
      have h' : (match place i with
        | none => none
        | some (off, size) => okc (and v.nu (and (Nat.beq v.cells.length size) (Nat.ble (off + v.cells.length) cells.length))) (fillV place (splice cells off v.cells) l)) = some r := h
      have hv : RV φ v v' := hp2.head
      cases hpl : place i with
      | none => rw [hpl] at h'; cases h'
      | some q =>
        obtain ⟨off, size⟩ := q
        rw [hpl] at h'
        simp only at h'
        obtain ⟨h1, h2⟩ := okc_some h'
        simp only [Bool.and_eq_true] at h1
        obtain ⟨q1, q2, q3⟩ := h1
        have q2 := Nat.eq_of_beq_eq_true q2
        have q3 := Nat.le_of_ble_eq_true q3
        have hvc := hv.cells' q1
        have hsz : v'.cells.size = size := by rw [← q2, hvc.1]; simp
        have hlen : cells.length = cs.size := by simpa using hc.1
        obtain ⟨rs, r1, r2⟩ := fill_ok h2 ⟨hp1, hp2.tail⟩ (hc.splice hvc q3)
        refine ⟨rs, ?_, r2⟩
        unfold Instr.fill
        simp only [hpl]
        rw [if_neg (by simp [hsz]; omega)]
        exact r1

noncomputable def placesOf (P : Program) (fields : Array Field) : Option (List (Nat × Nat)) := fields.toList.mapM (fun f => (P.info? f.type).map fun i => (f.offset, i.size))
noncomputable def buildV (P : Program) (t : TypeId) (parts : List (Nat × V)) : Option V :=
  match P.info? t, P.underlying t with
  | some it, some (.array _ e) =>
    match it.zero, P.info? e with
    | some z, some ie => okc (ofC z).nu ((fillV (fun i => some (i * ie.size, ie.size)) (ofC z).cells parts).map .agg)
    | _, _ => none
  | some it, some (.struct fields) =>
    match it.zero, placesOf P fields with
    | some z, some places => okc (ofC z).nu ((fillV (fun i => places[i]?) (ofC z).cells parts).map .agg)
    | _, _ => none
  | _, _ => none

theorem build_ok {P : Program} {t : TypeId} {parts : List (Nat × V)} {r : V} (h : buildV P t parts = some r) {φ : Map} {parts' : List (Nat × Value)} (hp : RParts φ parts parts') :
    ∃ cs, P.built t parts' = some cs ∧ RV φ r (.agg cs) := by
  unfold buildV at h
  unfold Program.built
  cases hit : P.info? t with
  | none => rw [hit] at h; cases h
  | some it =>
    cases hu : P.underlying t with
    | none => rw [hit, hu] at h; cases h
    | some d =>
      rw [hit, hu] at h
      cases hz : it.zero with
      | none => cases d <;> simp [hz] at h
      | some z =>
        cases d <;> try (simp at h; done)
        case array n e =>
          cases hie : P.info? e with
          | none => simp [hz, hie] at h
          | some ie =>
            simp only [hz, hie] at h
            obtain ⟨h1, h2⟩ := okc_some h
            cases hf : fillV (fun i => some (i * ie.size, ie.size)) (ofC z).cells parts with
            | none => rw [hf] at h2; cases h2
            | some l =>
              rw [hf] at h2; cases h2
              obtain ⟨rs, r1, r2⟩ := fill_ok hf hp ((RV.ofC φ z).cells' h1)
              simp only [hz, hie]
              exact ⟨rs, r1, RV.agg_mk r2⟩
        case struct fields =>
          cases hpl : placesOf P fields with
          | none => simp [hz, hpl] at h
          | some places =>
            simp only [hz, hpl] at h
            obtain ⟨h1, h2⟩ := okc_some h
            cases hf : fillV (fun i => places[i]?) (ofC z).cells parts with
            | none => rw [hf] at h2; cases h2
            | some l =>
              rw [hf] at h2; cases h2
              obtain ⟨rs, r1, r2⟩ := fill_ok hf hp ((RV.ofC φ z).cells' h1)
              unfold placesOf at hpl
              simp only [hz, hpl]
              exact ⟨rs, by simpa using r1, RV.agg_mk r2⟩
theorem run_buildV {P : Program} {t : TypeId} {parts : List (Nat × V)} {r : V} (h : buildV P t parts = some r) {φ : Map} {parts' : Array (Nat × Value)} (hp : RParts φ parts parts'.toList) (w : World) :
    ∃ r', (Instr.build t parts').run P w = .ok r' w ∧ RV φ r r' := by
  obtain ⟨cs, h1, h2⟩ := build_ok h hp
  exact ⟨.agg cs, run_build w t parts' cs h1, h2⟩

/-! a part of an aggregate -/
noncomputable def partV (P : Program) (t : TypeId) (cs : List V) (off : Nat) : Option V :=
  match P.underlying t with
  | some d =>
    match aggD d with
    | true =>
      match szOf P t with
      | some sz => some (.agg ((cs.take (off + sz)).drop off))
      | none => none
    | false => cs[off]?
  | none => none
theorem run_partV {P : Program} {t : TypeId} {cs : List V} {off : Nat} {r : V} (h : partV P t cs off = some r) {φ : Map} {cs' : Array Value} (hc : RVs φ cs cs'.toList) (w : World) :
    ∃ r', (part t cs' off).run P w = .ok r' w ∧ RV φ r r' := by
  unfold partV at h
  cases hd : P.underlying t with
  | none => rw [hd] at h; cases h
  | some d =>
    rw [hd] at h
    simp only at h
    cases ha : aggD d with
    | true =>
      rw [ha] at h
      simp only at h
      cases hs : szOf P t with
      | none => rw [hs] at h; cases h
      | some sz =>
        rw [hs] at h; cases h
        refine ⟨.agg (cs'.extract off (off + sz)), by simp [part, run_isAgg hd, ha, run_sizeOf hs], RV.agg_mk ⟨?_, fun j v v' hv hv' => ?_⟩⟩
        · have := hc.1
          simp at this
          simp [this]
          omega
        · rw [Array.getElem?_toList, Array.getElem?_extract] at hv'
          have e1 : ∀ i, ((cs.take (off + sz)).drop off)[i]? = if off + i < off + sz then cs[off + i]? else none := fun i => by
            rw [List.getElem?_drop, List.getElem?_take]
          rw [e1] at hv
          split at hv
          · split at hv'
            · exact hc.2 _ _ _ hv (by simpa using hv')
            · cases hv'
          · cases hv
    | false =>
      rw [ha] at h
      simp only at h
      obtain ⟨v', h1, h2⟩ := hc.get h
      have h1' : cs'[off]? = some v' := by simpa using h1
      exact ⟨v', by simp [part, run_isAgg hd, ha, h1'], h2⟩

noncomputable def fieldV (P : Program) (t : TypeId) (v : V) (i : Nat) : Option V :=
  match P.underlying t, v with
  | some (.struct fields), .agg cs => match fields[i]? with
    | some f => partV P f.type cs f.offset
    | none => none
  | _, _ => none
theorem run_fieldV {P : Program} {t : TypeId} {v : V} {i : Nat} {r : V} (h : fieldV P t v i = some r) {φ : Map} {v' : Value} (hv : RV φ v v') (w : World) : ∃ r', (Instr.field t v' i).run P w = .ok r' w ∧ RV φ r r' := by
  unfold fieldV at h
  cases hu : P.underlying t with
  | none => rw [hu] at h; cases h
  | some d =>
    rw [hu] at h
    cases d <;> try (cases h; done)
    case struct fields =>
      cases v <;> try (cases h; done)
      case agg cs =>
        obtain ⟨cs', rfl, hc⟩ := hv.agg_inv
        simp only at h
        cases hf : fields[i]? with
        | none => rw [hf] at h; cases h
        | some f =>
          rw [hf] at h
          obtain ⟨r', h1, h2⟩ := run_partV h hc w
          exact ⟨r', by simp [Instr.field, run_underlying hu, hf, asAgg, h1], h2⟩

/-! addresses -/
noncomputable def fieldAddrV (P : Program) (s : TypeId) (v : V) (i : Nat) : Option V :=
  match P.underlying s, v with
  | some (.struct fields), .p (some (a, o)) => match fields[i]? with
    | some f => match szOf P f.type with
      | some (_ + 1) => some (.p (some (a, o + f.offset)))
      | _ => none
    | none => none
  | _, _ => none
theorem run_fieldAddrV {P : Program} {t : TypeId} {v : V} {i : Nat} {r : V} (h : fieldAddrV P t v i = some r) {φ : Map} {v' : Value} (hv : RV φ v v') (w : World) : ∃ r', (Instr.fieldAt t v' i).run P w = .ok r' w ∧ RV φ r r' := by
  unfold fieldAddrV at h
  cases hu : P.underlying t with
  | none => rw [hu] at h; cases h
  | some d =>
    rw [hu] at h
    cases d <;> try (cases h; done)
    case struct fields =>
      cases hv <;> try (cases h; done)
      case p a o pl hp =>
        simp only at h
        cases hf : fields[i]? with
        | none => rw [hf] at h; cases h
        | some f =>
          rw [hf] at h
          simp only at h
          cases hs : szOf P f.type with
          | none => rw [hs] at h; cases h
          | some n =>
            rw [hs] at h
            cases n with
            | zero => cases h
            | succ n =>
              cases h
              exact ⟨.pointer (some ⟨pl.b, pl.base + (o + f.offset), none⟩), by simp [Instr.fieldAt, run_underlying hu, hf, Instr.sureAddr, fieldPlace, run_sizeOf hs, Addr.add_lit, Nat.add_assoc], .p a (o + f.offset) pl hp⟩

noncomputable def indexAddrV (P : Program) (t : TypeId) (x ix : V) : Option V :=
  match P.underlying t, x, ix with
  | some (.array len elem), .p (some (a, o)), .i _ n =>
    match n, szOf P elem with
    | .ofNat m, some sz => okc (Nat.blt m len) (some (.p (some (a, o + m * sz))))
    | _, _ => none
  | some (.slice elem), .sl (some (a, o)) len _ _, .i _ n =>
    match n, szOf P elem with
    | .ofNat m, some sz => okc (Nat.blt m len) (some (.p (some (a, o + m * sz))))
    | _, _ => none
  | _, _, _ => none
theorem run_indexAddrV {P : Program} {t : TypeId} {x ix r : V} (h : indexAddrV P t x ix = some r) {φ : Map} {x' ix' : Value} (hx : RV φ x x') (hi : RV φ ix ix') (w : World) : ∃ r', (Instr.indexAt t x' ix').run P w = .ok r' w ∧ RV φ r r' := by
  unfold indexAddrV at h
  cases hu : P.underlying t with
  | none => rw [hu] at h; cases h
  | some d =>
    rw [hu] at h
    cases d <;> try (cases h; done)
    case array len elem =>
      cases hx <;> try (cases h; done)
      case p a o pl hp =>
        cases hi <;> try (cases h; done)
        case i k n =>
          simp only at h
          cases n with
          | negSucc m => cases h
          | ofNat m =>
            cases hs : szOf P elem with
            | none => rw [hs] at h; cases h
            | some sz =>
              rw [hs] at h
              obtain ⟨h1, h2⟩ := okc_some h
              cases h2
              have hlt : m < len := Nat.le_of_ble_eq_true h1
              exact ⟨.pointer (some ⟨pl.b, pl.base + (o + m * sz), none⟩), by simp [Instr.indexAt, asIntOf, run_underlying hu, Instr.sureAddr, run_sizeOf hs, Addr.add_lit, hlt, Nat.add_assoc], .p a (o + m * sz) pl hp⟩
    case slice elem =>
      cases hx <;> try (cases h; done)
      case sl a o sl cap c x pl hp h1 h2 h3 h4 =>
        cases hi <;> try (cases h; done)
        case i k n =>
          simp only at h
          cases n with
          | negSucc m => cases h
          | ofNat m =>
            cases hs : szOf P elem with
            | none => rw [hs] at h; cases h
            | some sz =>
              rw [hs] at h
              obtain ⟨h1, h2⟩ := okc_some h
              cases h2
              have hlt : m < sl := Nat.le_of_ble_eq_true h1
              exact ⟨.pointer (some ⟨pl.b, pl.base + (o + m * sz), none⟩), by simp [Instr.indexAt, asIntOf, run_underlying hu, run_sizeOf hs, Addr.add_lit, hlt, Nat.add_assoc], .p a (o + m * sz) pl hp⟩

noncomputable def indexV (P : Program) (t : TypeId) (x ix : V) : Option V :=
  match P.underlying t, x, ix with
  | some (.array len elem), .agg cs, .i _ n =>
    match n, szOf P elem with
    | .ofNat m, some sz => okc (Nat.blt m len) (partV P elem cs (m * sz))
    | _, _ => none
  | some .string, .s l, .i _ n =>
    match n with
    | .ofNat m => okc (Nat.blt m l.n) (some (.i .u8 (.ofNat (l.byte m))))
    | _ => none
  | _, _, _ => none
theorem bytes_get (s : ByteArray) (m : Nat) : s[m]? = s.data.toList[m]? := by
  have e : s.size = s.data.toList.length := (Array.length_toList).symm
  by_cases h : m < s.size
  · rw [getElem?_pos s m h, List.getElem?_eq_getElem (by rw [← e]; exact h)]
    rfl
  · rw [getElem?_neg s m h, List.getElem?_eq_none (by rw [← e]; omega)]
theorem run_indexV {P : Program} {t : TypeId} {x ix r : V} (h : indexV P t x ix = some r) {φ : Map} {x' ix' : Value} (hx : RV φ x x') (hi : RV φ ix ix') (w : World) : ∃ r', (Instr.index t x' ix').run P w = .ok r' w ∧ RV φ r r' := by
  unfold indexV at h
  cases hu : P.underlying t with
  | none => rw [hu] at h; cases h
  | some d =>
    rw [hu] at h
    cases d <;> try (cases h; done)
    case array len elem =>
      cases x <;> try (cases h; done)
      case agg cs =>
        obtain ⟨cs', rfl, hc⟩ := hx.agg_inv
        cases hi <;> try (cases h; done)
        case i k n =>
          simp only at h
          cases n with
          | negSucc m => cases h
          | ofNat m =>
            cases hs : szOf P elem with
            | none => rw [hs] at h; cases h
            | some sz =>
              rw [hs] at h
              obtain ⟨h1, h2⟩ := okc_some h
              have hlt : m < len := Nat.le_of_ble_eq_true h1
              obtain ⟨r', r1, r2⟩ := run_partV h2 hc w
              exact ⟨r', by simp [Instr.index, asIntOf, run_underlying hu, run_sizeOf hs, hlt, r1], r2⟩
    case string =>
      cases hx <;> try (cases h; done)
      case s bb s hb =>
        cases hi <;> try (cases h; done)
        case i k n =>
          simp only at h
          cases n with
          | negSucc m => cases h
          | ofNat m =>
            simp only at h
            obtain ⟨h1, h2⟩ := okc_some h
            cases h2
            have h1 : m < bb.n := Nat.le_of_ble_eq_true h1
            have hb' : s[m]? = some (UInt8.ofNat (bb.v >>> (8 * m))) := by rw [bytes_get, hb, SB.list_get, if_pos h1]
            refine ⟨.int .u8 (UInt8.ofNat (bb.v >>> (8 * m))).toNat, ?_, by rw [← SB.byte_eq]; exact .i _ _⟩
            simp [Instr.index, asIntOf, run_underlying hu, hb']

/-! tuples, functions, interfaces -/
noncomputable def extractV (v : V) (i : Nat) : Option V :=
  match v with
  | .tup l => l[i]?
  | _ => none
theorem run_extractV {P : Program} {v r : V} {i : Nat} (h : extractV v i = some r) {φ : Map} {v' : Value} (hv : RV φ v v') (w : World) : ∃ r', (Instr.extract v' i).run P w = .ok r' w ∧ RV φ r r' := by
  cases v <;> try (cases h; done)
  case tup l =>
    obtain ⟨l', rfl, hl⟩ := hv.tup_inv
    obtain ⟨r', h1, h2⟩ := hl.get h
    have h1' : l'[i]? = some r' := by simpa using h1
    exact ⟨r', by simp [Instr.extract, h1'], h2⟩

noncomputable def makeIfaceV (P : Program) (t : TypeId) (v : V) : Option V :=
  match P.underlying t with
  | some (.interface _) => none
  | some _ => some (.ifc t v)
  | none => none
theorem run_makeIfaceV {P : Program} {t : TypeId} {v r : V} (h : makeIfaceV P t v = some r) {φ : Map} {v' : Value} (hv : RV φ v v') (w : World) : ∃ r', (Instr.makeInterface t v').run P w = .ok r' w ∧ RV φ r r' := by
  unfold makeIfaceV at h
  cases hu : P.underlying t with
  | none => rw [hu] at h; cases h
  | some d =>
    rw [hu] at h
    cases d <;> first
      | (cases h; done)
      | (cases h; exact ⟨.iface t v', by simp [Instr.makeInterface, run_underlying hu], .ifc t v v' hv⟩)

end Go.Ab
