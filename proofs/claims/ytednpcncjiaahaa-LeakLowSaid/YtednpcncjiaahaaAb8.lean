/-
  An abstract interpreter of the model's code, part 8: rows that are made, grown, copied. Conditions: none.
-/
import Derived.Test.YtednpcncjiaahaaAb7
import Derived.Lib.AppendZerosOnto
set_option linter.unusedVariables false
set_option linter.unusedSimpArgs false
namespace Go.Ab
open Go

/-! as many as are asked for -/
noncomputable def repV {α : Type} (z : List α) (k : Nat) : List α := Nat.rec (motive := fun _ => List α) [] (fun _ ih => z ++ ih) k
theorem repV_succ {α : Type} (z : List α) (k : Nat) : repV z (k + 1) = z ++ repV z k := rfl
theorem repV_length {α : Type} (z : List α) : ∀ k, (repV z k).length = k * z.length
  | 0 => by rw [Nat.zero_mul]; rfl
  | k + 1 => by rw [repV_succ, List.length_append, repV_length z k, Nat.add_mul]; omega
theorem repV_get {α : Type} (z : List α) : ∀ (k i : Nat), i < k * z.length → (repV z k)[i]? = z[i % z.length]?
  | 0, i, h => by omega
  | k + 1, i, h => by
    rw [repV_succ]
    rw [Nat.add_mul] at h
    by_cases hi : i < z.length
    · rw [List.getElem?_append_left hi, Nat.mod_eq_of_lt hi]
    · rw [List.getElem?_append_right (by omega), repV_get z k _ (by omega)]
      congr 1
      rw [← Nat.mod_eq_sub_mod (by omega)]
theorem RVs.repV {φ : Map} {z : List V} {z' : List Value} (h : RVs φ z z') : ∀ k, RVs φ (Ab.repV z k) (Ab.repV z' k)
  | 0 => RVs.nil φ
  | k + 1 => h.append (RVs.repV h k)
theorem repV_mem {α : Type} {z : List α} {u : α} : ∀ {k : Nat}, u ∈ repV z k → u ∈ z
  | 0, h => by cases h
  | k + 1, h => by
    rw [repV_succ, List.mem_append] at h
    exact h.elim id repV_mem
theorem range0 (f : Nat → Value) : ((Array.range 0).map f).toList = [] := by simp
theorem rep_array (z : Array Value) (k : Nat) : ((Array.range (k * z.size)).map (fun i => z[i % z.size]!)).toList = repV z.toList k := by
  apply List.ext_getElem?
  intro i
  by_cases h : i < k * z.size
  · rw [repV_get _ _ _ (by simpa using h)]
    have hz : 0 < z.size := by
      rcases Nat.eq_zero_or_pos z.size with h0 | h0
      · rw [h0] at h; omega
      · exact h0
    have hm : i % z.size < z.size := Nat.mod_lt _ hz
    simp [h, hm]
  · rw [List.getElem?_eq_none (by simp; omega), List.getElem?_eq_none (by rw [repV_length]; simp; omega)]
theorem zeroCells_list (z : Array Value) (k : Nat) : (Builtin.zeroCells z k).toList = repV z.toList k := by
  rw [← rep_array]; rfl

/-- a new row that a slice has -/
noncomputable def newSl (l : List V) (es len : Nat) (h : Heap) : V × Heap := (.sl (some (h.next, 0)) len len true, h.new (.cells l.length es (wr .e 0 l) true))
theorem snd_newSl {P : Program} {s : Sem Value} {φ : Map} {g : Nat → Option Blk} {h : Heap} {w : World} (c : Cx φ g h w) {l : List V} {l' : List Value} (hl : RVs φ l l') (h1 : ∀ u ∈ l', u.oneCell' = true) (es len : Nat) (e : TypeId)
    (hr : s.run P w = .ok (.slice (some ⟨w.heap.size, 0, none⟩) len len) { w with heap := w.heap.push (.cells l'.toArray e (0, 0)) }) : Snd P s φ g h w (newSl l es len h) := by
  have hp := new_row c (Drawn.refl w) l l' hl h1 es e []
  rw [List.append_nil] at hp
  refine ⟨_, _, _, [], hr, Ext.new h _, ?_, hp⟩
  have := RV.sl (φ := φ.ext h.next ⟨w.heap.size, 0, l'.length + ([] : List Value).length, es⟩) h.next 0 len len len true _ (Map.ext_same _ _ _) (Nat.le_refl _) (Nat.le_refl _) (fun _ => rfl) (fun h => by cases h)
  exact this

noncomputable def buildSliceV (P : Program) (t : TypeId) (len : Nat) (parts : List (Nat × V)) (h : Heap) : Option (V × Heap) :=
  match P.underlying t with
  | some (.slice e) =>
    match P.info? e with
    | some i =>
      match i.zero with
      | some z =>
        match fillV (fun j => some (j * i.size, i.size)) (repV (ofC z).cells len) parts with
        | some l => okc (and (ofC z).nu (and (Nat.beq (ofC z).cells.length i.size) (and (Nat.ble (len * i.size) 16777216) (l.all V.sc)))) (some (newSl l i.size len h))
        | none => none
      | none => none
    | none => none
  | _ => none
theorem snd_buildSlice {P : Program} {t : TypeId} {len : Nat} {parts : List (Nat × V)} {h : Heap} {r : V × Heap} (e : buildSliceV P t len parts h = some r) {φ : Map} {g : Nat → Option Blk} {w : World} (c : Cx φ g h w)
    {parts' : Array (Nat × Value)} (hp : RParts φ parts parts'.toList) : Snd P (Instr.buildSlice t len parts') φ g h w r := by
  unfold buildSliceV at e
  cases hu : P.underlying t with
  | none => rw [hu] at e; cases e
  | some d =>
    rw [hu] at e
    cases d <;> try (cases e; done)
    case slice el =>
      simp only at e
      cases hi : P.info? el with
      | none => rw [hi] at e; cases e
      | some i =>
        rw [hi] at e
        simp only at e
        cases hz : i.zero with
        | none => rw [hz] at e; cases e
        | some z =>
          rw [hz] at e
          simp only at e
          cases hf : fillV (fun j => some (j * i.size, i.size)) (repV (ofC z).cells len) parts with
          | none => rw [hf] at e; cases e
          | some l =>
            rw [hf] at e
            obtain ⟨e1, e2⟩ := okc_some e
            cases e2
            simp only [Bool.and_eq_true] at e1
            obtain ⟨k1, k2, k3, k4⟩ := e1
            have k2 := Nat.eq_of_beq_eq_true k2
            have k3 := Nat.le_of_ble_eq_true k3
            have hzc := (RV.ofC φ z).cells' k1
            have hzs : z.cells.size = i.size := by rw [← k2, hzc.1]; simp
            -- the zeros
            have hz0 : RVs φ (repV (ofC z).cells len) ((Array.range (len * i.size)).map (fun j => (if len * i.size = 0 then #[] else z.cells)[j % (if len * i.size = 0 then (#[] : Array Value) else z.cells).size]!)).toList := by
              by_cases h0 : len * i.size = 0
              · have : repV (ofC z).cells len = [] := List.eq_nil_of_length_eq_zero (by rw [repV_length, k2]; exact h0)
                rw [this, h0, range0]; exact RVs.nil φ
              · rw [if_neg h0, ← hzs, rep_array]; exact hzc.repV len
            obtain ⟨rs, f1, f2⟩ := fill_ok hf hp hz0
            have f1' : Instr.fill (fun j => some (j * i.size, i.size)) ((Array.range (len * i.size)).map (fun j => (if len * i.size = 0 then #[] else z.cells)[j % (if len * i.size = 0 then (#[] : Array Value) else z.cells).size]!)) parts'.toList = some rs := f1
            refine snd_newSl c f2 (all_oneCell f2 k4) i.size len el ?_
            by_cases h0 : len * i.size = 0
            · have hlt : ¬ (len * i.size > 2 ^ 24) := by omega
              have f2' : Instr.fill (fun j => some (j * i.size, i.size)) ((Array.range 0).map (fun _ => default)) parts'.toList = some rs := by simpa [h0] using f1'
              simp [Instr.buildSlice, run_underlying hu, sizeOf, typeInfo, hi, h0, newRow, f2']
            · have hlt : ¬ (16777216 < len * i.size) := by omega
              have f2' : Instr.fill (fun j => some (j * i.size, i.size)) ((Array.range (len * i.size)).map (fun j => z.cells[j % z.cells.size]!)) parts'.toList = some rs := by simpa [h0] using f1'
              simp [Instr.buildSlice, run_underlying hu, sizeOf, typeInfo, hi, h0, hlt, zeroValue, hz, newRow, f2']

noncomputable def makeSliceV (P : Program) (t : TypeId) (x y : V) (h : Heap) : Option (V × Heap) :=
  match P.underlying t, x, y with
  | some (.slice e), .i _ (.ofNat l), .i _ (.ofNat c) =>
    match P.info? e with
    | some i =>
      match i.zero with
      | some z => okc (and (ofC z).nu (and (Nat.beq (ofC z).cells.length i.size) (and (Nat.ble l c) (and (Nat.ble c 4611686018427387904) (and (Nat.ble (c * i.bytes) 140737488355328) ((ofC z).cells.all V.sc))))))
          (some (.sl (some (h.next, 0)) l c true, h.new (.cells (c * i.size) i.size (wr .e 0 (repV (ofC z).cells c)) true)))
      | none => none
    | none => none
  | _, _, _ => none
theorem snd_makeSlice {P : Program} {t : TypeId} {x y : V} {h : Heap} {r : V × Heap} (e : makeSliceV P t x y h = some r) {φ : Map} {g : Nat → Option Blk} {w : World} (c : Cx φ g h w)
    {x' y' : Value} (hx : RV φ x x') (hy : RV φ y y') : Snd P (Instr.makeSlice t x' y') φ g h w r := by
  unfold makeSliceV at e
  cases hu : P.underlying t with
  | none => rw [hu] at e; cases e
  | some d =>
    rw [hu] at e
    cases d <;> try (cases e; done)
    case slice el =>
      cases hx <;> try (cases e; done)
      case i k1 n1 =>
        cases n1 <;> try (cases e; done)
        case ofNat l =>
          cases hy <;> try (cases e; done)
          case i k2 n2 =>
            cases n2 <;> try (cases e; done)
            case ofNat cc =>
              simp only at e
              cases hi : P.info? el with
              | none => rw [hi] at e; cases e
              | some i =>
                rw [hi] at e
                simp only at e
                cases hz : i.zero with
                | none => rw [hz] at e; cases e
                | some z =>
                  rw [hz] at e
                  obtain ⟨e1, e2⟩ := okc_some e
                  cases e2
                  simp only [Bool.and_eq_true] at e1
                  obtain ⟨q1, q2, q3, q4, q5, q6⟩ := e1
                  have q2 := Nat.eq_of_beq_eq_true q2
                  have q3 := Nat.le_of_ble_eq_true q3
                  have q4 := Nat.le_of_ble_eq_true q4
                  have q5 := Nat.le_of_ble_eq_true q5
                  have hzc := (RV.ofC φ z).cells' q1
                  have hzs : z.cells.size = i.size := by rw [← q2, hzc.1]; simp
                  have hw1 : IntKind.i64.wrap (l : Int) = l := by rw [IntKind.wrap_i64]; omega
                  have hw2 : IntKind.i64.wrap (cc : Int) = cc := by rw [IntKind.wrap_i64]; omega
                  have hb : ¬ (281474976710656 < (i.bytes : Int) * (cc : Int)) := by
                    have e3 : (i.bytes : Int) * (cc : Int) = ((cc * i.bytes : Nat) : Int) := by rw [Int.natCast_mul, Int.mul_comm]
                    rw [e3]; omega
                  have n1 : ¬ ((cc : Int) < 0) := by omega
                  have n2 : ¬ ((l : Int) < 0) := by omega
                  have n3 : ¬ ((cc : Int) < (l : Int)) := by omega
                  have hrep := hzc.repV cc
                  have hlen : (repV (ofC z).cells cc).length = cc * i.size := by rw [repV_length, q2]
                  have hone : ∀ u ∈ repV z.cells.toList cc, u.oneCell' = true := by
                    have h1 : ∀ u ∈ z.cells.toList, u.oneCell' = true := all_oneCell hzc q6
                    exact fun u hu => h1 u (repV_mem hu)
                  have hp := new_row c (Drawn.refl w) _ _ hrep hone i.size el []
                  rw [List.append_nil, hlen] at hp
                  refine ⟨.slice (some ⟨w.heap.size, 0, none⟩) l cc, _, _, [], ?_, Ext.new h _, ?_, hp⟩
                  · have hzl : ((Array.range (cc * i.size)).map (fun j => (if cc * i.size = 0 then #[] else z.cells)[j % (if cc * i.size = 0 then (#[] : Array Value) else z.cells).size]!)) = (repV z.cells.toList cc).toArray := by
                      apply Array.ext'
                      by_cases h0 : cc * i.size = 0
                      · have : repV z.cells.toList cc = [] := List.eq_nil_of_length_eq_zero (by rw [repV_length]; simpa [hzs] using h0)
                        rw [this, h0, range0]
                      · rw [if_neg h0, ← hzs, rep_array]
                    by_cases h0 : cc * i.size = 0
                    · have hzl' : ((Array.range 0).map (fun _ => default) : Array Value) = (repV z.cells.toList cc).toArray := by simpa [h0] using hzl
                      rw [← hzl']
                      simp [Instr.makeSlice, run_underlying hu, asInt, asIntOf, typeInfo, hi, hw1, hw2, hb, n1, n2, n3, sizeOf, h0, newRow]
                    · have hzl' : (Array.range (cc * i.size)).map (fun j => z.cells[j % z.cells.size]!) = (repV z.cells.toList cc).toArray := by simpa [h0] using hzl
                      rw [← hzl']
                      simp [Instr.makeSlice, run_underlying hu, asInt, asIntOf, typeInfo, hi, hw1, hw2, hb, n1, n2, n3, sizeOf, h0, newRow, zeroValue, hz]
                  · have := RV.sl (φ := φ.ext h.next ⟨w.heap.size, 0, (repV z.cells.toList cc).length + ([] : List Value).length, i.size⟩) h.next 0 l cc cc true _ (Map.ext_same _ _ _) q3 (Nat.le_refl _) (fun _ => rfl) (fun h => by cases h)
                    exact this

end Go.Ab
