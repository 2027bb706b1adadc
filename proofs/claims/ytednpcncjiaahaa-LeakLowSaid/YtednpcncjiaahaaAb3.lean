/-
  An abstract interpreter of the model's code, part 3: operations on values and on memory, and that the model's own answer as they do. Conditions: none.
-/
import Derived.Test.YtednpcncjiaahaaAb2
set_option linter.unusedVariables false
set_option linter.unusedSimpArgs false
namespace Go.Ab
open Go

/-- what an operation asks of memory -/
structure Cx (φ : Map) (g : Nat → Option Blk) (h : Heap) (w : World) : Prop where
  hr : HR φ g w
  bey : Beyond φ g h
  fresh : φ h.next = none

def V.ids : V → List Nat
  | .p (some (a, _)) => [a]
  | .sl (some (a, _)) _ _ _ => [a]
  | .m (some r) => [r]
  | _ => []
/-- what is known of the blocks that values lead to is what the heap tells -/
def Ag (g : Nat → Option Blk) (h : Heap) (l : List V) : Prop := ∀ v ∈ l, ∀ a ∈ v.ids, g a = h.get a

/-- the model's operation answers as the abstract one -/
def Snd (P : Program) (s : Sem Value) (φ : Map) (g : Nat → Option Blk) (h : Heap) (w : World) (r : V × Heap) : Prop :=
  ∃ v' w' φ' l, s.run P w = .ok v' w' ∧ Ext h r.2 l ∧ RV φ' r.1 v' ∧ Post φ g h r.2 l φ' w w'

theorem Snd.pure {P : Program} {s : Sem Value} {φ : Map} {g : Nat → Option Blk} {h : Heap} {w : World} {v : V} {v' : Value} (c : Cx φ g h w) (e : s.run P w = .ok v' w) (r : RV φ v v') : Snd P s φ g h w (v, h) :=
  ⟨v', w, φ, [], e, Ext.refl h, r, Post.same c.hr c.bey⟩

/-! small things -/
@[inline] def okc {α : Type} (b : Bool) (x : Option α) : Option α := cond b x none
theorem okc_some {α : Type} {b : Bool} {x : Option α} {y : α} (h : okc b x = some y) : b = true ∧ x = some y := by
  cases b with
  | true => exact ⟨rfl, h⟩
  | false => cases h

def szOf (P : Program) (t : TypeId) : Option Nat := (P.info? t).map (·.size)
def aggD : TypeDesc → Bool
  | .struct _ | .array _ _ => true
  | _ => false
theorem run_sizeOf {P : Program} {t : TypeId} {n : Nat} (h : szOf P t = some n) (w : World) : (sizeOf t).run P w = .ok n w := by
  unfold szOf at h
  cases hi : P.info? t with
  | none => rw [hi] at h; cases h
  | some i => rw [hi] at h; cases h; simp [sizeOf, typeInfo, hi]
theorem run_isAgg {P : Program} {t : TypeId} {d : TypeDesc} (h : P.underlying t = some d) (w : World) : (isAgg t).run P w = .ok (aggD d) w := by
  unfold isAgg
  simp only [Sem.run_bind, run_underlying h, Result.andThen_ok]
  cases d <;> rfl

/-- values of constants -/
def ofC0 : Value → V
  | .bool b => .b b
  | .int k n => .i k n
  | .string s => .s (SB.ofL s.data.toList)
  | .pointer none => .p none
  | .slice none 0 0 => .sl none 0 0 true
  | .map none => .m none
  | .func fn ⟨[]⟩ ⟨[]⟩ => .f fn [] []
  | .nilFunc => .f0
  | .nilIface => .i0
  | _ => .und
def ofC : Value → V
  | .agg cs => .agg (cs.toList.map ofC0)
  | .tuple cs => .tup (cs.toList.map ofC0)
  | .iface t v => .ifc t (ofC0 v)
  | v => ofC0 v
theorem RV.ofC0 (φ : Map) (v : Value) : RV φ (Ab.ofC0 v) v := by
  unfold Ab.ofC0
  split
  · exact .b _
  · exact .i _ _
  · exact .s _ _ (SB.ofL_list _).symm
  · exact .p0
  · exact .sl0
  · exact .m0
  · exact RV.f_mk (RVs.nil φ) (RVs.nil φ)
  · exact .f0
  · exact .i0
  · exact .und _
theorem RVs.ofC0 (φ : Map) : ∀ (l : List Value), RVs φ (l.map Ab.ofC0) l
  | [] => RVs.nil φ
  | v :: l => RVs.cons (RV.ofC0 φ v) (RVs.ofC0 φ l)
theorem RV.ofC (φ : Map) (v : Value) : RV φ (Ab.ofC v) v := by
  unfold Ab.ofC
  split
  · exact RV.agg_mk (RVs.ofC0 φ _)
  · exact RV.tup_mk (RVs.ofC0 φ _)
  · exact .ifc _ _ _ (RV.ofC0 φ _)
  · exact RV.ofC0 φ v

def zeroV (P : Program) (t : TypeId) : Option V := ((P.info? t).bind (·.zero)).map ofC
theorem run_zeroValue {P : Program} {t : TypeId} {z : V} (h : zeroV P t = some z) (φ : Map) (w : World) : ∃ z', (zeroValue t).run P w = .ok z' w ∧ RV φ z z' := by
  unfold zeroV at h
  cases hi : P.info? t with
  | none => rw [hi] at h; cases h
  | some i =>
    rw [hi] at h
    cases hz : i.zero with
    | none => simp [hz] at h
    | some z' =>
      simp [hz] at h
      subst h
      exact ⟨z', by simp [zeroValue, typeInfo, hi, hz], RV.ofC φ z'⟩

/-! cells of a block in a world -/
theorem BR.cell {φ : Map} {n es : Nat} {t : PT V} {own : Bool} {pl : Place} {w : World} (h : BR φ (.cells n es t own) pl w) {j : Nat} (hj : j < n) :
    ∃ v v', t.get j = some v ∧ w.cell? ⟨pl.b, pl.base + j, none⟩ = some v' ∧ RV φ v v' ∧ (own = true → v'.oneCell' = true) := by
  obtain ⟨c, e, fr, h1, _, _, h4, h5, _⟩ := h
  obtain ⟨v, v', a, b, d, o⟩ := h5 j hj
  exact ⟨v, v', a, by simp [World.cell?, h1, b], d, o⟩
theorem all_oneCell {φ : Map} {l : List V} {l' : List Value} (h : RVs φ l l') (hs : l.all V.sc = true) : ∀ u ∈ l', u.oneCell' = true := by
  intro u hu
  obtain ⟨j, hj, rfl⟩ := List.getElem_of_mem hu
  have hj' : j < l.length := by rw [h.1]; exact hj
  exact ((h.2 j l[j] l'[j] (List.getElem?_eq_getElem hj') (List.getElem?_eq_getElem hj)).oneCell (List.all_eq_true.1 hs _ (List.getElem_mem hj'))).1
theorem BR.readN {φ : Map} {n es : Nat} {t : PT V} {own : Bool} {pl : Place} {w : World} (h : BR φ (.cells n es t own) pl w) {off k : Nat} {l : List V} (hr : Ab.readN t off k = some l) (hk : off + k ≤ n) :
    ∃ l' : List Value, RVs φ l l' ∧ l'.length = k ∧ (∀ j v, l'[j]? = some v → w.cell? ((⟨pl.b, pl.base + off, none⟩ : Addr).add j) = some v) ∧ (or own (l.all V.sc) = true → ∀ u ∈ l', u.oneCell' = true) := by
  obtain ⟨h1, h2⟩ := readN_some hr
  have key : ∀ j, j < k → ∃ v', w.cell? ⟨pl.b, pl.base + (off + j), none⟩ = some v' ∧ (∀ v, t.get (off + j) = some v → RV φ v v') ∧ (own = true → v'.oneCell' = true) := fun j hj => by
    obtain ⟨v, v', a, b, d, o⟩ := h.cell (j := off + j) (by omega)
    exact ⟨v', b, fun u hu => by rw [a] at hu; cases hu; exact d, o⟩
  let f : Nat → Value := fun j => (w.cell? ⟨pl.b, pl.base + (off + j), none⟩).getD undef
  have hf : ∀ j, j < k → w.cell? ⟨pl.b, pl.base + (off + j), none⟩ = some (f j) := fun j hj => by
    obtain ⟨v', b, _⟩ := key j hj
    show _ = some ((w.cell? _).getD undef)
    rw [b]; rfl
  refine ⟨(List.range k).map f, ⟨by simp [h1], fun j v v' hv hv' => ?_⟩, by simp, fun j v hv => ?_, ?_⟩
  · have hj : j < k := by rw [← h1]; exact (List.getElem?_eq_some_iff.1 hv).1
    rw [List.getElem?_map, List.getElem?_range hj] at hv'
    simp at hv'
    obtain ⟨u, b, d, _⟩ := key j hj
    have := hf j hj
    rw [b] at this; cases this
    rw [← hv']
    exact d v (by rw [← h2 j hj]; exact hv)
  · have hj : j < k := by have := (List.getElem?_eq_some_iff.1 hv).1; simpa using this
    rw [List.getElem?_map, List.getElem?_range hj] at hv
    simp at hv
    rw [Addr.add_lit, ← hv, Nat.add_assoc]
    exact hf j hj
  · have hl : RVs φ l ((List.range k).map f) := ⟨by simp [h1], fun j v v' hv hv' => by
      have hj : j < k := by rw [← h1]; exact (List.getElem?_eq_some_iff.1 hv).1
      rw [List.getElem?_map, List.getElem?_range hj] at hv'
      simp at hv'
      obtain ⟨u, b, d, _⟩ := key j hj
      have := hf j hj
      rw [b] at this; cases this
      rw [← hv']
      exact d v (by rw [← h2 j hj]; exact hv)⟩
    intro ho
    cases own with
    | false => exact all_oneCell hl (by simpa using ho)
    | true =>
      intro u hu
      obtain ⟨j, hj, rfl⟩ := List.mem_map.1 hu
      have hj' : j < k := by simpa using hj
      obtain ⟨v', b, _, o⟩ := key j hj'
      have := hf j hj'
      rw [b] at this; cases this
      exact o rfl

/-! load -/
noncomputable def loadV (P : Program) (t : TypeId) (v : V) (h : Heap) : Option V :=
  match v with
  | .p (some (a, off)) =>
    match h.get a with
    | some (.cells n _ tr _) =>
      match P.underlying t with
      | some d =>
        match aggD d with
        | true =>
          match szOf P t with
          | some sz => okc (Nat.ble (off + sz) n) ((readN tr off sz).map .agg)
          | none => none
        | false => okc (Nat.blt off n) (tr.get off)
      | none => none
    | _ => none
  | _ => none

theorem run_loadVar_agg {P : Program} {t : TypeId} {d : TypeDesc} (hd : P.underlying t = some d) (ha : aggD d = true) {cs : List Value} (hs : szOf P t = some cs.length) (w : World) (a : Addr)
    (hc : ∀ j v, cs[j]? = some v → w.cell? (a.add j) = some v) : (loadVar t a).run P w = .ok (.agg cs.toArray) w := by
  have hl := run_loadCells_list (P := P) w a cs hc
  simp [loadVar, run_isAgg hd, ha, run_sizeOf hs, hl]
theorem run_loadVar_one {P : Program} {t : TypeId} {d : TypeDesc} (hd : P.underlying t = some d) (ha : aggD d = false) (w : World) (a : Addr) {v : Value}
    (hc : w.cell? a = some v) : (loadVar t a).run P w = .ok v w := by
  simp [loadVar, run_isAgg hd, ha, hc]

theorem load_var {P : Program} {t : TypeId} {a off : Nat} {h : Heap} {r : V} (e : loadV P t (.p (some (a, off))) h = some r) {φ : Map} {g : Nat → Option Blk} {w : World} (c : HR φ g w) (ag : g a = h.get a) {pl : Place} (hp : φ a = some pl) :
    ∃ r', (loadVar t ⟨pl.b, pl.base + off, none⟩).run P w = .ok r' w ∧ RV φ r r' := by
  unfold loadV at e
  simp only at e
  cases hb : h.get a with
  | none => rw [hb] at e; cases e
  | some B =>
    rw [hb] at e ag
    have hbr := c.blk a B pl ag hp
    cases B with
    | cells n es tr own =>
      simp only at e
      cases hd : P.underlying t with
      | none => rw [hd] at e; cases e
      | some d =>
        rw [hd] at e
        simp only at e
        cases ha : aggD d with
        | true =>
          rw [ha] at e
          simp only at e
          cases hs : szOf P t with
          | none => rw [hs] at e; cases e
          | some sz =>
            rw [hs] at e
            simp only at e
            obtain ⟨h1, h2⟩ := okc_some e
            cases hr : readN tr off sz with
            | none => rw [hr] at h2; cases h2
            | some l =>
              rw [hr] at h2; cases h2
              obtain ⟨l', k1, k2, k3, _⟩ := hbr.readN hr (Nat.le_of_ble_eq_true h1)
              exact ⟨.agg l'.toArray, run_loadVar_agg hd ha (by rw [hs, k2]) w _ k3, RV.agg_mk (by simpa using k1)⟩
        | false =>
          rw [ha] at e
          simp only at e
          obtain ⟨h1, h2⟩ := okc_some e
          have hlt : off < n := by have := Nat.le_of_ble_eq_true h1; exact this
          obtain ⟨v, v', k1, k2, k3, _⟩ := hbr.cell hlt
          rw [k1] at h2; cases h2
          exact ⟨v', run_loadVar_one hd ha w _ k2, k3⟩
    | _ => cases e

theorem snd_load {P : Program} {t : TypeId} {v : V} {h : Heap} {r : V} (e : loadV P t v h = some r) {φ : Map} {g : Nat → Option Blk} {w : World} (c : Cx φ g h w) {v' : Value} (hv : RV φ v v') (ag : Ag g h [v]) :
    Snd P (Instr.loadAt t v') φ g h w (r, h) := by
  cases hv with
  | p a o pl hp =>
    obtain ⟨r', h1, h2⟩ := load_var e c.hr (ag (.p (some (a, o))) (by simp) a (by simp [V.ids])) hp
    exact .pure c (by simp [Instr.loadAt, Instr.sureAddr, h1]) h2
  | _ => simp [loadV] at e

/-! store -/
noncomputable def storeV (P : Program) (t : TypeId) (v x : V) (h : Heap) : Option Heap :=
  match v with
  | .p (some (a, off)) =>
    match h.get a with
    | some (.cells n es tr true) =>
      match szOf P t with
      | some sz => okc (and (x.cells.all V.sc) (and (Nat.beq x.cells.length sz) (Nat.ble (off + sz) n))) (some (h.upd a (.cells n es (wr tr off x.cells) true)))
      | none => none
    | _ => none
  | _ => none

theorem run_storeCells_gen (P : Program) (b off : Nat) (e : TypeId) (fr : Nat × Nat) : ∀ (vs : List Value) (i : Nat) (c : Array Value) (w : World), w.heap[b]? = some (.cells c e fr) → off + i + vs.length ≤ c.size →
    (∀ j, j < c.size → ¬ (fr.1 ≤ j ∧ j < fr.2)) → (∀ v ∈ vs, v.oneCell' = true) →
    ∃ w' c', (storeCells ⟨b, off, none⟩ vs i).run P w = .ok () w' ∧ w'.heap[b]? = some (.cells c' e fr) ∧ c'.size = c.size ∧ (∀ j, c'[j]? = if off + i ≤ j ∧ j < off + i + vs.length then vs[j - (off + i)]? else c[j]?) ∧
      w'.heap.size = w.heap.size ∧ (∀ k, k ≠ b → w'.heap[k]? = w.heap[k]?) ∧ w'.os = w.os ∧ w'.tape = w.tape ∧ w'.output = w.output
  | [], i, c, w, hg, _, _, _ => ⟨w, c, by simp [storeCells], hg, rfl, fun j => by rw [if_neg (by simp)], rfl, fun _ _ => rfl, rfl, rfl, rfl⟩
  | v :: vs, i, c, w, hg, hsz, hfr, h1 => by
    have hlt : off + i < c.size := by simp at hsz; omega
    have hcell : w.cell? ⟨b, off + i, none⟩ = some c[off + i] := by simp [World.cell?, hg, hlt]
    have hfz : w.frozen? ⟨b, off + i, none⟩ = false := by
      simp only [World.frozen?, hg]
      have := hfr _ hlt
      simp only [Bool.and_eq_false_iff, decide_eq_false_iff_not]
      by_cases h : fr.1 ≤ off + i
      · exact .inr fun h' => this ⟨h, h'⟩
      · exact .inl h
    have hst : (store ⟨b, off + i, none⟩ v).run P w = .ok () (w.setCell ⟨b, off + i, none⟩ v) := by
      rw [run_store P w _ v .plain (h1 v (by simp)), hcell]
      simp [hfz]
    have hg' : (w.setCell ⟨b, off + i, none⟩ v).heap[b]? = some (.cells (c.setIfInBounds (off + i) v) e fr) := by
      simp only [World.setCell, Array.getElem?_modify]
      rw [hg]
      simp
    obtain ⟨w', c', k1, k2, k3, k4, k5, k6, k7, k8, k9⟩ := run_storeCells_gen P b off e fr vs (i + 1) (c.setIfInBounds (off + i) v) (w.setCell ⟨b, off + i, none⟩ v) hg' (by simp at hsz ⊢; omega) (by simpa using hfr) (fun u hu => h1 u (by simp [hu]))
    refine ⟨w', c', ?_, k2, by rw [k3]; simp, fun j => ?_, by rw [k5]; simp [World.setCell], fun k hk => ?_, by rw [k7]; rfl, by rw [k8]; rfl, by rw [k9]; rfl⟩
    · simp only [storeCells, Sem.run_bind, Addr.add_lit, hst, Result.andThen_ok, k1]
    · rw [k4 j]
      by_cases h2 : j = off + i
      · subst h2
        rw [if_neg (by omega), if_pos (by simp)]
        simp [hlt]
      · by_cases h3 : off + (i + 1) ≤ j ∧ j < off + (i + 1) + vs.length
        · rw [if_pos h3, if_pos (by simp; omega), show j - (off + i) = (j - (off + (i + 1))) + 1 by omega]; simp
        · rw [if_neg h3, if_neg (by simp; omega)]
          rw [Array.getElem?_setIfInBounds]; rw [if_neg (fun h => h2 h.symm)]
    · rw [k6 k hk]; exact Below.heap_setCell w _ v k (by simpa using hk)
where
  Below.heap_setCell (w : World) (a : Addr) (u : Value) (k : Nat) (h : k ≠ a.block) : (w.setCell a u).heap[k]? = w.heap[k]? := by
    simp only [World.setCell, Array.getElem?_modify]
    rw [if_neg (by omega)]

/-- cells of a block that may be written are written -/
theorem store_cells {P : Program} {φ : Map} {g : Nat → Option Blk} {h : Heap} {w : World} (c : HR φ g w) (bey : Beyond φ g h) {a n es : Nat} {tr : PT V} (hlt : a < h.next) (hb : g a = some (.cells n es tr true)) {pl : Place} (hp : φ a = some pl)
    {off : Nat} {l : List V} {l' : List Value} (hl : RVs φ l l') (h1 : ∀ u ∈ l', u.oneCell' = true) (hk : off + l.length ≤ n) :
    ∃ w', (storeCells ⟨pl.b, pl.base + off, none⟩ l').run P w = .ok () w' ∧ Post φ g h (h.upd a (.cells n es (wr tr off l) true)) [a] φ w w' := by
  have hbr := c.blk a _ pl hb hp
  obtain ⟨cc, e, fr, k1, k2, k3, k4, k5, k6⟩ := hbr
  obtain ⟨k7, k8⟩ := k6 rfl
  obtain ⟨w', c', m1, m2, m3, m4, m5, m6, m7, m8, m9⟩ := run_storeCells_gen P pl.b (pl.base + off) e fr l' 0 cc w k1 (by rw [← hl.1]; omega) k8 h1
  refine ⟨w', m1, Post.upd1 c bey a hlt _ _ pl hb rfl hp m7 m8 m9 m5 m6 ⟨c', e, fr, m2, k2, by rw [m3]; exact k3, by rw [m3]; exact k4, fun j hj => ?_, fun _ => ⟨k7, by rw [m3]; exact k8⟩⟩ (fun _ => rfl)⟩
  rw [wr_get, m4]
  by_cases hin : off ≤ j ∧ j < off + l.length
  · rw [if_pos hin, if_pos (by rw [← hl.1]; omega)]
    have e1 : pl.base + j - (pl.base + off + 0) = j - off := by omega
    rw [e1]
    have hlt : j - off < l.length := by omega
    obtain ⟨v', q1, q2⟩ := hl.get (List.getElem?_eq_getElem hlt)
    exact ⟨l[j - off], v', List.getElem?_eq_getElem hlt, q1, q2, fun _ => h1 v' (List.mem_of_getElem? q1)⟩
  · rw [if_neg hin, if_neg (by rw [← hl.1]; omega)]
    exact k5 j hj

theorem snd_store {P : Program} {t : TypeId} {v x : V} {h h' : Heap} (e : storeV P t v x h = some h') {φ : Map} {g : Nat → Option Blk} {w : World} (c : Cx φ g h w) {v' x' : Value} (hv : RV φ v v') (hx : RV φ x x') (ag : Ag g h [v]) :
    ∃ w' l, (Instr.storeAt t v' x').run P w = .ok () w' ∧ Ext h h' l ∧ Post φ g h h' l φ w w' := by
  cases hv with
  | p a o pl hp =>
    unfold storeV at e
    simp only at e
    have hag := ag (.p (some (a, o))) (by simp) a (by simp [V.ids])
    cases hb : h.get a with
    | none => rw [hb] at e; cases e
    | some B =>
      rw [hb] at e hag
      cases B with
      | cells n es tr own =>
        cases own with
        | false => cases e
        | true =>
          simp only at e
          cases hs : szOf P t with
          | none => rw [hs] at e; cases e
          | some sz =>
            rw [hs] at e
            simp only at e
            obtain ⟨h1, h2⟩ := okc_some e
            cases h2
            simp only [Bool.and_eq_true] at h1
            obtain ⟨q1, q2, q3⟩ := h1
            have q2 := Nat.eq_of_beq_eq_true q2
            have q3 := Nat.le_of_ble_eq_true q3
            obtain ⟨r1, r2⟩ := hx.cellsOf q1
            obtain ⟨w', s1, s2⟩ := store_cells (P := P) c.hr c.bey (Heap.lt_of_get hb) hag hp r1 r2 (off := o) (by omega)
            refine ⟨w', [a], ?_, Ext.upd h a _, s2⟩
            have hsz : x'.cells.size = sz := by rw [← q2, r1.1]; simp
            simp [Instr.storeAt, Instr.sureAddr, storeVar, run_sizeOf hs, hsz, s1]
      | _ => cases e
  | _ => simp [storeV] at e

/-! a new variable -/
noncomputable def newV (l : List V) (h : Heap) : Option (V × Heap) := okc (l.all V.sc) (some (.p (some (h.next, 0)), h.new (.cells l.length 1 (wr .e 0 l) true)))

/-- a new row of cells -/
theorem new_row {φ : Map} {g : Nat → Option Blk} {h : Heap} {w w0 : World} (c : Cx φ g h w) (d : Drawn w w0) (l : List V) (l' : List Value) (hl : RVs φ l l') (h1 : ∀ u ∈ l', u.oneCell' = true) (es : Nat) (e : TypeId) (more : List Value) :
    Post φ g h (h.new (.cells l.length es (wr .e 0 l) true)) [] (φ.ext h.next ⟨w.heap.size, 0, l'.length + more.length, es⟩) w { w0 with heap := w0.heap.push (.cells (l' ++ more).toArray e (0, 0)) } := by
  have hh := d.heap
  refine Post.new1 c.hr (fun x hx hp => c.bey x (by omega) hp) c.fresh _ _ rfl d.os d.tape d.output (by simp [hh]) (fun b hb => ?_) ⟨(l' ++ more).toArray, e, (0, 0), ?_, rfl, by simp, by simp [hl.1], fun j hj => ?_, fun _ => ⟨rfl, fun j _ => by simp⟩⟩ (fun _ => rfl)
  · show (w0.heap.push _)[b]? = _
    rw [Array.getElem?_push, hh, if_neg (by omega)]
  · show (w0.heap.push _)[w.heap.size]? = _
    rw [Array.getElem?_push, hh, if_pos rfl]
  · have hlt : j < l.length := hj
    obtain ⟨v', q1, q2⟩ := hl.get (List.getElem?_eq_getElem hlt)
    refine ⟨l[j], v', ?_, ?_, q2.mono (Map.le_ext _ c.fresh), fun _ => h1 v' (List.mem_of_getElem? q1)⟩
    · rw [wr_get, if_pos (by omega)]; simp
    · simp only [Nat.zero_add, List.getElem?_toArray]
      rw [List.getElem?_append_left (by rw [← hl.1]; exact hlt)]; exact q1

theorem snd_new {P : Program} {l : List V} {h : Heap} {r : V × Heap} (e : newV l h = some r) {φ : Map} {g : Nat → Option Blk} {w : World} (c : Cx φ g h w) {x' : Value} (t : TypeId) (hl : RVs φ l x'.cells.toList) (h1 : ∀ u ∈ x'.cells.toList, u.oneCell' = true) :
    Snd P (do pure (.pointer (some (← newVar t x')))) φ g h w r := by
  obtain ⟨_, h2⟩ := okc_some e
  cases h2
  refine ⟨.pointer (some ⟨w.heap.size, 0, none⟩), _, _, [], ?_, Ext.new h _, ?_, new_row c (Drawn.refl w) l x'.cells.toList hl h1 1 t []⟩
  · simp [newVar, newRow]
  · have := RV.p (φ := φ.ext h.next ⟨w.heap.size, 0, x'.cells.toList.length + 0, 1⟩) h.next 0 _ (Map.ext_same _ _ _)
    exact this

end Go.Ab
