/-
  An abstract interpreter of the model's code, part 11: maps, iterators of texts. Conditions: none.
-/
import Derived.Test.YtednpcncjiaahaaAb10
set_option linter.unusedVariables false
set_option linter.unusedSimpArgs false
namespace Go.Ab
open Go

noncomputable def findV (P : Program) (kt : TypeId) (k : V) : List (V × V × Nat) → Nat → Option (Option (Nat × V))
  | [], _ => some none
  | e :: es, i => match eqV P 10000 kt k e.1 with
    | some true => some (some (i, e.2.1))
    | some false => findV P kt k es (i + 1)
    | none => none

def RMap (φ : Map) (es : List (V × V × Nat)) (es' : List MapEntry) : Prop := es.length = es'.length ∧ ∀ (j : Nat) x e, es[j]? = some x → es'[j]? = some e → REntry φ x e
theorem RMap.cons_inv {φ : Map} {x : V × V × Nat} {es : List (V × V × Nat)} {es' : List MapEntry} (h : RMap φ (x :: es) es') : ∃ e t, es' = e :: t ∧ REntry φ x e ∧ RMap φ es t := by
  cases es' with
  | nil => exact absurd h.1 (by simp)
  | cons e t => exact ⟨e, t, rfl, h.2 0 x e rfl rfl, by simpa using h.1, fun j a b ha hb => h.2 (j + 1) a b (by simpa using ha) (by simpa using hb)⟩

theorem sameNow_ok {P : Program} {kt : TypeId} {D : TypeDesc} (hd : P.underlying kt = some D) {k e : Value} {b c : Bool} (h : Instr.sameNow D k e = some b) {w : World} (hr : (Op.equal kt k e).run P w = .ok c w) : b = c := by
  have e0 : Op.equal kt k e = Op.equalIn (9999 + 1) kt k e := rfl
  rw [e0] at hr
  unfold Instr.sameNow at h
  split at h
  · rename_i q k1 a k2 a2
    split at h
    · rename_i hk
      subst hk
      cases h
      rw [run_equalIn_int w 9999 kt k1 q a a2 hd] at hr
      cases hr; rfl
    · cases h
  · rename_i a a2
    cases h
    rw [run_equalIn_string w 9999 kt a a2 hd] at hr
    cases hr; exact beq_toListBytes a a2
  · rename_i a a2
    cases h
    rw [run_equalIn_bool' w 9999 kt a a2 hd] at hr
    cases hr; rfl
  · cases h

/-- what is found, or not -/
def RFound (φ : Map) (r : Option (Nat × V)) (r' : Option (Nat × Value)) : Prop := match r, r' with
  | some (i, v), some (j, v') => i = j ∧ RV φ v v'
  | none, none => True
  | _, _ => False

theorem find_ok {P : Program} {kt : TypeId} {D : TypeDesc} (hd : P.underlying kt = some D) {k : V} {φ : Map} {k' : Value} (hk : RV φ k k') (w : World) : ∀ {es : List (V × V × Nat)} {es' : List MapEntry} {i : Nat} {r : Option (Nat × V)}, findV P kt k es i = some r → RMap φ es es' →
    ∃ r', RFound φ r r' ∧ (Instr.findAsking kt k' es' i).run P w = .ok r' w ∧ (Instr.findNow D k' es' i = none ∨ Instr.findNow D k' es' i = some r') ∧ (∀ j v, r = some (j, v) → i ≤ j ∧ j - i < es.length ∧ ∃ x, es[j - i]? = some x ∧ eqV P 10000 kt k x.1 = some true ∧ v = x.2.1)
  | [], es', i, r, h, hm => by
    cases h
    have : es' = [] := List.eq_nil_of_length_eq_zero hm.1.symm
    subst this
    exact ⟨none, trivial, by simp [Instr.findAsking], .inr rfl, fun j v h => by cases h⟩
  | x :: es, es', i, r, h, hm => by
    obtain ⟨e, t, rfl, hx, ht⟩ := hm.cons_inv
    unfold findV at h
    cases he : eqV P 10000 kt k x.1 with
    | none => rw [he] at h; cases h
    | some b =>
      rw [he] at h
      have hq := run_equalV he hk hx.key w
      cases b with
      | true =>
        cases h
        refine ⟨some (i, e.val), ⟨rfl, hx.val⟩, by simp [Instr.findAsking, hq], ?_, fun j v h => by cases h; exact ⟨Nat.le_refl _, by simp, x, by simp, he, rfl⟩⟩
        unfold Instr.findNow
        cases hs : Instr.sameNow D k' e.key with
        | none => exact .inl rfl
        | some b =>
          have := sameNow_ok hd hs hq
          subst this
          exact .inr rfl
      | false =>
        obtain ⟨r', r1, r2, r3, r4⟩ := find_ok hd hk w h ht
        refine ⟨r', r1, by simp [Instr.findAsking, hq, r2], ?_, fun j v hj => ?_⟩
        · unfold Instr.findNow
          cases hs : Instr.sameNow D k' e.key with
          | none => exact .inl rfl
          | some b =>
            have := sameNow_ok hd hs hq
            subst this
            exact r3
        · obtain ⟨a1, a2, y, a3, a4⟩ := r4 j v hj
          refine ⟨by omega, by simp; omega, y, ?_, a4⟩
          rw [show j - i = (j - (i + 1)) + 1 by omega]; simpa using a3
theorem run_findKey {P : Program} {kt : TypeId} {k : V} {φ : Map} {k' : Value} (hk : RV φ k k') (w : World) {es : List (V × V × Nat)} {es' : List MapEntry} {r : Option (Nat × V)} (h : findV P kt k es 0 = some r) (hm : RMap φ es es') {D : TypeDesc} (hd : P.underlying kt = some D) :
    ∃ r', RFound φ r r' ∧ (Instr.findKey kt k' es').run P w = .ok r' w ∧ (∀ j v, r = some (j, v) → ∃ x, es[j]? = some x ∧ eqV P 10000 kt k x.1 = some true ∧ v = x.2.1) := by
  obtain ⟨r', r1, r2, r3, r4⟩ := find_ok hd hk w h hm
  refine ⟨r', r1, ?_, fun j v hj => by obtain ⟨_, _, x, a3, a4⟩ := r4 j v hj; exact ⟨x, by simpa using a3, a4⟩⟩
  unfold Instr.findKey
  simp only [Sem.run_bind, run_underlying hd, Result.andThen_ok]
  rcases r3 with h3 | h3
  · rw [h3]; exact r2
  · rw [h3]; rfl

/-- the entries of a map -/
noncomputable def mapV (h : Heap) (m : V) : Option (List (V × V × Nat)) :=
  match m with
  | .m none => some []
  | .m (some r) => match h.get r with
    | some (.map es _) => some es
    | _ => none
  | _ => none

noncomputable def lookupV (P : Program) (t : TypeId) (m k : V) (ok : Bool) (h : Heap) : Option V :=
  match P.underlying t with
  | some (.map kt et) =>
    match mapV h m with
    | some es => okc (ckV P 10000 kt k) (match findV P kt k es 0 with
      | some (some (_, v)) => some (cond ok (.tup [v, .b true]) v)
      | some none => match zeroV P et with
        | some z => some (cond ok (.tup [z, .b false]) z)
        | none => none
      | none => none)
    | none => none
  | _ => none
theorem ck_under {P : Program} {d : Nat} {kt : TypeId} {k : V} (h : ckV P d kt k = true) : ∃ D, P.underlying kt = some D := by
  cases d with
  | zero => cases h
  | succ d =>
    have h' : ckBy P (ckV P d) kt k = true := h
    unfold ckBy at h'
    cases hu : P.underlying kt with
    | none => rw [hu] at h'; cases h'
    | some D => exact ⟨D, rfl⟩
theorem tup2 {φ : Map} {a b : V} {a' b' : Value} (h1 : RV φ a a') (h2 : RV φ b b') : RV φ (.tup [a, b]) (.tuple #[a', b']) := RV.tup_mk (RVs.cons h1 (RVs.cons h2 (RVs.nil φ)))
theorem tup3 {φ : Map} {a b c : V} {a' b' c' : Value} (h1 : RV φ a a') (h2 : RV φ b b') (h3 : RV φ c c') : RV φ (.tup [a, b, c]) (.tuple #[a', b', c']) := RV.tup_mk (RVs.cons h1 (RVs.cons h2 (RVs.cons h3 (RVs.nil φ))))

/-- a map as the world has it -/
theorem map_ok {φ : Map} {g : Nat → Option Blk} {h : Heap} {w : World} (c : HR φ g w) {r : Nat} {es : List (V × V × Nat)} {clock : Nat} (hg : h.get r = some (.map es clock)) (hag : g r = h.get r) {pl : Place} (hp : φ r = some pl) :
    ∃ es', w.heap[pl.b]? = some (.map es' clock) ∧ RMap φ es es'.toList := by
  rw [hg] at hag
  obtain ⟨_, es', k1, k2, k3⟩ := c.blk r _ pl hag hp
  exact ⟨es', k1, by simpa using k2, fun j x e a b => k3 j x e a (by simpa using b)⟩
theorem run_getObj_map {P : Program} {w : World} {b : Nat} {es : Array MapEntry} {clock : Nat} (h : w.heap[b]? = some (.map es clock)) : (getObj b).run P w = .ok (.map es clock) w := by
  simp [getObj, Sem.run, h]

def lookupRest (kt et : TypeId) (k' : Value) (ok : Bool) (es' : Array MapEntry) : Sem Value := do
  let (v, ok') ← match ← Instr.findKey kt k' es'.toList with
    | some (_, v) => pure (v, true)
    | none => pure (← zeroValue et, false)
  pure (if ok then .tuple #[v, .bool ok'] else v)
theorem lookup_start {P : Program} {t kt et : TypeId} (hu : P.underlying t = some (.map kt et)) {m : V} {es : List (V × V × Nat)} {h : Heap} (hes : mapV h m = some es) {φ : Map} {g : Nat → Option Blk} {w : World} (c : HR φ g w) {m' k' : Value} {ok : Bool} (hm : RV φ m m') (ag : Ag g h [m]) :
    ∃ es' : Array MapEntry, RMap φ es es'.toList ∧ (Instr.lookup t m' k' ok).run P w = (do Instr.checkKey es'.isEmpty 10000 kt k'; lookupRest kt et k' ok es' : Sem Value).run P w := by
  cases hm <;> try (cases hes; done)
  · cases hes
    refine ⟨#[], ⟨rfl, fun j x e a b => by simp at a⟩, ?_⟩
    simp only [Instr.lookup, lookupRest, Sem.run_bind, run_underlying hu, Result.andThen_ok, Sem.run_pure]
    refine congrArg (Result.andThen _) (funext fun a => funext fun w' => congrArg (Result.andThen _) (funext fun q => funext fun w'' => ?_))
    cases q <;> rfl
  · rename_i r0 pl hp hb
    unfold mapV at hes
    simp only at hes
    cases hg : h.get r0 with
    | none => rw [hg] at hes; cases hes
    | some B =>
      rw [hg] at hes
      cases B <;> try (cases hes; done)
      case map es0 clock =>
        cases hes
        obtain ⟨es', k1, k2⟩ := map_ok c hg (ag (.m (some r0)) (by simp) r0 (by simp [V.ids])) hp
        refine ⟨es', k2, ?_⟩
        simp only [Instr.lookup, lookupRest, Sem.run_bind, run_underlying hu, Result.andThen_ok, run_getObj_map k1, Sem.run_pure]
        refine congrArg (Result.andThen _) (funext fun a => funext fun w' => congrArg (Result.andThen _) (funext fun q => funext fun w'' => ?_))
        cases q <;> rfl

theorem snd_lookup {P : Program} {t : TypeId} {m k r : V} {ok : Bool} {h : Heap} (e : lookupV P t m k ok h = some r) {φ : Map} {g : Nat → Option Blk} {w : World} (c : Cx φ g h w) {m' k' : Value} (hm : RV φ m m') (hk : RV φ k k') (ag : Ag g h [m]) :
    Snd P (Instr.lookup t m' k' ok) φ g h w (r, h) := by
  unfold lookupV at e
  cases hu : P.underlying t with
  | none => rw [hu] at e; cases e
  | some D =>
    rw [hu] at e
    cases D <;> try (cases e; done)
    case map kt et =>
      simp only at e
      cases hes : mapV h m with
      | none => rw [hes] at e; cases e
      | some es =>
        rw [hes] at e
        simp only at e
        obtain ⟨es', k2, k1⟩ := lookup_start (P := P) (k' := k') (ok := ok) hu hes c.hr hm ag
        obtain ⟨e1, e2⟩ := okc_some e
        obtain ⟨D, hd⟩ := ck_under e1
        have hck := fun em => ckV_ok P em 10000 φ kt k k' w e1 hk
        cases hf : findV P kt k es 0 with
        | none => rw [hf] at e2; cases e2
        | some q =>
          rw [hf] at e2
          obtain ⟨q', f1, f2, _⟩ := run_findKey hk w hf k2 hd
          have hrun : (Instr.lookup t m' k' ok).run P w = (lookupRest kt et k' ok es').run P w := by
            rw [k1]; simp only [Sem.run_bind, hck, Result.andThen_ok]
          cases q with
          | some p =>
            obtain ⟨i, v⟩ := p
            cases q' with
            | none => exact f1.elim
            | some p' =>
              obtain ⟨i', v'⟩ := p'
              simp only at e2
              cases e2
              cases ok with
              | true => exact .pure c (v' := .tuple #[v', .bool true]) (by rw [hrun]; simp [lookupRest, f2]) (tup2 f1.2 (.b true))
              | false => exact .pure c (v' := v') (by rw [hrun]; simp [lookupRest, f2]) f1.2
          | none =>
            cases q' with
            | some _ => exact f1.elim
            | none =>
              simp only at e2
              cases hz : zeroV P et with
              | none => rw [hz] at e2; cases e2
              | some z =>
                rw [hz] at e2
                cases e2
                obtain ⟨z', z1, z2⟩ := run_zeroValue hz φ w
                cases ok with
                | true => exact .pure c (v' := .tuple #[z', .bool false]) (by rw [hrun]; simp [lookupRest, f2, z1]) (tup2 z2 (.b false))
                | false => exact .pure c (v' := z') (by rw [hrun]; simp [lookupRest, f2, z1]) z2

/-! writing maps -/
/-- values that are the same, cell by cell -/
noncomputable def sameC : V → V → Bool
  | .b a, .b b => cond a b (not b)
  | .i k a, .i k' b => and (decide (k = k')) (ieq a b)
  | .s a, .s b => and (Nat.beq a.n b.n) (Nat.beq a.v b.v)
  | _, _ => false
theorem sameC_eq {a b : V} (h : sameC a b = true) : a = b := by
  cases a <;> cases b <;> simp [sameC] at h
  · rename_i x y; cases x <;> cases y <;> simp_all
  · rename_i k x k' y
    obtain ⟨rfl, h2⟩ := h
    rw [ieq_eq] at h2
    simp at h2; rw [h2]
  · rename_i x y
    obtain ⟨h1, h2⟩ := h
    cases x; cases y
    simp only at h1 h2
    rw [h1, h2]
noncomputable def sameL : List V → List V → Bool
  | [], [] => true
  | a :: l, b :: k => and (sameC a b) (sameL l k)
  | _, _ => false
theorem sameL_eq : ∀ {l k : List V}, sameL l k = true → l = k
  | [], [], _ => rfl
  | [], _ :: _, h => by cases h
  | _ :: _, [], h => by cases h
  | a :: l, b :: k, h => by
    simp only [sameL, Bool.and_eq_true] at h
    rw [sameC_eq h.1, sameL_eq h.2]
noncomputable def sameV (a b : V) : Bool :=
  match a, b with
  | .agg l, .agg k => sameL l k
  | a, b => sameC a b
theorem sameV_eq {a b : V} (h : sameV a b = true) : a = b := by
  unfold sameV at h
  split at h
  · rw [sameL_eq h]
  · exact sameC_eq h

noncomputable def setAt (es : List (V × V × Nat)) (i : Nat) (k v : V) : List (V × V × Nat) :=
  match es, i with
  | [], _ => []
  | e :: es, 0 => (k, v, e.2.2) :: es
  | e :: es, i + 1 => e :: setAt es i k v
theorem setAt_get : ∀ (es : List (V × V × Nat)) (i j : Nat) (k v : V), (setAt es i k v)[j]? = if i = j then (es[j]?).map (fun e => (k, v, e.2.2)) else es[j]?
  | [], i, j, k, v => by cases i <;> simp [setAt]
  | e :: es, 0, j, k, v => by
    cases j with
    | zero => simp [setAt]
    | succ j => simp [setAt]
  | e :: es, i + 1, j, k, v => by
    cases j with
    | zero => simp [setAt]
    | succ j => simp [setAt, setAt_get es i j k v]
theorem setAt_length : ∀ (es : List (V × V × Nat)) (i : Nat) (k v : V), (setAt es i k v).length = es.length
  | [], i, k, v => by cases i <;> rfl
  | e :: es, 0, k, v => rfl
  | e :: es, i + 1, k, v => by simp [setAt, setAt_length es i k v]

noncomputable def mapUpdateV (P : Program) (t : TypeId) (m k x : V) (h : Heap) : Option Heap :=
  match P.underlying t, m with
  | some (.map kt _), .m (some r) =>
    match h.get r with
    | some (.map es clock) => okc (ckV P 10000 kt k) (match findV P kt k es 0 with
      | some (some (i, _)) => match es[i]? with
        | some e => okc (sameV e.1 k) (some (h.upd r (.map (setAt es i k x) clock)))
        | none => none
      | some none => some (h.upd r (.map (es ++ [(k, x, clock)]) (Nat.succ clock)))
      | none => none)
    | _ => none
  | _, _ => none

theorem run_setObj_map {P : Program} {w : World} {b : Nat} {es : Array MapEntry} {clock : Nat} (h : w.heap[b]? = some (.map es clock)) (o : Obj) : (setObj b o).run P w = .ok () { w with heap := w.heap.setIfInBounds b o } := by
  simp [setObj, Sem.run, h]
/-- a map is written -/
theorem Post.map1 {φ : Map} {g : Nat → Option Blk} {h : Heap} {w w0 : World} (c : Cx φ g h w) (d : Drawn w w0) {r : Nat} {es es1 : List (V × V × Nat)} {clock clock1 : Nat} (hlr : r < h.next) (hg : g r = some (.map es clock)) {pl : Place} (hp : φ r = some pl) {es' es1' : Array MapEntry} (hw : w.heap[pl.b]? = some (.map es' clock))
    (hm : RMap φ es1 es1'.toList) : Post φ g h (h.upd r (.map es1 clock1)) [r] φ w { w0 with heap := w0.heap.setIfInBounds pl.b (.map es1' clock1) } := by
  have hbr := c.hr.blk r _ pl hg hp
  have hlt : pl.b < w.heap.size := (Array.getElem?_eq_some_iff.1 hw).1
  refine Post.upd1 c.hr c.bey r hlr _ _ pl hg rfl hp d.os d.tape d.output (by simp [d.heap]) (fun b hb => ?_) ⟨hbr.1, es1', ?_, by simpa using hm.1, fun j x e a b => hm.2 j x e a (by simpa using b)⟩ (fun _ => rfl)
  · show (w0.heap.setIfInBounds _ _)[b]? = _
    rw [Array.getElem?_setIfInBounds, d.heap, if_neg (fun e => hb e.symm)]
  · show (w0.heap.setIfInBounds _ _)[pl.b]? = _
    rw [Array.getElem?_setIfInBounds, d.heap, if_pos rfl, if_pos hlt]

theorem run_keyThatStays {P : Program} (a b : Value) (w : World) : ∃ x w0, (Instr.keyThatStays a b).run P w = .ok x w0 ∧ Drawn w w0 ∧ (x = a ∨ x = b) := by
  unfold Instr.keyThatStays
  cases hs : Instr.sameBits 10000 a b with
  | true => exact ⟨b, w, by simp, Drawn.refl w, .inr rfl⟩
  | false =>
    simp only [Bool.false_eq_true, if_false, Sem.run_bind, run_choose]
    have hf : (Question.extern "map.whichKeyStays" 2).forced = false := rfl
    rw [hf]
    simp only [Bool.false_eq_true, if_false, Result.andThen_ok, Sem.run_pure]
    refine ⟨_, _, rfl, ⟨rfl, rfl, rfl, rfl⟩, ?_⟩
    split
    · exact .inr rfl
    · exact .inl rfl

theorem snd_mapUpdate {P : Program} {t : TypeId} {m k x : V} {h h' : Heap} (e : mapUpdateV P t m k x h = some h') {φ : Map} {g : Nat → Option Blk} {w : World} (c : Cx φ g h w) {m' k' x' : Value} (hm : RV φ m m') (hk : RV φ k k') (hx : RV φ x x') (ag : Ag g h [m]) :
    ∃ w' l, (Instr.mapUpdate t m' k' x').run P w = .ok () w' ∧ Ext h h' l ∧ Post φ g h h' l φ w w' := by
  unfold mapUpdateV at e
  cases hu : P.underlying t with
  | none => rw [hu] at e; cases e
  | some D =>
    rw [hu] at e
    cases D <;> try (cases e; done)
    case map kt et =>
      cases hm <;> try (cases e; done)
      case m r pl hp hb =>
        simp only at e
        cases hg : h.get r with
        | none => rw [hg] at e; cases e
        | some B =>
          rw [hg] at e
          cases B <;> try (cases e; done)
          case map es clock =>
            have hag := ag (.m (some r)) (by simp) r (by simp [V.ids])
            obtain ⟨es', k1, k2⟩ := map_ok c.hr hg hag hp
            rw [hg] at hag
            simp only at e
            obtain ⟨e1, e2⟩ := okc_some e
            obtain ⟨D, hd⟩ := ck_under e1
            have hck := ckV_ok P false 10000 φ kt k k' w e1 hk
            cases hf : findV P kt k es 0 with
            | none => rw [hf] at e2; cases e2
            | some q =>
              rw [hf] at e2
              obtain ⟨q', f1, f2, f3⟩ := run_findKey hk w hf k2 hd
              cases q with
              | some p =>
                obtain ⟨i, v⟩ := p
                cases q' with
                | none => exact f1.elim
                | some p' =>
                  obtain ⟨i', v'⟩ := p'
                  obtain ⟨rfl, hv⟩ := f1
                  simp only at e2
                  cases hei : es[i]? with
                  | none => rw [hei] at e2; cases e2
                  | some en =>
                    rw [hei] at e2
                    obtain ⟨g1, g2⟩ := okc_some e2
                    cases g2
                    have hsame := sameV_eq g1
                    have hil : i < es'.size := by
                      have := (List.getElem?_eq_some_iff.1 hei).1
                      have := k2.1; simp at this; omega
                    have hei' : es'[i]? = some es'[i] := Array.getElem?_eq_getElem hil
                    have hen := k2.2 i en es'[i] hei (by simp)
                    obtain ⟨kx, w0, s1, s2, s3⟩ := run_keyThatStays (P := P) (((es'[i]?).map (·.key)).getD k') k' w
                    have hkx : RV φ k kx := by
                      rcases s3 with rfl | rfl
                      · rw [hei']; show RV φ k es'[i].key; rw [← hsame]; exact hen.key
                      · exact hk
                    have k1' : w0.heap[pl.b]? = some (.map es' clock) := by rw [s2.heap]; exact k1
                    have hnew : RMap φ (setAt es i k x) (es'.modify i fun e => { e with key := kx, val := x' }).toList := by
                      refine ⟨by rw [setAt_length]; have := k2.1; simpa using this, fun j a b ha hb => ?_⟩
                      rw [setAt_get] at ha
                      rw [Array.getElem?_toList, Array.getElem?_modify] at hb
                      by_cases hij : i = j
                      · subst hij
                        rw [if_pos rfl, hei] at ha
                        rw [if_pos rfl, hei'] at hb
                        cases ha; cases hb
                        exact ⟨hkx, hx, hen.born⟩
                      · rw [if_neg hij] at ha hb
                        exact k2.2 j a b ha (by simpa using hb)
                    refine ⟨_, [r], ?_, Ext.upd h r _, Post.map1 c s2 (Heap.lt_of_get hg) hag hp k1 hnew (clock1 := clock)⟩
                    simp only [Instr.mapUpdate, Sem.run_bind, run_underlying hu, Result.andThen_ok, run_getObj_map k1, hck, f2, s1]
                    exact run_setObj_map k1' _
              | none =>
                cases q' with
                | some _ => exact f1.elim
                | none =>
                  simp only at e2
                  cases e2
                  have hnew : RMap φ (es ++ [(k, x, clock)]) (es'.push { key := k', val := x', born := clock }).toList := by
                    have hl := k2.1
                    simp at hl
                    refine ⟨by simp [hl], fun j a b ha hb => ?_⟩
                    rw [Array.toList_push] at hb
                    by_cases hj : j < es.length
                    · rw [List.getElem?_append_left hj] at ha
                      rw [List.getElem?_append_left (by simpa [hl] using hj)] at hb
                      exact k2.2 j a b ha hb
                    · rw [List.getElem?_append_right (by omega)] at ha
                      rw [List.getElem?_append_right (by simp [← hl]; omega)] at hb
                      have e3 : es'.toList.length = es.length := by simp [hl]
                      rw [e3] at hb
                      cases hq : j - es.length with
                      | zero => rw [hq] at ha hb; cases ha; cases hb; exact ⟨hk, hx, rfl⟩
                      | succ q => rw [hq] at ha; simp at ha
                  refine ⟨_, [r], ?_, Ext.upd h r _, Post.map1 c (Drawn.refl w) (Heap.lt_of_get hg) hag hp k1 hnew (clock1 := clock + 1)⟩
                  simp only [Instr.mapUpdate, Sem.run_bind, run_underlying hu, Result.andThen_ok, run_getObj_map k1, hck, f2]
                  exact run_setObj_map k1 _

noncomputable def eraseAt (es : List (V × V × Nat)) (i : Nat) : List (V × V × Nat) :=
  match es, i with
  | [], _ => []
  | _ :: es, 0 => es
  | e :: es, i + 1 => e :: eraseAt es i
theorem eraseAt_eq : ∀ (es : List (V × V × Nat)) (i : Nat), eraseAt es i = es.eraseIdx i
  | [], i => by cases i <;> rfl
  | e :: es, 0 => rfl
  | e :: es, i + 1 => by simp [eraseAt, eraseAt_eq es i]
noncomputable def deleteV (P : Program) (t : TypeId) (m k : V) (h : Heap) : Option Heap :=
  match P.underlying t, m with
  | some (.map kt _), .m none => okc (ckV P 10000 kt k) (some h)
  | some (.map kt _), .m (some r) =>
    match h.get r with
    | some (.map es clock) => okc (ckV P 10000 kt k) (match findV P kt k es 0 with
      | some (some (i, _)) => some (h.upd r (.map (eraseAt es i) clock))
      | some none => some (h.upd r (.map es clock))
      | none => none)
    | _ => none
  | _, _ => none
theorem snd_delete {P : Program} {t t2 ty : TypeId} {m k : V} {h h' : Heap} (e : deleteV P t m k h = some h') {φ : Map} {g : Nat → Option Blk} {w : World} (c : Cx φ g h w) {m' k' : Value} (hm : RV φ m m') (hk : RV φ k k') (ag : Ag g h [m]) :
    Snd P (Builtin.delete_ #[t, t2] ty #[m', k']) φ g h w (.tup [], h') := by
  unfold deleteV at e
  cases hu : P.underlying t with
  | none => rw [hu] at e; cases e
  | some D =>
    rw [hu] at e
    cases D <;> try (cases e; done)
    case map kt et =>
      cases hm <;> try (cases e; done)
      case m0 =>
        obtain ⟨e1, e2⟩ := okc_some e
        cases e2
        have hck := ckV_ok P true 10000 φ kt k k' w e1 hk
        exact .pure c (v' := .tuple #[]) (by simp [Builtin.delete_, run_underlying hu, hck]) (RV.tup_mk (RVs.nil φ))
      case m r pl hp hb =>
        simp only at e
        cases hg : h.get r with
        | none => rw [hg] at e; cases e
        | some B =>
          rw [hg] at e
          cases B <;> try (cases e; done)
          case map es clock =>
            have hag := ag (.m (some r)) (by simp) r (by simp [V.ids])
            obtain ⟨es', k1, k2⟩ := map_ok c.hr hg hag hp
            rw [hg] at hag
            simp only at e
            obtain ⟨e1, e2⟩ := okc_some e
            obtain ⟨D, hd⟩ := ck_under e1
            have hck := fun em => ckV_ok P em 10000 φ kt k k' w e1 hk
            cases hf : findV P kt k es 0 with
            | none => rw [hf] at e2; cases e2
            | some q =>
              rw [hf] at e2
              obtain ⟨q', f1, f2, f3⟩ := run_findKey hk w hf k2 hd
              cases q with
              | some p =>
                obtain ⟨i, v⟩ := p
                cases q' with
                | none => exact f1.elim
                | some p' =>
                  obtain ⟨i', v'⟩ := p'
                  obtain ⟨rfl, hv⟩ := f1
                  simp only at e2
                  cases e2
                  have hnew : RMap φ (eraseAt es i) (es'.eraseIdxIfInBounds i).toList := by
                    rw [eraseAt_eq]
                    have e3 : (es'.eraseIdxIfInBounds i).toList = es'.toList.eraseIdx i := by
                      unfold Array.eraseIdxIfInBounds
                      split
                      · rw [Array.toList_eraseIdx]
                      · rename_i hn
                        rw [List.eraseIdx_of_length_le (by simpa using hn)]
                    rw [e3]
                    refine ⟨by rw [List.length_eraseIdx, List.length_eraseIdx, k2.1], fun j a b ha hb => ?_⟩
                    rw [List.getElem?_eraseIdx] at ha hb
                    split at ha
                    · rename_i hlt; rw [if_pos hlt] at hb; exact k2.2 j a b ha hb
                    · rename_i hlt; rw [if_neg hlt] at hb; exact k2.2 _ a b ha hb
                  refine ⟨.tuple #[], _, φ, [r], ?_, Ext.upd h r _, RV.tup_mk (RVs.nil φ), Post.map1 c (Drawn.refl w) (Heap.lt_of_get hg) hag hp k1 hnew (clock1 := clock)⟩
                  simp only [Builtin.delete_]
                  simp [run_underlying hu, run_getObj_map k1, hck, f2, run_setObj_map k1]
              | none =>
                cases q' with
                | some _ => exact f1.elim
                | none =>
                  simp only at e2
                  cases e2
                  refine ⟨.tuple #[], _, φ, [r], ?_, Ext.upd h r _, RV.tup_mk (RVs.nil φ), Post.map1 c (Drawn.refl w) (Heap.lt_of_get hg) hag hp k1 k2 (clock1 := clock)⟩
                  simp only [Builtin.delete_]
                  simp [run_underlying hu, run_getObj_map k1, hck, f2, run_setObj_map k1]

/-! a new map -/
noncomputable def makeMapV (P : Program) (t : TypeId) (r : Option V) (h : Heap) : Option (V × Heap) :=
  match r with
  | none => some (.m (some h.next), h.new (.map [] 0))
  | some (.i _ _) => match P.underlying t with
    | some (.map _ _) => some (.m (some h.next), h.new (.map [] 0))
    | _ => none
  | _ => none
theorem snd_makeMap {P : Program} {t : TypeId} {x : Option V} {h : Heap} {r : V × Heap} (e : makeMapV P t x h = some r) {φ : Map} {g : Nat → Option Blk} {w : World} (c : Cx φ g h w) {x' : Option Value} (hx : RO φ x x') : Snd P (Instr.makeMap t x') φ g h w r := by
  have key : (Instr.makeMap t x').run P w = .ok (.map (some w.heap.size)) { w with heap := w.heap.push (.map #[] 0) } → Snd P (Instr.makeMap t x') φ g h w (.m (some h.next), h.new (.map [] 0)) := fun hr => by
    refine ⟨_, _, φ.ext h.next ⟨w.heap.size, 0, 0, 0⟩, [], hr, Ext.new h _, .m h.next ⟨w.heap.size, 0, 0, 0⟩ (Map.ext_same _ _ _) rfl, ?_⟩
    refine Post.new1 c.hr (fun x hx hp => c.bey x (by omega) hp) c.fresh _ _ rfl rfl rfl rfl (by simp) (fun b hb => ?_) ⟨rfl, #[], ?_, rfl, fun j x e a b => by simp at a⟩ (fun _ => rfl)
    · show (w.heap.push _)[b]? = _
      rw [Array.getElem?_push, if_neg (by omega)]
    · show (w.heap.push _)[w.heap.size]? = _
      rw [Array.getElem?_push, if_pos rfl]
  unfold makeMapV at e
  cases x with
  | none =>
    cases e
    cases x' with
    | some _ => exact hx.elim
    | none => exact key (by simp [Instr.makeMap])
  | some v =>
    cases x' with
    | none => exact hx.elim
    | some v' =>
      have hv : RV φ v v' := hx
      cases hv <;> try (cases e; done)
      case i k n =>
        simp only at e
        cases hu : P.underlying t with
        | none => rw [hu] at e; cases e
        | some D =>
          rw [hu] at e
          cases D <;> try (cases e; done)
          case map kt et =>
            cases e
            exact key (by simp [Instr.makeMap, run_underlying hu, asInt, asIntOf])

/-! texts gone through -/
noncomputable def rangeV (P : Program) (t : TypeId) (x : V) (h : Heap) : Option (V × Heap) :=
  match P.underlying t, x with
  | some .string, .s l => some (.p (some (h.next, 0)), h.new (.siter ⟨l.list.toArray⟩ 0))
  | _, _ => none
theorem snd_range {P : Program} {t : TypeId} {x : V} {h : Heap} {r : V × Heap} (e : rangeV P t x h = some r) {φ : Map} {g : Nat → Option Blk} {w : World} (c : Cx φ g h w) {x' : Value} (hx : RV φ x x') : Snd P (Instr.range t x') φ g h w r := by
  unfold rangeV at e
  cases hu : P.underlying t with
  | none => rw [hu] at e; cases e
  | some D =>
    rw [hu] at e
    cases D <;> try (cases e; done)
    case string =>
      cases hx <;> try (cases e; done)
      case s sb s hsb =>
        cases e
        have es : (⟨sb.list.toArray⟩ : ByteArray) = s := by rw [← hsb]
        rw [es]
        refine ⟨.pointer (some ⟨w.heap.size, 0, none⟩), { w with heap := w.heap.push (.stringIter s 0) }, φ.ext h.next ⟨w.heap.size, 0, 0, 0⟩, [], by simp [Instr.range, run_underlying hu], Ext.new h _, .p h.next 0 ⟨w.heap.size, 0, 0, 0⟩ (Map.ext_same _ _ _), ?_⟩
        refine Post.new1 c.hr (fun x hx hp => c.bey x (by omega) hp) c.fresh _ _ rfl rfl rfl rfl (by simp) (fun b hb => ?_) ⟨rfl, ?_⟩ (fun _ => rfl)
        · show (w.heap.push _)[b]? = _
          rw [Array.getElem?_push, if_neg (by omega)]
        · show (w.heap.push _)[w.heap.size]? = _
          rw [Array.getElem?_push, if_pos rfl]
noncomputable def nextV (it : V) (isString : Bool) (h : Heap) : Option (V × Heap) :=
  match it, isString with
  | .p (some (r, 0)), true =>
    match h.get r with
    | some (.siter s pos) => cond (Nat.blt pos s.size)
        (some (.tup [.b true, .i .i64 (.ofNat pos), .i .i32 (.ofNat (Utf8.decode s pos).1)], h.upd r (.siter s (pos + (Utf8.decode s pos).2))))
        (some (.tup [.b false], h))
    | _ => none
  | _, _ => none
theorem snd_next {P : Program} {it : V} {b : Bool} {h : Heap} {r : V × Heap} (e : nextV it b h = some r) {φ : Map} {g : Nat → Option Blk} {w : World} (c : Cx φ g h w) {it' : Value} (hx : RV φ it it') (ty : TypeId) (ag : Ag g h [it]) : Snd P (Instr.next it' b ty) φ g h w r := by
  cases hx <;> try (cases e; done)
  case p a o pl hp =>
    unfold nextV at e
    cases o with
    | succ o => cases b <;> cases e
    | zero =>
      cases b with
      | false => cases e
      | true =>
        simp only at e
        have hag := ag (.p (some (a, 0))) (by simp) a (by simp [V.ids])
        cases hg : h.get a with
        | none => rw [hg] at e; cases e
        | some B =>
          rw [hg] at e hag
          cases B <;> try (cases e; done)
          case siter s pos =>
            obtain ⟨k1, k2⟩ := c.hr.blk a _ pl hag hp
            have hgo : (getObj pl.b).run P w = .ok (.stringIter s pos) w := by simp [getObj, Sem.run, k2]
            have hlt : pl.b < w.heap.size := (Array.getElem?_eq_some_iff.1 k2).1
            simp only at e
            cases hq : Nat.blt pos s.size with
            | true =>
              rw [hq] at e
              cases e
              have hq : pos < s.size := Nat.le_of_ble_eq_true hq
              refine ⟨.tuple #[.bool true, goInt pos, .int .i32 (Utf8.decode s pos).1], { w with heap := w.heap.setIfInBounds pl.b (.stringIter s (pos + (Utf8.decode s pos).2)) }, φ, [a], ?_, Ext.upd h a _, tup3 (.b _) (.i _ _) (.i _ _), ?_⟩
              · have hso : (setObj pl.b (.stringIter s (pos + (Utf8.decode s pos).2))).run P w = .ok () { w with heap := w.heap.setIfInBounds pl.b (.stringIter s (pos + (Utf8.decode s pos).2)) } := by simp [setObj, Sem.run, k2]
                rw [k1]
                simp only [Instr.next, Nat.add_zero, Sem.run_bind, hgo, Result.andThen_ok, if_pos hq, hso]
                rfl
              · refine Post.upd1 c.hr c.bey a (Heap.lt_of_get hg) _ _ pl hag rfl hp rfl rfl rfl (by simp) (fun b hb => ?_) ⟨k1, ?_⟩ (fun _ => rfl)
                · show (w.heap.setIfInBounds _ _)[b]? = _
                  rw [Array.getElem?_setIfInBounds, if_neg (fun e => hb e.symm)]
                · show (w.heap.setIfInBounds _ _)[pl.b]? = _
                  rw [Array.getElem?_setIfInBounds, if_pos rfl, if_pos hlt]
            | false =>
              rw [hq] at e
              cases e
              have hq : ¬ pos < s.size := fun h => by rw [nat_blt] at hq; simp at hq; omega
              refine .pure c (v' := .tuple #[.bool false]) ?_ (RV.tup_mk (RVs.cons (.b _) (RVs.nil φ)))
              rw [k1]
              simp only [Instr.next, Nat.add_zero, Sem.run_bind, hgo, Result.andThen_ok, if_neg hq]
              rfl

end Go.Ab
