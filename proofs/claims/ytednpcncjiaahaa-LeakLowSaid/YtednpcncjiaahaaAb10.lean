/-
  An abstract interpreter of the model's code, part 10: copy, len, min, max, conversions, iterators of texts. Conditions: none.
-/
import Derived.Test.YtednpcncjiaahaaAb9
import Derived.Laws.IdiomStrings
set_option linter.unusedVariables false
set_option linter.unusedSimpArgs false
namespace Go.Ab
open Go

/-! copy -/
noncomputable def firstV (size n : Nat) (x : V) (h : Heap) : Option (List V) :=
  match x with
  | .sl none _ _ _ => some []
  | .sl (some (b, q)) _ _ _ =>
    match n with
    | 0 => some []
    | n + 1 => match h.get b with
      | some (.cells k _ tr own) => okc (Nat.ble (q + (n + 1) * size) k) (match readN tr q ((n + 1) * size) with
        | some l => okc (or own (l.all V.sc)) (some l)
        | none => none)
      | _ => none
  | .s l => some ((l.nats.take n).map fun b => .i .u8 (.ofNat b))
  | _ => none
noncomputable def lenOfV (x : V) : Option Nat :=
  match x with
  | .sl _ n _ _ => some n
  | .s l => some l.n
  | _ => none
theorem run_lenOf {P : Program} {x : V} {n : Nat} (h : lenOfV x = some n) {φ : Map} {x' : Value} (hx : RV φ x x') (w : World) : (Builtin.lenOf x').run P w = .ok n w := by
  cases hx <;> try (cases h; done)
  · rename_i hb; cases h; rw [← SB.list_length, ← hb, ← size_data]; rfl
  · cases h; rfl
  · cases h; rfl
theorem first_ok {P : Program} {size n : Nat} {x : V} {h : Heap} {l : List V} (e : firstV size n x h = some l) {m : Nat} (hm : lenOfV x = some m) (hn : n ≤ m) {φ : Map} {g : Nat → Option Blk} {w : World} (c : HR φ g w) (ag : Ag g h [x]) {x' : Value} (hx : RV φ x x') :
    ∃ l', (Builtin.firstCells size n x').run P w = .ok l'.toArray w ∧ RVs φ l l' ∧ ∀ u ∈ l', u.oneCell' = true := by
  cases hx <;> try (cases e; done)
  case sl0 => cases e; exact ⟨[], run_firstCells_none w size n 0 0, RVs.nil φ, fun u h => by cases h⟩
  case sl b q len cap cc ex pl hp h1 h2 h3 h4 =>
    cases n with
    | zero => cases e; exact ⟨[], by simp [Builtin.firstCells, loadCells, loadCellsFrom], RVs.nil φ, fun u h => by cases h⟩
    | succ n =>
      unfold firstV at e
      simp only at e
      have hag := ag (.sl (some (b, q)) len cap ex) (by simp) b (by simp [V.ids])
      cases hg : h.get b with
      | none => rw [hg] at e; cases e
      | some B =>
        rw [hg] at e hag
        cases B <;> try (cases e; done)
        case cells k es tr own =>
          obtain ⟨e1, e2⟩ := okc_some e
          cases hr : readN tr q ((n + 1) * size) with
          | none => rw [hr] at e2; cases e2
          | some k =>
            rw [hr] at e2
            obtain ⟨e3, e2⟩ := okc_some e2
            cases e2
            obtain ⟨l', r1, r2, r3, r4⟩ := (c.blk b _ pl hag hp).readN hr (Nat.le_of_ble_eq_true e1)
            exact ⟨l', run_firstCells_some w size (n + 1) _ _ _ l' r2 r3, r1, r4 e3⟩
  case s sb s hsb =>
    cases e
    cases hm
    rw [← SB.list_length, ← hsb, ← size_data] at hn
    rw [SB.nats_eq, ← hsb, ← List.map_take, List.map_map]
    refine ⟨(s.data.toList.take n).map fun b => .int .u8 b.toNat, ?_, ?_, fun u hu => by obtain ⟨_, _, rfl⟩ := List.mem_map.1 hu; rfl⟩
    · simp only [Builtin.firstCells, Sem.run_pure]
      congr 1
      apply Array.ext'
      simp [ByteArray.data_extract]
    · generalize s.data.toList.take n = k
      induction k with
      | nil => exact RVs.nil φ
      | cons b k ih => exact RVs.cons (.i _ _) ih

noncomputable def copyV (P : Program) (t : TypeId) (d s : V) (h : Heap) : Option (V × Heap) :=
  match P.underlying t with
  | some (.slice e) =>
    match szOf P e, lenOfV s with
    | some sz, some m =>
      match d with
      | .sl none _ _ _ => (firstV sz 0 s h).map fun _ => (.i .i64 0, h)
      | .sl (some (a, o)) dl _ _ =>
        match firstV sz (Nat.min m dl) s h with
        | some [] => some (.i .i64 (.ofNat (Nat.min m dl)), h)
        | some (v :: l) => match h.get a with
          | some (.cells n es tr true) => okc (Nat.ble (o + (v :: l).length) n) (some (.i .i64 (.ofNat (Nat.min m dl)), h.upd a (.cells n es (wr tr o (v :: l)) true)))
          | _ => none
        | none => none
      | _ => none
    | _, _ => none
  | _ => none
theorem snd_copy {P : Program} {t t2 ty : TypeId} {d s : V} {h : Heap} {r : V × Heap} (e : copyV P t d s h = some r) {φ : Map} {g : Nat → Option Blk} {w : World} (c : Cx φ g h w)
    {d' s' : Value} (hd : RV φ d d') (hs : RV φ s s') (ag : Ag g h [d, s]) : Snd P (Builtin.copy_ #[t, t2] ty #[d', s']) φ g h w r := by
  have ags : Ag g h [s] := fun v hv => ag v (by simp at hv; simp [hv])
  unfold copyV at e
  cases hu : P.underlying t with
  | none => rw [hu] at e; cases e
  | some D =>
    rw [hu] at e
    cases D <;> try (cases e; done)
    case slice el =>
      simp only at e
      cases hsz : szOf P el with
      | none => rw [hsz] at e; cases e
      | some sz =>
        cases hl : lenOfV s with
        | none => rw [hsz, hl] at e; cases e
        | some m =>
          rw [hsz, hl] at e
          simp only at e
          have hrl := fun w => run_lenOf (P := P) hl hs w
          cases hd <;> try (cases e; done)
          case sl0 =>
            simp only at e
            cases hf : firstV sz 0 s h with
            | none => rw [hf] at e; cases e
            | some l =>
              rw [hf] at e; cases e
              obtain ⟨l', r1, r2, r3⟩ := first_ok (P := P) hf hl (Nat.zero_le _) c.hr ags hs
              refine .pure c (v' := .int .i64 0) ?_ (.i _ _)
              have hm0 : Nat.min m 0 = 0 := Nat.min_zero m
              simp [Builtin.copy_, run_underlying hu, hrl, run_sizeOf hsz, r1, goInt]
          case sl a o dl cap cc ex pl hp h1 h2 h3 h4 =>
            simp only at e
            cases hf : firstV sz (Nat.min m dl) s h with
            | none => rw [hf] at e; cases e
            | some l =>
              rw [hf] at e
              obtain ⟨l', r1, r2, r3⟩ := first_ok (P := P) hf hl (Nat.min_le_left m dl) c.hr ags hs
              cases l with
              | nil =>
                simp only at e
                cases e
                have : l' = [] := r2.nil_inv
                subst this
                refine .pure c (v' := .int .i64 (Nat.min m dl : Nat)) ?_ (.i _ _)
                simp only [Builtin.copy_]
                simp [run_underlying hu, hrl, run_sizeOf hsz, r1, goInt, storeCells]
              | cons v l =>
                simp only at e
                have hag := ag (.sl (some (a, o)) dl cap ex) (by simp) a (by simp [V.ids])
                cases hg : h.get a with
                | none => rw [hg] at e; cases e
                | some B =>
                  rw [hg] at e hag
                  cases B <;> try (cases e; done)
                  case cells n es tr own =>
                    cases own <;> try (cases e; done)
                    case true =>
                      obtain ⟨g1, g2⟩ := okc_some e
                      cases g2
                      obtain ⟨w', s1, s2⟩ := store_cells (P := P) c.hr c.bey (Heap.lt_of_get hg) hag hp r2 r3 (off := o) (Nat.le_of_ble_eq_true g1)
                      refine ⟨.int .i64 (Nat.min m dl : Nat), w', φ, [a], ?_, Ext.upd h a _, .i _ _, s2⟩
                      simp only [Builtin.copy_]
                      simp [run_underlying hu, hrl, run_sizeOf hsz, r1, goInt, s1]

/-! len, min, max -/
noncomputable def lenV (P : Program) (t : TypeId) (x : V) (h : Heap) : Option V :=
  match P.underlying t, x with
  | some .string, .s l => some (.i .i64 (.ofNat l.n))
  | some (.slice _), .sl _ n _ _ => some (.i .i64 (.ofNat n))
  | some (.array n _), _ => some (.i .i64 (.ofNat n))
  | some (.map _ _), .m none => some (.i .i64 0)
  | some (.map _ _), .m (some r) => match h.get r with
    | some (.map es _) => some (.i .i64 (.ofNat es.length))
    | _ => none
  | _, _ => none
theorem snd_len {P : Program} {t ty : TypeId} {x r : V} {h : Heap} (e : lenV P t x h = some r) {φ : Map} {g : Nat → Option Blk} {w : World} (c : Cx φ g h w) {x' : Value} (hx : RV φ x x') (ag : Ag g h [x]) : Snd P (Builtin.len_ #[t] ty #[x']) φ g h w (r, h) := by
  unfold lenV at e
  cases hu : P.underlying t with
  | none => rw [hu] at e; cases e
  | some D =>
    rw [hu] at e
    cases D <;> try (cases e; done)
    case string =>
      cases hx <;> try (cases e; done)
      case s sb s hsb => cases e; rw [← SB.list_length, ← hsb, ← size_data]; exact .pure c (v' := goInt s.size) (by simp [Builtin.len_, run_underlying hu]) (.i _ _)
    case slice =>
      cases hx <;> try (cases e; done)
      · cases e; exact .pure c (v' := goInt 0) (by simp [Builtin.len_, run_underlying hu]) (.i _ _)
      · rename_i a o len cap cc ex pl hp h1 h2 h3 h4
        cases e; exact .pure c (v' := goInt len) (by simp [Builtin.len_, run_underlying hu]) (.i _ _)
    case array n el =>
      cases e; exact .pure c (v' := goInt n) (by simp [Builtin.len_, run_underlying hu]) (.i _ _)
    case map =>
      cases hx <;> try (cases e; done)
      · cases e; exact .pure c (v' := goInt 0) (by simp [Builtin.len_, run_underlying hu]) (.i _ _)
      · rename_i r0 pl hp hb
        simp only at e
        have hag := ag (.m (some r0)) (by simp) r0 (by simp [V.ids])
        cases hg : h.get r0 with
        | none => rw [hg] at e; cases e
        | some B =>
          rw [hg] at e hag
          cases B <;> try (cases e; done)
          case map es clock =>
            cases e
            obtain ⟨_, es', k1, k2, _⟩ := c.hr.blk r0 _ pl hag hp
            rw [k2]
            refine .pure c (v' := goInt es'.size) ?_ (.i _ _)
            simp [Builtin.len_, run_underlying hu, getObj, Sem.run, k1]

noncomputable def foldI (f : Int → Int → Bool) (k : IntKind) (x : Int) : List V → Option Int
  | [] => some x
  | .i k' y :: l => okc (decide (k = k')) (foldI f k (cond (f y x) y x) l)
  | _ => none
noncomputable def minmaxV (f : Int → Int → Bool) (l : List V) : Option V :=
  match l with
  | .i k x :: l => (foldI f k x l).map (.i k)
  | _ => none
theorem fold_min {P : Program} {k : IntKind} {φ : Map} {w : World} : ∀ {l : List V} {l' : List Value} {x r : Int}, foldI ilt k x l = some r → RVs φ l l' → (l'.foldlM Builtin.min2 (.int k x)).run P w = .ok (.int k r) w
  | [], l', x, r, h, hl => by cases h; rw [hl.nil_inv]; simp
  | v :: l, l', x, r, h, hl => by
    obtain ⟨v', t, rfl, hv, ht⟩ := hl.cons_inv
    cases v <;> try (cases h; done)
    case i k' y =>
      obtain ⟨h1, h2⟩ := okc_some h
      have h1 := of_decide_eq_true h1
      subst h1
      cases hv
      have ih := fold_min (P := P) (w := w) h2 ht
      have e : (cond (ilt y x) y x) = if y < x then y else x := by rw [ilt_eq]; by_cases hq : y < x <;> simp [hq]
      rw [e] at ih
      simp [List.foldlM_cons, Builtin.min2, ih]
theorem fold_max {P : Program} {k : IntKind} {φ : Map} {w : World} : ∀ {l : List V} {l' : List Value} {x r : Int}, foldI (fun y x => ilt x y) k x l = some r → RVs φ l l' → (l'.foldlM Builtin.max2 (.int k x)).run P w = .ok (.int k r) w
  | [], l', x, r, h, hl => by cases h; rw [hl.nil_inv]; simp
  | v :: l, l', x, r, h, hl => by
    obtain ⟨v', t, rfl, hv, ht⟩ := hl.cons_inv
    cases v <;> try (cases h; done)
    case i k' y =>
      obtain ⟨h1, h2⟩ := okc_some h
      have h1 := of_decide_eq_true h1
      subst h1
      cases hv
      have ih := fold_max (P := P) (w := w) h2 ht
      have e : (cond (ilt x y) y x) = if y > x then y else x := by rw [ilt_eq]; by_cases hq : x < y <;> simp [hq]
      rw [e] at ih
      simp [List.foldlM_cons, Builtin.max2, ih]
theorem run_minV {P : Program} {l : List V} {r : V} (h : minmaxV ilt l = some r) {φ : Map} {l' : List Value} (hl : RVs φ l l') (ts : Array TypeId) (ty : TypeId) (w : World) : ∃ r', (Builtin.min_ ts ty l'.toArray).run P w = .ok r' w ∧ RV φ r r' := by
  cases l with
  | nil => cases h
  | cons v l =>
    obtain ⟨v', t, rfl, hv, ht⟩ := hl.cons_inv
    cases v <;> try (cases h; done)
    case i k x =>
      cases hv
      unfold minmaxV at h
      simp only at h
      cases hf : foldI ilt k x l with
      | none => rw [hf] at h; cases h
      | some q =>
        rw [hf] at h; cases h
        exact ⟨.int k q, by simp only [Builtin.min_]; exact fold_min hf ht, .i _ _⟩
theorem run_maxV {P : Program} {l : List V} {r : V} (h : minmaxV (fun y x => ilt x y) l = some r) {φ : Map} {l' : List Value} (hl : RVs φ l l') (ts : Array TypeId) (ty : TypeId) (w : World) : ∃ r', (Builtin.max_ ts ty l'.toArray).run P w = .ok r' w ∧ RV φ r r' := by
  cases l with
  | nil => cases h
  | cons v l =>
    obtain ⟨v', t, rfl, hv, ht⟩ := hl.cons_inv
    cases v <;> try (cases h; done)
    case i k x =>
      cases hv
      unfold minmaxV at h
      simp only at h
      cases hf : foldI (fun y x => ilt x y) k x l with
      | none => rw [hf] at h; cases h
      | some q =>
        rw [hf] at h; cases h
        exact ⟨.int k q, by simp only [Builtin.max_]; exact fold_max hf ht, .i _ _⟩

/-! conversions -/
noncomputable def bytesOfV : List V → Option (List UInt8)
  | [] => some []
  | .i .u8 n :: l => match bytesOfV l with
    | some k => some (UInt8.ofNat n.toNat :: k)
    | none => none
  | _ => none
noncomputable def convV (P : Program) (src dst : TypeId) (x : V) (h : Heap) : Option (V × Heap) :=
  match P.underlying src, P.underlying dst, x with
  | some _, some (.int k), .i _ n => some (.i k (wrapI k n), h)
  | some _, some .string, .s l => some (.s l, h)
  | some .string, some (.slice e), .s l =>
    match P.underlying e with
    | some (.int .u8) => some (.sl (some (h.next, 0)) l.n l.n false, h.new (.cells l.n 1 (wr .e 0 (l.nats.map fun b => .i .u8 (.ofNat b))) true))
    | _ => none
  | some (.slice e), some .string, .sl a n _ _ =>
    match P.underlying e with
    | some (.int .u8) =>
      match a with
      | none => some (.s ⟨0, 0⟩, h)
      | some (b, q) =>
        match n with
        | 0 => some (.s ⟨0, 0⟩, h)
        | n + 1 => match h.get b with
          | some (.cells k _ tr _) => okc (Nat.ble (q + (n + 1)) k) (match readN tr q (n + 1) with
            | some l => (bytesOfV l).map fun s => (.s (SB.ofL s), h)
            | none => none)
          | _ => none
    | _ => none
  | _, _, _ => none

theorem bytesOf_ok {P : Program} {φ : Map} {w : World} (f : Value → ByteArray → Sem (ForInStep ByteArray)) (hf : ∀ n s, f (.int .u8 n) s = pure (.yield (s.push (UInt8.ofNat n.toNat)))) : ∀ {l : List V} {l' : List Value} {r : List UInt8}, bytesOfV l = some r → RVs φ l l' → ∀ (s0 : ByteArray),
    (forIn (m := Sem) l' s0 f).run P w = .ok ⟨(s0.data.toList ++ r).toArray⟩ w
  | [], l', r, h, hl, s0 => by cases h; rw [hl.nil_inv]; simp
  | v :: l, l', r, h, hl, s0 => by
    obtain ⟨v', t, rfl, hv, ht⟩ := hl.cons_inv
    cases v <;> try (cases h; done)
    case i k n =>
      cases k <;> try (cases h; done)
      case u8 =>
        unfold bytesOfV at h
        cases hb : bytesOfV l with
        | none => rw [hb] at h; cases h
        | some q =>
          rw [hb] at h; cases h
          cases hv
          have ih := bytesOf_ok (P := P) (w := w) f hf hb ht (s0.push (UInt8.ofNat n.toNat))
          rw [List.forIn_cons, hf]
          simp only [Sem.run_bind, Sem.run_pure, Result.andThen_ok]
          rw [ih]
          congr 2
          simp [ByteArray.push]

/-- a new row whose mark stands behind it -/
theorem new_rowF {φ : Map} {g : Nat → Option Blk} {h : Heap} {w w0 : World} (c : Cx φ g h w) (d : Drawn w w0) (l : List V) (l' : List Value) (hl : RVs φ l l') (h1 : ∀ u ∈ l', u.oneCell' = true) (es : Nat) (e : TypeId) (row : Array Value) (fr : Nat × Nat)
    (hrow : l'.length ≤ row.size) (hget : ∀ j, j < l'.length → row[j]? = l'[j]?) (hfr : ∀ j, j < row.size → ¬ (fr.1 ≤ j ∧ j < fr.2)) :
    Post φ g h (h.new (.cells l.length es (wr .e 0 l) true)) [] (φ.ext h.next ⟨w.heap.size, 0, row.size, es⟩) w { w0 with heap := w0.heap.push (.cells row e fr) } := by
  have hh := d.heap
  refine Post.new1 c.hr (fun x hx hp => c.bey x (by omega) hp) c.fresh _ _ rfl d.os d.tape d.output (by simp [hh]) (fun b hb => ?_) ⟨row, e, fr, ?_, rfl, rfl, by simpa [hl.1] using hrow, fun j hj => ?_, fun _ => ⟨rfl, hfr⟩⟩ (fun _ => rfl)
  · show (w0.heap.push _)[b]? = _
    rw [Array.getElem?_push, hh, if_neg (by omega)]
  · show (w0.heap.push _)[w.heap.size]? = _
    rw [Array.getElem?_push, hh, if_pos rfl]
  · have hlt : j < l.length := hj
    obtain ⟨v', q1, q2⟩ := hl.get (List.getElem?_eq_getElem hlt)
    refine ⟨l[j], v', ?_, ?_, q2.mono (Map.le_ext _ c.fresh), fun _ => h1 v' (List.mem_of_getElem? q1)⟩
    · rw [wr_get, if_pos (by omega)]; simp
    · simp only [Nat.zero_add]
      rw [hget j (by rw [← hl.1]; exact hlt)]; exact q1

theorem snd_conv {P : Program} {src dst : TypeId} {x : V} {h : Heap} {r : V × Heap} (e : convV P src dst x h = some r) {φ : Map} {g : Nat → Option Blk} {w : World} (c : Cx φ g h w) {x' : Value} (hx : RV φ x x') (ag : Ag g h [x]) :
    Snd P (Go.convert src dst x') φ g h w r := by
  unfold convV at e
  cases hu : P.underlying src with
  | none => rw [hu] at e; cases e
  | some D =>
    cases hv : P.underlying dst with
    | none => rw [hu, hv] at e; cases D <;> cases e
    | some E =>
      rw [hu, hv] at e
      cases E
      case int k =>
        cases hx
        case i k' n =>
          have e' : some (V.i k (wrapI k n), h) = some r := by cases D <;> exact e
          cases e'
          refine .pure c (v' := .int k (k.wrap n)) ?_ (by rw [wrapI_eq]; exact .i _ _)
          simp [Go.convert, run_underlying hu, run_underlying hv, Conv.intToInt]
        all_goals (cases D <;> cases e)
      case string =>
        cases hx
        case s sb s hsb =>
          have e' : some (V.s sb, h) = some r := by cases D <;> exact e
          cases e'
          refine .pure c (v' := .string s) ?_ (.s _ _ hsb)
          simp [Go.convert, run_underlying hu, run_underlying hv]
        case sl0 =>
          cases D <;> try (cases e; done)
          case slice el =>
            simp only at e
            cases hel : P.underlying el with
            | none => rw [hel] at e; cases e
            | some F =>
              rw [hel] at e
              cases F <;> try (cases e; done)
              case int q =>
                cases q <;> try (cases e; done)
                case u8 =>
                  cases e
                  refine .pure c (v' := .string .empty) ?_ (.s _ _ rfl)
                  simp [Go.convert, run_underlying hu, run_underlying hv, run_underlying hel, Conv.bytesToString]
        case sl b q len cap cc ex pl hp h1 h2 h3 h4 =>
          cases D <;> try (cases e; done)
          case slice el =>
            simp only at e
            cases hel : P.underlying el with
            | none => rw [hel] at e; cases e
            | some F =>
              rw [hel] at e
              cases F <;> try (cases e; done)
              case int kk =>
                cases kk <;> try (cases e; done)
                case u8 =>
                  cases len with
                  | zero =>
                    cases e
                    refine .pure c (v' := .string .empty) ?_ (.s _ _ rfl)
                    simp [Go.convert, run_underlying hu, run_underlying hv, run_underlying hel, Conv.bytesToString, loadCells, loadCellsFrom]
                  | succ n =>
                    simp only at e
                    have hag := ag (.sl (some (b, q)) (n + 1) cap ex) (by simp) b (by simp [V.ids])
                    cases hg : h.get b with
                    | none => rw [hg] at e; cases e
                    | some B =>
                      rw [hg] at e hag
                      cases B <;> try (cases e; done)
                      case cells k es tr own =>
                        obtain ⟨e1, e2⟩ := okc_some e
                        cases hr : readN tr q (n + 1) with
                        | none => rw [hr] at e2; cases e2
                        | some l =>
                          rw [hr] at e2
                          simp only at e2
                          cases hby : bytesOfV l with
                          | none => rw [hby] at e2; cases e2
                          | some s =>
                            rw [hby] at e2; cases e2
                            obtain ⟨l', r1, r2, r3, r4⟩ := (c.hr.blk b _ pl hag hp).readN hr (Nat.le_of_ble_eq_true e1)
                            have hld := run_loadCells_list (P := P) w ⟨pl.b, pl.base + q, none⟩ l' r3
                            rw [r2] at hld
                            refine .pure c (v' := .string ⟨s.toArray⟩) ?_ ?_
                            · simp only [Go.convert, Sem.run_bind, run_underlying hu, run_underlying hv, run_underlying hel, Result.andThen_ok, Conv.bytesToString, hld]
                              rw [← Array.forIn_toList]
                              have hbo := bytesOf_ok (P := P) (w := w) (fun (c : Value) (s : ByteArray) => (match c with
                                | .int .u8 n => pure (ForInStep.yield (s.push (UInt8.ofNat n.toNat)))
                                | _ => do
                                  (stuck "bytesToString: byte expected" : Sem PUnit)
                                  pure (ForInStep.yield s) : Sem (ForInStep ByteArray))) (fun _ _ => rfl) hby r1 ByteArray.empty
                              have he : (ByteArray.empty.data.toList ++ s).toArray = s.toArray := rfl
                              rw [he] at hbo
                              exact congrArg (fun r => Result.andThen r (fun (a : ByteArray) w' => Sem.run P (pure (Value.string a)) w')) hbo
                            · exact .s _ _ (by rw [SB.ofL_list])
        all_goals (cases D <;> cases e)
      case slice el =>
        cases hx
        case s sb s hsb =>
          cases D <;> try (cases e; done)
          case string =>
            simp only at e
            cases hel : P.underlying el with
            | none => rw [hel] at e; cases e
            | some F =>
              rw [hel] at e
              cases F <;> try (cases e; done)
              case int kk =>
                cases kk <;> try (cases e; done)
                case u8 =>
                  cases e
                  rw [SB.nats_eq, ← hsb, List.map_map, ← SB.list_length sb, ← hsb]
                  have hr := run_bytes_of_string (P := P) w src dst el s hu hv hel
                  have hge := grownCap_ge w s.size 0 el
                  have hl : RVs φ (s.data.toList.map fun b => V.i .u8 (.ofNat b.toNat)) (byteCells s) := by
                    unfold byteCells
                    generalize s.data.toList = k
                    induction k with
                    | nil => exact RVs.nil φ
                    | cons b k ih => exact RVs.cons (.i _ _) ih
                  have hbl := byteCells_length s
                  have hll : (s.data.toList.map fun b => V.i .u8 (.ofNat b.toNat)).length = s.data.toList.length := by simp
                  have hrs : (bytesRow s (grownCap w s.size 0 el)).size = grownCap w s.size 0 el := by
                    simp [bytesRow]; try omega
                  have hp := new_rowF c (w0 := w.drew) ⟨rfl, rfl, rfl, rfl⟩ _ _ hl (fun u hu => by unfold byteCells at hu; obtain ⟨_, _, rfl⟩ := List.mem_map.1 hu; rfl) 1 el (bytesRow s (grownCap w s.size 0 el)) ((bytesRow s (grownCap w s.size 0 el)).size, (bytesRow s (grownCap w s.size 0 el)).size + 1)
                    (by rw [hrs, hbl]; exact hge) (fun j hj => by
                      have hj' : j < s.data.size := by rw [hbl] at hj; exact hj
                      rw [bytesRow_at s _ j hj']
                      unfold byteCells
                      simp
                      rw [Array.getElem?_eq_getElem hj']
                      rfl) (fun j hj h => by simp at h; omega)
                  rw [hll] at hp
                  refine ⟨_, _, _, [], hr, Ext.new h _, ?_, hp⟩
                  have := RV.sl (φ := φ.ext h.next ⟨w.heap.size, 0, (bytesRow s (grownCap w s.size 0 el)).size, 1⟩) h.next 0 s.size s.size (grownCap w s.size 0 el) false _ (Map.ext_same _ _ _) (Nat.le_refl _) hge (fun h => by cases h) (fun _ => by
                    show 0 + 0 + _ * 1 ≤ (bytesRow s (grownCap w s.size 0 el)).size
                    rw [hrs]; omega)
                  rw [← size_data]
                  exact this
        all_goals (cases D <;> cases e)
      all_goals (cases D <;> cases hx <;> cases e)

end Go.Ab
