/-
  An abstract interpreter of the model's code, part 5: equality, keys, arithmetic. Conditions: none.
-/
import Derived.Test.YtednpcncjiaahaaAb4
import Derived.ChangeKeysEq
set_option linter.unusedVariables false
set_option linter.unusedSimpArgs false
namespace Go.Ab
open Go

/-! integers -/
noncomputable def hiN : IntKind → Nat
  | .i8 => 128 | .i16 => 32768 | .i32 => 2147483648 | .i64 => 9223372036854775808
  | .u8 => 256 | .u16 => 65536 | .u32 => 4294967296 | .u64 => 18446744073709551616
noncomputable def fitsI (k : IntKind) (n : Int) : Bool :=
  match n with
  | .ofNat m => Nat.blt m (hiN k)
  | .negSucc m => cond k.signed (Nat.blt m (hiN k)) false
noncomputable def wrapI (k : IntKind) (n : Int) : Int := cond (fitsI k n) n (k.wrap n)
theorem wrap_of_fits {k : IntKind} {n : Int} (h : fitsI k n = true) : k.wrap n = n := by
  cases n with
  | ofNat m =>
    have h' : m < hiN k := Nat.le_of_ble_eq_true h
    have e : (Int.ofNat m) = (m : Int) := rfl
    rw [e]
    cases k <;> simp only [hiN] at h' <;> simp [IntKind.wrap, IntKind.bits, IntKind.signed] <;> omega
  | negSucc m =>
    have e : (Int.negSucc m) = -(m : Int) - 1 := by omega
    cases k <;> first
      | (simp only [fitsI, IntKind.signed, cond_false, Bool.false_eq_true] at h; done)
      | (have h' : m < hiN _ := Nat.le_of_ble_eq_true h
         simp only [hiN] at h'
         rw [e]
         simp [IntKind.wrap, IntKind.bits, IntKind.signed]
         omega)
theorem wrapI_eq (k : IntKind) (n : Int) : wrapI k n = k.wrap n := by
  unfold wrapI
  cases h : fitsI k n with
  | true => exact (wrap_of_fits h).symm
  | false => rfl

def ieq : Int → Int → Bool
  | .ofNat a, .ofNat b => Nat.beq a b
  | .negSucc a, .negSucc b => Nat.beq a b
  | _, _ => false
theorem ieq_eq (a b : Int) : ieq a b = (a == b) := by
  cases a <;> cases b <;> simp [ieq] <;> rename_i x y
  · rw [Bool.eq_iff_iff]; simp [Nat.beq_eq]; omega
  · rw [Bool.eq_iff_iff]; simp [Nat.beq_eq]
def ilt : Int → Int → Bool
  | .ofNat a, .ofNat b => Nat.blt a b
  | .ofNat _, .negSucc _ => false
  | .negSucc _, .ofNat _ => true
  | .negSucc a, .negSucc b => Nat.blt b a
theorem nat_blt (a b : Nat) : Nat.blt a b = decide (a < b) := by
  rw [Bool.eq_iff_iff]; simp [Nat.blt, Nat.ble_eq, Nat.lt_iff_add_one_le]
theorem ilt_eq (a b : Int) : ilt a b = decide (a < b) := by
  cases a <;> cases b <;> simp [ilt, nat_blt] <;> rename_i x y <;> (try (rw [Bool.eq_iff_iff]; simp)) <;> omega

/-! texts -/
def eqB : List UInt8 → List UInt8 → Bool
  | [], [] => true
  | a :: l, b :: k => cond (Nat.beq a.toNat b.toNat) (eqB l k) false
  | _, _ => false
theorem eqB_eq : ∀ (l k : List UInt8), eqB l k = (l == k)
  | [], [] => rfl
  | [], _ :: _ => rfl
  | _ :: _, [] => rfl
  | a :: l, b :: k => by
    simp only [eqB, eqB_eq l k, List.cons_beq_cons]
    have : Nat.beq a.toNat b.toNat = (a == b) := by
      rw [Bool.eq_iff_iff]
      simp only [Nat.beq_eq, beq_iff_eq]
      exact ⟨fun h => UInt8.toNat.inj h, fun h => by rw [h]⟩
    rw [this]
    cases (a == b) <;> rfl

/-! equality by a type -/
noncomputable def eqFs (P : Program) (eq : TypeId → V → V → Option Bool) (xs ys : List V) : List Field → Option Bool
  | [] => some true
  | f :: fs => match partV P f.type xs f.offset, partV P f.type ys f.offset with
    | some a, some b => match eq f.type a b with
      | some true => eqFs P eq xs ys fs
      | some false => some false
      | none => none
    | _, _ => none
noncomputable def eqIs (P : Program) (eq : TypeId → V → V → Option Bool) (e : TypeId) (c : Nat) (xs ys : List V) : List Nat → Option Bool
  | [] => some true
  | i :: is => match partV P e xs (i * c), partV P e ys (i * c) with
    | some a, some b => match eq e a b with
      | some true => eqIs P eq e c xs ys is
      | some false => some false
      | none => none
    | _, _ => none
def noBlank (fs : List Field) : Bool := fs.all fun f => f.name != "_"
noncomputable def eqBy (P : Program) (eq : TypeId → V → V → Option Bool) (t : TypeId) (x y : V) : Option Bool :=
  match P.underlying t, x, y with
  | some .bool, .b a, .b b => some (a == b)
  | some (.int _), .i k a, .i k' b => okc (decide (k = k')) (some (ieq a b))
  | some .string, .s a, .s b => some (SB.eq a b)
  | some (.pointer _), .p none, .p b => some b.isNone
  | some (.pointer _), .p (some _), .p none => some false
  | some (.slice _), .sl none _ _ _, .sl b _ _ _ => some b.isNone
  | some (.slice _), .sl (some _) _ _ _, .sl none _ _ _ => some false
  | some (.map _ _), .m none, .m b => some b.isNone
  | some (.map _ _), .m (some _), .m none => some false
  | some (.func _ _ _), .f0, .f0 => some true
  | some (.func _ _ _), .f0, .f _ _ _ => some false
  | some (.func _ _ _), .f _ _ _, .f0 => some false
  | some (.struct fs), .agg xs, .agg ys => okc (and (noBlank fs.toList) (not (P.stoodInHeld t))) (eqFs P eq xs ys fs.toList)
  | some (.array n e), .agg xs, .agg ys => match P.info? e with
    | some i => eqIs P eq e i.size xs ys (List.range n)
    | none => none
  | _, _, _ => none
noncomputable def eqV (P : Program) (d : Nat) : TypeId → V → V → Option Bool :=
  Nat.rec (motive := fun _ => TypeId → V → V → Option Bool) (fun _ _ _ => none) (fun _ ih t x y => eqBy P ih t x y) d

def EqOk (P : Program) (d : Nat) (eq : TypeId → V → V → Option Bool) : Prop :=
  ∀ (φ : Map) (t : TypeId) (x y : V) (x' y' : Value) (r : Bool) (w : World), eq t x y = some r → RV φ x x' → RV φ y y' → (Op.equalIn d t x' y').run P w = .ok r w

theorem eqFs_ok {P : Program} {d : Nat} {eq : TypeId → V → V → Option Bool} (ih : EqOk P d eq) {φ : Map} {xs ys : List V} {xs' ys' : Array Value} (hx : RVs φ xs xs'.toList) (hy : RVs φ ys ys'.toList) (w : World) :
    ∀ (fs : List Field) (r : Bool), noBlank fs = true → eqFs P eq xs ys fs = some r → (Op.eqFields d xs' ys' fs).run P w = .ok r w
  | [], r, _, h => by cases h; simp [Op.eqFields]
  | f :: fs, r, hb, h => by
    simp only [noBlank, List.all_cons, Bool.and_eq_true, bne_iff_ne] at hb
    unfold eqFs at h
    cases h1 : partV P f.type xs f.offset with
    | none => rw [h1] at h; cases h
    | some a =>
      cases h2 : partV P f.type ys f.offset with
      | none => rw [h1, h2] at h; cases h
      | some b =>
        rw [h1, h2] at h
        simp only at h
        obtain ⟨a', p1, p2⟩ := run_partV h1 hx w
        obtain ⟨b', q1, q2⟩ := run_partV h2 hy w
        cases h3 : eq f.type a b with
        | none => rw [h3] at h; cases h
        | some s =>
          rw [h3] at h
          have h4 := ih φ f.type a b a' b' s w h3 p2 q2
          cases s with
          | false =>
            cases h
            simp [Op.eqFields, hb.1, p1, q1, h4]
          | true =>
            have h5 := eqFs_ok ih hx hy w fs r hb.2 h
            simp [Op.eqFields, hb.1, p1, q1, h4, h5]
theorem eqIs_ok {P : Program} {d : Nat} {eq : TypeId → V → V → Option Bool} (ih : EqOk P d eq) {φ : Map} {xs ys : List V} {xs' ys' : Array Value} (hx : RVs φ xs xs'.toList) (hy : RVs φ ys ys'.toList) (e : TypeId) (c : Nat) (w : World) :
    ∀ (is : List Nat) (r : Bool), eqIs P eq e c xs ys is = some r → (Op.eqItems d e c xs' ys' is).run P w = .ok r w
  | [], r, h => by cases h; simp [Op.eqItems]
  | i :: is, r, h => by
    unfold eqIs at h
    cases h1 : partV P e xs (i * c) with
    | none => rw [h1] at h; cases h
    | some a =>
      cases h2 : partV P e ys (i * c) with
      | none => rw [h1, h2] at h; cases h
      | some b =>
        rw [h1, h2] at h
        simp only at h
        obtain ⟨a', p1, p2⟩ := run_partV h1 hx w
        obtain ⟨b', q1, q2⟩ := run_partV h2 hy w
        cases h3 : eq e a b with
        | none => rw [h3] at h; cases h
        | some s =>
          rw [h3] at h
          have h4 := ih φ e a b a' b' s w h3 p2 q2
          cases s with
          | false =>
            cases h
            simp [Op.eqItems, p1, q1, h4]
          | true =>
            have h5 := eqIs_ok ih hx hy e c w is r h
            simp [Op.eqItems, p1, q1, h4, h5]

theorem bytes_beq (a b : ByteArray) : (a == b) = (a.data.toList == b.data.toList) := by
  rw [beq_toListBytes, ByteArray.toList_eq, ByteArray.toList_eq]

theorem eqBy_ok {P : Program} {d : Nat} {eq : TypeId → V → V → Option Bool} (ih : EqOk P d eq) : EqOk P (d + 1) (eqBy P eq) := by
  intro φ t x y x' y' r w h hx hy
  unfold eqBy at h
  cases hu : P.underlying t with
  | none => rw [hu] at h; cases h
  | some D =>
    rw [hu] at h
    cases D <;> try (cases h; done)
    case bool =>
      cases hx <;> try (cases h; done)
      cases hy <;> try (cases h; done)
      cases h
      simp [Op.equalIn, run_underlying hu]
    case int =>
      cases hx <;> try (cases h; done)
      cases hy <;> try (cases h; done)
      simp only at h
      obtain ⟨h1, h2⟩ := okc_some h
      cases h2
      have h1 := of_decide_eq_true h1
      subst h1
      simp [Op.equalIn, run_underlying hu, ieq_eq]
    case string =>
      cases hx <;> try (cases h; done)
      cases hy <;> try (cases h; done)
      cases h
      rename_i b1 x1 h1 b2 x2 h2
      have he : (x1 == x2) = b1.eq b2 := by rw [SB.eq_eq, bytes_beq, h1, h2]
      rw [← he]
      simp [Op.equalIn, run_underlying hu]
    case pointer =>
      cases hx <;> try (cases h; done)
      · cases hy <;> try (cases h; done)
        · cases h; simp [Op.equalIn, run_underlying hu]
        · cases h; simp [Op.equalIn, run_underlying hu]
      · cases hy <;> try (cases h; done)
        · cases h; simp [Op.equalIn, run_underlying hu]
    case slice =>
      cases hx <;> try (cases h; done)
      · cases hy <;> try (cases h; done)
        · cases h; simp [Op.equalIn, run_underlying hu]
        · cases h; simp [Op.equalIn, run_underlying hu]
      · cases hy <;> try (cases h; done)
        · cases h; simp [Op.equalIn, run_underlying hu]
    case map =>
      cases hx <;> try (cases h; done)
      · cases hy <;> try (cases h; done)
        · cases h; simp [Op.equalIn, run_underlying hu]
        · cases h; simp [Op.equalIn, run_underlying hu]
      · cases hy <;> try (cases h; done)
        · cases h; simp [Op.equalIn, run_underlying hu]
    case func =>
      cases hx <;> try (cases h; done)
      · cases hy <;> try (cases h; done)
        · cases h; simp [Op.equalIn, run_underlying hu]
      · cases hy <;> try (cases h; done)
        · cases h; simp [Op.equalIn, run_underlying hu]
        · cases h; simp [Op.equalIn, run_underlying hu]
    case struct fs =>
      cases x <;> try (cases h; done)
      cases y <;> try (cases h; done)
      rename_i xs ys
      obtain ⟨xs', rfl, hxs⟩ := hx.agg_inv
      obtain ⟨ys', rfl, hys⟩ := hy.agg_inv
      simp only at h
      obtain ⟨h1, h2⟩ := okc_some h
      simp only [Bool.and_eq_true, Bool.not_eq_true'] at h1
      have hf : P.fieldsOf t = fs := by simp [Program.fieldsOf, hu]
      rw [run_equalIn_struct w d t xs' ys' (by rw [hf]; exact hu) h1.2, hf]
      exact eqFs_ok ih hxs hys w fs.toList r h1.1 h2
    case array n e =>
      cases x <;> try (cases h; done)
      cases y <;> try (cases h; done)
      rename_i xs ys
      obtain ⟨xs', rfl, hxs⟩ := hx.agg_inv
      obtain ⟨ys', rfl, hys⟩ := hy.agg_inv
      simp only at h
      cases hi : P.info? e with
      | none => rw [hi] at h; cases h
      | some i =>
        rw [hi] at h
        have hc : P.cellsOf e = i.size := by simp [Program.cellsOf, hi]
        rw [run_equalIn_array w d xs' ys' hu hi, hc]
        exact eqIs_ok ih hxs hys e i.size w _ r h
theorem eqV_ok (P : Program) : ∀ (d : Nat), EqOk P d (eqV P d)
  | 0 => fun _ _ _ _ _ _ _ _ h => by cases h
  | d + 1 => eqBy_ok (eqV_ok P d)
theorem run_equalV {P : Program} {φ : Map} {t : TypeId} {x y : V} {x' y' : Value} {r : Bool} (h : eqV P 10000 t x y = some r) (hx : RV φ x x') (hy : RV φ y y') (w : World) : (Op.equal t x' y').run P w = .ok r w :=
  eqV_ok P 10000 φ t x y x' y' r w h hx hy

/-! keys of maps -/
noncomputable def ckBy (P : Program) (ck : TypeId → V → Bool) (t : TypeId) (x : V) : Bool :=
  match P.underlying t, x with
  | some (.struct fs), .agg xs => and (noBlank fs.toList) (fs.toList.all fun f => match partV P f.type xs f.offset with
    | some a => ck f.type a
    | none => false)
  | some (.array n e), .agg xs => match P.info? e with
    | some i => (List.range n).all fun j => match partV P e xs (j * i.size) with
      | some a => ck e a
      | none => false
    | none => false
  | some (.struct _), _ => false
  | some (.array _ _), _ => false
  | some (.interface _), _ => false
  | some _, _ => true
  | none, _ => false
noncomputable def ckV (P : Program) (d : Nat) : TypeId → V → Bool :=
  Nat.rec (motive := fun _ => TypeId → V → Bool) (fun _ _ => false) (fun _ ih t x => ckBy P ih t x) d
theorem ckV_ok (P : Program) (em : Bool) : ∀ (d : Nat) (φ : Map) (t : TypeId) (x : V) (x' : Value) (w : World), ckV P d t x = true → RV φ x x' → (Instr.checkKey em d t x').run P w = .ok () w
  | 0, _, _, _, _, _, h, _ => by cases h
  | d + 1, φ, t, x, x', w, h, hx => by
    have h' : ckBy P (ckV P d) t x = true := h
    unfold ckBy at h'
    cases hu : P.underlying t with
    | none => rw [hu] at h'; cases h'
    | some D =>
      rw [hu] at h'
      cases D
      case struct fs =>
        cases x <;> try (cases h'; done)
        rename_i xs
        obtain ⟨xs', rfl, hxs⟩ := hx.agg_inv
        simp only [Bool.and_eq_true, List.all_eq_true] at h'
        obtain ⟨h1, h2⟩ := h'
        simp only [noBlank, List.all_eq_true, bne_iff_ne] at h1
        simp only [Instr.checkKey, Sem.run_bind, run_underlying hu, Result.andThen_ok]
        rw [← Array.forIn_toList]
        generalize fs.toList = l at h1 h2
        clear hu
        induction l with
        | nil => simp
        | cons f l ih =>
          have h3 := h2 f (by simp)
          have h4 := h1 f (by simp)
          cases hp : partV P f.type xs f.offset with
          | none => rw [hp] at h3; cases h3
          | some a =>
            rw [hp] at h3
            obtain ⟨a', p1, p2⟩ := run_partV hp hxs w
            have h5 := ckV_ok P em d φ f.type a a' w h3 p2
            have h6 := ih (fun g hg => h1 g (by simp [hg])) (fun g hg => h2 g (by simp [hg]))
            rw [List.forIn_cons]
            simp only [Sem.run_bind, if_pos h4, p1, h5, Result.andThen_ok, Sem.run_pure]
            exact h6
      case array n e =>
        cases x <;> try (cases h'; done)
        rename_i xs
        obtain ⟨xs', rfl, hxs⟩ := hx.agg_inv
        simp only at h'
        cases hi : P.info? e with
        | none => rw [hi] at h'; cases h'
        | some i =>
          rw [hi] at h'
          simp only [List.all_eq_true] at h'
          simp only [Instr.checkKey, Sem.run_bind, run_underlying hu, Result.andThen_ok]
          simp only [Std.Legacy.Range.forIn_eq_forIn_range', Std.Legacy.Range.size, Nat.sub_zero, Nat.add_one_sub_one, Nat.div_one]
          rw [List.range_eq_range'] at h'
          generalize List.range' 0 n = l at h'
          have hs : ∀ w, (sizeOf e).run P w = .ok i.size w := fun w => by simp [sizeOf, typeInfo, hi]
          clear hu
          induction l with
          | nil => simp
          | cons j l ih =>
            have h3 := h' j (by simp)
            cases hp : partV P e xs (j * i.size) with
            | none => rw [hp] at h3; cases h3
            | some a =>
              rw [hp] at h3
              obtain ⟨a', p1, p2⟩ := run_partV hp hxs w
              have h5 := ckV_ok P em d φ e a a' w h3 p2
              have h6 := ih fun g hg => h' g (by simp [hg])
              rw [List.forIn_cons]
              simp only [Sem.run_bind, hs, Result.andThen_ok, p1, h5, Sem.run_pure]
              exact h6
      case interface => cases h'
      all_goals
        simp only [Instr.checkKey, Sem.run_bind, run_underlying hu, Result.andThen_ok]
        rfl

end Go.Ab
