/-
  An abstract interpreter of the model's code, part 6: operators, conversions, slices of things. Conditions: none.
-/
import Derived.Test.YtednpcncjiaahaaAb5
set_option linter.unusedVariables false
set_option linter.unusedSimpArgs false
namespace Go.Ab
open Go

noncomputable def bitsI (op : BinOp) (k : IntKind) (x y : Int) : Option Int :=
  match op with
  | .and => some (k.wrap (BitVec.ofInt k.bits x &&& BitVec.ofInt k.bits y).toNat)
  | .or => some (k.wrap (BitVec.ofInt k.bits x ||| BitVec.ofInt k.bits y).toNat)
  | .xor => some (k.wrap (BitVec.ofInt k.bits x ^^^ BitVec.ofInt k.bits y).toNat)
  | .andNot => some (k.wrap (BitVec.ofInt k.bits x &&& ~~~ (BitVec.ofInt k.bits y)).toNat)
  | _ => none
noncomputable def intV (op : BinOp) (k : IntKind) (a b : Int) : Option V :=
  match op with
  | .add => some (.i k (wrapI k (a + b)))
  | .sub => some (.i k (wrapI k (a - b)))
  | .mul => some (.i k (wrapI k (a * b)))
  | .quo => okc (not (ieq b 0)) (some (.i k (wrapI k (a.tdiv b))))
  | .rem => okc (not (ieq b 0)) (some (.i k (a.tmod b)))
  | .and => (bitsI .and k a b).map (.i k)
  | .or => (bitsI .or k a b).map (.i k)
  | .xor => (bitsI .xor k a b).map (.i k)
  | .andNot => (bitsI .andNot k a b).map (.i k)
  | .eql => some (.b (ieq a b))
  | .neq => some (.b (not (ieq a b)))
  | .lss => some (.b (ilt a b))
  | .leq => some (.b (not (ilt b a)))
  | .gtr => some (.b (ilt b a))
  | .geq => some (.b (not (ilt a b)))
  | _ => none
noncomputable def strV (op : BinOp) (a b : SB) : Option V :=
  match op with
  | .add => okc (Nat.ble (Nat.add a.n b.n) 9223372036854775807) (some (.s (a.app b)))
  | .eql => some (.b (SB.eq a b))
  | .neq => some (.b (not (SB.eq a b)))
  | .lss => some (.b (Op.bytesLess a.list b.list))
  | .leq => some (.b (or (Op.bytesLess a.list b.list) (SB.eq a b)))
  | .gtr => some (.b (not (or (Op.bytesLess a.list b.list) (SB.eq a b))))
  | .geq => some (.b (not (Op.bytesLess a.list b.list)))
  | _ => none
/-- may be held against another one without a guard -/
def V.plainEq : V → Bool
  | .b _ | .p _ | .sl .. | .m _ | .f .. | .f0 => true
  | _ => false
/-- the plain equalities -/
noncomputable def eqlV (P : Program) (op : BinOp) (t : TypeId) (x y : V) : Option V :=
  match op with
  | .eql => (eqV P 10000 t x y).map .b
  | .neq => (eqV P 10000 t x y).map fun r => .b (not r)
  | _ => none
noncomputable def binV (P : Program) (op : BinOp) (t : TypeId) (x y : V) : Option V :=
  match x, y with
  | .i k a, .i k' b =>
    match op, b with
    | .shl, .ofNat m => some (.i k (wrapI k (a * 2 ^ (min m k.bits))))
    | .shr, .ofNat m => some (.i k (a.fdiv (2 ^ (min m k.bits))))
    | .shl, _ => none
    | .shr, _ => none
    | _, _ => okc (decide (k = k')) (intV op k a b)
  | .s a, .s b => strV op a b
  | .agg xs, .agg ys => okc (not (P.eqGuardType P.depth t)) (eqlV P op t (.agg xs) (.agg ys))
  | x, y => okc (and x.plainEq y.plainEq) (eqlV P op t x y)

theorem toList_data (x : ByteArray) : x.toList = x.data.toList := ByteArray.toList_eq x
theorem append_data (x y : ByteArray) : (x ++ y).data.toList = x.data.toList ++ y.data.toList := by
  rw [ByteArray.data_append]; simp
theorem size_data (x : ByteArray) : x.size = x.data.toList.length := (Array.length_toList).symm

theorem run_intV {P : Program} {op : BinOp} {k : IntKind} {a b : Int} {r : V} (h : intV op k a b = some r) (hop : op ≠ .shl ∧ op ≠ .shr) (φ : Map) (t : TypeId) (w : World) :
    ∃ r', (Go.binOp op t (.int k a) (.int k b)).run P w = .ok r' w ∧ RV φ r r' := by
  have nz : ∀ {α : Type} {x : Option α} {y : α}, okc (not (ieq b 0)) x = some y → b ≠ 0 ∧ x = some y := fun h => by
    obtain ⟨h1, h2⟩ := okc_some h
    rw [ieq_eq] at h1
    exact ⟨by simpa using h1, h2⟩
  cases op <;> simp only [intV] at h
  case add => cases h; exact ⟨.int k (k.wrap (a + b)), by simp [Go.binOp, Op.intArith], by rw [wrapI_eq]; exact .i _ _⟩
  case sub => cases h; exact ⟨.int k (k.wrap (a - b)), by simp [Go.binOp, Op.intArith], by rw [wrapI_eq]; exact .i _ _⟩
  case mul => cases h; exact ⟨.int k (k.wrap (a * b)), by simp [Go.binOp, Op.intArith], by rw [wrapI_eq]; exact .i _ _⟩
  case quo => obtain ⟨h1, h2⟩ := nz h; cases h2; exact ⟨.int k (k.wrap (a.tdiv b)), by simp [Go.binOp, Op.intDiv, h1], by rw [wrapI_eq]; exact .i _ _⟩
  case rem => obtain ⟨h1, h2⟩ := nz h; cases h2; exact ⟨.int k (a.tmod b), by simp [Go.binOp, Op.intDiv, h1], .i _ _⟩
  case and => cases h; exact ⟨_, by simp only [Go.binOp, Op.intBits, ne_eq, not_true_eq_false, if_false]; rfl, .i _ _⟩
  case or => cases h; exact ⟨_, by simp only [Go.binOp, Op.intBits, ne_eq, not_true_eq_false, if_false]; rfl, .i _ _⟩
  case xor => cases h; exact ⟨_, by simp only [Go.binOp, Op.intBits, ne_eq, not_true_eq_false, if_false]; rfl, .i _ _⟩
  case andNot => cases h; exact ⟨_, by simp only [Go.binOp, Op.intBits, ne_eq, not_true_eq_false, if_false]; rfl, .i _ _⟩
  case eql => cases h; exact ⟨_, by simp [Go.binOp, Op.intCmp]; rfl, by rw [ieq_eq]; exact .b _⟩
  case neq => cases h; exact ⟨.bool (a != b), by simp [Go.binOp, Op.intCmp], by rw [ieq_eq]; exact .b _⟩
  case lss => cases h; exact ⟨.bool (decide (a < b)), by simp [Go.binOp, Op.intCmp], by rw [ilt_eq]; exact .b _⟩
  case leq =>
    cases h
    refine ⟨.bool (decide (a ≤ b)), by simp [Go.binOp, Op.intCmp], ?_⟩
    have e : (!ilt b a) = decide (a ≤ b) := by rw [ilt_eq, Bool.eq_iff_iff]; simp
    rw [e]; exact .b _
  case gtr => cases h; exact ⟨.bool (decide (a > b)), by simp [Go.binOp, Op.intCmp], by rw [ilt_eq]; exact .b _⟩
  case geq =>
    cases h
    refine ⟨.bool (decide (a ≥ b)), by simp [Go.binOp, Op.intCmp], ?_⟩
    have e : (!ilt a b) = decide (a ≥ b) := by rw [ilt_eq, Bool.eq_iff_iff]; simp
    rw [e]; exact .b _
  all_goals first | (cases h; done) | exact absurd rfl hop.1 | exact absurd rfl hop.2

theorem run_strV {P : Program} {op : BinOp} {x y : ByteArray} {a b : SB} (ha : x.data.toList = a.list) (hb : y.data.toList = b.list) {r : V} (h : strV op a b = some r) (φ : Map) (t : TypeId) (w : World) :
    ∃ r', (Go.binOp op t (.string x) (.string y)).run P w = .ok r' w ∧ RV φ r r' := by
  cases op <;> simp only [strV] at h
  case add =>
    obtain ⟨h1, h2⟩ := okc_some h
    cases h2
    have h1 := Nat.le_of_ble_eq_true h1
    have h1 : a.n + b.n ≤ _ := h1
    rw [← SB.list_length a, ← SB.list_length b, ← ha, ← hb, ← size_data, ← size_data] at h1
    refine ⟨.string (x ++ y), ?_, .s _ _ (by rw [append_data, SB.app_list, ha, hb])⟩
    have h3 : ¬ (((x.size + y.size : Nat) : Int) > IntKind.i64.max) := by
      have : IntKind.i64.max = 9223372036854775807 := rfl
      rw [this]; omega
    simp only [Go.binOp, Op.stringOp]
    rw [if_neg h3]; rfl
  case eql => cases h; exact ⟨.bool (x.toList == y.toList), by simp [Go.binOp, Op.stringOp], by rw [SB.eq_eq, ← ha, ← hb, ← toList_data, ← toList_data]; exact .b _⟩
  case neq => cases h; exact ⟨.bool (!(x.toList == y.toList)), by simp only [Go.binOp, Op.stringOp]; rfl, by rw [SB.eq_eq, ← ha, ← hb, ← toList_data, ← toList_data]; exact .b _⟩
  case lss => cases h; exact ⟨.bool (Op.bytesLess x.toList y.toList), by simp [Go.binOp, Op.stringOp], by rw [← ha, ← hb, toList_data, toList_data]; exact .b _⟩
  case leq => cases h; exact ⟨.bool (Op.bytesLess x.toList y.toList || x.toList == y.toList), by simp only [Go.binOp, Op.stringOp]; rfl, by rw [SB.eq_eq, ← ha, ← hb, ← toList_data, ← toList_data]; exact .b _⟩
  case gtr => cases h; exact ⟨.bool (!(Op.bytesLess x.toList y.toList || x.toList == y.toList)), by simp only [Go.binOp, Op.stringOp]; rfl, by rw [SB.eq_eq, ← ha, ← hb, ← toList_data, ← toList_data]; exact .b _⟩
  case geq => cases h; exact ⟨.bool (!(Op.bytesLess x.toList y.toList)), by simp only [Go.binOp, Op.stringOp]; rfl, by rw [← ha, ← hb, toList_data, toList_data]; exact .b _⟩
  all_goals (cases h; done)

/-- an operator as an operation has it: with its guard -/
def binOpG (op : BinOp) (t : TypeId) (x y : Operand) (a b : Value) : Sem Value := do eqGuard op t x y a b; Go.binOp op t a b

theorem run_eqGuard_plain {P : Program} (op : BinOp) (t : TypeId) (x y : Operand) (a b : Value) (w : World) (h : (∀ cs, a ≠ .agg cs) ∧ a ≠ .nilIface) : (eqGuard op t x y a b).run P w = .ok () w := by
  unfold eqGuard
  cases a <;> first | exact absurd rfl (h.1 _) | exact absurd rfl h.2 | (cases op <;> simp)

theorem run_eqlV {P : Program} {op : BinOp} {t : TypeId} {x y r : V} {φ : Map} {x' y' : Value} (hx : RV φ x x') (hy : RV φ y y') (ox oy : Operand) (w : World)
    (h1 : x.plainEq = true) (h2 : y.plainEq = true) (h3 : eqlV P op t x y = some r) : ∃ r', (binOpG op t ox oy x' y').run P w = .ok r' w ∧ RV φ r r' := by
  have hg : (eqGuard op t ox oy x' y').run P w = .ok () w := run_eqGuard_plain op t ox oy x' y' w (by
    constructor
    · rintro cs rfl; cases hx <;> simp [V.plainEq] at h1
    · rintro rfl; cases hx <;> simp [V.plainEq] at h1)
  cases op <;> simp only [eqlV] at h3 <;> try (cases h3; done)
  case eql =>
    cases he : eqV P 10000 t x y with
    | none => rw [he] at h3; cases h3
    | some b =>
      rw [he] at h3; cases h3
      have hq := run_equalV he hx hy w
      refine ⟨.bool b, ?_, .b _⟩
      simp only [binOpG, Sem.run_bind, hg, Result.andThen_ok]
      cases hx <;> (try (simp [V.plainEq] at h1; done)) <;> cases hy <;> (try (simp [V.plainEq] at h2; done)) <;> simp [Go.binOp, hq]
  case neq =>
    cases he : eqV P 10000 t x y with
    | none => rw [he] at h3; cases h3
    | some b =>
      rw [he] at h3; cases h3
      have hq := run_equalV he hx hy w
      refine ⟨.bool (!b), ?_, .b _⟩
      simp only [binOpG, Sem.run_bind, hg, Result.andThen_ok]
      cases hx <;> (try (simp [V.plainEq] at h1; done)) <;> cases hy <;> (try (simp [V.plainEq] at h2; done)) <;> simp [Go.binOp, hq]

theorem run_binV {P : Program} {op : BinOp} {t : TypeId} {x y r : V} (h : binV P op t x y = some r) {φ : Map} {x' y' : Value} (hx : RV φ x x') (hy : RV φ y y') (ox oy : Operand) (w : World) :
    ∃ r', (binOpG op t ox oy x' y').run P w = .ok r' w ∧ RV φ r r' := by
  unfold binV at h
  cases x
  case i k a =>
    cases y
    case i k' b =>
      cases hx; cases hy
      have hg : (eqGuard op t ox oy (.int k a) (.int k' b)).run P w = .ok () w := run_eqGuard_plain op t ox oy _ _ w ⟨fun _ h => (by cases h), fun h => (by cases h)⟩
      simp only at h
      by_cases hop : op ≠ .shl ∧ op ≠ .shr
      · have h' : okc (decide (k = k')) (intV op k a b) = some r := by
          cases op <;> first | exact h | exact absurd rfl hop.1 | exact absurd rfl hop.2
        obtain ⟨h1, h2⟩ := okc_some h'
        have h1 := of_decide_eq_true h1
        subst h1
        obtain ⟨r', k1, k2⟩ := run_intV (P := P) h2 hop φ t w
        exact ⟨r', by simp only [binOpG, Sem.run_bind, hg, Result.andThen_ok]; exact k1, k2⟩
      · cases op <;> first | (exfalso; apply hop; constructor <;> simp; done) | skip
        case shl =>
          cases b with
          | negSucc m => cases h
          | ofNat m =>
            cases h
            refine ⟨.int k (k.wrap (a * 2 ^ (min m k.bits))), ?_, by rw [wrapI_eq]; exact .i _ _⟩
            have h0 : ¬ ((Int.ofNat m) < 0) := by simp
            simp only [binOpG, Sem.run_bind, hg, Result.andThen_ok, Go.binOp, Op.shift, if_neg h0]
            rfl
        case shr =>
          cases b with
          | negSucc m => cases h
          | ofNat m =>
            cases h
            refine ⟨.int k (a.fdiv (2 ^ (min m k.bits))), ?_, .i _ _⟩
            have h0 : ¬ ((Int.ofNat m) < 0) := by simp
            simp only [binOpG, Sem.run_bind, hg, Result.andThen_ok, Go.binOp, Op.shift, if_neg h0]
            rfl
    all_goals (obtain ⟨h1, _⟩ := okc_some h; simp [V.plainEq] at h1)
  case s a =>
    cases y
    case s b =>
      cases hx; cases hy
      rename_i x hxb y hyb
      have hg : (eqGuard op t ox oy (.string x) (.string y)).run P w = .ok () w := run_eqGuard_plain op t ox oy _ _ w ⟨fun _ h => (by cases h), fun h => (by cases h)⟩
      obtain ⟨r', k1, k2⟩ := run_strV (P := P) hxb hyb h φ t w
      exact ⟨r', by simp only [binOpG, Sem.run_bind, hg, Result.andThen_ok]; exact k1, k2⟩
    all_goals (obtain ⟨h1, _⟩ := okc_some h; simp [V.plainEq] at h1)
  case agg xs =>
    cases y
    case agg ys =>
      obtain ⟨xs', rfl, hxs⟩ := hx.agg_inv
      obtain ⟨ys', rfl, hys⟩ := hy.agg_inv
      obtain ⟨h1, h2⟩ := okc_some h
      have h1 : P.eqGuardType P.depth t = false := by simpa using h1
      have hg := run_eqGuard_agg (P := P) w op t ox oy xs' ys' h1
      cases op <;> simp only [eqlV] at h2 <;> try (cases h2; done)
      case eql =>
        cases he : eqV P 10000 t (.agg xs) (.agg ys) with
        | none => rw [he] at h2; cases h2
        | some b =>
          rw [he] at h2; cases h2
          have hq := run_equalV he hx hy w
          refine ⟨.bool b, ?_, .b _⟩
          simp only [binOpG, Sem.run_bind, hg, Result.andThen_ok, Go.binOp, hq, Sem.run_pure]
      case neq =>
        cases he : eqV P 10000 t (.agg xs) (.agg ys) with
        | none => rw [he] at h2; cases h2
        | some b =>
          rw [he] at h2; cases h2
          have hq := run_equalV he hx hy w
          refine ⟨.bool (!b), ?_, .b _⟩
          simp only [binOpG, Sem.run_bind, hg, Result.andThen_ok, Go.binOp, hq, Sem.run_pure]
    all_goals (obtain ⟨h1, _⟩ := okc_some h; simp [V.plainEq] at h1)
  all_goals
    obtain ⟨h1, h2⟩ := okc_some h
    simp only [Bool.and_eq_true] at h1
    exact run_eqlV hx hy ox oy w h1.1 h1.2 h2

noncomputable def unV (op : UnOp) (x : V) : Option V :=
  match op, x with
  | .neg, .i k n => some (.i k (wrapI k (0 - n)))
  | .xor, .i k n => (bitsI .xor k (if k.signed then -1 else k.max) n).map (.i k)
  | .not, .b b => some (.b (not b))
  | _, _ => none
theorem run_unV {P : Program} {op : UnOp} {x r : V} (h : unV op x = some r) {φ : Map} {x' : Value} (hx : RV φ x x') (w : World) : ∃ r', (Op.unary op x').run P w = .ok r' w ∧ RV φ r r' := by
  cases op <;> cases hx <;> simp only [unV] at h <;> try (cases h; done)
  · cases h; rename_i k n; exact ⟨.int k (k.wrap (0 - n)), rfl, by rw [wrapI_eq]; exact .i _ _⟩
  · cases h; exact ⟨_, rfl, .i _ _⟩
  · cases h; exact ⟨_, rfl, .b _⟩

/-! bounds of slices -/
noncomputable def natOf (v : V) (y : Nat) : Option Nat :=
  match v with
  | .i _ (.ofNat m) => okc (Nat.ble m y) (some m)
  | _ => none
theorem run_natOf {P : Program} {v : V} {y m : Nat} (h : natOf v y = some m) {φ : Map} {v' : Value} (hv : RV φ v v') (code : BoundsCode) (w : World) : (Instr.sliceBound v' y code).run P w = .ok m w ∧ m ≤ y := by
  cases hv <;> try (cases h; done)
  case i k n =>
    cases n with
    | negSucc m => cases h
    | ofNat a =>
      obtain ⟨h1, h2⟩ := okc_some h
      cases h2
      have h1 := Nat.le_of_ble_eq_true h1
      exact ⟨by simp [Instr.sliceBound, asIntOf, h1], h1⟩
/-- low, high, max -/
noncomputable def maxB (cap : Nat) (max : Option V) : Option Nat := match max with
  | some v => natOf v cap
  | none => some cap
noncomputable def highB (len m : Nat) (high max : Option V) : Option Nat := match high, max with
  | some v, _ => natOf v m
  | none, none => some len
  | none, some _ => none
noncomputable def lowB (h : Nat) (low : Option V) : Option Nat := match low with
  | some v => natOf v h
  | none => some 0
noncomputable def boundsV (len cap : Nat) (low high max : Option V) : Option (Nat × Nat × Nat) :=
  match maxB cap max with
  | some m => match highB len m high max with
    | some h => match lowB h low with
      | some l => some (l, h, m)
      | none => none
    | none => none
  | none => none
def RO (φ : Map) (x : Option V) (x' : Option Value) : Prop := match x, x' with
  | some v, some v' => RV φ v v'
  | none, none => True
  | _, _ => False
theorem run_boundsV {P : Program} {len cap : Nat} {low high max : Option V} {l h m : Nat} (e : boundsV len cap low high max = some (l, h, m)) {φ : Map} {low' high' max' : Option Value} (r1 : RO φ low low') (r2 : RO φ high high') (r3 : RO φ max max') (s : Bool) (w : World) :
    (Instr.sliceBounds s len cap low' high' max').run P w = .ok (l, h, m) w ∧ m ≤ cap ∧ (max = none → m = cap) ∧ (high = none → h = len) ∧ (high ≠ none → h ≤ m) ∧ (low = none → l = 0) ∧ (low ≠ none → l ≤ h) := by
  unfold boundsV at e
  cases hm : maxB cap max with
  | none => rw [hm] at e; cases e
  | some m0 =>
    rw [hm] at e
    simp only at e
    cases hh : highB len m0 high max with
    | none => rw [hh] at e; cases e
    | some h0 =>
      rw [hh] at e
      simp only at e
      cases hl : lowB h0 low with
      | none => rw [hl] at e; cases e
      | some l0 =>
        rw [hl] at e
        cases e
        unfold maxB at hm
        unfold highB at hh
        unfold lowB at hl
        cases max with
        | none =>
          cases max' with
          | some _ => exact r3.elim
          | none =>
            simp only at hm
            cases hm
            cases high with
            | none =>
              cases high' with
              | some _ => exact r2.elim
              | none =>
                simp only at hh
                cases hh
                cases low with
                | none =>
                  cases low' with
                  | some _ => exact r1.elim
                  | none => simp only at hl; cases hl; exact ⟨by simp [Instr.sliceBounds], Nat.le_refl _, fun _ => rfl, fun _ => rfl, fun h => absurd rfl h, fun _ => rfl, fun h => absurd rfl h⟩
                | some v =>
                  cases low' with
                  | none => exact r1.elim
                  | some v' => have k := run_natOf (P := P) hl r1 .sliceB w; exact ⟨by simp [Instr.sliceBounds, k.1], Nat.le_refl _, fun _ => rfl, fun _ => rfl, fun h => absurd rfl h, fun h => (by cases h), fun _ => k.2⟩
            | some u =>
              cases high' with
              | none => exact r2.elim
              | some u' =>
                have ku := fun c => run_natOf (P := P) hh r2 c w
                cases low with
                | none =>
                  cases low' with
                  | some _ => exact r1.elim
                  | none => simp only at hl; cases hl; exact ⟨by simp [Instr.sliceBounds, (ku _).1], Nat.le_refl _, fun _ => rfl, fun h => (by cases h), fun _ => (ku .index).2, fun _ => rfl, fun h => absurd rfl h⟩
                | some v =>
                  cases low' with
                  | none => exact r1.elim
                  | some v' => have k := run_natOf (P := P) hl r1 .sliceB w; exact ⟨by simp [Instr.sliceBounds, (ku _).1, k.1], Nat.le_refl _, fun _ => rfl, fun h => (by cases h), fun _ => (ku .index).2, fun h => (by cases h), fun _ => k.2⟩
        | some x =>
          cases max' with
          | none => exact r3.elim
          | some x' =>
            have kx := fun c => run_natOf (P := P) hm r3 c w
            cases high with
            | none => simp only at hh; cases hh
            | some u =>
              cases high' with
              | none => exact r2.elim
              | some u' =>
                have ku := fun c => run_natOf (P := P) hh r2 c w
                cases low with
                | none =>
                  cases low' with
                  | some _ => exact r1.elim
                  | none => simp only at hl; cases hl; exact ⟨by simp [Instr.sliceBounds, (kx _).1, (ku _).1], (kx .index).2, fun h => (by cases h), fun h => (by cases h), fun _ => (ku .index).2, fun _ => rfl, fun h => absurd rfl h⟩
                | some v =>
                  cases low' with
                  | none => exact r1.elim
                  | some v' => have k := run_natOf (P := P) hl r1 .slice3C w; exact ⟨by simp [Instr.sliceBounds, (kx _).1, (ku _).1, k.1], (kx .index).2, fun h => (by cases h), fun h => (by cases h), fun _ => (ku .index).2, fun h => (by cases h), fun _ => k.2⟩

end Go.Ab
