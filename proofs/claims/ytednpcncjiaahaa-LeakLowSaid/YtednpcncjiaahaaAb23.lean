/-
  An abstract interpreter of the model's code, part 23: the same, quicker: operations as things to run. Conditions: none.
-/
import Derived.Test.YtednpcncjiaahaaAb22
set_option linter.unusedVariables false
set_option linter.unusedSimpArgs false
namespace Go.Ab
open Go

/-! eliminators -/
noncomputable def vPtr (v : V) : (Nat → Nat → ROut) → ROut :=
  V.casesOn (motive_1 := fun _ => (Nat → Nat → ROut) → ROut) v (fun _ => .fail) (fun _ _ => .fail) (fun _ _ _ => .fail) (fun _ _ => .fail)
    (fun a K => Option.rec (motive := fun _ => ROut) .fail (fun q => K q.1 q.2) a) (fun _ _ _ _ _ => .fail) (fun _ _ => .fail) (fun _ _ _ _ => .fail) (fun _ => .fail) (fun _ _ _ => .fail) (fun _ => .fail) (fun _ _ => .fail) (fun _ _ => .fail)
noncomputable def vInt (v : V) : (IntKind → Int → ROut) → ROut → ROut :=
  V.casesOn (motive_1 := fun _ => (IntKind → Int → ROut) → ROut → ROut) v (fun _ f => f) (fun _ _ f => f) (fun k n K _ => K k n) (fun _ _ f => f)
    (fun _ _ f => f) (fun _ _ _ _ _ f => f) (fun _ _ f => f) (fun _ _ _ _ f => f) (fun _ f => f) (fun _ _ _ f => f) (fun _ f => f) (fun _ _ f => f) (fun _ _ f => f)
noncomputable def vBool (v : V) : ROut → ROut → ROut :=
  V.casesOn (motive_1 := fun _ => ROut → ROut → ROut) v (fun _ _ => .fail) (fun b x y => Bool.rec (motive := fun _ => ROut) y x b) (fun _ _ _ _ => .fail) (fun _ _ _ => .fail)
    (fun _ _ _ => .fail) (fun _ _ _ _ _ _ => .fail) (fun _ _ _ => .fail) (fun _ _ _ _ _ => .fail) (fun _ _ => .fail) (fun _ _ _ _ => .fail) (fun _ _ => .fail) (fun _ _ _ => .fail) (fun _ _ _ => .fail)
noncomputable def vSl (v : V) : (Nat → Nat → Nat → ROut) → ROut :=
  V.casesOn (motive_1 := fun _ => (Nat → Nat → Nat → ROut) → ROut) v (fun _ => .fail) (fun _ _ => .fail) (fun _ _ _ => .fail) (fun _ _ => .fail)
    (fun _ _ => .fail) (fun a l _ _ K => Option.rec (motive := fun _ => ROut) .fail (fun q => K q.1 q.2 l) a) (fun _ _ => .fail) (fun _ _ _ _ => .fail) (fun _ => .fail) (fun _ _ _ => .fail) (fun _ => .fail) (fun _ _ => .fail) (fun _ _ => .fail)
noncomputable def nIx (n : Int) : (Nat → ROut) → ROut := Int.casesOn (motive := fun _ => (Nat → ROut) → ROut) n (fun m K => K m) (fun _ _ => .fail)
noncomputable def bCells (b : Option Blk) : (Nat → Nat → PT V → Bool → ROut) → ROut :=
  Option.rec (motive := fun _ => (Nat → Nat → PT V → Bool → ROut) → ROut) (fun _ => .fail) (fun B => Blk.casesOn (motive := fun _ => (Nat → Nat → PT V → Bool → ROut) → ROut) B (fun _ => .fail) (fun n es t own K => K n es t own) (fun _ _ _ => .fail) (fun _ _ _ => .fail)) b
noncomputable abbrev ifB (b : Bool) (x y : ROut) : ROut := Bool.rec (motive := fun _ => ROut) y x b

abbrev Kt := V → Heap → ROut
structure Cl where
  run : CallF → PT V → Heap → Kt → Kt → ROut
structure Gv where
  get : PT V → V
noncomputable def opd (ng : Nat) (x : Operand) : Gv :=
  Operand.casesOn (motive := fun _ => Gv) x (fun k => ⟨fun t => Option.rec (motive := fun _ => V) .und (fun v => v) ((path k).get t)⟩) (fun c => ⟨fun _ => ofC c⟩) (fun g => ⟨fun _ => cond (Nat.blt g ng) (.p (some (g, 0))) .und⟩) (fun f => ⟨fun _ => .f (.func f) [] []⟩)
theorem opd_eq (ng : Nat) (x : Operand) (t : PT V) : (opd ng x).get t = ev ng t x := by
  cases x with
  | tmp k =>
    show (Option.rec (motive := fun _ => V) .und (fun v => v) (t.get k) : V) = (t.get k).getD .und
    cases t.get k <;> rfl
  | _ => rfl

def Out.el (r : Out) (K pan : Kt) : ROut :=
  match r with
  | .val v h => K v h
  | .pan v h => pan v h
  | .fail => .fail
/-- what is to be shown -/
def ClOk (P : Program) (ng : Nat) (o : Oper) (c : Cl) : Prop := ∀ cf t h K pan, c.run cf t h K pan = (opX P cf o (ev ng t) h).el K pan

/-- the way that is always right -/
noncomputable def genK (P : Program) (ng : Nat) (o : Oper) : Cl := ⟨fun cf t h K pan => (opX P cf o (ev ng t) h).el K pan⟩
theorem genK_ok (P : Program) (ng : Nat) (o : Oper) : ClOk P ng o (genK P ng o) := fun _ _ _ _ _ => rfl

noncomputable def moveK (ng : Nat) (x : Operand) : Cl := ⟨fun _ t h K _ => K ((opd ng x).get t) h⟩
noncomputable def pickK (ng : Nat) (c a b : Operand) : Cl := ⟨fun _ t h K _ => vBool ((opd ng c).get t) (K ((opd ng a).get t) h) (K ((opd ng b).get t) h)⟩
noncomputable def optK (r : Option V) (h : Heap) (K : Kt) : ROut := Option.rec (motive := fun _ => ROut) .fail (fun v => K v h) r
noncomputable def opt2K (r : Option (V × Heap)) (K : Kt) : ROut := Option.rec (motive := fun _ => ROut) .fail (fun v => K v.1 v.2) r
noncomputable def load1K (ng : Nat) (a : Operand) : Cl := ⟨fun _ t h K _ => vPtr ((opd ng a).get t) fun b off => bCells (h.get b) fun n _ tr _ => ifB (Nat.blt off n) (optK (tr.get off) h K) .fail⟩
noncomputable def loadNK (P : Program) (ng : Nat) (ty : TypeId) (a : Operand) : Cl := ⟨fun _ t h K _ => optK (loadV P ty ((opd ng a).get t) h) h K⟩
noncomputable def loadK (P : Program) (ng : Nat) (ty : TypeId) (a : Operand) : Cl :=
  Option.rec (motive := fun _ => Cl) (loadNK P ng ty a) (fun d => Bool.rec (motive := fun _ => Cl) (load1K ng a) (loadNK P ng ty a) (aggD d)) (P.underlying ty)
noncomputable def storeNK (P : Program) (ng : Nat) (ty : TypeId) (a x : Operand) : Cl := ⟨fun _ t h K _ => Option.rec (motive := fun _ => ROut) .fail (fun h' => K .und h') (storeV P ty ((opd ng a).get t) ((opd ng x).get t) h)⟩
noncomputable def nilK (ng : Nat) (x : Operand) (gen : Cl) : Cl := ⟨fun cf t h K pan => V.casesOn (motive_1 := fun _ => ROut) ((opd ng x).get t) (gen.run cf t h K pan) (fun _ => gen.run cf t h K pan) (fun _ _ => gen.run cf t h K pan) (fun _ => gen.run cf t h K pan)
    (fun a => Option.rec (motive := fun _ => ROut) .fail (fun q => K (.p (some q)) h) a) (fun _ _ _ _ => gen.run cf t h K pan) (fun _ => gen.run cf t h K pan) (fun _ _ _ => gen.run cf t h K pan) (gen.run cf t h K pan) (fun _ _ => gen.run cf t h K pan) (gen.run cf t h K pan) (fun _ => gen.run cf t h K pan) (fun _ => gen.run cf t h K pan)⟩
noncomputable def kq (a b : IntKind) : Bool := Nat.beq (IntKind.casesOn (motive := fun _ => Nat) a 0 1 2 3 4 5 6 7) (IntKind.casesOn (motive := fun _ => Nat) b 0 1 2 3 4 5 6 7)
theorem kq_eq (a b : IntKind) : kq a b = decide (a = b) := by cases a <;> cases b <;> rfl
structure Bi where
  run : IntKind → Int → Int → (V → ROut) → ROut
noncomputable def intBi (op : BinOp) : Bi :=
  match op with
  | .add => ⟨fun k a b K => K (.i k (wrapI k (a + b)))⟩
  | .sub => ⟨fun k a b K => K (.i k (wrapI k (a - b)))⟩
  | .mul => ⟨fun k a b K => K (.i k (wrapI k (a * b)))⟩
  | .eql => ⟨fun _ a b K => ifB (ieq a b) (K (.b true)) (K (.b false))⟩
  | .neq => ⟨fun _ a b K => ifB (ieq a b) (K (.b false)) (K (.b true))⟩
  | .lss => ⟨fun _ a b K => ifB (ilt a b) (K (.b true)) (K (.b false))⟩
  | .leq => ⟨fun _ a b K => ifB (ilt b a) (K (.b false)) (K (.b true))⟩
  | .gtr => ⟨fun _ a b K => ifB (ilt b a) (K (.b true)) (K (.b false))⟩
  | .geq => ⟨fun _ a b K => ifB (ilt a b) (K (.b false)) (K (.b true))⟩
  | op => ⟨fun k a b K => Option.rec (motive := fun _ => ROut) .fail K (intV op k a b)⟩
noncomputable def binNK (P : Program) (ng : Nat) (op : BinOp) (ty : TypeId) (x y : Operand) : Cl := ⟨fun _ t h K _ => optK (binV P op ty ((opd ng x).get t) ((opd ng y).get t)) h K⟩
noncomputable def binIK (P : Program) (ng : Nat) (op : BinOp) (ty : TypeId) (x y : Operand) : Cl :=
  ⟨fun cf t h K pan => vInt ((opd ng x).get t) (fun k a => vInt ((opd ng y).get t) (fun k' b => ifB (kq k k') ((intBi op).run k a b fun v => K v h) .fail) ((binNK P ng op ty x y).run cf t h K pan)) ((binNK P ng op ty x y).run cf t h K pan)⟩
noncomputable def binK (P : Program) (ng : Nat) (op : BinOp) (ty : TypeId) (x y : Operand) : Cl :=
  match op with
  | .shl => binNK P ng op ty x y
  | .shr => binNK P ng op ty x y
  | op => binIK P ng op ty x y
noncomputable def faK (ng : Nat) (x : Operand) (off : Nat) : Cl := ⟨fun _ t h K _ => vPtr ((opd ng x).get t) fun b o => K (.p (some (b, o + off))) h⟩
noncomputable def fieldAddrK (P : Program) (ng : Nat) (s : TypeId) (x : Operand) (i : Nat) : Cl :=
  match P.underlying s with
  | some (.struct fields) => match fields[i]? with
    | some f => match szOf P f.type with
      | some (_ + 1) => faK ng x f.offset
      | _ => ⟨fun _ _ _ _ _ => .fail⟩
    | none => ⟨fun _ _ _ _ _ => .fail⟩
  | _ => ⟨fun _ _ _ _ _ => .fail⟩
noncomputable def ixSl (ng : Nat) (x i : Operand) (sz : Nat) : Cl := ⟨fun _ t h K _ => vSl ((opd ng x).get t) fun b o len => vInt ((opd ng i).get t) (fun _ n => nIx n fun m => ifB (Nat.blt m len) (K (.p (some (b, o + m * sz))) h) .fail) .fail⟩
noncomputable def indexAddrK (P : Program) (ng : Nat) (ty : TypeId) (x i : Operand) : Cl :=
  match P.underlying ty with
  | some (.slice elem) => match szOf P elem with
    | some sz => ixSl ng x i sz
    | none => ⟨fun _ t h K _ => optK (indexAddrV P ty ((opd ng x).get t) ((opd ng i).get t)) h K⟩
  | _ => ⟨fun _ t h K _ => optK (indexAddrV P ty ((opd ng x).get t) ((opd ng i).get t)) h K⟩
noncomputable def argsL (ng : Nat) (t : PT V) (l : List Operand) : List V := List.rec (motive := fun _ => List V) [] (fun x _ ih => (opd ng x).get t :: ih) l
noncomputable def callK (ng : Nat) (g : FuncId) (args : List Operand) : Cl := ⟨fun cf t h K pan => (cf g (argsL ng t args) h).el K pan⟩
noncomputable def lenK (P : Program) (ng : Nat) (ty : TypeId) (x : Operand) : Cl := ⟨fun _ t h K _ => optK (lenV P ty ((opd ng x).get t) h) h K⟩

noncomputable def opK (P : Program) (ng : Nat) (o : Oper) : Cl :=
  match o.op with
  | .move x => moveK ng x
  | .assign x => moveK ng x
  | .pick c a b => pickK ng c a b
  | .load ty a => loadK P ng ty a
  | .store ty a x => storeNK P ng ty a x
  | .nilCheck x => nilK ng x (genK P ng o)
  | .binOp op ty x y _ => binK P ng op ty x y
  | .fieldAddr s x i => fieldAddrK P ng s x i
  | .indexAddr ty x i => indexAddrK P ng ty x i
  | .call ⟨.value (.func g), args, _⟩ => callK ng g args.toList
  | .call ⟨.builtin .len, ⟨[x]⟩, ⟨[ty]⟩⟩ => lenK P ng ty x
  | .unOp op _ x => ⟨fun _ t h K _ => optK (unV op ((opd ng x).get t)) h K⟩
  | .convert s d x => ⟨fun _ t h K _ => opt2K (convV P s d ((opd ng x).get t) h) K⟩
  | .extract x i => ⟨fun _ t h K _ => optK (extractV ((opd ng x).get t) i) h K⟩
  | .index ty x i => ⟨fun _ t h K _ => optK (indexV P ty ((opd ng x).get t) ((opd ng i).get t)) h K⟩
  | .slice ty x lo hi mx => ⟨fun _ t h K _ => opt2K (sliceV P ty ((opd ng x).get t) (lo.map (ev ng t)) (hi.map (ev ng t)) (mx.map (ev ng t)) h) K⟩
  | _ => genK P ng o

/-! that they are right -/
theorem elOpt (r : Option V) (h : Heap) (K pan : Kt) : optK r h K = (match r.map fun v => (v, h) with | some r => Out.val r.1 r.2 | none => .fail).el K pan := by
  cases r <;> rfl
theorem elOpt2 (r : Option (V × Heap)) (K pan : Kt) : opt2K r K = (match r with | some r => Out.val r.1 r.2 | none => .fail).el K pan := by
  cases r <;> rfl
section
variable {P : Program} {ng : Nat} {o : Oper}
theorem moveK_ok {x : Operand} (h : o.op = .move x ∨ o.op = .assign x) : ClOk P ng o (moveK ng x) := fun cf t H K pan => by
  obtain ⟨dst, op, type, pos, after, guard⟩ := o
  rcases h with h | h <;> simp only at h <;> subst h <;> (show K ((opd ng x).get t) H = _; rw [opd_eq]; rfl)
theorem pickK_ok {c a b : Operand} (h : o.op = .pick c a b) : ClOk P ng o (pickK ng c a b) := fun cf t H K pan => by
  obtain ⟨dst, op, type, pos, after, guard⟩ := o
  simp only at h; subst h
  show vBool ((opd ng c).get t) (K ((opd ng a).get t) H) (K ((opd ng b).get t) H) = _
  rw [opd_eq, opd_eq, opd_eq]
  simp only [opX, stepV]
  cases ev ng t c <;> try rfl
  rename_i q
  cases q <;> rfl
theorem loadNK_ok {ty : TypeId} {a : Operand} (h : o.op = .load ty a) : ClOk P ng o (loadNK P ng ty a) := fun cf t H K pan => by
  obtain ⟨dst, op, type, pos, after, guard⟩ := o
  simp only at h; subst h
  show optK (loadV P ty ((opd ng a).get t) H) H K = _
  rw [opd_eq, elOpt _ _ _ pan]
  rfl
theorem load1_eq {ty : TypeId} {d : TypeDesc} (hd : P.underlying ty = some d) (ha : aggD d = false) (p : V) (H : Heap) (K : Kt) :
    (vPtr p fun b off => bCells (H.get b) fun n _ tr _ => ifB (Nat.blt off n) (optK (tr.get off) H K) .fail) = optK (loadV P ty p H) H K := by
  unfold loadV
  cases p <;> try rfl
  rename_i a
  cases a with
  | none => rfl
  | some q =>
    obtain ⟨b, off⟩ := q
    show bCells (H.get b) _ = _
    simp only
    cases H.get b with
    | none => rfl
    | some B =>
      cases B <;> try rfl
      rename_i n es tr own
      simp only [hd, ha]
      show ifB (Nat.blt off n) _ _ = _
      cases Nat.blt off n <;> rfl
theorem loadK_ok {ty : TypeId} {a : Operand} (h : o.op = .load ty a) : ClOk P ng o (loadK P ng ty a) := by
  unfold loadK
  cases hd : P.underlying ty with
  | none => exact loadNK_ok h
  | some d =>
    simp only
    cases ha : aggD d with
    | true => exact loadNK_ok h
    | false =>
      intro cf t H K pan
      have := loadNK_ok (P := P) (ng := ng) h cf t H K pan
      rw [← this]
      exact load1_eq hd ha _ H K
theorem storeNK_ok {ty : TypeId} {a x : Operand} (h : o.op = .store ty a x) : ClOk P ng o (storeNK P ng ty a x) := fun cf t H K pan => by
  obtain ⟨dst, op, type, pos, after, guard⟩ := o
  simp only at h; subst h
  show Option.rec (motive := fun _ => ROut) .fail (fun h' => K .und h') (storeV P ty ((opd ng a).get t) ((opd ng x).get t) H) = _
  rw [opd_eq, opd_eq]
  simp only [opX, stepV]
  cases storeV P ty (ev ng t a) (ev ng t x) H <;> rfl
theorem nilK_ok {x : Operand} (h : o.op = .nilCheck x) : ClOk P ng o (nilK ng x (genK P ng o)) := fun cf t H K pan => by
  obtain ⟨dst, op, type, pos, after, guard⟩ := o
  simp only at h; subst h
  unfold nilK
  simp only [opd_eq]
  cases hx : ev ng t x <;> try rfl
  rename_i a
  simp only [opX, stepV, hx]
  cases a <;> rfl
theorem intBi_eq (op : BinOp) (k : IntKind) (a b : Int) (K : V → ROut) : (intBi op).run k a b K = Option.rec (motive := fun _ => ROut) .fail K (intV op k a b) := by
  cases op <;> try rfl
  all_goals
    simp only [intBi, intV]
    first
      | (cases ieq a b <;> rfl)
      | (cases ilt a b <;> rfl)
      | (cases ilt b a <;> rfl)
theorem binNK_ok {op : BinOp} {ty yt : TypeId} {x y : Operand} (h : o.op = .binOp op ty x y yt) : ClOk P ng o (binNK P ng op ty x y) := fun cf t H K pan => by
  obtain ⟨dst, op, type, pos, after, guard⟩ := o
  simp only at h; subst h
  show optK (binV P _ ty ((opd ng x).get t) ((opd ng y).get t)) H K = _
  rw [opd_eq, opd_eq, elOpt _ _ _ pan]
  rfl
theorem bin_int {op : BinOp} (h1 : op ≠ .shl) (h2 : op ≠ .shr) (ty : TypeId) (k k' : IntKind) (a b : Int) : binV P op ty (.i k a) (.i k' b) = okc (decide (k = k')) (intV op k a b) := by
  unfold binV
  cases op <;> first | rfl | exact absurd rfl h1 | exact absurd rfl h2
theorem binIK_ok {op : BinOp} {ty yt : TypeId} {x y : Operand} (h : o.op = .binOp op ty x y yt) (h1 : op ≠ .shl) (h2 : op ≠ .shr) : ClOk P ng o (binIK P ng op ty x y) := fun cf t H K pan => by
  rw [← binNK_ok h cf t H K pan]
  unfold binIK
  simp only
  unfold binNK
  simp only [opd_eq]
  cases ev ng t x <;> try rfl
  cases ev ng t y <;> try rfl
  rename_i k a k' b
  rw [bin_int h1 h2, ← kq_eq]
  show ifB (kq k k') ((intBi op).run k a b fun v => K v H) .fail = _
  cases kq k k'
  · rfl
  · show (intBi op).run k a b _ = _
    rw [intBi_eq]
    rfl
theorem binK_ok {op : BinOp} {ty yt : TypeId} {x y : Operand} (h : o.op = .binOp op ty x y yt) : ClOk P ng o (binK P ng op ty x y) := by
  unfold binK
  split
  · exact binNK_ok h
  · exact binNK_ok h
  · rename_i h1 h2
    exact binIK_ok h (fun e => h1 e) (fun e => h2 e)
theorem fa_eq {s : TypeId} {x : Operand} {i : Nat} (h : o.op = .fieldAddr s x i) (cf : CallF) (t : PT V) (H : Heap) (K pan : Kt) : (opX P cf o (ev ng t) H).el K pan = optK (fieldAddrV P s (ev ng t x) i) H K := by
  obtain ⟨dst, op, type, pos, after, guard⟩ := o
  simp only at h; subst h
  rw [elOpt _ _ _ pan]
  rfl
theorem fieldAddrK_ok {s : TypeId} {x : Operand} {i : Nat} (h : o.op = .fieldAddr s x i) : ClOk P ng o (fieldAddrK P ng s x i) := fun cf t H K pan => by
  rw [fa_eq h]
  unfold fieldAddrK fieldAddrV
  cases hd : P.underlying s with
  | none => rfl
  | some d =>
    cases d <;> try rfl
    rename_i fields
    simp only
    cases hf : fields[i]? with
    | none =>
      cases ev ng t x <;> try rfl
      rename_i a
      cases a with
      | none => rfl
      | some q => simp only [hf]; rfl
    | some f =>
      simp only
      cases hs : szOf P f.type with
      | none =>
        cases ev ng t x <;> try rfl
        rename_i a
        cases a with
        | none => rfl
        | some q => simp only [hf, hs]; rfl
      | some sz =>
        cases sz with
        | zero =>
          cases ev ng t x <;> try rfl
          rename_i a
          cases a with
          | none => rfl
          | some q => simp only [hf, hs]; rfl
        | succ sz =>
          show vPtr ((opd ng x).get t) _ = _
          rw [opd_eq]
          cases ev ng t x <;> try rfl
          rename_i a
          cases a with
          | none => rfl
          | some q => simp only [hf, hs]; rfl
theorem ia_eq {ty : TypeId} {x i : Operand} (h : o.op = .indexAddr ty x i) (cf : CallF) (t : PT V) (H : Heap) (K pan : Kt) : (opX P cf o (ev ng t) H).el K pan = optK (indexAddrV P ty (ev ng t x) (ev ng t i)) H K := by
  obtain ⟨dst, op, type, pos, after, guard⟩ := o
  simp only at h; subst h
  rw [elOpt _ _ _ pan]
  rfl
theorem indexAddrK_ok {ty : TypeId} {x i : Operand} (h : o.op = .indexAddr ty x i) : ClOk P ng o (indexAddrK P ng ty x i) := fun cf t H K pan => by
  rw [ia_eq h]
  unfold indexAddrK
  split
  · rename_i elem hd
    cases hs : szOf P elem with
    | none =>
      show optK (indexAddrV P ty ((opd ng x).get t) ((opd ng i).get t)) H K = _
      rw [opd_eq, opd_eq]
    | some sz =>
      show (vSl ((opd ng x).get t) fun b o len => vInt ((opd ng i).get t) (fun _ n => nIx n fun m => ifB (Nat.blt m len) (K (.p (some (b, o + m * sz))) H) .fail) .fail) = _
      rw [opd_eq, opd_eq]
      unfold indexAddrV
      rw [hd]
      cases ev ng t x <;> try rfl
      rename_i a len cap ex
      cases a with
      | none => rfl
      | some q =>
        cases ev ng t i <;> try rfl
        rename_i k n
        cases n with
        | negSucc m => simp only [hs]; rfl
        | ofNat m =>
          simp only [hs]
          show ifB (Nat.blt m len) _ _ = _
          cases Nat.blt m len <;> rfl
  · show optK (indexAddrV P ty ((opd ng x).get t) ((opd ng i).get t)) H K = _
    rw [opd_eq, opd_eq]
theorem argsL_eq (t : PT V) : ∀ (l : List Operand), argsL ng t l = l.map (ev ng t)
  | [] => rfl
  | x :: l => by
    show (opd ng x).get t :: argsL ng t l = _
    rw [opd_eq, argsL_eq t l]; rfl
theorem callK_ok {g : FuncId} {args : Array Operand} {ats : Array TypeId} (h : o.op = .call ⟨.value (.func g), args, ats⟩) : ClOk P ng o (callK ng g args.toList) := fun cf t H K pan => by
  obtain ⟨dst, op, type, pos, after, guard⟩ := o
  simp only at h; subst h
  show (cf g (argsL ng t args.toList) H).el K pan = _
  rw [argsL_eq]
  have e : opX P cf ⟨dst, .call ⟨.value (.func g), args, ats⟩, type, pos, after, guard⟩ (ev ng t) H = cf g ([] ++ (args.toList.map (ev ng t) ++ [])) H := rfl
  rw [e]
  simp
theorem lenK_ok {x : Operand} {ty : TypeId} (h : o.op = .call ⟨.builtin .len, ⟨[x]⟩, ⟨[ty]⟩⟩) : ClOk P ng o (lenK P ng ty x) := fun cf t H K pan => by
  obtain ⟨dst, op, type, pos, after, guard⟩ := o
  simp only at h; subst h
  show optK (lenV P ty ((opd ng x).get t) H) H K = _
  rw [opd_eq, elOpt _ _ _ pan]
  rfl
theorem opK_ok (P : Program) (ng : Nat) (o : Oper) : ClOk P ng o (opK P ng o) := by
  unfold opK
  split
  · exact moveK_ok (.inl (by assumption))
  · exact moveK_ok (.inr (by assumption))
  · exact pickK_ok (by assumption)
  · exact loadK_ok (by assumption)
  · exact storeNK_ok (by assumption)
  · exact nilK_ok (by assumption)
  · exact binK_ok (by assumption)
  · exact fieldAddrK_ok (by assumption)
  · exact indexAddrK_ok (by assumption)
  · exact callK_ok (by assumption)
  · exact lenK_ok (by assumption)
  · rename_i h
    intro cf t H K pan
    obtain ⟨dst, op, type, pos, after, guard⟩ := o
    simp only at h; subst h
    simp only [opd_eq]
    rw [elOpt _ _ _ pan]; rfl
  · rename_i h
    intro cf t H K pan
    obtain ⟨dst, op, type, pos, after, guard⟩ := o
    simp only at h; subst h
    simp only [opd_eq]
    rw [elOpt2 _ _ pan]; rfl
  · rename_i h
    intro cf t H K pan
    obtain ⟨dst, op, type, pos, after, guard⟩ := o
    simp only at h; subst h
    simp only [opd_eq]
    rw [elOpt _ _ _ pan]; rfl
  · rename_i h
    intro cf t H K pan
    obtain ⟨dst, op, type, pos, after, guard⟩ := o
    simp only at h; subst h
    simp only [opd_eq]
    rw [elOpt _ _ _ pan]; rfl
  · rename_i h
    intro cf t H K pan
    obtain ⟨dst, op, type, pos, after, guard⟩ := o
    simp only at h; subst h
    simp only [opd_eq]
    rw [elOpt2 _ _ pan]; rfl
  · exact genK_ok P ng o
end
end Go.Ab
