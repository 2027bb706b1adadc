/-
  An abstract interpreter of the model's code, part 27: that operations as functions of values are right. Conditions: none.
-/
import Derived.Test.YtednpcncjiaahaaRs1
set_option linter.unusedVariables false
set_option linter.unusedSimpArgs false
namespace Go.Ab
open Go

theorem elA1 (r : Option V) (h : Heap) (K : Kt) : o1 r (fun v => K v h) = (match r.map fun v => (v, h) with | some r => Out.val r.1 r.2 | none => .fail).el K .pan := by
  cases r <;> simp [o1, Out.el, fo_eq]
theorem elA2 (r : Option (V × Heap)) (K : Kt) : o2 r K = (match r with | some r => Out.val r.1 r.2 | none => .fail).el K .pan := by
  cases r <;> simp [o2, Out.el, fo_eq, fh_eq]
theorem elAH (u : V) (r : Option Heap) (K : Kt) : oh r (fun h => K u h) = (match r.map fun h' => (u, h') with | some r => Out.val r.1 r.2 | none => .fail).el K .pan := by
  cases r <;> simp [oh, Out.el, fh_eq]

section
variable {P : Program} {ng : Nat}
/-- a step that is no call and no panic -/
theorem opX_step {cf : CallF} {o : Oper} {ρ : Operand → V} {h : Heap} (h1 : ∀ x, o.op ≠ .panic x) (h2 : ∀ f as ts, o.op ≠ .call ⟨.value f, as, ts⟩) : opX P cf o ρ h = (match stepV P o ρ h with | some r => .val r.1 r.2 | none => .fail) := by
  unfold opX
  split
  · rename_i x hx; exact absurd hx (h1 x)
  · rename_i c hc
    obtain ⟨cal, as, ts⟩ := c
    cases cal with
    | value f => exact absurd hc (h2 f as ts)
    | _ => rfl
  · rfl

def FE (r s : ROut) : Prop := r = .fail ∨ r = s
theorem FE.rfl {r : ROut} : FE r r := .inr _root_.rfl
theorem FE.fail {r : ROut} : FE .fail r := .inl _root_.rfl
theorem FE.of {r s : ROut} (h : r = s) : FE r s := .inr h

theorem pk_ok (c a b : V) (h : Heap) (K : Kt) : pk c a b (fun v => K v h) = (match (match c with | .b t => some (cond t a b, h) | _ => none : Option (V × Heap)) with | some r => Out.val r.1 r.2 | none => .fail).el K .pan := by
  cases c <;> rfl
theorem ld_ok {ty : TypeId} {d : TypeDesc} (hd : P.underlying ty = some d) (ha : aggD d = false) (p : V) (h : Heap) (K : Kt) : ld p h (fun v => K v h) = optK (loadV P ty p h) h K := by
  rw [← load1_eq hd ha p h K]
  rfl
theorem ldn_ok {ty : TypeId} {d : TypeDesc} {sz : Nat} (hd : P.underlying ty = some d) (ha : aggD d = true) (hs : szOf P ty = some sz) (p : V) (h : Heap) (K : Kt) : ldn sz p h (fun v => K v h) = optK (loadV P ty p h) h K := by
  unfold ldn loadV
  cases p <;> try rfl
  rename_i a
  cases a with
  | none => rfl
  | some q =>
    obtain ⟨b, off⟩ := q
    show bCells (h.get b) _ = _
    simp only
    cases h.get b with
    | none => rfl
    | some B =>
      cases B <;> try rfl
      rename_i n es tr own
      simp only [hd, ha, hs]
      show ifB (Nat.ble (off + sz) n) _ _ = _
      cases Nat.ble (off + sz) n with
      | false => rfl
      | true =>
        show Option.rec (motive := fun _ => ROut) .fail (fun l => K (.agg l) h) (readN tr off sz) = _
        cases readN tr off sz <;> rfl
theorem st_ok {ty : TypeId} {sz : Nat} (hs : szOf P ty = some sz) (a x : V) (h : Heap) (K : Kt) : st sz a x h (fun h => K .und h) = oh (storeV P ty a x h) fun h => K .und h := by
  unfold st storeV
  cases a <;> try rfl
  rename_i a
  cases a with
  | none => rfl
  | some q =>
    obtain ⟨b, off⟩ := q
    show bCells (h.get b) _ = _
    simp only
    cases h.get b with
    | none => rfl
    | some B =>
      cases B <;> try rfl
      rename_i n es tr own
      cases own with
      | false => rfl
      | true =>
        simp only [hs]
        show ifB (and (x.cells.all V.sc) (and (Nat.beq x.cells.length sz) (Nat.ble (off + sz) n))) _ _ = _
        cases (and (x.cells.all V.sc) (and (Nat.beq x.cells.length sz) (Nat.ble (off + sz) n))) <;> rfl
theorem bi_ok {op : BinOp} (h1 : op ≠ .shl) (h2 : op ≠ .shr) (ty : TypeId) (x y : V) (h : Heap) (K : Kt) : FE (bi op x y fun v => K v h) (optK (binV P op ty x y) h K) := by
  unfold bi
  cases x <;> try exact FE.fail
  cases y <;> try exact FE.fail
  rename_i k a k' b
  refine FE.of ?_
  rw [bin_int h1 h2, ← kq_eq]
  show ifB (kq k k') (ia op k a b fun v => K v h) .fail = _
  cases kq k k'
  · rfl
  · show ia op k a b _ = _
    rw [ia_eq', o1_eq _ _ h]
    rfl
theorem bsh_ok {op : BinOp} (h1 : op = .shl ∨ op = .shr) (ty : TypeId) (x y : V) (h : Heap) (K : Kt) : FE (bsh op x y fun v => K v h) (optK (binV P op ty x y) h K) := by
  unfold bsh
  cases x <;> try exact FE.fail
  cases y <;> try exact FE.fail
  rename_i k a k' b
  cases b with
  | negSucc m => exact FE.fail
  | ofNat m =>
    refine FE.of ?_
    show sh op k a m _ = _
    rcases h1 with rfl | rfl
    · simp only [sh, fi_eq]; rfl
    · simp only [sh, fi_eq]; rfl
theorem bs_ok (op : BinOp) (ty : TypeId) (x y : V) (h : Heap) (K : Kt) : FE (bs op x y fun v => K v h) (optK (binV P op ty x y) h K) := by
  unfold bs
  cases x <;> try exact FE.fail
  cases y <;> try exact FE.fail
  rename_i a b
  refine FE.of ?_
  have e : binV P op ty (.s a) (.s b) = strV op a b := rfl
  rw [e]
  cases op <;> first | rfl | exact o1_eq _ _ h
theorem nc_ok (x : V) (h : Heap) (K : Kt) : FE (nc x fun v => K v h) ((match (match x with | .p (some a) => some (V.p (some a), h) | .f (.func g) fs cs => some (.f (.func g) fs cs, h) | _ => none : Option (V × Heap)) with | some r => Out.val r.1 r.2 | none => .fail).el K .pan) := by
  unfold nc
  cases x <;> try exact FE.fail
  rename_i a
  cases a with
  | none => exact FE.fail
  | some q => exact FE.of rfl
theorem fa_ok {s : TypeId} {fields : Array Field} {i : Nat} {f : Field} {sz : Nat} (hd : P.underlying s = some (.struct fields)) (hf : fields[i]? = some f) (hs : szOf P f.type = some (sz + 1)) (x : V) (h : Heap) (K : Kt) : fa f.offset x (fun v => K v h) = optK (fieldAddrV P s x i) h K := by
  unfold fa fieldAddrV
  rw [hd]
  cases x <;> try rfl
  rename_i a
  cases a with
  | none => simp only; rfl
  | some q =>
    simp only [hf, hs]
    simp only [forceN_eq]; rfl
theorem ix_ok {ty elem : TypeId} {sz : Nat} (hd : P.underlying ty = some (.slice elem)) (hs : szOf P elem = some sz) (x i : V) (h : Heap) (K : Kt) : FE (ix sz x i fun v => K v h) (optK (indexAddrV P ty x i) h K) := by
  unfold ix indexAddrV
  rw [hd]
  cases x <;> try exact FE.fail
  rename_i a len cap ex
  cases a with
  | none => exact FE.fail
  | some q =>
    cases i <;> try exact FE.fail
    rename_i k n
    cases n with
    | negSucc m => exact FE.fail
    | ofNat m =>
      refine FE.of ?_
      simp only [hs]
      show ifB (Nat.blt m len) (forceN _ _) _ = _
      rw [forceN_eq]
      cases Nat.blt m len <;> rfl
theorem ixa_ok {ty elem : TypeId} {n sz : Nat} (hd : P.underlying ty = some (.array n elem)) (hs : szOf P elem = some sz) (x i : V) (h : Heap) (K : Kt) : FE (ixa n sz x i fun v => K v h) (optK (indexAddrV P ty x i) h K) := by
  unfold ixa indexAddrV
  rw [hd]
  cases x <;> try exact FE.fail
  rename_i a
  cases a with
  | none => exact FE.fail
  | some q =>
    cases i <;> try exact FE.fail
    rename_i k j
    cases j with
    | negSucc m => exact FE.fail
    | ofNat m =>
      refine FE.of ?_
      simp only [hs]
      show ifB (Nat.blt m n) (forceN _ _) _ = _
      rw [forceN_eq]
      cases Nat.blt m n <;> rfl
theorem lns_ok {ty e : TypeId} (hd : P.underlying ty = some (.slice e)) (x : V) (h : Heap) (K : Kt) : FE (lns x fun v => K v h) (optK (lenV P ty x h) h K) := by
  unfold lns lenV
  rw [hd]
  cases x <;> first | exact FE.fail | exact FE.of rfl
theorem lnt_ok {ty : TypeId} (hd : P.underlying ty = some .string) (x : V) (h : Heap) (K : Kt) : FE (lnt x fun v => K v h) (optK (lenV P ty x h) h K) := by
  unfold lnt lenV
  rw [hd]
  cases x <;> first | exact FE.fail | exact FE.of rfl
theorem cv_ok {s d : TypeId} {k : IntKind} {D : TypeDesc} (h1 : P.underlying s = some D) (h2 : P.underlying d = some (.int k)) (x : V) (h : Heap) (K : Kt) : FE (cv k x fun v => K v h) (opt2K (convV P s d x h) K) := by
  unfold cv convV
  rw [h1, h2]
  cases x <;> try exact FE.fail
  rename_i k' n
  refine FE.of ?_
  simp only [fi_eq]
  rfl
theorem al_ok (l : List V) (h : Heap) (K : Kt) : al l h K = opt2K (newV l h) K := by
  unfold al newV
  cases l.all V.sc with
  | false => rfl
  | true =>
    show fh _ _ = _
    rw [fh_eq]; rfl
theorem cf1_ok (cf : CallF) (f : V) (args : List V) (h : Heap) (K : Kt) : FE (cf1 cf f args h K) ((match f with | .f (.func g) first cap => cf g (first ++ (args ++ cap)) h | _ => .fail).el K .pan) := by
  unfold cf1
  cases f <;> try exact FE.fail
  rename_i fn a b
  cases fn <;> try exact FE.fail
  exact FE.of (cl_eq _ _)
theorem pn_ok (x : V) (h : Heap) (K : Kt) : FE (pn x h) ((match x with | .ifc t v => Out.pan (.ifc t v) h | _ => .fail).el K .pan) := by
  cases x <;> first | exact FE.fail | exact FE.of rfl

theorem mapo {α β : Type} (f : α → β) (x : Option α) : x.map f = (match x with | some a => some (f a) | none => none) := by cases x <;> rfl
theorem opt1 (ng : Nat) (t : PT V) (x : Option Operand) : (x.map fun q => (opd ng q).get t) = x.map (ev ng t) := by cases x <;> simp [opd_eq]

theorem opA_ok (o : Oper) (cf : CallF) (t : PT V) (h : Heap) (K : Kt) : FE (opA P ng o cf t h K) ((opX P cf o (ev ng t) h).el K .pan) := by
  obtain ⟨dst, op, type, pos, after, guard⟩ := o
  unfold opA
  simp only [opd_eq, argsL_eq]
  split
  · exact FE.of rfl
  · exact FE.of rfl
  · exact FE.of (pk_ok _ _ _ _ _)
  · rename_i ty a
    cases hd : P.underlying ty with
    | none => exact FE.fail
    | some d =>
      simp only
      cases ha : aggD d with
      | true =>
        simp only
        cases hs : szOf P ty with
        | none => exact FE.fail
        | some sz =>
          refine FE.of ?_
          simp only
          rw [ldn_ok hd ha hs, elOpt _ _ _ .pan]; rfl
      | false =>
        refine FE.of ?_
        simp only
        rw [ld_ok hd ha, elOpt _ _ _ .pan]; rfl
  · rename_i ty a x
    cases hs : szOf P ty with
    | none => exact FE.fail
    | some sz =>
      refine FE.of ?_
      simp only
      rw [st_ok hs, elAH]; rfl
  · rename_i x
    split
    · refine FE.of ?_
      rw [elA2]; rfl
    · exact nc_ok _ _ _
  · rename_i op ty x y yt
    cases hd : P.underlying ty with
    | none => refine FE.of ?_; simp only [bn]; rw [elA1]; rfl
    | some d =>
      cases d <;> try (refine FE.of ?_; simp only [bn]; rw [elA1]; rfl)
      · simp only
        split
        · have := bsh_ok (P := P) (op := .shl) (.inl rfl) ty (ev ng t x) (ev ng t y) h K
          rw [elOpt _ _ _ .pan] at this; exact this
        · have := bsh_ok (P := P) (op := .shr) (.inr rfl) ty (ev ng t x) (ev ng t y) h K
          rw [elOpt _ _ _ .pan] at this; exact this
        · rename_i h1 h2
          have := bi_ok (P := P) (op := op) (fun e => h1 e) (fun e => h2 e) ty (ev ng t x) (ev ng t y) h K
          rw [elOpt _ _ _ .pan] at this; exact this
      · have := bs_ok (P := P) op ty (ev ng t x) (ev ng t y) h K
        rw [elOpt _ _ _ .pan] at this; exact this
  · rename_i s x i
    cases hd : P.underlying s with
    | none => exact FE.fail
    | some d =>
      cases d <;> try exact FE.fail
      rename_i fields
      simp only
      cases hf : fields[i]? with
      | none => exact FE.fail
      | some f =>
        simp only
        cases hs : szOf P f.type with
        | none => exact FE.fail
        | some sz =>
          cases sz with
          | zero => exact FE.fail
          | succ sz =>
            refine FE.of ?_
            simp only
            rw [fa_ok hd hf hs, elOpt _ _ _ .pan]; rfl
  · rename_i ty x i
    cases hd : P.underlying ty with
    | none => exact FE.fail
    | some d =>
      cases d <;> try exact FE.fail
      · simp only
        rename_i elem
        cases hs : szOf P elem with
        | none => exact FE.fail
        | some sz =>
          have := ix_ok hd hs (ev ng t x) (ev ng t i) h K
          rw [elOpt _ _ _ .pan] at this; exact this
      · simp only
        rename_i n elem
        cases hs : szOf P elem with
        | none => exact FE.fail
        | some sz =>
          have := ixa_ok hd hs (ev ng t x) (ev ng t i) h K
          rw [elOpt _ _ _ .pan] at this; exact this
  · rename_i g args ats
    refine FE.of ?_
    rw [cl_eq]
    have e : opX P cf ⟨dst, .call ⟨.value (.func g), args, ats⟩, type, pos, after, guard⟩ (ev ng t) h = cf g ([] ++ (args.toList.map (ev ng t) ++ [])) h := rfl
    rw [e]; simp
  · rename_i f args ats _
    exact cf1_ok cf (ev ng t f) (args.toList.map (ev ng t)) h K
  · rename_i x ty
    cases hd : P.underlying ty with
    | none => refine FE.of ?_; simp only; rw [elA1]; rfl
    | some d =>
      cases d <;> try (refine FE.of ?_; simp only; rw [elA1]; rfl)
      · have := lnt_ok hd (ev ng t x) h K
        rw [elOpt _ _ _ .pan] at this; exact this
      · have := lns_ok hd (ev ng t x) h K
        rw [elOpt _ _ _ .pan] at this; exact this
  · refine FE.of ?_; rw [elA2]; rfl
  · refine FE.of ?_; rw [elA2]; rfl
  · refine FE.of ?_; rw [elAH]; rfl
  · refine FE.of ?_; rw [elA1]; rfl
  · refine FE.of ?_; rw [elA1]; rfl
  · refine FE.of ?_; rw [elA1]; rfl
  · rename_i s d x
    split
    · rename_i h1 h2
      have := cv_ok h1 h2 (ev ng t x) h K
      rw [elOpt2 _ _ .pan] at this; exact this
    · refine FE.of ?_; rw [elA2]; rfl
  · refine FE.of ?_; rw [elA1]; rfl
  · refine FE.of ?_; rw [elA1]; rfl
  · rename_i ty x lo hi mx
    refine FE.of ?_
    rw [elA2]
    rfl
  · rename_i e
    unfold zl
    cases hz : zeroV P e with
    | none => simp only; exact FE.fail
    | some z =>
      simp only
      cases hn : z.nu with
      | false => exact FE.fail
      | true =>
        refine FE.of ?_
        simp only [cond_true]
        rw [al_ok, elOpt2 _ _ .pan]
        have e1 : stepV P ⟨dst, .alloc e, type, pos, after, guard⟩ (ev ng t) h = (match zeroV P e with | some z => okc z.nu (newV z.cells h) | none => none) := rfl
        have e2 : opX P cf ⟨dst, .alloc e, type, pos, after, guard⟩ (ev ng t) h = (match stepV P ⟨dst, .alloc e, type, pos, after, guard⟩ (ev ng t) h with | some r => .val r.1 r.2 | none => .fail) := rfl
        rw [e2, e1, hz]
        simp only [hn]
        rfl
  · rename_i e x
    rw [al_ok, elOpt2 _ _ .pan]
    have e2 : opX P cf ⟨dst, .box e x, type, pos, after, guard⟩ (ev ng t) h = (match okc (ev ng t x).nu (newV (ev ng t x).cells h) with | some r => .val r.1 r.2 | none => .fail) := rfl
    rw [e2]
    cases hn : (ev ng t x).nu with
    | true => exact FE.of rfl
    | false =>
      have : ev ng t x = .und := by cases hx : ev ng t x <;> rw [hx] at hn <;> first | rfl | cases hn
      rw [this]
      exact FE.of rfl
  · refine FE.of ?_; rw [elA1]; rfl
  · refine FE.of ?_; rw [elA2]; rfl
  · refine FE.of ?_; rw [elA1]; rfl
  · refine FE.of ?_; rw [elA1]; rfl
  · exact FE.of rfl
  · refine FE.of ?_; rw [elA2]; rfl
  · refine FE.of ?_; rw [elA2]; rfl
  · refine FE.of ?_; rw [elA1]; rfl
  · refine FE.of ?_; rw [elAH]; rfl
  · refine FE.of ?_; rw [elAH]; rfl
  · refine FE.of ?_; rw [elA2]; rfl
  · refine FE.of ?_; rw [elA2]; rfl
  · exact pn_ok _ _ _
  · exact FE.fail
end
end Go.Ab
