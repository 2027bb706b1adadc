/-
  An abstract interpreter of the model's code, part 27b: rows of operations in whatever order, as functions of values. Conditions: none.
-/
import Derived.Test.YtednpcncjiaahaaRs2
set_option linter.unusedVariables false
set_option linter.unusedSimpArgs false
namespace Go.Ab
open Go

/-- (so that what follows is opened ahead of operations) -/
noncomputable def high1 : Unit := (fun _ => ()) @opA
noncomputable def tg (t : PT V) (d : Nat) : V := Option.rec (motive := fun _ => V) .und (fun v => v) ((path d).get t)
theorem tg_get (t : PT V) (d : Nat) : tg t d = (t.get d).getD .und := by
  unfold tg
  show (Option.rec (motive := fun _ => V) .und (fun v => v) (t.get d) : V) = _
  cases t.get d <;> rfl

section
variable (P : Program) (cf : CallF) (ng nt lf : Nat)
noncomputable def splitA (ops : Array Oper) (sp : List Nat) (o : Oper) (j : Nat) (t : PT V) (K : PT V → ROut) : ROut := (fun (_ : Unit) =>
  Bool.rec (motive := fun _ => ROut) (K t) (match o.guard with
    | some (i, _) => (match ops[i]? with
      | some oi => (match oi.dst with
        | some d => Option.rec (motive := fun _ => ROut) .fail (fun b => Bool.rec (motive := fun _ => ROut) (K t) (vb (tg t d) fun q => ifB q (K ((path d).set (.b true) t)) (K ((path d).set (.b false) t))) b) (wantedV nt ops oi t)
        | none => .fail)
      | none => .fail)
    | none => .fail) (memN j sp)) high1
noncomputable def wantA (ops : Array Oper) (o : Oper) (t : PT V) (yes no : ROut) : ROut := (fun (_ : Unit) =>
  Option.rec (motive := fun _ => ROut) yes (fun _ => Option.rec (motive := fun _ => ROut) .fail (fun b => ifB b yes no) (wantedV nt ops o t)) o.guard) high1
noncomputable def putA (d : Option Tmp) (v : V) (t : PT V) (K : PT V → ROut) : ROut := (fun (_ : Unit) =>
  Option.rec (motive := fun _ => ROut) (K t) (fun d => ifB (Nat.blt d nt) (K ((path d).set v t)) .fail) d) high1
noncomputable def seqA (ops : Array Oper) (sp : List Nat) (K : PT V → Heap → ROut) (l : List Oper) : Nat → PT V → Heap → ROut :=
  List.rec (motive := fun _ => Nat → PT V → Heap → ROut) (fun _ t h => K t h)
    (fun o _ ih j t h => splitA nt ops sp o j t fun t => wantA nt ops o t (opA P ng o cf t h fun v h => putA nt o.dst v t fun t => ih (Nat.succ j) t h) (putA nt o.dst (.tup []) t fun t => ih (Nat.succ j) t h)) l

/-- what is kept of an operation -/
structure Rc where
  j : Nat
  i : Inf
  ld : Option (TypeId × V × V)
  hb : Heap
  ha : Heap
noncomputable def ldF (x y : Rc) : Bool :=
  match x.ld with
  | some (ty, p, v) => and (eqO (loadV P ty p y.hb) v) (eqO (loadV P ty p y.ha) v)
  | none => false
noncomputable def pc (x y : Rc) : Bool := and (and (noTouch y.i x.i.wr) (noTouch x.i y.i.wr)) (and (or (accFree x.i y.i) (ldF P x y)) (or (accFree y.i x.i) (ldF P y x)))
def isT (o : Oper) : Bool := match o.op with
  | .load _ _ => false
  | _ => not (pureO P o)
def isL (o : Oper) : Bool := match o.op with
  | .load _ _ => true
  | _ => false
/-- what is known ahead of the order of a row -/
noncomputable def plan1 (ops : Array Oper) (rec : List Nat) (F : List Nat) (j : Nat) (o : Oper) (l : List Oper) : Nat → Bool :=
  List.rec (motive := fun _ => Nat → Bool) (fun _ => true) (fun y _ ih i => and (or (Nat.testBit (F.getD i 0) j) (and (o.apart ops y) (and (not (and (and (isL o) (not (memN j rec))) (isT P y))) (not (and (isT P o) (and (isL y) (not (memN i rec)))))))) (ih (Nat.succ i))) l
noncomputable def mask2 (F : List Nat) (es : List Edge) : Nat :=
  List.rec (motive := fun _ => Nat) 0 (fun e _ ih => cond (hardE e) (Nat.lor (Nat.lor ih (Nat.pow 2 e.on)) (F.getD e.on 0)) ih) es
noncomputable def planL (ops : Array Oper) (rec : List Nat) (F : List Nat) (l : List Oper) : Nat → Bool :=
  List.rec (motive := fun _ => Nat → Bool) (fun _ => true) (fun o rest ih j => and (and (backE j o.after.toList) (Nat.beq (F.getD j 0) (mask2 F o.after.toList))) (and (plan1 P ops rec F j o rest (Nat.succ j)) (ih (Nat.succ j)))) l

noncomputable def cln (r : Out) (K : Kt) : ROut := Out.casesOn (motive := fun _ => ROut) r (fun v h => fo v fun v => fh h fun h => K v h) (fun _ _ => .fail) .fail
noncomputable def opB (o : Oper) (t : PT V) (h : Heap) (K : Kt) : ROut := (fun (_ : Unit) =>
  match o.op with
  | .call ⟨.value (.func g), args, _⟩ => cln (cf g (argsL ng t args.toList) h) K
  | .call ⟨.value f, args, _⟩ => vf ((opd ng f).get t) fun g a b => cln (cf g (a ++ (argsL ng t args.toList ++ b)) h) K
  | .panic _ => .fail
  | _ => opA P ng o cf t h K) high1
noncomputable def opD (rec : List Nat) (j : Nat) (o : Oper) (t : PT V) (h : Heap) (its : List Rc) (K : V → Heap → List Rc → ROut) : ROut := (fun (_ : Unit) =>
  match o.op with
  | .load ty a => opA P ng o cf t h fun v _ => K v h (Bool.rec (motive := fun _ => List Rc) its (its ++ [⟨j, ⟨some ((opd ng a).get t).ids, [], h.next, h.next⟩, some (ty, (opd ng a).get t, v), h, h⟩]) (memN j rec))
  | _ => Bool.rec (motive := fun _ => ROut)
      (opB P cf ng o t ⟨h.next, h.t, []⟩ fun v h1 => fh (h1.new .dead) fun h2 => K v h2 (its ++ [⟨j, ⟨accO o fun x => (opd ng x).get t, h1.wl.filter (fun x => Nat.blt x h.next), h.next, Nat.succ h1.next⟩, none, h, h2⟩]))
      (opA P ng o cf t h fun v _ => K v h its) (pureO P o)) high1
noncomputable def seqD (ops : Array Oper) (sp rec : List Nat) (K : PT V → Heap → List Rc → ROut) (l : List Oper) : Nat → PT V → Heap → List Rc → ROut :=
  List.rec (motive := fun _ => Nat → PT V → Heap → List Rc → ROut) (fun _ t h its => K t h its)
    (fun o _ ih j t h its => splitA nt ops sp o j t fun t => wantA nt ops o t (opD P cf ng rec j o t h its fun v h its => putA nt o.dst v t fun t => ih (Nat.succ j) t h its) (putA nt o.dst (.tup []) t fun t => ih (Nat.succ j) t h its)) l
noncomputable def chk1R (F : List Nat) (x : Rc) (l : List Rc) (K : ROut) : ROut :=
  List.rec (motive := fun _ => ROut) K (fun y _ ih => Bool.rec (motive := fun _ => ROut) (ifB (pc P x y) ih .fail) ih (Nat.testBit (F.getD y.j 0) x.j)) l
noncomputable def chkR (F : List Nat) (l : List Rc) (K : ROut) : ROut :=
  List.rec (motive := fun _ => ROut) K (fun x rest ih => chk1R P F x rest ih) l
noncomputable def wrR (l : List Rc) : List Nat := List.rec (motive := fun _ => List Nat) [] (fun x _ ih => x.i.wr ++ ih) l
noncomputable def regR (ops : Array Oper) (sp rec F : List Nat) (K : PT V → Heap → ROut) (t : PT V) (h : Heap) : ROut :=
  ifB (planL P ops rec F ops.toList 0) (seqD P cf ng nt ops sp rec (fun t2 h2 its => List.casesOn (motive := fun _ => ROut) its (K t2 ⟨h2.next, h2.t, h.wl⟩) fun x l => chkR P F (x :: l) (fh ⟨h2.next, h2.t, wrR (x :: l) ++ h.wl⟩ fun h3 => K t2 h3)) ops.toList 0 t h []) .fail
end

/-! facts -/
theorem Pos.set_self {α : Type} (p : Pos) : ∀ (x : α) (t : PT α), p.get t = some x → p.set x t = t := by
  induction p with
  | h => intro x t h; cases t with
    | e => cases h
    | n l v r => have h : v = some x := h; subst h; rfl
  | o p ih => intro x t h; cases t with
    | e => rw [Pos.get_e] at h; cases h
    | n l v r => show PT.n (p.set x l) v r = _; rw [ih x l h]
  | i p ih => intro x t h; cases t with
    | e => rw [Pos.get_e] at h; cases h
    | n l v r => show PT.n l v (p.set x r) = _; rw [ih x r h]
theorem set_tg {t : PT V} {d : Nat} {v : V} (e : tg t d = v) (hu : v ≠ .und) : (path d).set v t = t := by
  refine Pos.set_self _ v t ?_
  rw [tg_get] at e
  show t.get d = some v
  cases hg : t.get d with
  | none => rw [hg] at e; exact absurd e.symm hu
  | some x => rw [hg] at e; exact congrArg some e

/-! memory grows; what does not fail -/
def ROut.heap : ROut → Option Heap
  | .ok _ h => some h
  | .pan _ h => some h
  | .fail => none
def Xt (h : Heap) (r : ROut) : Prop := ∀ h', r.heap = some h' → ∃ l, Ext h h' l
theorem Xt.fail (h : Heap) : Xt h .fail := fun _ e => by cases e
theorem Xt.trans {h h1 : Heap} {l : List Nat} {r : ROut} (e : Ext h h1 l) (x : Xt h1 r) : Xt h r := fun h' hh => let ⟨_, k⟩ := x h' hh; ⟨_, e.trans k⟩
theorem Xt.le {h : Heap} {r : ROut} (x : Xt h r) (hf : r ≠ .fail) : h.next ≤ r.next := by
  cases r with
  | ok t h' => exact (x h' rfl).choose_spec.next
  | pan v h' => exact (x h' rfl).choose_spec.next
  | fail => exact absurd rfl hf
def XtK (K : PT V → Heap → ROut) : Prop := ∀ t h, Xt h (K t h)

section
variable {P : Program} {cf : CallF} {ng nt : Nat}
theorem splitA_eq {ops : Array Oper} {sp : List Nat} {o : Oper} {j : Nat} {t : PT V} {K : PT V → ROut} : FE (splitA nt ops sp o j t K) (K t) := by
  have e : splitA nt ops sp o j t K = Bool.rec (motive := fun _ => ROut) (K t) (match o.guard with
    | some (i, _) => (match ops[i]? with
      | some oi => (match oi.dst with
        | some d => Option.rec (motive := fun _ => ROut) .fail (fun b => Bool.rec (motive := fun _ => ROut) (K t) (vb (tg t d) fun q => ifB q (K ((path d).set (.b true) t)) (K ((path d).set (.b false) t))) b) (wantedV nt ops oi t)
        | none => .fail)
      | none => .fail)
    | none => .fail) (memN j sp) := rfl
  rw [e]
  cases memN j sp with
  | false => exact FE.rfl
  | true =>
    simp only
    cases o.guard with
    | none => exact FE.fail
    | some q =>
      simp only
      cases ops[q.1]? with
      | none => exact FE.fail
      | some oi =>
        simp only
        cases oi.dst with
        | none => exact FE.fail
        | some d =>
          simp only
          cases wantedV nt ops oi t with
          | none => exact FE.fail
          | some b =>
            cases b with
            | false => exact FE.rfl
            | true =>
              simp only
              cases hv : tg t d <;> try exact FE.fail
              rename_i q
              cases q with
              | true => show FE (K ((path d).set (.b true) t)) (K t); rw [set_tg hv (by simp)]; exact FE.rfl
              | false => show FE (K ((path d).set (.b false) t)) (K t); rw [set_tg hv (by simp)]; exact FE.rfl
theorem wantA_eq {ops : Array Oper} {o : Oper} {t : PT V} {yes no : ROut} : wantA nt ops o t yes no = (match wantedV nt ops o t with | some true => yes | some false => no | none => .fail) := by
  have e : wantA nt ops o t yes no = wantK nt ops o t yes no := rfl
  rw [e, wantK_eq]
  cases wantedV nt ops o t with
  | none => rfl
  | some b => cases b <;> rfl
theorem putA_eq {d : Option Tmp} {v : V} {t : PT V} {K : PT V → ROut} : putA nt d v t K = (match putV nt t d v with | some t' => K t' | none => .fail) := by
  have e : putA nt d v t K = putK nt d K t v := rfl
  rw [e, putK_eq]
  cases putV nt t d v <;> rfl
theorem opA_ext (he : CallExt cf) {o : Oper} {t : PT V} {h : Heap} {K : Kt} (hK : ∀ v h', Xt h' (K v h')) : Xt h (opA P ng o cf t h K) := by
  rcases opA_ok (P := P) (ng := ng) o cf t h K with e | e
  · rw [e]; exact Xt.fail h
  · rw [e]
    cases hx : opX P cf o (ev ng t) h with
    | fail => exact Xt.fail h
    | pan v h' =>
      obtain ⟨k, hk⟩ := opX_ext he (.inr hx)
      intro h2 e2
      have e2 : some h' = some h2 := e2
      cases e2
      exact ⟨k, hk⟩
    | val v h' =>
      obtain ⟨k, hk⟩ := opX_ext he (.inl hx)
      exact Xt.trans hk (hK v h')
theorem FE.ext {h : Heap} {r s : ROut} (f : FE r s) (x : Xt h s) : Xt h r := by
  rcases f with e | e <;> rw [e]
  · exact Xt.fail h
  · exact x
theorem wantA_ext {ops : Array Oper} {o : Oper} {t : PT V} {yes no : ROut} {h : Heap} (h1 : Xt h yes) (h2 : Xt h no) : Xt h (wantA nt ops o t yes no) := by
  rw [wantA_eq]
  split
  · exact h1
  · exact h2
  · exact Xt.fail h
theorem putA_ext {d : Option Tmp} {v : V} {t : PT V} {K : PT V → ROut} {h : Heap} (hK : ∀ t, Xt h (K t)) : Xt h (putA nt d v t K) := by
  rw [putA_eq]
  split
  · exact hK _
  · exact Xt.fail h
theorem seqA_ext (he : CallExt cf) {ops : Array Oper} {sp : List Nat} {K : PT V → Heap → ROut} (hK : XtK K) : ∀ (l : List Oper) (j : Nat), XtK (seqA P cf ng nt ops sp K l j)
  | [], j => hK
  | o :: l, j => fun t h => by
    have ih := seqA_ext he hK (ops := ops) (sp := sp) l (Nat.succ j)
    have e : seqA P cf ng nt ops sp K (o :: l) j t h = splitA nt ops sp o j t fun t => wantA nt ops o t (opA P ng o cf t h fun v h => putA nt o.dst v t fun t => seqA P cf ng nt ops sp K l (Nat.succ j) t h) (putA nt o.dst (.tup []) t fun t => seqA P cf ng nt ops sp K l (Nat.succ j) t h) := rfl
    rw [e]
    exact splitA_eq.ext (wantA_ext (opA_ext he fun v h' => putA_ext fun t => ih t h') (putA_ext fun t => ih t h))

/-! a row in whatever order: what its run tells -/
/-- what is kept of the operation at a place, or why nothing is -/
def RcOk (P : Program) (ng : Nat) (rec : List Nat) (j : Nat) (o : Oper) (T : PT V) (H H' : Heap) (i : Inf) (r : List Rc) : Prop :=
  (r = [] ∧ i = ⟨some [], [], H.next, H.next⟩) ∨ (r = [] ∧ isL o = true ∧ memN j rec = false ∧ i.wr = [] ∧ i.lo = i.hi ∧ ∃ l, i.acc = some l) ∨ (∃ x, r = [x] ∧ x.j = j ∧ x.i = i ∧ x.hb = H ∧ x.ha = H' ∧ x.ld = ldOf P ng o T H ∧ (isT P o = true ∨ (i.wr = [] ∧ i.lo = i.hi)))

/-- what a run comes to: every step, and what is kept -/
structure Tr (P : Program) (cf : CallF) (ng nt : Nat) (ops : Array Oper) (rec : List Nat) (l : List Oper) (j : Nat) (t : PT V) (h : Heap) (its : List Rc) (t' : PT V) (h' : Heap) (its' : List Rc) (T : Nat → PT V) (H : Nat → Heap) (I : Nat → Inf) (R : Nat → List Rc) : Prop where
  t0 : T 0 = t
  h0 : H 0 = h
  t1 : T l.length = t'
  h1 : H l.length = h'
  its : its' = its ++ (List.range l.length).flatMap R
  step : ∀ i o, l[i]? = some o → SD P cf ng nt ops o (T i) (H i) (T (i + 1)) (H (i + 1)) (I i) ∧ RcOk P ng rec (j + i) o (T i) (H i) (H (i + 1)) (I i) (R i)

theorem cln_eq (r : Out) (K : Kt) : cln r K = r.el K fun _ _ => .fail := by
  cases r <;> simp [cln, Out.el, fo_eq, fh_eq]
theorem opA_np {o : Oper} (h1 : ∀ x, o.op ≠ .panic x) (h2 : ∀ f as ts, o.op ≠ .call ⟨.value f, as, ts⟩) (t : PT V) (h : Heap) (K : Kt) : FE (opA P ng o cf t h K) ((opX P cf o (ev ng t) h).el K fun _ _ => .fail) := by
  have := opA_ok (P := P) (ng := ng) o cf t h K
  rw [opX_step h1 h2] at this ⊢
  generalize stepV P o (ev ng t) h = r at this ⊢
  cases r <;> exact this
theorem opB_ok (o : Oper) (t : PT V) (h : Heap) (K : Kt) : FE (opB P cf ng o t h K) ((opX P cf o (ev ng t) h).el K fun _ _ => .fail) := by
  have e0 : opB P cf ng o t h K = (match o.op with
    | .call ⟨.value (.func g), args, _⟩ => cln (cf g (argsL ng t args.toList) h) K
    | .call ⟨.value f, args, _⟩ => vf ((opd ng f).get t) fun g a b => cln (cf g (a ++ (argsL ng t args.toList ++ b)) h) K
    | .panic _ => .fail
    | _ => opA P ng o cf t h K) := rfl
  rw [e0]
  clear e0
  split
  · rename_i g args ats heq
    obtain ⟨dst, op, type, pos, after, guard⟩ := o
    simp only at heq; subst heq
    refine FE.of ?_
    rw [cln_eq, argsL_eq]
    have e : opX P cf ⟨dst, .call ⟨.value (.func g), args, ats⟩, type, pos, after, guard⟩ (ev ng t) h = cf g ([] ++ (args.toList.map (ev ng t) ++ [])) h := rfl
    rw [e]; simp
  · rename_i f args ats _ heq
    obtain ⟨dst, op, type, pos, after, guard⟩ := o
    simp only at heq; subst heq
    rw [opd_eq, argsL_eq]
    have e : opX P cf ⟨dst, .call ⟨.value f, args, ats⟩, type, pos, after, guard⟩ (ev ng t) h = (match ev ng t f with | .f (.func g) first cap => cf g (first ++ (args.toList.map (ev ng t) ++ cap)) h | _ => .fail) := rfl
    rw [e]
    cases ev ng t f <;> try exact FE.fail
    rename_i fn a b
    cases fn <;> try exact FE.fail
    exact FE.of (cln_eq _ _)
  · exact FE.fail
  · rename_i h1 h2 h3
    refine opA_np (fun x e => h3 x e) (fun f as ts e => ?_) t h K
    cases f with
    | func g => exact h1 g as ts e
    | _ => exact h2 _ as ts e

theorem opD_inv (he : CallExt cf) {ops : Array Oper} {rec : List Nat} {j : Nat} {o : Oper} {t : PT V} {h : Heap} {its : List Rc} {K : V → Heap → List Rc → ROut} (hw : wantedV nt ops o t = some true) (hnf : opD P cf ng rec j o t h its K ≠ .fail) :
    ∃ v h' i r, opD P cf ng rec j o t h its K = K v h' (its ++ r) ∧ RcOk P ng rec j o t h h' i r ∧ ∀ t', putV nt t o.dst v = some t' → SD P cf ng nt ops o t h t' h' i := by
  have hop : (∃ ty a, o.op = .load ty a) ∨ ∀ ty a, o.op ≠ .load ty a := by
    cases o.op <;> first | exact .inl ⟨_, _, rfl⟩ | exact .inr fun _ _ e => by cases e
  rcases hop with ⟨ty, a, hop⟩ | hop
  · obtain ⟨dst, op, type, pos, after, guard⟩ := o
    simp only at hop; subst hop
    have e : opD P cf ng rec j ⟨dst, .load ty a, type, pos, after, guard⟩ t h its K = opA P ng ⟨dst, .load ty a, type, pos, after, guard⟩ cf t h fun v _ => K v h (Bool.rec (motive := fun _ => List Rc) its (its ++ [⟨j, ⟨some ((opd ng a).get t).ids, [], h.next, h.next⟩, some (ty, (opd ng a).get t, v), h, h⟩]) (memN j rec)) := rfl
    rw [e] at hnf
    simp only [e]
    have ex : opX P cf ⟨dst, .load ty a, type, pos, after, guard⟩ (ev ng t) h = (match (loadV P ty (ev ng t a) h).map fun v => (v, h) with | some r => .val r.1 r.2 | none => .fail) := rfl
    rcases opA_ok (P := P) (ng := ng) ⟨dst, .load ty a, type, pos, after, guard⟩ cf t h (fun v _ => K v h (Bool.rec (motive := fun _ => List Rc) its (its ++ [⟨j, ⟨some ((opd ng a).get t).ids, [], h.next, h.next⟩, some (ty, (opd ng a).get t, v), h, h⟩]) (memN j rec))) with e1 | e1
    · exact absurd e1 hnf
    · rw [ex] at e1
      cases hl : loadV P ty (ev ng t a) h with
      | none => rw [hl] at e1; exact absurd e1 hnf
      | some v =>
        rw [hl] at e1
        simp only [Option.map, Out.el] at e1
        rw [e1]
        cases hm : memN j rec with
        | false => exact ⟨v, h, ⟨some (ev ng t a).ids, [], h.next, h.next⟩, [], by simp, .inr (.inl ⟨rfl, rfl, hm, rfl, rfl, _, rfl⟩), fun t' hp => .inr (.inl ⟨ty, a, v, rfl, hw, hl, hp, rfl, rfl⟩)⟩
        | true => exact ⟨v, h, ⟨some (ev ng t a).ids, [], h.next, h.next⟩, [⟨j, ⟨some (ev ng t a).ids, [], h.next, h.next⟩, some (ty, ev ng t a, v), h, h⟩], by simp [opd_eq], .inr (.inr ⟨_, rfl, rfl, rfl, rfl, rfl, by simp [ldOf, hl], .inr ⟨rfl, rfl⟩⟩), fun t' hp => .inr (.inl ⟨ty, a, v, rfl, hw, hl, hp, rfl, rfl⟩)⟩
  · have e : opD P cf ng rec j o t h its K = Bool.rec (motive := fun _ => ROut)
      (opB P cf ng o t ⟨h.next, h.t, []⟩ fun v h1 => fh (h1.new .dead) fun h2 => K v h2 (its ++ [⟨j, ⟨accO o fun x => (opd ng x).get t, h1.wl.filter (fun x => Nat.blt x h.next), h.next, Nat.succ h1.next⟩, none, h, h2⟩]))
      (opA P ng o cf t h fun v _ => K v h its) (pureO P o) := by
      obtain ⟨dst, op, type, pos, after, guard⟩ := o
      cases op <;> first | rfl | exact absurd rfl (hop _ _)
    rw [e] at hnf ⊢
    have hne : ∀ x : Operand → V, accO o x = accO o x := fun _ => rfl
    cases hp : pureO P o with
    | true =>
      rw [hp] at hnf
      simp only at hnf ⊢
      rcases opA_ok (P := P) (ng := ng) o cf t h (fun v _ => K v h its) with e1 | e1
      · exact absurd e1 hnf
      · have hX : opX P cf o (ev ng t) h = (match stepV P o (ev ng t) h with | some r => .val r.1 r.2 | none => .fail) := by
          refine opX_step (fun x e => ?_) (fun f as ts e => ?_) <;> (unfold pureO at hp; rw [e] at hp; simp at hp)
        cases hx : opX P cf o (ev ng t) h with
        | fail => rw [hx] at e1; exact absurd e1 hnf
        | pan v h' => rw [hX] at hx; cases hs : stepV P o (ev ng t) h <;> rw [hs] at hx <;> cases hx
        | val v h' =>
          rw [hx] at e1
          have hst : stepV P o (ev ng t) h = some (v, h') := by
            rw [hX] at hx
            cases hs : stepV P o (ev ng t) h with
            | none => rw [hs] at hx; cases hx
            | some r => rw [hs] at hx; cases hx; rfl
          obtain ⟨rfl, _⟩ := pure_spec hp hst
          exact ⟨v, h', ⟨some [], [], h'.next, h'.next⟩, [], by rw [e1]; simp [Out.el], .inl ⟨rfl, rfl⟩, fun t' hp' => .inr (.inr (.inr ⟨v, hp, hw, hst, hp', rfl, rfl⟩))⟩
    | false =>
      rw [hp] at hnf
      simp only at hnf ⊢
      rcases opB_ok (P := P) (cf := cf) (ng := ng) o t ⟨h.next, h.t, []⟩ (fun v h1 => fh (h1.new .dead) fun h2 => K v h2 (its ++ [⟨j, ⟨accO o fun x => (opd ng x).get t, h1.wl.filter (fun x => Nat.blt x h.next), h.next, Nat.succ h1.next⟩, none, h, h2⟩])) with e1 | e1
      · exact absurd e1 hnf
      · cases hx : opX P cf o (ev ng t) ⟨h.next, h.t, []⟩ with
        | fail => rw [hx] at e1; exact absurd e1 hnf
        | pan v h' => rw [hx] at e1; exact absurd e1 hnf
        | val v h1 =>
          rw [hx] at e1
          simp only [Out.el, fh_eq, opd_eq] at e1
          have hN : opN P cf o (ev ng t) h.bare = .val v h1 := by
            rw [opN_eq he]; exact hx
          refine ⟨v, h1.new .dead, ⟨accO o (ev ng t), h1.wl.filter (fun x => Nat.blt x h.next), h.next, Nat.succ h1.next⟩, [⟨j, ⟨accO o (ev ng t), h1.wl.filter (fun x => Nat.blt x h.next), h.next, Nat.succ h1.next⟩, none, h, h1.new .dead⟩], ?_, .inr (.inr ⟨_, rfl, rfl, rfl, rfl, rfl, ?_, .inl ?_⟩), fun t' hp' => .inr (.inr (.inl ⟨v, h1, hop, hw, hN, hp', rfl, rfl⟩))⟩
          · simp only [fh_eq, opd_eq]; exact e1
          · unfold ldOf; split
            · rename_i ty a e2; exact absurd e2 (hop _ _)
            · rfl
          · unfold isT; split
            · rename_i ty a e2; exact absurd e2 (hop _ _)
            · rw [hp]; rfl
theorem range_flat {α : Type} (n : Nat) (R : Nat → List α) : (List.range (n + 1)).flatMap R = R 0 ++ (List.range n).flatMap fun i => R (i + 1) := by
  rw [List.range_succ_eq_map, List.flatMap_cons, List.flatMap_map]
theorem seqD_tr (he : CallExt cf) {ops : Array Oper} {sp rec : List Nat} {K : PT V → Heap → List Rc → ROut} : ∀ (l : List Oper) (j : Nat) (t : PT V) (h : Heap) (its : List Rc), seqD P cf ng nt ops sp rec K l j t h its ≠ .fail →
    ∃ t' h' its' T H I R, seqD P cf ng nt ops sp rec K l j t h its = K t' h' its' ∧ Tr P cf ng nt ops rec l j t h its t' h' its' T H I R
  | [], j, t, h, its, hnf => ⟨t, h, its, fun _ => t, fun _ => h, fun _ => ⟨none, [], 0, 0⟩, fun _ => [], rfl, rfl, rfl, rfl, rfl, by simp, fun i o ho => by simp at ho⟩
  | o :: l, j, t, h, its, hnf => by
    have e : seqD P cf ng nt ops sp rec K (o :: l) j t h its = splitA nt ops sp o j t fun t => wantA nt ops o t (opD P cf ng rec j o t h its fun v h its => putA nt o.dst v t fun t => seqD P cf ng nt ops sp rec K l (Nat.succ j) t h its) (putA nt o.dst (.tup []) t fun t => seqD P cf ng nt ops sp rec K l (Nat.succ j) t h its) := rfl
    rw [e] at hnf ⊢
    rcases splitA_eq (nt := nt) (ops := ops) (sp := sp) (o := o) (j := j) (t := t) (K := fun t => wantA nt ops o t (opD P cf ng rec j o t h its fun v h its => putA nt o.dst v t fun t => seqD P cf ng nt ops sp rec K l (Nat.succ j) t h its) (putA nt o.dst (.tup []) t fun t => seqD P cf ng nt ops sp rec K l (Nat.succ j) t h its)) with e1 | e1
    · exact absurd e1 hnf
    rw [e1] at hnf ⊢
    rw [wantA_eq] at hnf ⊢
    -- what is common
    have fin : ∀ (h1 : Heap) (i : Inf) (r : List Rc) (t1 : PT V), SD P cf ng nt ops o t h t1 h1 i → RcOk P ng rec j o t h h1 i r → seqD P cf ng nt ops sp rec K l (Nat.succ j) t1 h1 (its ++ r) ≠ .fail →
        ∃ t' h' its' T H I R, seqD P cf ng nt ops sp rec K l (Nat.succ j) t1 h1 (its ++ r) = K t' h' its' ∧ Tr P cf ng nt ops rec (o :: l) j t h its t' h' its' T H I R := fun h1 i r t1 hs hrc hnf => by
      obtain ⟨t', h', its', T, H, I, R, q1, q2⟩ := seqD_tr he l (Nat.succ j) t1 h1 (its ++ r) hnf
      refine ⟨t', h', its', fun n => Nat.casesOn n t T, fun n => Nat.casesOn n h H, fun n => Nat.casesOn n i I, fun n => Nat.casesOn n r R, q1, rfl, rfl, q2.t1, q2.h1, ?_, fun n on hn => ?_⟩
      · rw [q2.its, List.length_cons, range_flat, List.append_assoc]; rfl
      · cases n with
        | zero =>
          simp at hn; subst hn
          refine ⟨?_, ?_⟩
          · show SD P cf ng nt ops o t h (T 0) (H 0) i
            rw [q2.t0, q2.h0]; exact hs
          · show RcOk P ng rec (j + 0) o t h (H 0) i r
            rw [q2.h0]; exact hrc
        | succ n =>
          simp at hn
          have := q2.step n on hn
          rw [show j + (n + 1) = Nat.succ j + n by omega]
          exact this
    cases hw : wantedV nt ops o t with
    | none => rw [hw] at hnf; exact absurd rfl hnf
    | some b =>
      rw [hw] at hnf
      cases b with
      | false =>
        simp only at hnf ⊢
        rw [putA_eq] at hnf ⊢
        cases hp : putV nt t o.dst (.tup []) with
        | none => rw [hp] at hnf; exact absurd rfl hnf
        | some t1 =>
          rw [hp] at hnf
          simp only at hnf ⊢
          have := fin h ⟨some [], [], h.next, h.next⟩ [] t1 (.inl ⟨hw, hp, rfl, rfl⟩) (.inl ⟨rfl, rfl⟩)
          rw [List.append_nil] at this
          exact this hnf
      | true =>
        simp only at hnf ⊢
        obtain ⟨v, h1, i, r, q1, q2, q3⟩ := opD_inv he hw hnf
        rw [q1] at hnf ⊢
        rw [putA_eq] at hnf ⊢
        cases hp : putV nt t o.dst v with
        | none => rw [hp] at hnf; exact absurd rfl hnf
        | some t1 =>
          rw [hp] at hnf
          simp only at hnf ⊢
          exact fin h1 i r t1 (q3 t1 hp) q2 hnf
end
end Go.Ab
