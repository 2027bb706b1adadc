/-
  An abstract interpreter of the model's code, part 13: calls, and rows of operations in the order of the text. Conditions: none.
-/
import Derived.Test.YtednpcncjiaahaaAb12
set_option linter.unusedVariables false
set_option linter.unusedSimpArgs false
namespace Go.Ab
open Go

inductive Out where
  | val (v : V) (h : Heap)
  | pan (v : V) (h : Heap)
  | fail
abbrev CallF := FuncId → List V → Heap → Out

noncomputable def opX (P : Program) (callF : CallF) (o : Oper) (ρ : Operand → V) (h : Heap) : Out :=
  match o.op with
  | .panic x => match ρ x with
    | .ifc t v => .pan (.ifc t v) h
    | _ => .fail
  | .call c => match c.callee with
    | .value f => match ρ f with
      | .f (.func g) first cap => callF g (first ++ (c.args.toList.map ρ ++ cap)) h
      | _ => .fail
    | _ => match stepV P o ρ h with
      | some r => .val r.1 r.2
      | none => .fail
  | _ => match stepV P o ρ h with
    | some r => .val r.1 r.2
    | none => .fail

/-- the blocks that an operation may ask for; none: any -/
noncomputable def accO (o : Oper) (ρ : Operand → V) : Option (List Nat) :=
  match o.op with
  | .call c => match c.callee with
    | .value _ => none
    | _ => some ((rdO o.op).flatMap fun x => (ρ x).ids)
  | _ => some ((rdO o.op).flatMap fun x => (ρ x).ids)

/-- package-level variables stand where they stand -/
def Glob (ng : Nat) (φ : Map) : Prop := ∀ k, k < ng → ∃ pl, φ k = some pl ∧ pl.b = k ∧ pl.base = 0
theorem Glob.mono {ng : Nat} {φ ψ : Map} (h : Glob ng φ) (hl : φ.le ψ) : Glob ng ψ := fun k hk => let ⟨pl, h1, h2⟩ := h k hk; ⟨pl, hl k pl h1, h2⟩
/-- what a call comes to, from any world that is as the heap says -/
def CallOk (P : Program) (ng : Nat) (callF : CallF) : Prop :=
  ∀ (f : FuncId) (args : List V) (h : Heap) (φ : Map) (w : World) (args' : Array Value), Glob ng φ → HR φ h.get w → RVs φ args args'.toList →
    match callF f args h with
    | .val v h' => Fresh φ h.next (h'.next + 1) → ∀ (R : Ending → World → Prop), (∀ v' w' φ' l, RV φ' v v' → Ext h h' l → Post φ h.get h h' l φ' w w' → R (.returned v') w') → (∃ fn, P.funcs[f]? = some fn ∧ fn.body.isSome = true ∧ (fn.name == "runtime.NumGoroutine") = false) ∧ Calls P f args' w R
    | .pan v h' => Fresh φ h.next (h'.next + 1) → ∀ (R : Ending → World → Prop), (∀ v' w' φ' l, RV φ' v v' → Ext h h' l → Post φ h.get h h' l φ' w w' → R (.panicked [{ v := v', recovered := false }]) w') → (∃ fn, P.funcs[f]? = some fn ∧ fn.body.isSome = true ∧ (fn.name == "runtime.NumGoroutine") = false) ∧ Calls P f args' w R
    | .fail => True

theorem Post.congr {φ : Map} {g k : Nat → Option Blk} {h h' : Heap} {l : List Nat} {φ' : Map} {w w' : World} (p : Post φ g h h' l φ' w w') (e : ∀ x, φ x ≠ none → k x = g x) : Post φ k h h' l φ' w w' := by
  have key : ∀ x, φ' x ≠ none → mix k h h' l x = mix g h h' l x := fun x hx => by
    unfold mix
    by_cases h1 : x ∈ l ∨ h.next ≤ x
    · rw [if_pos h1, if_pos h1]
    · rw [if_neg h1, if_neg h1]
      refine e x fun h2 => ?_
      exact h1 (.inr (p.new x h2 hx).1)
  exact ⟨p.le, p.new, p.hr.congr key, p.fr.congr e key, p.own⟩

/-- what is asked of memory ahead of an operation -/
structure Cy (φ : Map) (g : Nat → Option Blk) (h h' : Heap) (w : World) : Prop where
  hr : HR φ g w
  bey : Beyond φ g h
  fresh : Fresh φ h.next (h'.next + 1)

theorem run_callFunc {P : Program} {f : FuncId} {fn : Func} (hf : P.funcs[f]? = some fn) (hb : fn.body.isSome = true) (hn : (fn.name == "runtime.NumGoroutine") = false) (args : Array Value) (w : World) : (callFunc f args).run P w = .ok (.enter f args) w := by
  have hb' : ¬ fn.body = none := by intro h; rw [h] at hb; cases hb
  have hn' : ¬ fn.name = "runtime.NumGoroutine" := by simpa using hn
  simp [callFunc, hf, hn', hb']

theorem op_ok {P : Program} {ng : Nat} {callF : CallF} (hc : CallOk P ng callF) {o : Oper} {ρ : Operand → V} {h : Heap} {v : V} {h' : Heap} (e : opX P callF o ρ h = .val v h') {φ : Map} {g : Nat → Option Blk} {w : World} (hgl : Glob ng φ) (hr : HR φ g w) (bey : Beyond φ g h) (fresh : Fresh φ h.next (h'.next + 1)) (fr0 : accO o ρ ≠ none → φ h.next = none)
    {a : Act} (hρ : ∀ x, RV φ (ρ x) (a.eval x)) (ag : match accO o ρ with | some l => ∀ x ∈ l, g x = h.get x | none => ∀ x, φ x ≠ none → g x = h.get x) {K : Act → World → Prop} {Q : Exit → Act → World → Prop}
    (hK : ∀ v' w' φ' l, RV φ' v v' → Ext h h' l → Post φ g h h' l φ' w w' → K (a.put o.dst v') w') : o.wp P a w K Q := by
  have simple : ∀ r, stepV P o ρ h = some r → accO o ρ = some ((rdO o.op).flatMap fun x => (ρ x).ids) → Out.val r.1 r.2 = .val v h' → o.wp P a w K Q := fun r hs hacc he => by
    cases he
    rw [hacc] at ag
    obtain ⟨out, v', w', φ', l, k1, k2, k3, k4, k5⟩ := step_ok hs ⟨hr, bey, fr0 (by rw [hacc]; simp)⟩ hρ (fun x hx y hy => ag y (List.mem_flatMap.2 ⟨x, by simpa using hx, hy⟩))
    have := hK v' w' φ' l k4 k3 k5
    unfold Oper.wp
    rw [k1]
    rcases k2 with rfl | ⟨rfl, rfl⟩
    · exact this
    · exact this
  unfold opX at e
  obtain ⟨dst, op, type, pos, after, guard⟩ := o
  cases op
  case panic x =>
    simp only at e
    cases hq : ρ x <;> rw [hq] at e <;> cases e
  case call c =>
    obtain ⟨callee, args, argTypes⟩ := c
    cases callee
    case value f =>
      simp only at e
      cases hq : ρ f <;> rw [hq] at e <;> try (cases e; done)
      case f fn first cap =>
        cases fn <;> simp only at e <;> try (cases e; done)
        case func gg =>
          have hf := hρ f
          rw [hq] at hf
          obtain ⟨first', cap', hf', f1, f2⟩ := hf.f_inv
          have hg : ∀ x, φ x ≠ none → g x = h.get x := ag
          have hargs : RVs φ (first ++ (args.toList.map ρ ++ cap)) ((first' ++ args.map a.eval) ++ cap').toList := by
            simp only [Array.toList_append, Array.toList_map, List.append_assoc]
            exact f1.append ((RVs.mapρ hρ args.toList).append f2)
          have hcall := hc gg (first ++ (args.toList.map ρ ++ cap)) h φ w ((first' ++ args.map a.eval) ++ cap') hgl (hr.congr fun x hx => (hg x hx).symm) hargs
          rw [e] at hcall
          simp only at hcall
          obtain ⟨⟨fn, g1, g2, g3⟩, hcalls⟩ := hcall fresh (fun en w'' => ∃ v', en = .returned v' ∧ K (a.put dst v') w'') (fun v' w' φ' l r1 r2 r3 => ⟨v', rfl, hK v' w' φ' l r1 r2 (r3.congr fun x hx => hg x hx)⟩)
          have hrun : (execOp a.eval ⟨dst, .call ⟨.value f, args, argTypes⟩, type, pos, after, guard⟩).run P w = .ok (.enter gg ((first' ++ args.map a.eval) ++ cap')) w := by
            simp only [execOp, resolve, hf', Deferred.ofValue, Sem.run_bind, Sem.run_pure, Result.andThen_ok, invoke, run_callFunc g1 g2 g3]
          unfold Oper.wp
          rw [hrun]
          show Calls P gg _ w _
          refine hcalls.mono ?_
          rintro en w'' ⟨v', rfl, hk⟩
          exact hk
    case builtin b =>
      simp only at e
      cases hs : stepV P ⟨dst, .call ⟨.builtin b, args, argTypes⟩, type, pos, after, guard⟩ ρ h with
      | none => rw [hs] at e; cases e
      | some r => rw [hs] at e; exact simple r hs rfl e
    case invoke r m =>
      simp only at e
      cases hs : stepV P ⟨dst, .call ⟨.invoke r m, args, argTypes⟩, type, pos, after, guard⟩ ρ h with
      | none => rw [hs] at e; cases e
      | some r => rw [hs] at e; exact simple r hs rfl e
  all_goals
    simp only at e
    split at e
    · rename_i r hs; exact simple r hs rfl e
    · cases e

/-- an operation that ends in a panic -/
theorem op_pan {P : Program} {ng : Nat} {callF : CallF} (hc : CallOk P ng callF) {o : Oper} {ρ : Operand → V} {h : Heap} {v : V} {h' : Heap} (e : opX P callF o ρ h = .pan v h') {φ : Map} {w : World} (hgl : Glob ng φ) (hr : HR φ h.get w) (fresh : Fresh φ h.next (h'.next + 1))
    {a : Act} (hρ : ∀ x, RV φ (ρ x) (a.eval x)) {K : Act → World → Prop} {Q : Exit → Act → World → Prop}
    (hQ : ∀ v' w' φ' l, RV φ' v v' → Ext h h' l → Post φ h.get h h' l φ' w w' → Q (.panic [{ v := v', recovered := false }]) a w') : o.wp P a w K Q := by
  unfold opX at e
  obtain ⟨dst, op, type, pos, after, guard⟩ := o
  cases op
  case panic x =>
    simp only at e
    cases hq : ρ x <;> rw [hq] at e <;> try (cases e; done)
    case ifc t v0 =>
      cases e
      have hx := hρ x
      rw [hq] at hx
      cases hx' : a.eval x <;> rw [hx'] at hx <;> cases hx
      rename_i hv
      have := hQ _ w φ [] (RV.ifc _ _ _ hv) (Ext.refl h) (Post.same hr (fun x _ _ => rfl))
      unfold Oper.wp
      have hrun : (execOp a.eval ⟨dst, .panic x, type, pos, after, guard⟩).run P w = .halt (.panic (a.eval x)) w := by
        simp [execOp, Instr.panic, hx']
      rw [hrun, hx']
      exact this
  case call c =>
    obtain ⟨callee, args, argTypes⟩ := c
    cases callee
    case value f =>
      simp only at e
      cases hq : ρ f <;> rw [hq] at e <;> try (cases e; done)
      case f fn first cap =>
        cases fn <;> simp only at e <;> try (cases e; done)
        case func gg =>
          have hf := hρ f
          rw [hq] at hf
          obtain ⟨first', cap', hf', f1, f2⟩ := hf.f_inv
          have hargs : RVs φ (first ++ (args.toList.map ρ ++ cap)) ((first' ++ args.map a.eval) ++ cap').toList := by
            simp only [Array.toList_append, Array.toList_map, List.append_assoc]
            exact f1.append ((RVs.mapρ hρ args.toList).append f2)
          have hcall := hc gg (first ++ (args.toList.map ρ ++ cap)) h φ w ((first' ++ args.map a.eval) ++ cap') hgl hr hargs
          rw [e] at hcall
          simp only at hcall
          obtain ⟨⟨fn, g1, g2, g3⟩, hcalls⟩ := hcall fresh (fun en w'' => ∃ v', en = .panicked [{ v := v', recovered := false }] ∧ Q (.panic [{ v := v', recovered := false }]) a w'') (fun v' w' φ' l r1 r2 r3 => ⟨v', rfl, hQ v' w' φ' l r1 r2 r3⟩)
          have hrun : (execOp a.eval ⟨dst, .call ⟨.value f, args, argTypes⟩, type, pos, after, guard⟩).run P w = .ok (.enter gg ((first' ++ args.map a.eval) ++ cap')) w := by
            simp only [execOp, resolve, hf', Deferred.ofValue, Sem.run_bind, Sem.run_pure, Result.andThen_ok, invoke, run_callFunc g1 g2 g3]
          unfold Oper.wp
          rw [hrun]
          show Calls P gg _ w _
          refine hcalls.mono ?_
          rintro en w'' ⟨v', rfl, hk⟩
          exact hk
    case builtin b =>
      simp only at e
      split at e <;> cases e
    case invoke r m =>
      simp only at e
      split at e <;> cases e
  all_goals
    simp only at e
    split at e <;> cases e

/-! temporaries -/
structure TR (φ : Map) (nt : Nat) (t : PT V) (tmps : Array Value) : Prop where
  size : tmps.size = nt
  val : ∀ k v, t.get k = some v → RV φ v (tmps.getD k undef)
theorem TR.mono {φ ψ : Map} {nt : Nat} {t : PT V} {tmps : Array Value} (h : TR φ nt t tmps) (hl : φ.le ψ) : TR ψ nt t tmps := ⟨h.size, fun k v hv => (h.val k v hv).mono hl⟩
noncomputable def putV (nt : Nat) (t : PT V) (d : Option Tmp) (v : V) : Option (PT V) :=
  match d with
  | none => some t
  | some d => okc (Nat.blt d nt) (some (t.set d v))
theorem TR.put {φ : Map} {nt : Nat} {t t' : PT V} {a : Act} (h : TR φ nt t a.tmps) {d : Option Tmp} {v : V} {v' : Value} (hp : putV nt t d v = some t') (hv : RV φ v v') : TR φ nt t' (a.put d v').tmps := by
  cases d with
  | none => cases hp; exact h
  | some d =>
    obtain ⟨h1, h2⟩ := okc_some hp
    cases h2
    have h1 : d < nt := Nat.le_of_ble_eq_true h1
    refine ⟨by simp [Act.put, h.size], fun k u hu => ?_⟩
    rw [PT.get_set] at hu
    show RV φ u ((a.tmps.setIfInBounds d v').getD k undef)
    by_cases hk : d = k
    · subst hk
      rw [if_pos rfl] at hu; cases hu
      have hd : d < a.tmps.size := by rw [h.size]; exact h1
      simp [Array.getD, hd]
      exact hv
    · rw [if_neg hk] at hu
      have := h.val k u hu
      simp only [Array.getD_eq_getD_getElem?] at this ⊢
      rw [Array.getElem?_setIfInBounds, if_neg hk]; exact this
theorem TR.ev {φ : Map} {nt ng : Nat} {t : PT V} {a : Act} (h : TR φ nt t a.tmps) (hg : Glob ng φ) (x : Operand) : RV φ (Ab.ev ng t x) (a.eval x) := by
  cases x with
  | tmp k =>
    show RV φ ((t.get k).getD .und) (a.tmps.getD k undef)
    cases ht : t.get k with
    | none => exact .und _
    | some v => exact h.val k v ht
  | const v => exact RV.ofC φ v
  | global k =>
    show RV φ (cond (Nat.blt k ng) (.p (some (k, 0))) .und) (.pointer (some ⟨k, 0, none⟩))
    cases hk : Nat.blt k ng with
    | false => exact .und _
    | true =>
      obtain ⟨pl, h1, h2, h3⟩ := hg k (Nat.le_of_ble_eq_true hk)
      have := RV.p (φ := φ) k 0 pl h1
      rw [h2, h3] at this
      exact this
  | func f => exact RV.f_mk (RVs.nil φ) (RVs.nil φ)

/-! is an operation wanted? -/
noncomputable def wantedV (nt : Nat) (ops : Array Oper) (o : Oper) (t : PT V) : Option Bool :=
  match o.guard with
  | none => some true
  | some (j, want) => match (ops[j]?).bind (·.dst) with
    | some d => match t.get d with
      | some (.b x) => okc (Nat.blt d nt) (some (cond want x (not x)))
      | some (.tup []) => okc (Nat.blt d nt) (some false)
      | _ => none
    | none => none
def asB : Value → Option Bool
  | .bool b => some b
  | _ => none
theorem wanted_ok {nt : Nat} {ops : Array Oper} {o : Oper} {t : PT V} {b : Bool} (h : wantedV nt ops o t = some b) {φ : Map} {tmps : Array Value} (hs : tmps.size = nt) (hv : ∀ j want d, o.guard = some (j, want) → (ops[j]?).bind (·.dst) = some d → ∀ v, t.get d = some v → RV φ v (tmps.getD d undef)) :
    Region.wanted o (yielded ops tmps) = b := by
  unfold wantedV at h
  unfold Region.wanted
  cases hg : o.guard with
  | none => rw [hg] at h; cases h; rfl
  | some q =>
    obtain ⟨j, want⟩ := q
    rw [hg] at h
    simp only at h ⊢
    cases hd : (ops[j]?).bind (·.dst) with
    | none => rw [hd] at h; cases h
    | some d =>
      rw [hd] at h
      simp only at h
      have hy : ∀ hlt : d < tmps.size, yielded ops tmps j = asB (tmps.getD d undef) := fun hlt => by
        unfold yielded
        rw [hd]
        simp only [Option.bind_some, Array.getElem?_eq_getElem hlt]
        simp only [Array.getD, hlt, dite_true]
        show _ = asB tmps[d]
        cases tmps[d] <;> rfl
      cases ht : t.get d with
      | none => rw [ht] at h; cases h
      | some v =>
        rw [ht] at h
        have h2 := hv j want d hg hd v ht
        cases v <;> try (cases h; done)
        case b x =>
          obtain ⟨h3, h4⟩ := okc_some h
          cases h4
          have h3 : d < nt := Nat.le_of_ble_eq_true h3
          rw [hy (Nat.lt_of_lt_of_eq h3 hs.symm)]
          generalize tmps.getD d undef = u at h2
          cases h2
          cases want <;> cases x <;> rfl
        case tup l =>
          cases l <;> try (cases h; done)
          obtain ⟨h3, h4⟩ := okc_some h
          cases h4
          have h3 : d < nt := Nat.le_of_ble_eq_true h3
          rw [hy (Nat.lt_of_lt_of_eq h3 hs.symm)]
          generalize tmps.getD d undef = u at h2
          obtain ⟨l', rfl, _⟩ := h2.tup_inv
          rfl

end Go.Ab
