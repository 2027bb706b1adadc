/-
  An abstract interpreter of the model's code, part 21: calls, and that they are right. Conditions: none.
-/
import Derived.Test.YtednpcncjiaahaaAb20
set_option linter.unusedVariables false
set_option linter.unusedSimpArgs false
namespace Go.Ab
open Go

noncomputable def retsV (P : Program) (t : PT V) (h : Heap) (l : List ResultVar) : Option (List V) :=
  List.rec (motive := fun _ => Option (List V)) (some []) (fun r _ ih => match r with
    | .tmp k => (match ih with
      | some l => some ((t.get k).getD .und :: l)
      | none => none)
    | .cell a ty => (match loadV P ty ((t.get a).getD .und) h with
      | some v => (match ih with
        | some l => some (v :: l)
        | none => none)
      | none => none)) l
noncomputable def resV (P : Program) (l : List ResultVar) (t : PT V) (h : Heap) : Option V :=
  match retsV P t h l with
  | some [v] => some v
  | some l => some (.tup l)
  | none => none

def retOf (tmps : Array Value) : ResultVar → Sem Value
  | .tmp t => pure (tmps.getD t undef)
  | .cell a t => do loadVar t (← asAddr (tmps.getD a undef))
theorem results_eq (fn : Func) (tmps : Array Value) : results fn tmps = (do let vs ← fn.results.mapM (retOf tmps); pure (if h : vs.size = 1 then vs[0] else .tuple vs)) := by
  unfold results
  congr 1

section
variable {P : Program}
theorem retsV_ok {t : PT V} {h : Heap} {φ : Map} {nt : Nat} {tmps : Array Value} {w : World} (hr : HR φ h.get w) (ht : TR φ nt t tmps) : ∀ {l : List ResultVar} {vs : List V}, retsV P t h l = some vs → ∃ vs', (l.mapM (retOf tmps)).run P w = .ok vs' w ∧ RVs φ vs vs'
  | [], vs, e => by cases e; exact ⟨[], rfl, RVs.nil φ⟩
  | r :: l, vs, e => by
    have tv : ∀ k, RV φ ((t.get k).getD .und) (tmps.getD k undef) := fun k => by
      cases hk : t.get k with
      | none => exact .und _
      | some v => exact ht.val k v hk
    cases r with
    | tmp k =>
      have e1 : retsV P t h (.tmp k :: l) = (match retsV P t h l with | some l => some ((t.get k).getD .und :: l) | none => none) := rfl
      rw [e1] at e
      cases hl : retsV P t h l with
      | none => rw [hl] at e; cases e
      | some vs1 =>
        rw [hl] at e
        cases e
        obtain ⟨vs', h1, h2⟩ := retsV_ok hr ht hl
        exact ⟨_, by simp [retOf, h1], RVs.cons (tv k) h2⟩
    | cell a ty =>
      have e1 : retsV P t h (.cell a ty :: l) = (match loadV P ty ((t.get a).getD .und) h with
        | some v => (match retsV P t h l with | some l => some (v :: l) | none => none)
        | none => none) := rfl
      rw [e1] at e
      cases hv : loadV P ty ((t.get a).getD .und) h with
      | none => rw [hv] at e; cases e
      | some v =>
        rw [hv] at e
        simp only at e
        cases hl : retsV P t h l with
        | none => rw [hl] at e; cases e
        | some vs1 =>
          rw [hl] at e
          cases e
          obtain ⟨vs', h1, h2⟩ := retsV_ok hr ht hl
          have ha := tv a
          generalize (t.get a).getD .und = q at hv ha
          cases q <;> try (cases hv; done)
          rename_i p
          cases p with
          | none => cases hv
          | some p =>
            obtain ⟨b, off⟩ := p
            obtain ⟨pl, k0, k1⟩ := ha.p_inv
            obtain ⟨r', k2, k3⟩ := load_var hv hr rfl k0
            refine ⟨r' :: vs', ?_, RVs.cons k3 h2⟩
            rw [List.mapM_cons]
            have e3 : (retOf tmps (.cell a ty)).run P w = .ok r' w := by
              unfold retOf
              simp only [k1]
              simp [asAddr, k2]
            simp [e3, h1]
theorem resV_ok {fn : Func} {t : PT V} {h : Heap} {v : V} (e : resV P fn.results.toList t h = some v) {φ : Map} {nt : Nat} {tmps : Array Value} {w : World} (hr : HR φ h.get w) (ht : TR φ nt t tmps) :
    ∃ v', (results fn tmps).run P w = .ok v' w ∧ RV φ v v' := by
  unfold resV at e
  cases hl : retsV P t h fn.results.toList with
  | none => rw [hl] at e; cases e
  | some vs =>
    obtain ⟨vs', h1, h2⟩ := retsV_ok hr ht hl
    have h3 : (fn.results.mapM (retOf tmps)).run P w = .ok vs'.toArray w := by
      rw [Array.mapM_eq_mapM_toList]
      simp [h1]
    rw [results_eq]
    rw [hl] at e
    by_cases hs : vs'.length = 1
    · match vs', hs with
      | [x], _ =>
        obtain ⟨x0, hx0⟩ : ∃ x0, vs = [x0] := by
          match vs, h2.1 with
          | [x0], _ => exact ⟨x0, rfl⟩
        subst hx0
        cases e
        exact ⟨x, by simp [h3], h2.head⟩
    · have e' : v = .tup vs := by
        match vs, e, h2.1 with
        | [], e, _ => cases e; rfl
        | [x], e, hh => exact absurd hh.symm hs
        | x :: y :: l, e, _ => cases e; rfl
      subst e'
      exact ⟨.tuple vs'.toArray, by simp [h3, hs], RV.tup_mk (by simpa using h2)⟩

noncomputable def argT (args : List V) : PT V := wr .e 0 args
theorem argT_ok {φ : Map} {args : List V} {args' : Array Value} (h : RVs φ args args'.toList) (k : Nat) : TR φ (args.length + k) (argT args) (args' ++ Array.replicate k undef) := by
  refine ⟨by simp [h.1], fun j v hj => ?_⟩
  unfold argT at hj
  rw [wr_get] at hj
  split at hj
  · rename_i hlt
    rw [Nat.sub_zero] at hj
    obtain ⟨v', h1, h2⟩ := h.get hj
    have h1 : args'[j]? = some v' := by simpa using h1
    have hjl : j < args'.size := (Array.getElem?_eq_some_iff.1 h1).1
    simp only [Array.getD_eq_getD_getElem?, Array.getElem?_append_left hjl, h1]
    exact h2
  · simp at hj

noncomputable def callB (P : Program) (ng lf : Nat) (callF : CallF) (fn : Func) (c : Code) (args : List V) (h : Heap) : Out :=
  match exC P callF ng (args.length + (fn.ntmps - args.length)) lf c (argT args) h with
  | .norm t h' => match resV P fn.results.toList t h' with
    | some v => .val v h'
    | none => .fail
  | .ret t h' => match resV P fn.results.toList t h' with
    | some v => .val v h'
    | none => .fail
  | .pan v h' => .pan v h'
  | _ => .fail
/-- functions, by their numbers -/
def FnsOk (P : Program) (fs : Nat → Option Func) : Prop := ∀ f fn, fs f = some fn → P.funcs[f]? = some fn ∧ (fn.name == "runtime.NumGoroutine") = false
noncomputable def callN (P : Program) (fs : Nat → Option Func) (ng lf : Nat) (n : Nat) : CallF :=
  Nat.rec (motive := fun _ => CallF) (fun _ _ _ => .fail) (fun _ ih f args h => match fs f with
    | some fn => match fn.body with
      | some c => callB P ng lf ih fn c args h
      | none => .fail
    | none => .fail) n
theorem callN_zero {fs : Nat → Option Func} {ng lf : Nat} {f : FuncId} {args : List V} {h : Heap} : callN P fs ng lf 0 f args h = .fail := rfl
theorem callN_succ {fs : Nat → Option Func} {ng lf n : Nat} {f : FuncId} {args : List V} {h : Heap} : callN P fs ng lf (n + 1) f args h = (match fs f with
    | some fn => match fn.body with
      | some c => callB P ng lf (callN P fs ng lf n) fn c args h
      | none => .fail
    | none => .fail) := rfl


theorem callB_ext {callF : CallF} {ng lf : Nat} (hc : CallOk P ng callF) (he : CallExt callF) {fn : Func} {c : Code} {args : List V} {h h' : Heap} {v : V} (e : callB P ng lf callF fn c args h = .val v h' ∨ callB P ng lf callF fn c args h = .pan v h') : ∃ k, Ext h h' k := by
  have hx := exC_ext (ng := ng) (nt := args.length + (fn.ntmps - args.length)) (lf := lf) hc he c (argT args) h
  unfold callB at e
  cases hr : exC P callF ng (args.length + (fn.ntmps - args.length)) lf c (argT args) h with
  | norm t h1 =>
    rw [hr] at e hx
    simp only at e
    cases hq : resV P fn.results.toList t h1 <;> rw [hq] at e <;> rcases e with e | e <;> cases e
    exact hx _ rfl
  | ret t h1 =>
    rw [hr] at e hx
    simp only at e
    cases hq : resV P fn.results.toList t h1 <;> rw [hq] at e <;> rcases e with e | e <;> cases e
    exact hx _ rfl
  | pan v1 h1 =>
    rw [hr] at e hx
    rcases e with e | e <;> cases e
    exact hx _ rfl
  | exit i t h1 => rw [hr] at e; rcases e with e | e <;> cases e
  | fail => rw [hr] at e; rcases e with e | e <;> cases e

theorem callB_ok {callF : CallF} {ng lf : Nat} (hc : CallOk P ng callF) (he : CallExt callF) (hm : P.follows .mixedOrders = true) {f : FuncId} {fn : Func} {c : Code} (hf : P.funcs[f]? = some fn) (hb : fn.body = some c) {args : List V} {h : Heap} {φ : Map} {w : World} {args' : Array Value} (hg : Glob ng φ) (hr : HR φ h.get w) (ha : RVs φ args args'.toList) :
    match callB P ng lf callF fn c args h with
    | .val v h' => Fresh φ h.next (h'.next + 1) → ∀ (R : Ending → World → Prop), (∀ v' w' φ' l, RV φ' v v' → Ext h h' l → Post φ h.get h h' l φ' w w' → R (.returned v') w') → Calls P f args' w R
    | .pan v h' => Fresh φ h.next (h'.next + 1) → ∀ (R : Ending → World → Prop), (∀ v' w' φ' l, RV φ' v v' → Ext h h' l → Post φ h.get h h' l φ' w w' → R (.panicked [{ v := v', recovered := false }]) w') → Calls P f args' w R
    | .fail => True := by
  have hn : args.length = args'.size := by have := ha.1; simpa using this
  have key : ∀ (R : Ending → World → Prop), Fresh φ h.next ((exC P callF ng (args.length + (fn.ntmps - args.length)) lf c (argT args) h).next + 1) → ExQ (args.length + (fn.ntmps - args.length)) (exC P callF ng (args.length + (fn.ntmps - args.length)) lf c (argT args) h) h φ w (bodyPost P fn R) → Calls P f args' w R := fun R hfr hq => by
    refine calls_of_wp hf hb (ex_ok (ng := ng) (nt := args.length + (fn.ntmps - args.length)) (lf := lf) hc he hm c (argT args) h φ w _ _ ⟨hr, hfr, hg, ?_, rfl, hq⟩)
    rw [← hn]
    exact argT_ok ha _
  unfold callB
  cases hx : exC P callF ng (args.length + (fn.ntmps - args.length)) lf c (argT args) h with
  | norm t h1 =>
    rw [hx] at key
    simp only
    cases hq : resV P fn.results.toList t h1 with
    | none => trivial
    | some v =>
      simp only
      intro hfr R hR
      refine key R hfr ?_
      intro a' w' φ' l k1 k2 k3 k4
      obtain ⟨v', r1, r2⟩ := resV_ok hq (k4.hr' k3) k1
      exact ⟨k2, v', r1, hR v' w' φ' l r2 k3 k4⟩
  | ret t h1 =>
    rw [hx] at key
    simp only
    cases hq : resV P fn.results.toList t h1 with
    | none => trivial
    | some v =>
      simp only
      intro hfr R hR
      refine key R hfr ?_
      intro a' w' φ' l k1 k2 k3 k4
      obtain ⟨v', r1, r2⟩ := resV_ok hq (k4.hr' k3) k1
      exact ⟨k2, v', r1, hR v' w' φ' l r2 k3 k4⟩
  | pan v h1 =>
    rw [hx] at key
    simp only
    intro hfr R hR
    refine key R hfr ?_
    intro a' v' w' φ' l k0 k1 k2 k3 k4
    exact ⟨k1, hR v' w' φ' l k2 k3 k4⟩
  | exit i t h1 => trivial
  | fail => trivial

theorem callN_ok {fs : Nat → Option Func} {ng lf : Nat} (hm : P.follows .mixedOrders = true) (hfs : FnsOk P fs) : ∀ n, CallOk P ng (callN P fs ng lf n) ∧ CallExt (callN P fs ng lf n)
  | 0 => ⟨fun f args h φ w args' _ _ _ => trivial, fun f args h v h' e => by rcases e with e | e <;> cases e⟩
  | n + 1 => by
    obtain ⟨hc, he⟩ := callN_ok (ng := ng) (lf := lf) hm hfs n
    refine ⟨fun f args h φ w args' hg hr ha => ?_, fun f args h v h' e => ?_⟩
    · rw [callN_succ]
      cases hq : fs f with
      | none => trivial
      | some fn =>
        obtain ⟨h1, h2⟩ := hfs f fn hq
        simp only
        cases hb : fn.body with
        | none => trivial
        | some c =>
          simp only
          have := callB_ok (lf := lf) hc he hm h1 hb hg hr ha
          have hex : ∃ fn, P.funcs[f]? = some fn ∧ fn.body.isSome = true ∧ (fn.name == "runtime.NumGoroutine") = false := ⟨fn, h1, by rw [hb]; rfl, h2⟩
          cases hr : callB P ng lf (callN P fs ng lf n) fn c args h with
          | val v h' => rw [hr] at this; exact fun hfr R hR => ⟨hex, this hfr R hR⟩
          | pan v h' => rw [hr] at this; exact fun hfr R hR => ⟨hex, this hfr R hR⟩
          | fail => trivial
    · rw [callN_succ] at e
      cases hq : fs f with
      | none => rw [hq] at e; rcases e with e | e <;> cases e
      | some fn =>
        rw [hq] at e
        simp only at e
        cases hb : fn.body with
        | none => rw [hb] at e; rcases e with e | e <;> cases e
        | some c => rw [hb] at e; exact callB_ext hc he e

/-- all functions of a program -/
def okFn (P : Program) (f : Nat) : Option Func :=
  match P.funcs[f]? with
  | some fn => cond (fn.name == "runtime.NumGoroutine") none (some fn)
  | none => none
theorem okFn_ok : FnsOk P (okFn P) := fun f fn h => by
  unfold okFn at h
  cases hq : P.funcs[f]? with
  | none => rw [hq] at h; cases h
  | some fn' =>
    rw [hq] at h
    simp only at h
    cases hb : (fn'.name == "runtime.NumGoroutine") with
    | true => rw [hb] at h; cases h
    | false => rw [hb] at h; cases h; exact ⟨rfl, hb⟩

/-- THE LAW: what a call by the interpreter comes to the program's call comes to -/
theorem call_ret {fs : Nat → Option Func} {ng lf n : Nat} (hm : P.follows .mixedOrders = true) (hfs : FnsOk P fs) {f : FuncId} {args : List V} {h h' : Heap} {v : V} (e : callN P fs ng lf n f args h = .val v h') {φ : Map} {w : World} {args' : Array Value} (hg : Glob ng φ) (hr : HR φ h.get w)
    (ha : RVs φ args args'.toList) (hf : Fresh φ h.next (h'.next + 1)) {R : Ending → World → Prop} (hR : ∀ v' w' φ' l, RV φ' v v' → Ext h h' l → Post φ h.get h h' l φ' w w' → R (.returned v') w') : Calls P f args' w R := by
  have := (callN_ok (ng := ng) (lf := lf) hm hfs n).1 f args h φ w args' hg hr ha
  rw [e] at this
  exact (this hf R hR).2
theorem call_pan {fs : Nat → Option Func} {ng lf n : Nat} (hm : P.follows .mixedOrders = true) (hfs : FnsOk P fs) {f : FuncId} {args : List V} {h h' : Heap} {v : V} (e : callN P fs ng lf n f args h = .pan v h') {φ : Map} {w : World} {args' : Array Value} (hg : Glob ng φ) (hr : HR φ h.get w)
    (ha : RVs φ args args'.toList) (hf : Fresh φ h.next (h'.next + 1)) {R : Ending → World → Prop} (hR : ∀ v' w' φ' l, RV φ' v v' → Ext h h' l → Post φ h.get h h' l φ' w w' → R (.panicked [{ v := v', recovered := false }]) w') : Calls P f args' w R := by
  have := (callN_ok (ng := ng) (lf := lf) hm hfs n).1 f args h φ w args' hg hr ha
  rw [e] at this
  exact (this hf R hR).2
end
end Go.Ab
