/-
  An abstract interpreter of the model's code, part 29: functions, and tables of them. Conditions: none.
-/
import Derived.Test.YtednpcncjiaahaaRs3
set_option linter.unusedVariables false
set_option linter.unusedSimpArgs false
namespace Go.Ab
open Go

noncomputable def rt (v : V) (h : Heap) : ROut := .ok (.n .e (some v) .e) h
noncomputable def ldx (P : Program) (ty : TypeId) (x : V) (h : Heap) (K : V → ROut) : ROut :=
  match P.underlying ty with
  | some d => Bool.rec (motive := fun _ => ROut) (ld x h K) (match szOf P ty with
    | some sz => ldn sz x h K
    | none => .fail) (aggD d)
  | none => .fail
noncomputable def retL (P : Program) (l : List ResultVar) (t : PT V) (h : Heap) : (List V → ROut) → ROut :=
  List.rec (motive := fun _ => (List V → ROut) → ROut) (fun K => K []) (fun r _ ih K => ResultVar.casesOn (motive := fun _ => ROut) r (fun k => ih fun l => K (tg t k :: l)) (fun a ty => ldx P ty (tg t a) h fun v => ih fun l => K (v :: l))) l
noncomputable def rts (l : List V) (h : Heap) : ROut :=
  List.casesOn (motive := fun _ => ROut) l (rt (.tup []) h) fun v l => List.casesOn (motive := fun _ => ROut) l (rt v h) fun u l => rt (.tup (v :: u :: l)) h
noncomputable def krA (P : Program) (l : List ResultVar) : Kn := fun t h => retL P l t h fun l => rts l h
noncomputable def bodyA (P : Program) (ng : Nat) (fn : Func) (c : Code) (an : Ann) (cf : CallF) (lf : Nat) (args : List V) (h : Heap) : ROut :=
  exA P cf ng (args.length + (fn.ntmps - args.length)) lf c an (krA P fn.results.toList) (fun _ _ _ => .fail) (krA P fn.results.toList) (argT args) h

noncomputable def outOf (r : ROut) : Out :=
  match r with
  | .ok t h => match t with
    | .n _ (some v) _ => .val v h
    | _ => .fail
  | .pan v h => .pan v h
  | .fail => .fail

theorem ldx_ok (P : Program) (ty : TypeId) (x : V) (h : Heap) (K : V → ROut) : FE (ldx P ty x h K) (optK (loadV P ty x h) h fun v _ => K v) := by
  unfold ldx
  cases hd : P.underlying ty with
  | none => exact FE.fail
  | some d =>
    simp only
    cases ha : aggD d with
    | false => simp only; exact FE.of (ld_ok hd ha x h fun v _ => K v)
    | true =>
      simp only
      cases hs : szOf P ty with
      | none => exact FE.fail
      | some sz => exact FE.of (ldn_ok hd ha hs x h fun v _ => K v)

section
variable {P : Program} {T Pn : Value → World → Prop}
theorem retL_inv : ∀ (l : List ResultVar) {t : PT V} {h : Heap} {K : List V → ROut} {φ : Map} {w : World}, Fin T Pn (retL P l t h K) h φ w → ∃ vs, retsV P t h l = some vs ∧ Fin T Pn (K vs) h φ w
  | [], t, h, K, φ, w, f => ⟨[], rfl, f⟩
  | r :: l, t, h, K, φ, w, f => by
    cases r with
    | tmp k =>
      have f : Fin T Pn (retL P l t h fun l => K (tg t k :: l)) h φ w := f
      obtain ⟨vs, h1, h2⟩ := retL_inv l f
      refine ⟨tg t k :: vs, ?_, h2⟩
      have e1 : retsV P t h (.tmp k :: l) = (match retsV P t h l with | some l => some ((t.get k).getD .und :: l) | none => none) := rfl
      rw [e1, h1, tg_get]
    | cell a ty =>
      have f : Fin T Pn (ldx P ty (tg t a) h fun v => retL P l t h fun l => K (v :: l)) h φ w := f
      rcases ldx_ok P ty (tg t a) h (fun v => retL P l t h fun l => K (v :: l)) with e | e
      · rw [e] at f; exact f.elim
      · rw [e] at f
        cases hv : loadV P ty (tg t a) h with
        | none => rw [hv] at f; exact f.elim
        | some v =>
          rw [hv] at f
          obtain ⟨vs, h1, h2⟩ := retL_inv l (K := fun l => K (v :: l)) f
          refine ⟨v :: vs, ?_, h2⟩
          have e1 : retsV P t h (.cell a ty :: l) = (match loadV P ty ((t.get a).getD .und) h with
            | some v => (match retsV P t h l with | some l => some (v :: l) | none => none)
            | none => none) := rfl
          rw [e1, ← tg_get, hv, h1]
theorem ldx_ext {ty : TypeId} {x : V} {h : Heap} {K : V → ROut} (hK : ∀ v, Xt h (K v)) : Xt h (ldx P ty x h K) := by
  rcases ldx_ok P ty x h K with e | e
  · rw [e]; exact Xt.fail h
  · rw [e]
    cases loadV P ty x h with
    | none => exact Xt.fail h
    | some v => exact hK v
theorem retL_ext : ∀ (l : List ResultVar) {t : PT V} {h : Heap} {K : List V → ROut}, (∀ vs, Xt h (K vs)) → Xt h (retL P l t h K)
  | [], t, h, K, hK => hK []
  | .tmp k :: l, t, h, K, hK => retL_ext l (K := fun l => K (tg t k :: l)) fun vs => hK _
  | .cell a ty :: l, t, h, K, hK => ldx_ext (K := fun v => retL P l t h fun l => K (v :: l)) fun v => retL_ext l fun vs => hK _
theorem rts_ext (l : List V) (h : Heap) : Xt h (rts l h) := by
  have key : ∀ v, Xt h (rt v h) := fun v h' e => by
    have e : some h = some h' := e
    cases e
    exact ⟨_, Ext.refl h⟩
  cases l with
  | nil => exact key _
  | cons v l => cases l <;> exact key _
theorem krA_ext (l : List ResultVar) : XtK (krA P l) := fun t h => retL_ext l fun vs => rts_ext vs h
theorem krA_ok {ng nt : Nat} {l : List ResultVar} {t : PT V} {h : Heap} {φ : Map} {w : World} {a : Act} (s : SS ng nt t h φ w a) (f : Fin T Pn (krA P l t h) h φ w) {fn : Func} (hl : fn.results.toList = l) : a.defers = [] ∧ ∃ v, (results fn a.tmps).run P w = .ok v w ∧ T v w := by
  refine ⟨s.defers, ?_⟩
  obtain ⟨vs, h1, h2⟩ := retL_inv l f
  have key : ∀ v, resV P l t h = some v → Fin T Pn (rt v h) h φ w → ∃ v, (results fn a.tmps).run P w = .ok v w ∧ T v w := fun v hv g => by
    subst hl
    obtain ⟨v', r1, r2⟩ := resV_ok hv s.hr s.tr
    have gm : FinM T Pn (rt v h) h φ w := g.m
    exact ⟨v', r1, gm v' w φ [] r2 (Ext.refl h) (Post.same s.hr fun _ _ _ => rfl)⟩
  cases vs with
  | nil => exact key (.tup []) (by unfold resV; rw [h1]) h2
  | cons v vs =>
    cases vs with
    | nil => exact key v (by unfold resV; rw [h1]) h2
    | cons u vs => exact key (.tup (v :: u :: vs)) (by unfold resV; rw [h1]) h2

theorem bodyA_ext {ng lf : Nat} {cf : CallF} (hc : CallOk P ng cf) (he : CallExt cf) (fn : Func) (c : Code) (an : Ann) (args : List V) (h : Heap) : Xt h (bodyA P ng fn c an cf lf args h) :=
  exA_ext hc he c an _ _ _ (krA_ext _) (fun _ _ h => Xt.fail h) (krA_ext _) _ h

/-- what a call comes to by a table -/
def OutOk (P : Program) (f : FuncId) (args' : Array Value) (φ : Map) (w : World) (h : Heap) (o : Out) : Prop :=
  match o with
  | .val v h' => Fresh φ h.next (h'.next + 1) → ∀ (R : Ending → World → Prop), (∀ v' w' φ' l, RV φ' v v' → Ext h h' l → Post φ h.get h h' l φ' w w' → R (.returned v') w') → Calls P f args' w R
  | .pan v h' => Fresh φ h.next (h'.next + 1) → ∀ (R : Ending → World → Prop), (∀ v' w' φ' l, RV φ' v v' → Ext h h' l → Post φ h.get h h' l φ' w w' → R (.panicked [{ v := v', recovered := false }]) w') → Calls P f args' w R
  | .fail => True
theorem bodyA_ok {ng lf : Nat} {cf : CallF} (hc : CallOk P ng cf) (he : CallExt cf) (hm : P.follows .mixedOrders = true) {f : FuncId} {fn : Func} {c : Code} (hf : P.funcs[f]? = some fn) (hb : fn.body = some c) (an : Ann) {args : List V} {h : Heap} {φ : Map} {w : World} {args' : Array Value} (hg : Glob ng φ) (hr : HR φ h.get w) (ha : RVs φ args args'.toList) :
    OutOk P f args' φ w h (outOf (bodyA P ng fn c an cf lf args h)) := by
  have hn : args.length = args'.size := by have := ha.1; simpa using this
  have key : ∀ (R : Ending → World → Prop), Fin (fun v w => R (.returned v) w) (fun v w => R (.panicked [{ v := v, recovered := false }]) w) (bodyA P ng fn c an cf lf args h) h φ w → Calls P f args' w R := fun R hfin => by
    refine calls_of_wp hf hb (exA_ok (lf := lf) hc he hm c an (krA P fn.results.toList) (fun _ _ _ => .fail) (krA P fn.results.toList) (bodyPost P fn R) (krA_ext _) (fun _ _ h => Xt.fail h) (krA_ext _)
      (fun t h φ w a s f => krA_ok s f rfl) (fun i t h φ w a s f => f.elim) (fun t h φ w a s f => krA_ok s f rfl) (fun v' a w h1 h2 => ⟨h1, h2⟩) (argT args) h φ w _ ⟨hr, hg, ?_, rfl⟩ hfin)
    rw [← hn]
    exact argT_ok ha _
  generalize bodyA P ng fn c an cf lf args h = r at key
  cases r with
  | fail => trivial
  | pan v h' => exact fun hfr R hR => key R ⟨hR, hfr⟩
  | ok t h' =>
    cases t with
    | e => trivial
    | n a v b =>
      cases v with
      | none => trivial
      | some v => exact fun hfr R hR => key R ⟨hR, hfr⟩

abbrev Sem1 := CallF → Nat → List V → Heap → ROut
def BodyOk (P : Program) (ng : Nat) (f : FuncId) (F : Sem1) : Prop := ∃ fn c an, P.funcs[f]? = some fn ∧ fn.body = some c ∧ (fn.name == "runtime.NumGoroutine") = false ∧ ∀ cf lf args h, FE (F cf lf args h) (bodyA P ng fn c an cf lf args h)
noncomputable def callG (tab : Nat → Option Sem1) (lf : Nat) (n : Nat) : CallF :=
  Nat.rec (motive := fun _ => CallF) (fun _ _ _ => .fail) (fun _ ih f args h => match tab f with
    | some F => outOf (F ih lf args h)
    | none => .fail) n
theorem callG_succ (tab : Nat → Option Sem1) (lf n : Nat) (f : FuncId) (args : List V) (h : Heap) : callG tab lf (n + 1) f args h = (match tab f with
    | some F => outOf (F (callG tab lf n) lf args h)
    | none => .fail) := rfl
theorem outOf_ext {h : Heap} {r : ROut} (x : Xt h r) {v : V} {h' : Heap} (e : outOf r = .val v h' ∨ outOf r = .pan v h') : ∃ k, Ext h h' k := by
  cases r with
  | fail => rcases e with e | e <;> cases e
  | pan v h1 => rcases e with e | e <;> cases e; exact x _ rfl
  | ok t h1 =>
    cases t with
    | e => rcases e with e | e <;> cases e
    | n a v b =>
      cases v with
      | none => rcases e with e | e <;> cases e
      | some v => rcases e with e | e <;> cases e; exact x _ rfl
theorem callG_ok (hm : P.follows .mixedOrders = true) {ng : Nat} {tab : Nat → Option Sem1} (ht : ∀ f F, tab f = some F → BodyOk P ng f F) (lf : Nat) : ∀ n, CallOk P ng (callG tab lf n) ∧ CallExt (callG tab lf n)
  | 0 => ⟨fun f args h φ w args' _ _ _ => trivial, fun f args h v h' e => by rcases e with e | e <;> cases e⟩
  | n + 1 => by
    obtain ⟨hc, he⟩ := callG_ok hm ht lf n
    refine ⟨fun f args h φ w args' hg hr ha => ?_, fun f args h v h' e => ?_⟩
    · rw [callG_succ]
      cases hq : tab f with
      | none => trivial
      | some F =>
        obtain ⟨fn, c, an, h1, h2, h3, h4⟩ := ht f F hq
        simp only
        have := bodyA_ok (lf := lf) hc he hm h1 h2 an (h := h) hg hr ha
        have hex : ∃ fn, P.funcs[f]? = some fn ∧ fn.body.isSome = true ∧ (fn.name == "runtime.NumGoroutine") = false := ⟨fn, h1, by rw [h2]; rfl, h3⟩
        rcases h4 (callG tab lf n) lf args h with e | e
        · rw [e]; trivial
        · rw [e]
          cases ho : outOf (bodyA P ng fn c an (callG tab lf n) lf args h) with
          | val v h' => rw [ho] at this; exact fun hfr R hR => ⟨hex, this hfr R hR⟩
          | pan v h' => rw [ho] at this; exact fun hfr R hR => ⟨hex, this hfr R hR⟩
          | fail => trivial
    · rw [callG_succ] at e
      cases hq : tab f with
      | none => rw [hq] at e; rcases e with e | e <;> cases e
      | some F =>
        rw [hq] at e
        simp only at e
        obtain ⟨fn, c, an, h1, h2, h3, h4⟩ := ht f F hq
        rcases h4 (callG tab lf n) lf args h with e1 | e1
        · rw [e1] at e; rcases e with e | e <;> cases e
        · rw [e1] at e
          exact outOf_ext (bodyA_ext hc he fn c an args h) e
end
end Go.Ab
