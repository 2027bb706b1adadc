/-
  An abstract interpreter of the model's code, part 24: the quick way through rows, code, calls, and that it is the same. Conditions: none.
-/
import Derived.Test.YtednpcncjiaahaaAb23
set_option linter.unusedVariables false
set_option linter.unusedSimpArgs false
namespace Go.Ab
open Go

noncomputable def putK (nt : Nat) (d : Option Tmp) (K : PT V → ROut) (t : PT V) (v : V) : ROut :=
  Option.rec (motive := fun _ => ROut) (K t) (fun d => ifB (Nat.blt d nt) (K ((path d).set v t)) .fail) d
noncomputable def wantK (nt : Nat) (ops : Array Oper) (o : Oper) (t : PT V) (yes no : ROut) : ROut :=
  Option.rec (motive := fun _ => ROut) yes (fun _ => Option.rec (motive := fun _ => ROut) .fail (fun b => ifB b yes no) (wantedV nt ops o t)) o.guard
noncomputable def seqK (P : Program) (cf : CallF) (ng nt : Nat) (ops : Array Oper) (l : List Oper) : PT V → Heap → ROut :=
  List.rec (motive := fun _ => PT V → Heap → ROut) (fun t h => .ok t h)
    (fun o _ ih t h => wantK nt ops o t
      ((opK P ng o).run cf t h (fun v h' => forceN h'.next fun nx => forceV v fun v => putK nt o.dst (fun t' => ih t' ⟨nx, h'.t, h'.wl⟩) t v) .pan)
      (putK nt o.dst (fun t' => ih t' h) t (.tup []))) l
theorem putK_eq (nt : Nat) (d : Option Tmp) (K : PT V → ROut) (t : PT V) (v : V) : putK nt d K t v = (match putV nt t d v with | some t' => K t' | none => .fail) := by
  cases d with
  | none => rfl
  | some d =>
    show ifB (Nat.blt d nt) _ _ = (match okc (Nat.blt d nt) (some (t.set d v)) with | some t' => K t' | none => .fail)
    cases Nat.blt d nt <;> rfl
theorem wantK_eq (nt : Nat) (ops : Array Oper) (o : Oper) (t : PT V) (yes no : ROut) : wantK nt ops o t yes no = (match wantedV nt ops o t with | some true => yes | some false => no | none => .fail) := by
  unfold wantK
  cases hg : o.guard with
  | none =>
    have : wantedV nt ops o t = some true := by unfold wantedV; rw [hg]
    rw [this]
  | some q =>
    simp only
    cases wantedV nt ops o t with
    | none => rfl
    | some b => cases b <;> rfl
theorem opN_eq {P : Program} {cf : CallF} (he : CallExt cf) (o : Oper) (ρ : Operand → V) (h : Heap) : opN P cf o ρ h = opX P cf o ρ h := by
  unfold opN
  cases hx : opX P cf o ρ h with
  | val v h' =>
    simp only [forceN_eq]
    obtain ⟨k, hk⟩ := opX_ext he (.inl hx)
    rw [Nat.ble_eq_true_of_le hk.next]
    rfl
  | pan v h' =>
    simp only
    obtain ⟨k, hk⟩ := opX_ext he (.inr hx)
    rw [Nat.ble_eq_true_of_le hk.next]
    rfl
  | fail => rfl
theorem seqK_eq {P : Program} {cf : CallF} (he : CallExt cf) {ng nt : Nat} {ops : Array Oper} : ∀ (l : List Oper) (t : PT V) (h : Heap), seqK P cf ng nt ops l t h = seqL P cf ng nt ops l t h
  | [], t, h => rfl
  | o :: l, t, h => by
    have e : seqK P cf ng nt ops (o :: l) t h = wantK nt ops o t
      ((opK P ng o).run cf t h (fun v h' => forceN h'.next fun nx => forceV v fun v => putK nt o.dst (fun t' => seqK P cf ng nt ops l t' ⟨nx, h'.t, h'.wl⟩) t v) .pan)
      (putK nt o.dst (fun t' => seqK P cf ng nt ops l t' h) t (.tup [])) := rfl
    rw [e, wantK_eq, opK_ok P ng o, seqL_cons, opN_eq he]
    cases wantedV nt ops o t with
    | none => rfl
    | some b =>
      cases b with
      | false =>
        simp only [putK_eq]
        cases putV nt t o.dst (.tup []) with
        | none => rfl
        | some t' => exact seqK_eq he l t' h
      | true =>
        simp only
        cases opX P cf o (ev ng t) h with
        | fail => rfl
        | pan v h' => rfl
        | val v h' =>
          simp only [Out.el, forceN_eq, forceV_eq, putK_eq]
          cases putV nt t o.dst v with
          | none => rfl
          | some t' => exact seqK_eq he l t' h'
end Go.Ab
