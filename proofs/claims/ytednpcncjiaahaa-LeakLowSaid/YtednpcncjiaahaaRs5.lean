/-
  An abstract interpreter of the model's code, part 30: functions of so many values in a table. Conditions: none.
-/
import Derived.Test.YtednpcncjiaahaaRs4
set_option linter.unusedVariables false
set_option linter.unusedSimpArgs false
namespace Go.Ab
open Go
def AllV (n : Nat) : (List V → Prop) → Prop := Nat.rec (motive := fun _ => (List V → Prop) → Prop) (fun p => p []) (fun _ ih p => ∀ x, ih fun l => p (x :: l)) n
theorem AllV.spec : ∀ {n : Nat} {p : List V → Prop}, AllV n p → ∀ l : List V, l.length = n → p l
  | 0, _, h, [], _ => h
  | n + 1, p, h, x :: l, e => AllV.spec (n := n) (p := fun l => p (x :: l)) (h x) l (by simpa using e)
noncomputable def wrapF (n : Nat) (F : CallF → Nat → Fv n) : Sem1 := fun cf lf args h => ifB (Nat.beq args.length n) (Fv.app n (F cf lf) args h) .fail
theorem BodyOk.mk {P : Program} {ng : Nat} {f : FuncId} {n : Nat} {F : CallF → Nat → Fv n} {fn : Func} {c : Code} {an : Ann} (h1 : P.funcs[f]? = some fn) (h2 : fn.body = some c) (h3 : (fn.name == "runtime.NumGoroutine") = false)
    (h4 : ∀ cf lf, AllV n fun l => ∀ h, bodyA P ng fn c an cf lf l h = Fv.app n (F cf lf) l h) : BodyOk P ng f (wrapF n F) :=
  ⟨fn, c, an, h1, h2, h3, fun cf lf args h => by
    unfold wrapF
    cases hb : Nat.beq args.length n with
    | false => exact FE.fail
    | true => exact FE.of ((AllV.spec (h4 cf lf) args (Nat.eq_of_beq_eq_true hb) h).symm)⟩
end Go.Ab
