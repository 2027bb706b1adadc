/-
  An abstract interpreter of the model's code, part 25: the quick way through code and calls. Conditions: none.
-/
import Derived.Test.YtednpcncjiaahaaAb24
set_option linter.unusedVariables false
set_option linter.unusedSimpArgs false
namespace Go.Ab
open Go

noncomputable def exK (P : Program) (callF : CallF) (ng nt lf : Nat) (c : Code) : PT V → Heap → Ex :=
  Code.rec (motive := fun _ => PT V → Heap → Ex)
    (fun t h => .norm t h)
    (fun _ ops draw t h => (cond draw (regD P callF ng nt ops t h) (seqK P callF ng nt ops ops.toList t h)).ex)
    (fun _ _ iha ihb t h => match iha t h with
      | .norm t' h' => ihb t' h'
      | r => r)
    (fun c _ _ iha ihb t h => match (opd ng c).get t with
      | .b x => cond x (iha t h) (ihb t h)
      | _ => .fail)
    (fun id _ ih t h => blockX id (ih t h))
    (fun _ ih t h => loopR ih lf t h)
    (fun _ _ _ _ _ _ _ _ => .fail)
    (fun id t h => .exit id t h)
    (fun _ _ _ _ => .fail)
    (fun _ _ _ => .fail)
    (fun _ _ _ => .fail)
    (fun t h => .ret t h)
    (fun _ _ _ => .fail) c
theorem exK_eq {P : Program} {callF : CallF} (he : CallExt callF) {ng nt lf : Nat} : ∀ (c : Code), exK P callF ng nt lf c = exC P callF ng nt lf c := by
  intro c
  induction c with
  | skip => rfl
  | region id ops draw =>
    funext t h
    show (cond draw (regD P callF ng nt ops t h) (seqK P callF ng nt ops ops.toList t h)).ex = (cond draw (regD P callF ng nt ops t h) (seqL P callF ng nt ops ops.toList t h)).ex
    rw [seqK_eq he]
  | seq x y ihx ihy =>
    funext t h
    show (match exK P callF ng nt lf x t h with | .norm t' h' => exK P callF ng nt lf y t' h' | r => r) = (match exC P callF ng nt lf x t h with | .norm t' h' => exC P callF ng nt lf y t' h' | r => r)
    rw [ihx, ihy]
  | cond c x y ihx ihy =>
    funext t h
    show (match (opd ng c).get t with | .b q => cond q (exK P callF ng nt lf x t h) (exK P callF ng nt lf y t h) | _ => .fail) = (match ev ng t c with | .b q => cond q (exC P callF ng nt lf x t h) (exC P callF ng nt lf y t h) | _ => .fail)
    rw [ihx, ihy, opd_eq]
  | block id c ih =>
    funext t h
    show blockX id (exK P callF ng nt lf c t h) = blockX id (exC P callF ng nt lf c t h)
    rw [ih]
  | loop c ih =>
    funext t h
    show loopR (exK P callF ng nt lf c) lf t h = loopR (exC P callF ng nt lf c) lf t h
    rw [ih]
  | rangeFunc f ps x y _ _ => rfl
  | exit id => rfl
  | scope c _ => rfl
  | label l => rfl
  | goto l => rfl
  | ret => rfl
  | refuse s => rfl

noncomputable def callBK (P : Program) (ng lf : Nat) (callF : CallF) (fn : Func) (c : Code) (args : List V) (h : Heap) : Out :=
  forceN (args.length + (fn.ntmps - args.length)) fun nt =>
  match exK P callF ng nt lf c (argT args) h with
  | .norm t h' => match resV P fn.results.toList t h' with
    | some v => .val v h'
    | none => .fail
  | .ret t h' => match resV P fn.results.toList t h' with
    | some v => .val v h'
    | none => .fail
  | .pan v h' => .pan v h'
  | _ => .fail
noncomputable def callNK (P : Program) (fs : Nat → Option Func) (ng lf : Nat) (n : Nat) : CallF :=
  Nat.rec (motive := fun _ => CallF) (fun _ _ _ => .fail) (fun _ ih f args h => match fs f with
    | some fn => match fn.body with
      | some c => callBK P ng lf ih fn c args h
      | none => .fail
    | none => .fail) n
theorem callBK_eq {P : Program} {callF : CallF} (he : CallExt callF) {ng lf : Nat} (fn : Func) (c : Code) (args : List V) (h : Heap) : callBK P ng lf callF fn c args h = callB P ng lf callF fn c args h := by
  unfold callBK callB
  rw [forceN_eq, exK_eq he]
  cases exC P callF ng (args.length + (fn.ntmps - args.length)) lf c (argT args) h <;> rfl
theorem callNK_eq {P : Program} {fs : Nat → Option Func} {ng lf : Nat} (hm : P.follows .mixedOrders = true) (hfs : FnsOk P fs) : ∀ n, callNK P fs ng lf n = callN P fs ng lf n
  | 0 => rfl
  | n + 1 => by
    have ih := callNK_eq (ng := ng) (lf := lf) hm hfs n
    have he := (callN_ok (ng := ng) (lf := lf) hm hfs n).2
    funext f args h
    show (match fs f with
      | some fn => match fn.body with
        | some c => callBK P ng lf (callNK P fs ng lf n) fn c args h
        | none => .fail
      | none => .fail) = _
    rw [callN_succ, ih]
    cases fs f with
    | none => rfl
    | some fn =>
      simp only
      cases fn.body with
      | none => rfl
      | some c => exact callBK_eq he fn c args h
/-- A LAW OF NUMBERS, by the quick way -/
theorem law_quick {P : Program} {fs : Nat → Option Func} {ng lf n : Nat} (hm : P.follows .mixedOrders = true) (hfs : FnsOk P fs) {f : FuncId} {args : List V} (e : isTrue (callNK P fs ng lf n f args (heap0 ng)) = true) (w : World) {args' : Array Value}
    (ha : RVs (phi0 ng) args args'.toList) : Calls P f args' w fun e w' => e = .returned (.bool true) ∧ Go.RowKit.Below w.heap.size w w' := by
  obtain ⟨h', e'⟩ := isTrue_spec e
  rw [callNK_eq hm hfs] at e'
  exact law_calls0 hm hfs e' w ha
end Go.Ab
