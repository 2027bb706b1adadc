/-
  An abstract interpreter of the model's code, part 26: operations once more, as functions of values, each with what follows. Conditions: none.
-/
import Derived.Test.YtednpcncjiaahaaAb25
set_option linter.unusedVariables false
set_option linter.unusedSimpArgs false
namespace Go.Ab
open Go

/-! working out first -/
noncomputable def fi (k : IntKind) (n : Int) (K : V → ROut) : ROut :=
  Int.casesOn (motive := fun _ => ROut) n (fun m => forceN m fun m => K (.i k (.ofNat m))) (fun m => forceN m fun m => K (.i k (.negSucc m)))
theorem fi_eq (k : IntKind) (n : Int) (K : V → ROut) : fi k n K = K (.i k n) := by
  cases n <;> (unfold fi; simp only [forceN_eq])
noncomputable def fo (v : V) (K : V → ROut) : ROut :=
  V.casesOn (motive_1 := fun _ => ROut) v (K .und) (fun b => K (.b b)) (fun k n => fi k n K) (fun s => forceN s.n fun n => forceN s.v fun v => K (.s ⟨n, v⟩))
    (fun a => Option.rec (motive := fun _ => ROut) (K (.p none)) (fun q => forceN q.1 fun a => forceN q.2 fun o => K (.p (some (a, o)))) a)
    (fun a l c x => Option.rec (motive := fun _ => ROut) (K (.sl none l c x)) (fun q => forceN q.1 fun a => forceN q.2 fun o => forceN l fun l => forceN c fun c => K (.sl (some (a, o)) l c x)) a)
    (fun r => K (.m r)) (fun f a b => K (.f f a b)) (K .f0) (fun t v => K (.ifc t v)) (K .i0) (fun l => K (.agg l)) (fun l => K (.tup l))
theorem fo_eq (v : V) (K : V → ROut) : fo v K = K v := by
  cases v with
  | i k n => exact fi_eq k n K
  | s b => simp only [fo, forceN_eq]
  | p a => cases a with
    | none => rfl
    | some q => simp only [fo, forceN_eq]
  | sl a l c x => cases a with
    | none => rfl
    | some q => simp only [fo, forceN_eq]
  | _ => rfl
noncomputable def fh (h : Heap) (K : Heap → ROut) : ROut := forceN h.next fun nx => K ⟨nx, h.t, h.wl⟩
theorem fh_eq (h : Heap) (K : Heap → ROut) : fh h K = K h := by unfold fh; rw [forceN_eq]

/-! looking into values -/
noncomputable def vi (v : V) (K : IntKind → Int → ROut) : ROut := vInt v K .fail
noncomputable def vb (v : V) : (Bool → ROut) → ROut :=
  V.casesOn (motive_1 := fun _ => (Bool → ROut) → ROut) v (fun _ => .fail) (fun b K => K b) (fun _ _ _ => .fail) (fun _ _ => .fail)
    (fun _ _ => .fail) (fun _ _ _ _ _ => .fail) (fun _ _ => .fail) (fun _ _ _ _ => .fail) (fun _ => .fail) (fun _ _ _ => .fail) (fun _ => .fail) (fun _ _ => .fail) (fun _ _ => .fail)
noncomputable def vs (v : V) : (SB → ROut) → ROut :=
  V.casesOn (motive_1 := fun _ => (SB → ROut) → ROut) v (fun _ => .fail) (fun _ _ => .fail) (fun _ _ _ => .fail) (fun s K => K s)
    (fun _ _ => .fail) (fun _ _ _ _ _ => .fail) (fun _ _ => .fail) (fun _ _ _ _ => .fail) (fun _ => .fail) (fun _ _ _ => .fail) (fun _ => .fail) (fun _ _ => .fail) (fun _ _ => .fail)
noncomputable def vl (v : V) : (Nat → ROut) → ROut :=
  V.casesOn (motive_1 := fun _ => (Nat → ROut) → ROut) v (fun _ => .fail) (fun _ _ => .fail) (fun _ _ _ => .fail) (fun _ _ => .fail)
    (fun _ _ => .fail) (fun _ l _ _ K => K l) (fun _ _ => .fail) (fun _ _ _ _ => .fail) (fun _ => .fail) (fun _ _ _ => .fail) (fun _ => .fail) (fun _ _ => .fail) (fun _ _ => .fail)
noncomputable def vf (v : V) : (FuncId → List V → List V → ROut) → ROut :=
  V.casesOn (motive_1 := fun _ => (FuncId → List V → List V → ROut) → ROut) v (fun _ => .fail) (fun _ _ => .fail) (fun _ _ _ => .fail) (fun _ _ => .fail)
    (fun _ _ => .fail) (fun _ _ _ _ _ => .fail) (fun _ _ => .fail) (fun f a b K => Fn.casesOn (motive := fun _ => ROut) f (fun g => K g a b) (fun _ => .fail) (fun _ _ => .fail) (fun _ _ _ _ => .fail) (fun _ => .fail)) (fun _ => .fail) (fun _ _ _ => .fail) (fun _ => .fail) (fun _ _ => .fail) (fun _ _ => .fail)
noncomputable def o1 (r : Option V) (K : V → ROut) : ROut := Option.rec (motive := fun _ => ROut) .fail (fun v => fo v K) r
noncomputable def o2 (r : Option (V × Heap)) (K : Kt) : ROut := Option.rec (motive := fun _ => ROut) .fail (fun r => fo r.1 fun v => fh r.2 fun h => K v h) r
noncomputable def oh (r : Option Heap) (K : Heap → ROut) : ROut := Option.rec (motive := fun _ => ROut) .fail (fun h => fh h K) r
noncomputable def cl (r : Out) (K : Kt) : ROut := Out.casesOn (motive := fun _ => ROut) r (fun v h => fo v fun v => fh h fun h => K v h) (fun v h => .pan v h) .fail
theorem o1_eq (r : Option V) (K : V → ROut) (h : Heap) : o1 r K = optK r h fun v _ => K v := by cases r <;> simp [o1, optK, fo_eq]
theorem o2_eq (r : Option (V × Heap)) (K : Kt) : o2 r K = opt2K r K := by cases r <;> simp [o2, opt2K, fo_eq, fh_eq]
theorem cl_eq (r : Out) (K : Kt) : cl r K = r.el K .pan := by
  cases r <;> simp [cl, Out.el, fo_eq, fh_eq]

/-! operations -/
noncomputable def ia (op : BinOp) (k : IntKind) (a b : Int) (K : V → ROut) : ROut :=
  match op with
  | .add => fi k (wrapI k (a + b)) K
  | .sub => fi k (wrapI k (a - b)) K
  | .mul => fi k (wrapI k (a * b)) K
  | .eql => K (.b (ieq a b))
  | .neq => K (.b (not (ieq a b)))
  | .lss => K (.b (ilt a b))
  | .leq => K (.b (not (ilt b a)))
  | .gtr => K (.b (ilt b a))
  | .geq => K (.b (not (ilt a b)))
  | op => o1 (intV op k a b) K
theorem ia_eq' (op : BinOp) (k : IntKind) (a b : Int) (K : V → ROut) : ia op k a b K = o1 (intV op k a b) K := by
  cases op <;> first | rfl | (simp only [ia, intV, o1, fo_eq, fi_eq])
noncomputable def bi (op : BinOp) (x y : V) (K : V → ROut) : ROut := vi x fun k a => vi y fun k' b => ifB (kq k k') (ia op k a b K) .fail
noncomputable def sh (op : BinOp) (k : IntKind) (a : Int) (m : Nat) (K : V → ROut) : ROut :=
  match op with
  | .shl => fi k (wrapI k (a * 2 ^ (min m k.bits))) K
  | .shr => fi k (a.fdiv (2 ^ (min m k.bits))) K
  | _ => .fail
noncomputable def bsh (op : BinOp) (x y : V) (K : V → ROut) : ROut := vi x fun k a => vi y fun _ b => nIx b fun m => sh op k a m K
noncomputable def sa (op : BinOp) (a b : SB) (K : V → ROut) : ROut :=
  match op with
  | .eql => K (.b (SB.eq a b))
  | .neq => K (.b (not (SB.eq a b)))
  | op => o1 (strV op a b) K
noncomputable def bs (op : BinOp) (x y : V) (K : V → ROut) : ROut := vs x fun a => vs y fun b => sa op a b K
noncomputable def bn (P : Program) (op : BinOp) (ty : TypeId) (x y : V) (K : V → ROut) : ROut := o1 (binV P op ty x y) K
noncomputable def pk (c a b : V) (K : V → ROut) : ROut := vb c fun q => K (cond q a b)
noncomputable def ld (x : V) (h : Heap) (K : V → ROut) : ROut := vPtr x fun b o => bCells (h.get b) fun n _ tr _ => ifB (Nat.blt o n) (Option.rec (motive := fun _ => ROut) .fail K (tr.get o)) .fail
noncomputable def ldn (sz : Nat) (x : V) (h : Heap) (K : V → ROut) : ROut := vPtr x fun b o => bCells (h.get b) fun n _ tr _ => ifB (Nat.ble (o + sz) n) (Option.rec (motive := fun _ => ROut) .fail (fun l => K (.agg l)) (readN tr o sz)) .fail
noncomputable def st (sz : Nat) (a x : V) (h : Heap) (K : Heap → ROut) : ROut :=
  vPtr a fun b o => bCells (h.get b) fun n es tr own => ifB own (ifB (and (x.cells.all V.sc) (and (Nat.beq x.cells.length sz) (Nat.ble (o + sz) n))) (fh (h.upd b (.cells n es (wr tr o x.cells) true)) K) .fail) .fail
noncomputable def fa (off : Nat) (x : V) (K : V → ROut) : ROut := vPtr x fun b o => forceN (o + off) fun o => K (.p (some (b, o)))
noncomputable def ix (sz : Nat) (x i : V) (K : V → ROut) : ROut := vSl x fun b o len => vi i fun _ n => nIx n fun m => ifB (Nat.blt m len) (forceN (o + m * sz) fun o => K (.p (some (b, o)))) .fail
noncomputable def ixa (n sz : Nat) (x i : V) (K : V → ROut) : ROut := vPtr x fun b o => vi i fun _ j => nIx j fun m => ifB (Nat.blt m n) (forceN (o + m * sz) fun o => K (.p (some (b, o)))) .fail
noncomputable def nc (x : V) (K : V → ROut) : ROut := vPtr x fun b o => K (.p (some (b, o)))
noncomputable def lns (x : V) (K : V → ROut) : ROut := vl x fun n => K (.i .i64 (.ofNat n))
noncomputable def lnt (x : V) (K : V → ROut) : ROut := vs x fun s => K (.i .i64 (.ofNat s.n))
noncomputable def cv (k : IntKind) (x : V) (K : V → ROut) : ROut := vi x fun _ n => fi k (wrapI k n) K
noncomputable def al (l : List V) (h : Heap) (K : Kt) : ROut := ifB (l.all V.sc) (fh (h.new (.cells l.length 1 (wr .e 0 l) true)) fun h' => K (.p (some (h.next, 0))) h') .fail
noncomputable def zl (P : Program) (t : TypeId) : List V := match zeroV P t with
  | some z => cond z.nu z.cells [.und]
  | none => [.und]
noncomputable def cf1 (cf : CallF) (f : V) (args : List V) (h : Heap) (K : Kt) : ROut := vf f fun g a b => cl (cf g (a ++ (args ++ b)) h) K
noncomputable def pn (x : V) (h : Heap) : ROut := V.casesOn (motive_1 := fun _ => ROut) x .fail (fun _ => .fail) (fun _ _ => .fail) (fun _ => .fail)
    (fun _ => .fail) (fun _ _ _ _ => .fail) (fun _ => .fail) (fun _ _ _ => .fail) .fail (fun t v => .pan (.ifc t v) h) .fail (fun _ => .fail) (fun _ => .fail)

noncomputable def opA (P : Program) (ng : Nat) (o : Oper) (cf : CallF) (t : PT V) (h : Heap) (K : Kt) : ROut :=
  match o.op with
  | .move x => K ((opd ng x).get t) h
  | .assign x => K ((opd ng x).get t) h
  | .pick c a b => pk ((opd ng c).get t) ((opd ng a).get t) ((opd ng b).get t) fun v => K v h
  | .load ty a => match P.underlying ty with
    | some d => Bool.rec (motive := fun _ => ROut) (ld ((opd ng a).get t) h fun v => K v h) (match szOf P ty with
      | some sz => ldn sz ((opd ng a).get t) h fun v => K v h
      | none => .fail) (aggD d)
    | none => .fail
  | .store ty a x => match szOf P ty with
    | some sz => st sz ((opd ng a).get t) ((opd ng x).get t) h fun h => K .und h
    | none => .fail
  | .nilCheck x => match P.underlying o.type with
    | some (.func _ _ _) => o2 (stepV P o (ev ng t) h) K
    | _ => nc ((opd ng x).get t) fun v => K v h
  | .binOp op ty x y _ => match P.underlying ty with
    | some (.int _) => (match op with
      | .shl => bsh .shl ((opd ng x).get t) ((opd ng y).get t) fun v => K v h
      | .shr => bsh .shr ((opd ng x).get t) ((opd ng y).get t) fun v => K v h
      | op => bi op ((opd ng x).get t) ((opd ng y).get t) fun v => K v h)
    | some .string => bs op ((opd ng x).get t) ((opd ng y).get t) fun v => K v h
    | _ => bn P op ty ((opd ng x).get t) ((opd ng y).get t) fun v => K v h
  | .fieldAddr s x i => (match P.underlying s with
    | some (.struct fields) => (match fields[i]? with
      | some f => (match szOf P f.type with
        | some (_ + 1) => fa f.offset ((opd ng x).get t) fun v => K v h
        | _ => .fail)
      | none => .fail)
    | _ => .fail)
  | .indexAddr ty x i => (match P.underlying ty with
    | some (.slice elem) => (match szOf P elem with
      | some sz => ix sz ((opd ng x).get t) ((opd ng i).get t) fun v => K v h
      | none => .fail)
    | some (.array n elem) => (match szOf P elem with
      | some sz => ixa n sz ((opd ng x).get t) ((opd ng i).get t) fun v => K v h
      | none => .fail)
    | _ => .fail)
  | .call ⟨.value (.func g), args, _⟩ => cl (cf g (argsL ng t args.toList) h) K
  | .call ⟨.value f, args, _⟩ => cf1 cf ((opd ng f).get t) (argsL ng t args.toList) h K
  | .call ⟨.builtin .len, ⟨[x]⟩, ⟨[ty]⟩⟩ => (match P.underlying ty with
    | some (.slice _) => lns ((opd ng x).get t) fun v => K v h
    | some .string => lnt ((opd ng x).get t) fun v => K v h
    | _ => o1 (lenV P ty ((opd ng x).get t) h) fun v => K v h)
  | .call ⟨.builtin .append, ⟨[s, x]⟩, ⟨[ts, tx]⟩⟩ => o2 (appendV P ts tx ((opd ng s).get t) ((opd ng x).get t) h) K
  | .call ⟨.builtin .copy, ⟨[d, s]⟩, ⟨[td, _]⟩⟩ => o2 (copyV P td ((opd ng d).get t) ((opd ng s).get t) h) K
  | .call ⟨.builtin .delete, ⟨[m, k]⟩, ⟨[tm, _]⟩⟩ => oh (deleteV P tm ((opd ng m).get t) ((opd ng k).get t) h) fun h => K (.tup []) h
  | .call ⟨.builtin .min, args, _⟩ => o1 (minmaxV ilt (argsL ng t args.toList)) fun v => K v h
  | .call ⟨.builtin .max, args, _⟩ => o1 (minmaxV (fun y x => ilt x y) (argsL ng t args.toList)) fun v => K v h
  | .unOp op _ x => o1 (unV op ((opd ng x).get t)) fun v => K v h
  | .convert s d x => (match P.underlying s, P.underlying d with
    | some _, some (.int k) => cv k ((opd ng x).get t) fun v => K v h
    | _, _ => o2 (convV P s d ((opd ng x).get t) h) K)
  | .extract x i => o1 (extractV ((opd ng x).get t) i) fun v => K v h
  | .index ty x i => o1 (indexV P ty ((opd ng x).get t) ((opd ng i).get t)) fun v => K v h
  | .slice ty x lo hi mx => o2 (sliceV P ty ((opd ng x).get t) (lo.map fun q => (opd ng q).get t) (hi.map fun q => (opd ng q).get t) (mx.map fun q => (opd ng q).get t) h) K
  | .alloc e => al (zl P e) h K
  | .box _ x => al ((opd ng x).get t).cells h K
  | .build ty parts => o1 (buildV P ty (parts.toList.map fun p => (p.1, (opd ng p.2).get t))) fun v => K v h
  | .buildSlice ty len parts => o2 (buildSliceV P ty len (parts.toList.map fun p => (p.1, (opd ng p.2).get t)) h) K
  | .field ty x f => o1 (fieldV P ty ((opd ng x).get t) f) fun v => K v h
  | .makeInterface ty x => o1 (makeIfaceV P ty ((opd ng x).get t)) fun v => K v h
  | .makeFunc fn fs cs => K (.f fn (fs.toList.map fun q => (opd ng q).get t) (cs.toList.map fun q => (opd ng q).get t)) h
  | .makeMap ty r => o2 (makeMapV P ty (r.map fun q => (opd ng q).get t) h) K
  | .makeSlice ty l c => o2 (makeSliceV P ty ((opd ng l).get t) ((opd ng c).get t) h) K
  | .lookup ty m k ok => o1 (lookupV P ty ((opd ng m).get t) ((opd ng k).get t) ok h) fun v => K v h
  | .mapUpdate ty m k x => oh (mapUpdateV P ty ((opd ng m).get t) ((opd ng k).get t) ((opd ng x).get t) h) fun h => K .und h
  | .insert ty m k x => oh (mapUpdateV P ty ((opd ng m).get t) ((opd ng k).get t) ((opd ng x).get t) h) fun h => K .und h
  | .range ty x => o2 (rangeV P ty ((opd ng x).get t) h) K
  | .next it s => o2 (nextV ((opd ng it).get t) s h) K
  | .panic x => pn ((opd ng x).get t) h
  | _ => .fail
end Go.Ab
