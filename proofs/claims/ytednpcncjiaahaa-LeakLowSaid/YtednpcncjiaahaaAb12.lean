/-
  An abstract interpreter of the model's code, part 12: one operation. Conditions: none.
-/
import Derived.Test.YtednpcncjiaahaaAb11
set_option linter.unusedVariables false
set_option linter.unusedSimpArgs false
namespace Go.Ab
open Go

noncomputable def ev (ng : Nat) (t : PT V) (x : Operand) : V :=
  match x with
  | .tmp k => (t.get k).getD .und
  | .const v => ofC v
  | .global g => cond (Nat.blt g ng) (.p (some (g, 0))) .und
  | .func f => .f (.func f) [] []

noncomputable def builtinV (P : Program) (b : Builtin) (ts : List TypeId) (args : List V) (h : Heap) : Option (V × Heap) :=
  match b, ts, args with
  | .append, [t, tx], [s, x] => appendV P t tx s x h
  | .len, [t], [x] => (lenV P t x h).map fun v => (v, h)
  | .copy, [t, _], [d, s] => copyV P t d s h
  | .delete, [t, _], [m, k] => (deleteV P t m k h).map fun h' => (.tup [], h')
  | .min, _, l => (minmaxV ilt l).map fun v => (v, h)
  | .max, _, l => (minmaxV (fun y x => ilt x y) l).map fun v => (v, h)
  | _, _, _ => none

noncomputable def stepV (P : Program) (o : Oper) (ρ : Operand → V) (h : Heap) : Option (V × Heap) :=
  match o.op with
  | .move x => some (ρ x, h)
  | .assign x => some (ρ x, h)
  | .pick c a b => match ρ c with
    | .b t => some (cond t (ρ a) (ρ b), h)
    | _ => none
  | .alloc e => match zeroV P e with
    | some z => okc z.nu (newV z.cells h)
    | none => none
  | .box _ x => okc (ρ x).nu (newV (ρ x).cells h)
  | .build t parts => (buildV P t (parts.toList.map fun p => (p.1, ρ p.2))).map fun v => (v, h)
  | .buildSlice t len parts => buildSliceV P t len (parts.toList.map fun p => (p.1, ρ p.2)) h
  | .load t a => (loadV P t (ρ a) h).map fun v => (v, h)
  | .store t a x => (storeV P t (ρ a) (ρ x) h).map fun h' => (.und, h')
  | .nilCheck x => match ρ x with
    | .p (some a) => some (.p (some a), h)
    | .f (.func g) fs cs => some (.f (.func g) fs cs, h)
    | _ => none
  | .binOp op t x y _ => (binV P op t (ρ x) (ρ y)).map fun v => (v, h)
  | .unOp op _ x => (unV op (ρ x)).map fun v => (v, h)
  | .convert s d x => convV P s d (ρ x) h
  | .makeInterface t x => (makeIfaceV P t (ρ x)).map fun v => (v, h)
  | .makeFunc fn fs cs => some (.f fn (fs.toList.map ρ) (cs.toList.map ρ), h)
  | .makeMap t r => makeMapV P t (r.map ρ) h
  | .makeSlice t l c => makeSliceV P t (ρ l) (ρ c) h
  | .slice t x lo hi mx => sliceV P t (ρ x) (lo.map ρ) (hi.map ρ) (mx.map ρ) h
  | .fieldAddr s x f => (fieldAddrV P s (ρ x) f).map fun v => (v, h)
  | .field t x f => (fieldV P t (ρ x) f).map fun v => (v, h)
  | .indexAddr t x i => (indexAddrV P t (ρ x) (ρ i)).map fun v => (v, h)
  | .index t x i => (indexV P t (ρ x) (ρ i)).map fun v => (v, h)
  | .lookup t m k ok => (lookupV P t (ρ m) (ρ k) ok h).map fun v => (v, h)
  | .mapUpdate t m k x => (mapUpdateV P t (ρ m) (ρ k) (ρ x) h).map fun h' => (.und, h')
  | .insert t m k x => (mapUpdateV P t (ρ m) (ρ k) (ρ x) h).map fun h' => (.und, h')
  | .range t x => rangeV P t (ρ x) h
  | .next it s => nextV (ρ it) s h
  | .extract t i => (extractV (ρ t) i).map fun v => (v, h)
  | .call c => match c.callee with
    | .builtin b => builtinV P b c.argTypes.toList (c.args.toList.map ρ) h
    | _ => none
  | _ => none

/-- what a step comes to -/
def StepOk (P : Program) (s : Sem Next) (φ : Map) (g : Nat → Option Blk) (h : Heap) (w : World) (r : V × Heap) : Prop :=
  ∃ out v' w' φ' l, s.run P w = .ok out w' ∧ (out = .value v' ∨ (out = .skip ∧ v' = undef)) ∧ Ext h r.2 l ∧ RV φ' r.1 v' ∧ Post φ g h r.2 l φ' w w'

theorem Snd.step {P : Program} {s : Sem Value} {φ : Map} {g : Nat → Option Blk} {h : Heap} {w : World} {r : V × Heap} (e : Snd P s φ g h w r) {t : Sem Next} (ht : t.run P w = (s.run P w).andThen fun v w' => .ok (.value v) w') : StepOk P t φ g h w r := by
  obtain ⟨v', w', φ', l, h1, h2, h3, h4⟩ := e
  exact ⟨.value v', v', w', φ', l, by rw [ht, h1]; rfl, .inl rfl, h2, h3, h4⟩
theorem pure_step {P : Program} {φ : Map} {g : Nat → Option Blk} {h : Heap} {w : World} {v : V} {v' : Value} (c : Cx φ g h w) (r : RV φ v v') {t : Sem Next} (ht : t.run P w = .ok (.value v') w) : StepOk P t φ g h w (v, h) :=
  ⟨.value v', v', w, φ, [], ht, .inl rfl, Ext.refl h, r, Post.same c.hr c.bey⟩

theorem map_some {α β : Type} {f : α → β} {x : Option α} {r : β} (h : x.map f = some r) : ∃ a, x = some a ∧ r = f a := by
  cases x with
  | none => cases h
  | some a => cases h; exact ⟨a, rfl, rfl⟩
theorem RVs.mapρ {φ : Map} {ρ : Operand → V} {ρ' : Operand → Value} (hr : ∀ x, RV φ (ρ x) (ρ' x)) : ∀ (l : List Operand), RVs φ (l.map ρ) (l.map ρ')
  | [] => RVs.nil φ
  | x :: l => RVs.cons (hr x) (RVs.mapρ hr l)
theorem RParts.mapρ {φ : Map} {ρ : Operand → V} {ρ' : Operand → Value} (hr : ∀ x, RV φ (ρ x) (ρ' x)) (l : List (Nat × Operand)) : RParts φ (l.map fun p => (p.1, ρ p.2)) (l.map fun p => (p.1, ρ' p.2)) := by
  refine ⟨by simp [Function.comp_def], ?_⟩
  simp only [List.map_map, Function.comp_def]
  have := RVs.mapρ hr (l.map (·.2))
  simpa [List.map_map, Function.comp_def] using this
theorem RO.mapρ {φ : Map} {ρ : Operand → V} {ρ' : Operand → Value} (hr : ∀ x, RV φ (ρ x) (ρ' x)) (x : Option Operand) : RO φ (x.map ρ) (x.map ρ') := by
  cases x with
  | none => trivial
  | some x => exact hr x

theorem builtin_ok {P : Program} {b : Builtin} {ts : Array TypeId} {args : List V} {args' : Array Value} {h : Heap} {r : V × Heap} (e : builtinV P b ts.toList args h = some r) {φ : Map} {g : Nat → Option Blk} {w : World} (c : Cx φ g h w)
    (ha : RVs φ args args'.toList) (ag : Ag g h args) (ty : TypeId) (cs : Array Bool) : StepOk P (Go.builtin b ts ty cs args') φ g h w r := by
  unfold builtinV at e
  split at e
  · rename_i t tx s x hts
    obtain ⟨s', r1, e1, hs, h1⟩ := ha.cons_inv
    obtain ⟨x', r2, e2, hx, h2⟩ := h1.cons_inv
    have e3 := h2.nil_inv
    subst e3; subst e2
    have ea : args' = #[s', x'] := by rw [← Array.toList_inj, e1]
    have et : ts = #[t, tx] := by rw [← Array.toList_inj, hts]
    subst ea; subst et
    exact (snd_append (ty := ty) e c hs hx ag).step (by simp [Go.builtin])
  · rename_i t x hts
    obtain ⟨v, e1, rfl⟩ := map_some e
    obtain ⟨x', r2, e2, hx, h2⟩ := ha.cons_inv
    have e3 := h2.nil_inv
    subst e3
    have ea : args' = #[x'] := by rw [← Array.toList_inj, e2]
    have et : ts = #[t] := by rw [← Array.toList_inj, hts]
    subst ea; subst et
    exact (snd_len (ty := ty) e1 c hx ag).step (by simp [Go.builtin])
  · rename_i t t2 d s hts
    obtain ⟨s', r1, e1, hs, h1⟩ := ha.cons_inv
    obtain ⟨x', r2, e2, hx, h2⟩ := h1.cons_inv
    have e3 := h2.nil_inv
    subst e3; subst e2
    have ea : args' = #[s', x'] := by rw [← Array.toList_inj, e1]
    have et : ts = #[t, t2] := by rw [← Array.toList_inj, hts]
    subst ea; subst et
    exact (snd_copy (t2 := t2) (ty := ty) e c hs hx ag).step (by simp [Go.builtin])
  · rename_i t t2 m k hts
    obtain ⟨h', e0, rfl⟩ := map_some e
    obtain ⟨s', r1, e1, hs, h1⟩ := ha.cons_inv
    obtain ⟨x', r2, e2, hx, h2⟩ := h1.cons_inv
    have e3 := h2.nil_inv
    subst e3; subst e2
    have ea : args' = #[s', x'] := by rw [← Array.toList_inj, e1]
    have et : ts = #[t, t2] := by rw [← Array.toList_inj, hts]
    subst ea; subst et
    exact (snd_delete (t2 := t2) (ty := ty) e0 c hs hx (fun v hv => ag v (by simp at hv; simp [hv]))).step (by simp [Go.builtin])
  · obtain ⟨v, e1, rfl⟩ := map_some e
    obtain ⟨r', r1, r2⟩ := run_minV (P := P) e1 ha ts ty w
    exact pure_step c r2 (by simp [Go.builtin]; simp at r1; rw [r1]; rfl)
  · obtain ⟨v, e1, rfl⟩ := map_some e
    obtain ⟨r', r1, r2⟩ := run_maxV (P := P) e1 ha ts ty w
    exact pure_step c r2 (by simp [Go.builtin]; simp at r1; rw [r1]; rfl)
  · cases e

/-- the operands whose blocks an operation asks for -/
def rdO : Op → List Operand
  | .load _ a => [a]
  | .store _ a _ => [a]
  | .convert _ _ x => [x]
  | .slice _ x _ _ _ => [x]
  | .lookup _ m _ _ => [m]
  | .mapUpdate _ m _ _ => [m]
  | .insert _ m _ _ => [m]
  | .next it _ => [it]
  | .call c => c.args.toList
  | _ => []
theorem rdO_sub {op : Op} {x : Operand} (h : x ∈ rdO op) : x ∈ op.operands := by
  cases op <;> simp [rdO] at h <;> simp [Op.operands, h]
  case call c => simp [Call.operands, h]

theorem step_ok {P : Program} {o : Oper} {ρ : Operand → V} {h : Heap} {r : V × Heap} (e : stepV P o ρ h = some r) {φ : Map} {g : Nat → Option Blk} {w : World} (c : Cx φ g h w) {ρ' : Operand → Value} (hr : ∀ x, RV φ (ρ x) (ρ' x))
    (ag : ∀ x ∈ rdO o.op, ∀ a ∈ (ρ x).ids, g a = h.get a) : StepOk P (execOp ρ' o) φ g h w r := by
  have ag1 : ∀ x ∈ rdO o.op, Ag g h [ρ x] := fun x hx v hv a ha => by
    simp at hv; subst hv; exact ag x hx a ha
  obtain ⟨dst, op, type, pos, after, guard⟩ := o
  simp only [stepV] at e
  cases op <;> simp only at e ag1 <;> try (cases e; done)
  case move x => cases e; exact pure_step c (hr x) (by simp [execOp])
  case assign x => cases e; exact pure_step c (hr x) (by simp [execOp])
  case pick x a b =>
    have hx := hr x
    cases hq : ρ x <;> rw [hq] at e hx <;> try (cases e; done)
    case b t =>
      cases e
      cases hx' : ρ' x <;> rw [hx'] at hx <;> cases hx
      cases t with
      | true => exact pure_step c (hr a) (by simp [execOp, hx', asBool])
      | false => exact pure_step c (hr b) (by simp [execOp, hx', asBool])
  case alloc el =>
    cases hz : zeroV P el with
    | none => rw [hz] at e; cases e
    | some z =>
      rw [hz] at e
      obtain ⟨e1, e2⟩ := okc_some e
      obtain ⟨z', z1, z2⟩ := run_zeroValue hz φ w
      have hs := (okc_some e2).1
      obtain ⟨c1, c2⟩ := z2.cellsOf hs
      exact (snd_new (P := P) e2 c el c1 c2).step (by simp [execOp, Instr.alloc, z1, newVar, newRow])
  case box el x =>
    obtain ⟨e1, e2⟩ := okc_some e
    have hs := (okc_some e2).1
    obtain ⟨c1, c2⟩ := (hr x).cellsOf hs
    exact (snd_new (P := P) e2 c el c1 c2).step (by simp [execOp, Instr.box, newVar, newRow])
  case build t parts =>
    obtain ⟨v, e1, rfl⟩ := map_some e
    obtain ⟨r', r1, r2⟩ := run_buildV e1 (parts' := parts.map fun p => (p.1, ρ' p.2)) (by simpa using RParts.mapρ hr parts.toList) w
    exact pure_step c r2 (by simp only [execOp, Sem.run_bind]; rw [r1]; rfl)
  case buildSlice t len parts =>
    exact (snd_buildSlice e c (parts' := parts.map fun p => (p.1, ρ' p.2)) (by simpa using RParts.mapρ hr parts.toList)).step (by simp [execOp])
  case load t a =>
    obtain ⟨v, e1, rfl⟩ := map_some e
    exact (snd_load e1 c (hr a) (ag1 a (by simp [rdO]))).step (by simp [execOp])
  case store t a x =>
    obtain ⟨h', e1, rfl⟩ := map_some e
    obtain ⟨w', l, k1, k2, k3⟩ := snd_store (P := P) e1 c (hr a) (hr x) (ag1 a (by simp [rdO]))
    exact ⟨.skip, undef, w', φ, l, by simp [execOp, k1], .inr ⟨rfl, rfl⟩, k2, .und _, k3⟩
  case nilCheck x =>
    have hx := hr x
    cases hq : ρ x <;> rw [hq] at e hx <;> try (cases e; done)
    case p a =>
      cases a with
      | none => cases e
      | some a =>
        cases e
        cases hx' : ρ' x <;> rw [hx'] at hx <;> cases hx
        rename_i o pl hp
        exact pure_step c (.p _ o pl hp) (by simp [execOp, hx'])
    case f fn fs cs =>
      cases fn <;> try (cases e; done)
      case func gg =>
        cases e
        obtain ⟨fs', cs', hx', h1, h2⟩ := hx.f_inv
        exact pure_step c (RV.f_mk h1 h2) (by simp [execOp, hx'])
  case binOp op t x y yt =>
    obtain ⟨v, e1, rfl⟩ := map_some e
    obtain ⟨r', r1, r2⟩ := run_binV e1 (hr x) (hr y) x y w
    exact pure_step c r2 (by
      have : (execOp ρ' ⟨dst, .binOp op t x y yt, type, pos, after, guard⟩).run P w = ((binOpG op t x y (ρ' x) (ρ' y)).run P w).andThen fun v w' => .ok (.value v) w' := by
        simp only [execOp, binOpG, Sem.run_bind]
        generalize (eqGuard op t x y (ρ' x) (ρ' y)).run P w = z
        cases z <;> rfl
      rw [this, r1]; rfl)
  case unOp op t x =>
    obtain ⟨v, e1, rfl⟩ := map_some e
    obtain ⟨r', r1, r2⟩ := run_unV (P := P) e1 (hr x) w
    exact pure_step c r2 (by simp [execOp, r1])
  case convert s d x => exact (snd_conv e c (hr x) (ag1 x (by simp [rdO]))).step (by simp [execOp])
  case makeInterface t x =>
    obtain ⟨v, e1, rfl⟩ := map_some e
    obtain ⟨r', r1, r2⟩ := run_makeIfaceV (P := P) e1 (hr x) w
    exact pure_step c r2 (by simp [execOp, r1])
  case makeFunc fn fs cs =>
    cases e
    exact pure_step c (RV.f_mk (fs' := fs.map ρ') (cs' := cs.map ρ') (by simpa using RVs.mapρ hr fs.toList) (by simpa using RVs.mapρ hr cs.toList)) (by simp [execOp, Instr.makeFunc])
  case makeMap t x => exact (snd_makeMap e c (RO.mapρ hr x)).step (by simp [execOp])
  case makeSlice t x y => exact (snd_makeSlice e c (hr x) (hr y)).step (by simp [execOp])
  case slice t x lo hi mx => exact (snd_slice e c (hr x) (RO.mapρ hr lo) (RO.mapρ hr hi) (RO.mapρ hr mx) (ag1 x (by simp [rdO]))).step (by simp [execOp])
  case fieldAddr s x f =>
    obtain ⟨v, e1, rfl⟩ := map_some e
    obtain ⟨r', r1, r2⟩ := run_fieldAddrV (P := P) e1 (hr x) w
    exact pure_step c r2 (by simp [execOp, r1])
  case field s x f =>
    obtain ⟨v, e1, rfl⟩ := map_some e
    obtain ⟨r', r1, r2⟩ := run_fieldV (P := P) e1 (hr x) w
    exact pure_step c r2 (by simp [execOp, r1])
  case indexAddr t x i =>
    obtain ⟨v, e1, rfl⟩ := map_some e
    obtain ⟨r', r1, r2⟩ := run_indexAddrV (P := P) e1 (hr x) (hr i) w
    exact pure_step c r2 (by simp [execOp, r1])
  case index t x i =>
    obtain ⟨v, e1, rfl⟩ := map_some e
    obtain ⟨r', r1, r2⟩ := run_indexV (P := P) e1 (hr x) (hr i) w
    exact pure_step c r2 (by simp [execOp, r1])
  case lookup t m k ok =>
    obtain ⟨v, e1, rfl⟩ := map_some e
    exact (snd_lookup e1 c (hr m) (hr k) (ag1 m (by simp [rdO]))).step (by simp [execOp])
  case mapUpdate t m k x =>
    obtain ⟨h', e1, rfl⟩ := map_some e
    obtain ⟨w', l, k1, k2, k3⟩ := snd_mapUpdate (P := P) e1 c (hr m) (hr k) (hr x) (ag1 m (by simp [rdO]))
    exact ⟨.skip, undef, w', φ, l, by simp [execOp, k1], .inr ⟨rfl, rfl⟩, k2, .und _, k3⟩
  case insert t m k x =>
    obtain ⟨h', e1, rfl⟩ := map_some e
    obtain ⟨w', l, k1, k2, k3⟩ := snd_mapUpdate (P := P) e1 c (hr m) (hr k) (hr x) (ag1 m (by simp [rdO]))
    exact ⟨.skip, undef, w', φ, l, by simp [execOp, k1], .inr ⟨rfl, rfl⟩, k2, .und _, k3⟩
  case range t x => exact (snd_range e c (hr x)).step (by simp [execOp])
  case next it s => exact (snd_next e c (hr it) type (ag1 it (by simp [rdO]))).step (by simp [execOp])
  case extract t i =>
    obtain ⟨v, e1, rfl⟩ := map_some e
    obtain ⟨r', r1, r2⟩ := run_extractV (P := P) e1 (hr t) w
    exact pure_step c r2 (by simp [execOp, r1])
  case call k =>
    obtain ⟨callee, args, argTypes⟩ := k
    cases callee <;> simp only at e <;> try (cases e; done)
    case builtin b =>
      have hb := builtin_ok e c (args' := args.map ρ') (by simpa using RVs.mapρ hr args.toList) (fun v hv => by
        obtain ⟨x, hx, rfl⟩ := List.mem_map.1 hv
        exact fun a ha => ag x (by simpa [rdO] using hx) a ha) type (args.map fun | .const _ => true | _ => false)
      obtain ⟨out, v', w', φ', l, k1, k2⟩ := hb
      exact ⟨out, v', w', φ', l, by simp only [execOp, resolve, Sem.run_bind, Sem.run_pure, Result.andThen_ok, invoke]; exact k1, k2⟩

end Go.Ab
