/-
  An abstract interpreter of the model's code, part 15: an operation looks at its operands alone. Conditions: none.
-/
import Derived.Test.YtednpcncjiaahaaAb14
set_option linter.unusedVariables false
set_option linter.unusedSimpArgs false
namespace Go.Ab
open Go

theorem stepV_congr {P : Program} {ρ ρ' : Operand → V} (o : Oper) (h : ∀ x ∈ o.op.operands, ρ x = ρ' x) (H : Heap) : stepV P o ρ H = stepV P o ρ' H := by
  obtain ⟨dst, op, type, pos, after, guard⟩ := o
  have pairs : ∀ ps : Array (Nat × Operand), (∀ x ∈ ps.map (·.2), ρ x = ρ' x) → (ps.toList.map fun p => (p.1, ρ p.2)) = (ps.toList.map fun p => (p.1, ρ' p.2)) := fun ps hp =>
    List.map_congr_left fun p hm => by
      obtain ⟨i, x⟩ := p
      simp only [hp x (Array.mem_map.2 ⟨(i, x), by simpa using hm, rfl⟩)]
  have lists : ∀ ps : Array Operand, (∀ x ∈ ps, ρ x = ρ' x) → ps.toList.map ρ = ps.toList.map ρ' := fun ps hp =>
    List.map_congr_left fun x hx => hp x (by simpa using hx)
  cases op <;> simp only [Op.operands] at h <;> simp only [stepV]
  case build t ps => rw [pairs ps fun x hx => h x (by simpa using hx)]
  case buildSlice t n ps => rw [pairs ps fun x hx => h x (by simpa using hx)]
  case makeFunc fn first captured => rw [lists first fun x hx => h x (by simp [hx]), lists captured fun x hx => h x (by simp [hx])]
  case call c =>
    obtain ⟨callee, args, argTypes⟩ := c
    cases callee <;> simp only
    case builtin b => rw [lists args fun x hx => h x (by simp [Call.operands, hx])]
  case makeMap t r => cases r <;> simp_all
  case slice t x lo hi mx => cases lo <;> cases hi <;> cases mx <;> simp_all
  all_goals (first | rfl | (simp_all; done))

theorem opX_congr {P : Program} {callF : CallF} {ρ ρ' : Operand → V} (o : Oper) (h : ∀ x ∈ o.op.operands, ρ x = ρ' x) (H : Heap) : opX P callF o ρ H = opX P callF o ρ' H := by
  have hs := stepV_congr (P := P) o h H
  obtain ⟨dst, op, type, pos, after, guard⟩ := o
  unfold opX
  cases op <;> simp only
  case panic x => rw [h x (by simp [Op.operands])]
  case call c =>
    obtain ⟨callee, args, argTypes⟩ := c
    cases callee <;> simp only
    case value f =>
      have e1 : ρ f = ρ' f := h f (by simp [Op.operands, Call.operands])
      have e2 : args.toList.map ρ = args.toList.map ρ' := List.map_congr_left fun x hx => h x (by simp [Op.operands, Call.operands]; right; simpa using hx)
      rw [e1, e2]
    all_goals rw [hs]
  all_goals rw [hs]
theorem opN_congr {P : Program} {callF : CallF} {ρ ρ' : Operand → V} (o : Oper) (h : ∀ x ∈ o.op.operands, ρ x = ρ' x) (H : Heap) : opN P callF o ρ H = opN P callF o ρ' H := by
  unfold opN; rw [opX_congr o h H]
theorem accO_congr {ρ ρ' : Operand → V} (o : Oper) (h : ∀ x ∈ o.op.operands, ρ x = ρ' x) : accO o ρ = accO o ρ' := by
  have e : ((rdO o.op).flatMap fun x => (ρ x).ids) = ((rdO o.op).flatMap fun x => (ρ' x).ids) := by
    rw [List.flatMap_def, List.flatMap_def, List.map_congr_left (fun x hx => by rw [h x (rdO_sub hx)])]
  obtain ⟨dst, op, type, pos, after, guard⟩ := o
  unfold accO
  cases op <;> simp only <;> try (rw [e]; done)

/-! what an operation leaves as it is -/
theorem newV_ext {l : List V} {h : Heap} {r : V × Heap} (e : newV l h = some r) : ∃ k, Ext h r.2 k := by
  unfold newV at e; (try simp only [okc, Bool.cond_eq_ite] at e) <;> (repeat' split at e) <;> first | (cases e; done) | (cases e; first | exact ⟨_, Ext.refl _⟩ | exact ⟨_, Ext.new _ _⟩ | exact ⟨_, Ext.upd _ _ _⟩ | exact ⟨_, (Ext.upd _ _ _).trans (Ext.new _ _)⟩)
theorem storeV_ext {P : Program} {t : TypeId} {v x : V} {h h' : Heap} (e : storeV P t v x h = some h') : ∃ k, Ext h h' k := by
  unfold storeV at e; (try simp only [okc, Bool.cond_eq_ite] at e) <;> (repeat' split at e) <;> first | (cases e; done) | (cases e; first | exact ⟨_, Ext.refl _⟩ | exact ⟨_, Ext.new _ _⟩ | exact ⟨_, Ext.upd _ _ _⟩ | exact ⟨_, (Ext.upd _ _ _).trans (Ext.new _ _)⟩)
theorem sliceV_ext {P : Program} {t : TypeId} {x : V} {a b c : Option V} {h : Heap} {r : V × Heap} (e : sliceV P t x a b c h = some r) : ∃ k, Ext h r.2 k := by
  unfold sliceV at e; (try simp only [okc, Bool.cond_eq_ite] at e) <;> (repeat' split at e) <;> first | (cases e; done) | (cases e; first | exact ⟨_, Ext.refl _⟩ | exact ⟨_, Ext.new _ _⟩ | exact ⟨_, Ext.upd _ _ _⟩ | exact ⟨_, (Ext.upd _ _ _).trans (Ext.new _ _)⟩)
theorem buildSliceV_ext {P : Program} {t : TypeId} {n : Nat} {ps : List (Nat × V)} {h : Heap} {r : V × Heap} (e : buildSliceV P t n ps h = some r) : ∃ k, Ext h r.2 k := by
  unfold buildSliceV newSl at e; (try simp only [okc, Bool.cond_eq_ite] at e) <;> (repeat' split at e) <;> first | (cases e; done) | (cases e; first | exact ⟨_, Ext.refl _⟩ | exact ⟨_, Ext.new _ _⟩ | exact ⟨_, Ext.upd _ _ _⟩ | exact ⟨_, (Ext.upd _ _ _).trans (Ext.new _ _)⟩)
theorem makeSliceV_ext {P : Program} {t : TypeId} {x y : V} {h : Heap} {r : V × Heap} (e : makeSliceV P t x y h = some r) : ∃ k, Ext h r.2 k := by
  unfold makeSliceV at e; (try simp only [okc, Bool.cond_eq_ite] at e) <;> (repeat' split at e) <;> first | (cases e; done) | (cases e; first | exact ⟨_, Ext.refl _⟩ | exact ⟨_, Ext.new _ _⟩ | exact ⟨_, Ext.upd _ _ _⟩ | exact ⟨_, (Ext.upd _ _ _).trans (Ext.new _ _)⟩)
theorem appendV_ext {P : Program} {t tx : TypeId} {x y : V} {h : Heap} {r : V × Heap} (e : appendV P t tx x y h = some r) : ∃ k, Ext h r.2 k := by
  unfold appendV at e; (try simp only [okc, Bool.cond_eq_ite] at e) <;> (repeat' split at e) <;> first | (cases e; done) | (cases e; first | exact ⟨_, Ext.refl _⟩ | exact ⟨_, Ext.new _ _⟩ | exact ⟨_, Ext.upd _ _ _⟩ | exact ⟨_, (Ext.upd _ _ _).trans (Ext.new _ _)⟩)
theorem copyV_ext {P : Program} {t : TypeId} {x y : V} {h : Heap} {r : V × Heap} (e : copyV P t x y h = some r) : ∃ k, Ext h r.2 k := by
  unfold copyV at e
  (repeat' split at e) <;> try (cases e; done)
  · obtain ⟨_, _, rfl⟩ := map_some e; exact ⟨_, Ext.refl _⟩
  all_goals (try simp only [okc, Bool.cond_eq_ite] at e) <;> (repeat' split at e) <;> first | (cases e; done) | (cases e; first | exact ⟨_, Ext.refl _⟩ | exact ⟨_, Ext.new _ _⟩ | exact ⟨_, Ext.upd _ _ _⟩ | exact ⟨_, (Ext.upd _ _ _).trans (Ext.new _ _)⟩)
theorem convV_ext {P : Program} {s d : TypeId} {x : V} {h : Heap} {r : V × Heap} (e : convV P s d x h = some r) : ∃ k, Ext h r.2 k := by
  unfold convV at e
  (repeat' split at e) <;> try (cases e; done)
  all_goals first
    | (cases e; first | exact ⟨_, Ext.refl _⟩ | exact ⟨_, Ext.new _ _⟩)
    | (obtain ⟨_, e⟩ := okc_some e; cases e; done)
    | (obtain ⟨_, e⟩ := okc_some e; obtain ⟨_, _, rfl⟩ := map_some e; exact ⟨_, Ext.refl _⟩)
theorem mapUpdateV_ext {P : Program} {t : TypeId} {m k x : V} {h h' : Heap} (e : mapUpdateV P t m k x h = some h') : ∃ k, Ext h h' k := by
  unfold mapUpdateV at e; (try simp only [okc, Bool.cond_eq_ite] at e) <;> (repeat' split at e) <;> first | (cases e; done) | (cases e; first | exact ⟨_, Ext.refl _⟩ | exact ⟨_, Ext.new _ _⟩ | exact ⟨_, Ext.upd _ _ _⟩ | exact ⟨_, (Ext.upd _ _ _).trans (Ext.new _ _)⟩)
theorem deleteV_ext {P : Program} {t : TypeId} {m k : V} {h h' : Heap} (e : deleteV P t m k h = some h') : ∃ k, Ext h h' k := by
  unfold deleteV at e; (try simp only [okc, Bool.cond_eq_ite] at e) <;> (repeat' split at e) <;> first | (cases e; done) | (cases e; first | exact ⟨_, Ext.refl _⟩ | exact ⟨_, Ext.new _ _⟩ | exact ⟨_, Ext.upd _ _ _⟩ | exact ⟨_, (Ext.upd _ _ _).trans (Ext.new _ _)⟩)
theorem makeMapV_ext {P : Program} {t : TypeId} {x : Option V} {h : Heap} {r : V × Heap} (e : makeMapV P t x h = some r) : ∃ k, Ext h r.2 k := by
  unfold makeMapV at e; (try simp only [okc, Bool.cond_eq_ite] at e) <;> (repeat' split at e) <;> first | (cases e; done) | (cases e; first | exact ⟨_, Ext.refl _⟩ | exact ⟨_, Ext.new _ _⟩ | exact ⟨_, Ext.upd _ _ _⟩ | exact ⟨_, (Ext.upd _ _ _).trans (Ext.new _ _)⟩)
theorem rangeV_ext {P : Program} {t : TypeId} {x : V} {h : Heap} {r : V × Heap} (e : rangeV P t x h = some r) : ∃ k, Ext h r.2 k := by
  unfold rangeV at e; (try simp only [okc, Bool.cond_eq_ite] at e) <;> (repeat' split at e) <;> first | (cases e; done) | (cases e; first | exact ⟨_, Ext.refl _⟩ | exact ⟨_, Ext.new _ _⟩ | exact ⟨_, Ext.upd _ _ _⟩ | exact ⟨_, (Ext.upd _ _ _).trans (Ext.new _ _)⟩)
theorem nextV_ext {x : V} {s : Bool} {h : Heap} {r : V × Heap} (e : nextV x s h = some r) : ∃ k, Ext h r.2 k := by
  unfold nextV at e; (try simp only [okc, Bool.cond_eq_ite] at e) <;> (repeat' split at e) <;> first | (cases e; done) | (cases e; first | exact ⟨_, Ext.refl _⟩ | exact ⟨_, Ext.new _ _⟩ | exact ⟨_, Ext.upd _ _ _⟩ | exact ⟨_, (Ext.upd _ _ _).trans (Ext.new _ _)⟩)
theorem builtinV_ext {P : Program} {b : Builtin} {ts : List TypeId} {args : List V} {h : Heap} {r : V × Heap} (e : builtinV P b ts args h = some r) : ∃ k, Ext h r.2 k := by
  unfold builtinV at e
  split at e
  · exact appendV_ext e
  · obtain ⟨_, _, rfl⟩ := map_some e; exact ⟨_, Ext.refl _⟩
  · exact copyV_ext e
  · obtain ⟨_, e1, rfl⟩ := map_some e; exact deleteV_ext e1
  · obtain ⟨_, _, rfl⟩ := map_some e; exact ⟨_, Ext.refl _⟩
  · obtain ⟨_, _, rfl⟩ := map_some e; exact ⟨_, Ext.refl _⟩
  · cases e
theorem stepV_ext {P : Program} {o : Oper} {ρ : Operand → V} {h : Heap} {r : V × Heap} (e : stepV P o ρ h = some r) : ∃ k, Ext h r.2 k := by
  obtain ⟨dst, op, type, pos, after, guard⟩ := o
  simp only [stepV] at e
  cases op <;> simp only at e <;> try (cases e; done)
  all_goals first
    | (cases e; exact ⟨_, Ext.refl _⟩)
    | (obtain ⟨_, _, rfl⟩ := map_some e; exact ⟨_, Ext.refl _⟩)
    | exact sliceV_ext e | exact buildSliceV_ext e | exact makeSliceV_ext e | exact convV_ext e | exact makeMapV_ext e | exact rangeV_ext e | exact nextV_ext e
    | (obtain ⟨_, e1, rfl⟩ := map_some e; first | exact storeV_ext e1 | exact mapUpdateV_ext e1)
    | exact newV_ext (okc_some e).2
    | ((repeat' split at e) <;> first | (cases e; done) | (cases e; exact ⟨_, Ext.refl _⟩) | exact builtinV_ext e | exact newV_ext (okc_some e).2)

def CallExt (callF : CallF) : Prop := ∀ f args h v h', (callF f args h = .val v h' ∨ callF f args h = .pan v h') → ∃ k, Ext h h' k
theorem opX_ext {P : Program} {callF : CallF} (hc : CallExt callF) {o : Oper} {ρ : Operand → V} {h h' : Heap} {v : V} (e : opX P callF o ρ h = .val v h' ∨ opX P callF o ρ h = .pan v h') : ∃ k, Ext h h' k := by
  unfold opX at e
  obtain ⟨dst, op, type, pos, after, guard⟩ := o
  cases op
  case panic x =>
    simp only at e
    cases hq : ρ x <;> rw [hq] at e <;> rcases e with e | e <;> cases e
    exact ⟨_, Ext.refl _⟩
  case call c =>
    obtain ⟨callee, args, argTypes⟩ := c
    cases callee
    case value f =>
      simp only at e
      cases hq : ρ f <;> rw [hq] at e <;> try (rcases e with e | e <;> cases e; done)
      case f fn first cap =>
        cases fn <;> simp only at e <;> try (rcases e with e | e <;> cases e; done)
        case func gg => exact hc _ _ _ _ _ e
    all_goals
      simp only at e
      rcases e with e | e <;> split at e <;> cases e
      rename_i r hr
      exact stepV_ext hr
  all_goals
    simp only at e
    rcases e with e | e <;> split at e <;> cases e
    rename_i r hr
    exact stepV_ext hr
theorem opN_ext {P : Program} {callF : CallF} (hc : CallExt callF) {o : Oper} {ρ : Operand → V} {h h' : Heap} {v : V} (e : opN P callF o ρ h = .val v h' ∨ opN P callF o ρ h = .pan v h') : ∃ k, Ext h h' k :=
  opX_ext hc (e.imp (fun e => (opN_val e).1) fun e => (opN_pan e).1)
theorem seqL_ext {P : Program} {callF : CallF} (hc : CallExt callF) {ng nt : Nat} {ops : Array Oper} : ∀ (l : List Oper) (t : PT V) (h h' : Heap), ((∃ t', seqL P callF ng nt ops l t h = .ok t' h') ∨ ∃ v, seqL P callF ng nt ops l t h = .pan v h') → ∃ k, Ext h h' k
  | [], t, h, h', e => by
    rw [seqL_nil] at e
    rcases e with ⟨_, e⟩ | ⟨_, e⟩ <;> cases e
    exact ⟨_, Ext.refl _⟩
  | o :: l, t, h, h', e => by
    rw [seqL_cons] at e
    cases hw : wantedV nt ops o t with
    | none => rw [hw] at e; rcases e with ⟨_, e⟩ | ⟨_, e⟩ <;> cases e
    | some b =>
      rw [hw] at e
      cases b with
      | false =>
        simp only at e
        cases hp : putV nt t o.dst (.tup []) with
        | none => rw [hp] at e; rcases e with ⟨_, e⟩ | ⟨_, e⟩ <;> cases e
        | some t' => rw [hp] at e; exact seqL_ext hc l t' h h' e
      | true =>
        simp only at e
        cases hx : opN P callF o (ev ng t) h with
        | fail => rw [hx] at e; rcases e with ⟨_, e⟩ | ⟨_, e⟩ <;> cases e
        | pan v h1 =>
          rw [hx] at e
          rcases e with ⟨_, e⟩ | ⟨_, e⟩ <;> cases e
          exact opN_ext hc (.inr hx)
        | val v h1 =>
          rw [hx] at e
          simp only at e
          cases hp : putV nt t o.dst v with
          | none => rw [hp] at e; rcases e with ⟨_, e⟩ | ⟨_, e⟩ <;> cases e
          | some t' =>
            rw [hp] at e
            obtain ⟨k1, h1⟩ := opN_ext hc (.inl hx)
            obtain ⟨k2, h2⟩ := seqL_ext hc l t' _ h' e
            exact ⟨_, h1.trans h2⟩

end Go.Ab
