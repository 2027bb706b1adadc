/-
  An abstract interpreter of the model's code, part 20: code, calls, and that they are right. Conditions: none.
-/
import Derived.Test.YtednpcncjiaahaaAb19
set_option linter.unusedVariables false
set_option linter.unusedSimpArgs false
namespace Go.Ab
open Go

inductive Ex where
  | norm (t : PT V) (h : Heap)
  | exit (id : Nat) (t : PT V) (h : Heap)
  | ret (t : PT V) (h : Heap)
  | pan (v : V) (h : Heap)
  | fail
def ROut.ex : ROut → Ex
  | .ok t h => .norm t h
  | .pan v h => .pan v h
  | .fail => .fail
def Ex.heap : Ex → Option Heap
  | .norm _ h => some h
  | .exit _ _ h => some h
  | .ret _ h => some h
  | .pan _ h => some h
  | .fail => none
def Ex.next (r : Ex) : Nat :=
  match r.heap with
  | some h => h.next
  | none => 0

/-- rounds of a loop -/
noncomputable def loopR (f : PT V → Heap → Ex) (lf : Nat) : PT V → Heap → Ex :=
  Nat.rec (motive := fun _ => PT V → Heap → Ex) (fun _ _ => .fail) (fun _ ih t h => match f t h with
    | .norm t' h' => ih t' h'
    | r => r) lf
def blockX (id : Nat) : Ex → Ex
  | .exit i t h => cond (Nat.beq i id) (.norm t h) (.exit i t h)
  | r => r

section
variable (P : Program) (callF : CallF) (ng nt lf : Nat)
noncomputable def exC (c : Code) : PT V → Heap → Ex :=
  Code.rec (motive := fun _ => PT V → Heap → Ex)
    (fun t h => .norm t h)
    (fun _ ops draw t h => (cond draw (regD P callF ng nt ops t h) (seqL P callF ng nt ops ops.toList t h)).ex)
    (fun _ _ iha ihb t h => match iha t h with
      | .norm t' h' => ihb t' h'
      | r => r)
    (fun c _ _ iha ihb t h => match ev ng t c with
      | .b x => cond x (iha t h) (ihb t h)
      | _ => .fail)
    (fun id _ ih t h => blockX id (ih t h))
    (fun _ ih t h => loopR ih lf t h)
    (fun _ _ _ _ _ _ _ _ => .fail)
    (fun id t h => .exit id t h)
    (fun _ _ _ _ => .fail)
    (fun _ _ _ => .fail)
    (fun _ _ _ => .fail)
    (fun t h => .ret t h)
    (fun _ _ _ => .fail) c
end

section
variable {P : Program} {callF : CallF} {ng nt lf : Nat}
theorem exC_skip (t : PT V) (h : Heap) : exC P callF ng nt lf .skip t h = .norm t h := rfl
theorem exC_region (id : Nat) (ops : Array Oper) (draw : Bool) (t : PT V) (h : Heap) : exC P callF ng nt lf (.region id ops draw) t h = (cond draw (regD P callF ng nt ops t h) (seqL P callF ng nt ops ops.toList t h)).ex := rfl
theorem exC_seq (x y : Code) (t : PT V) (h : Heap) : exC P callF ng nt lf (.seq x y) t h = (match exC P callF ng nt lf x t h with | .norm t' h' => exC P callF ng nt lf y t' h' | r => r) := rfl
theorem exC_cond (c : Operand) (x y : Code) (t : PT V) (h : Heap) : exC P callF ng nt lf (.cond c x y) t h = (match ev ng t c with | .b q => cond q (exC P callF ng nt lf x t h) (exC P callF ng nt lf y t h) | _ => .fail) := rfl
theorem exC_block (id : Nat) (c : Code) (t : PT V) (h : Heap) : exC P callF ng nt lf (.block id c) t h = blockX id (exC P callF ng nt lf c t h) := rfl
theorem exC_loop (c : Code) (t : PT V) (h : Heap) : exC P callF ng nt lf (.loop c) t h = loopR (exC P callF ng nt lf c) lf t h := rfl
theorem loopR_zero (f : PT V → Heap → Ex) (t : PT V) (h : Heap) : loopR f 0 t h = .fail := rfl
theorem loopR_succ (f : PT V → Heap → Ex) (n : Nat) (t : PT V) (h : Heap) : loopR f (n + 1) t h = (match f t h with | .norm t' h' => loopR f n t' h' | r => r) := rfl

def Ex.ExtOf (r : Ex) (h : Heap) : Prop := ∀ h', r.heap = some h' → ∃ l, Ext h h' l
theorem Ex.ExtOf.trans {r : Ex} {h h1 : Heap} {l : List Nat} (e : Ext h h1 l) (x : r.ExtOf h1) : r.ExtOf h := fun h' hh => let ⟨_, k⟩ := x h' hh; ⟨_, e.trans k⟩
theorem Ex.ExtOf.fail (h : Heap) : Ex.fail.ExtOf h := fun _ hh => by cases hh
theorem loopR_ext {f : PT V → Heap → Ex} (hf : ∀ t h, (f t h).ExtOf h) : ∀ (n : Nat) (t : PT V) (h : Heap), (loopR f n t h).ExtOf h
  | 0, t, h => Ex.ExtOf.fail h
  | n + 1, t, h => by
    rw [loopR_succ]
    have h1 := hf t h
    cases hr : f t h with
    | norm t' h' =>
      rw [hr] at h1
      obtain ⟨l, hl⟩ := h1 h' rfl
      exact Ex.ExtOf.trans hl (loopR_ext hf n t' h')
    | _ => rw [hr] at h1; exact h1
theorem exC_ext (hc : CallOk P ng callF) (he : CallExt callF) : ∀ (c : Code) (t : PT V) (h : Heap), (exC P callF ng nt lf c t h).ExtOf h := by
  intro c
  induction c with
  | skip => intro t h h' e; cases e; exact ⟨_, Ext.refl h⟩
  | region id ops draw =>
    intro t h h' e
    rw [exC_region] at e
    cases draw with
    | true =>
      simp only [cond_true] at e
      cases hr : regD P callF ng nt ops t h with
      | ok t1 h1 => rw [hr] at e; cases e; exact regD_ext he hc hr
      | pan v h1 =>
        exfalso
        unfold regD at hr
        split at hr
        · rename_i t2 h2 its _
          cases hq : chkD P ops its 0 <;> rw [hq] at hr <;> cases hr
        · cases hr
      | fail => rw [hr] at e; cases e
    | false =>
      simp only [cond_false] at e
      cases hr : seqL P callF ng nt ops ops.toList t h with
      | ok t1 h1 => rw [hr] at e; cases e; exact seqL_ext he _ t h _ (.inl ⟨_, hr⟩)
      | pan v h1 => rw [hr] at e; cases e; exact seqL_ext he _ t h _ (.inr ⟨_, hr⟩)
      | fail => rw [hr] at e; cases e
  | seq x y ihx ihy =>
    intro t h
    rw [exC_seq]
    have h1 := ihx t h
    cases hr : exC P callF ng nt lf x t h with
    | norm t' h' =>
      rw [hr] at h1
      obtain ⟨l, hl⟩ := h1 h' rfl
      exact Ex.ExtOf.trans hl (ihy t' h')
    | _ => rw [hr] at h1; exact h1
  | cond c x y ihx ihy =>
    intro t h
    rw [exC_cond]
    cases ev ng t c <;> try exact Ex.ExtOf.fail h
    rename_i q
    cases q
    · exact ihy t h
    · exact ihx t h
  | block id c ih =>
    intro t h
    rw [exC_block]
    have h1 := ih t h
    cases hr : exC P callF ng nt lf c t h with
    | exit i t' h' =>
      rw [hr] at h1
      intro h2 e
      refine h1 h2 ?_
      unfold blockX at e
      simp only at e
      cases hq : Nat.beq i id <;> rw [hq] at e <;> exact e
    | _ => rw [hr] at h1; exact h1
  | loop c ih => intro t h; rw [exC_loop]; exact loopR_ext ih lf t h
  | rangeFunc f ps x y _ _ => intro t h; exact Ex.ExtOf.fail h
  | exit id => intro t h h' e; cases e; exact ⟨_, Ext.refl h⟩
  | scope c _ => intro t h; exact Ex.ExtOf.fail h
  | label l => intro t h; exact Ex.ExtOf.fail h
  | goto l => intro t h; exact Ex.ExtOf.fail h
  | ret => intro t h h' e; cases e; exact ⟨_, Ext.refl h⟩
  | refuse s => intro t h; exact Ex.ExtOf.fail h

/-- what is to be shown of an end -/
def ExQ (nt : Nat) (r : Ex) (h : Heap) (φ : Map) (w : World) (Q : Exit → Act → World → Prop) : Prop :=
  match r with
  | .norm t' h' => ∀ a' w' φ' l, TR φ' nt t' a'.tmps → a'.defers = [] → Ext h h' l → Post φ h.get h h' l φ' w w' → Q .normal a' w'
  | .exit id t' h' => ∀ a' w' φ' l, TR φ' nt t' a'.tmps → a'.defers = [] → Ext h h' l → Post φ h.get h h' l φ' w w' → Q (.exit id) a' w'
  | .ret t' h' => ∀ a' w' φ' l, TR φ' nt t' a'.tmps → a'.defers = [] → Ext h h' l → Post φ h.get h h' l φ' w w' → Q .ret a' w'
  | .pan v h' => ∀ a' v' w' φ' l, a'.tmps.size = nt → a'.defers = [] → RV φ' v v' → Ext h h' l → Post φ h.get h h' l φ' w w' → Q (.panic [{ v := v', recovered := false }]) a' w'
  | .fail => False
theorem ExQ.trans {r : Ex} {h h1 : Heap} {φ φ1 : Map} {w w1 : World} {Q : Exit → Act → World → Prop} {l : List Nat} (e : Ext h h1 l) (p : Post φ h.get h h1 l φ1 w w1) (q : ExQ nt r h φ w Q) : ExQ nt r h1 φ1 w1 Q := by
  cases r with
  | norm t' h' => exact fun a' w' φ' l' k1 k2 k3 k4 => q a' w' φ' (l' ++ l) k1 k2 (e.trans k3) (p.trans e k3 k4)
  | exit id t' h' => exact fun a' w' φ' l' k1 k2 k3 k4 => q a' w' φ' (l' ++ l) k1 k2 (e.trans k3) (p.trans e k3 k4)
  | ret t' h' => exact fun a' w' φ' l' k1 k2 k3 k4 => q a' w' φ' (l' ++ l) k1 k2 (e.trans k3) (p.trans e k3 k4)
  | pan v h' => exact fun a' v' w' φ' l' k0 k1 k2 k3 k4 => q a' v' w' φ' (l' ++ l) k0 k1 k2 (e.trans k3) (p.trans e k3 k4)
  | fail => exact q
theorem ExQ.mono {r : Ex} {h : Heap} {φ : Map} {w : World} {Q Q' : Exit → Act → World → Prop} (q : ExQ nt r h φ w Q) (hq : ∀ e a w, Q e a w → Q' e a w) : ExQ nt r h φ w Q' := by
  cases r with
  | norm t' h' => exact fun a' w' φ' l' k1 k2 k3 k4 => hq _ _ _ (q a' w' φ' l' k1 k2 k3 k4)
  | exit id t' h' => exact fun a' w' φ' l' k1 k2 k3 k4 => hq _ _ _ (q a' w' φ' l' k1 k2 k3 k4)
  | ret t' h' => exact fun a' w' φ' l' k1 k2 k3 k4 => hq _ _ _ (q a' w' φ' l' k1 k2 k3 k4)
  | pan v h' => exact fun a' v' w' φ' l' k0 k1 k2 k3 k4 => hq _ _ _ (q a' v' w' φ' l' k0 k1 k2 k3 k4)
  | fail => exact q

/-- where a stretch begins -/
structure St (ng nt : Nat) (r : Ex) (t : PT V) (h : Heap) (φ : Map) (w : World) (a : Act) (Q : Exit → Act → World → Prop) : Prop where
  hr : HR φ h.get w
  fr : Fresh φ h.next (r.next + 1)
  glob : Glob ng φ
  tr : TR φ nt t a.tmps
  defers : a.defers = []
  q : ExQ nt r h φ w Q

theorem wp_loop_n {c : Code} {Q : Exit → Act → World → Prop} (I : Nat → Act → World → Prop) (zero : ∀ a w, ¬ I 0 a w) (round : ∀ n a w, I (n + 1) a w → c.wp P (Exit.then (I n) Q) a w) {n : Nat} {a : Act} {w : World} (h0 : I n a w) : (Code.loop c).wp P Q a w := by
  intro b k cs
  have key : ∀ n a w, I n a w → ∃ e a' w', Q e a' w' ∧ Arrives P (lone (b.at a (.code c :: .inLoop c :: k)) cs w) b k cs e a' w' := by
    intro n
    induction n with
    | zero => intro a w h; exact absurd h (zero a w)
    | succ n ih =>
      intro a w hI
      obtain ⟨e, a₁, w₁, hq, harr⟩ := round n a w hI b (.inLoop c :: k) cs
      cases e with
      | normal =>
        obtain ⟨e₂, a₂, w₂, hq₂, harr₂⟩ := ih a₁ w₁ hq
        exact ⟨e₂, a₂, w₂, hq₂, .of_steps (Steps.trans harr (.one step_inLoop)) harr₂⟩
      | exit id => exact ⟨_, a₁, w₁, hq, .pass (x := .inLoop c) rfl (fun _ _ => .inl (by simp)) harr⟩
      | goto l => exact ⟨_, a₁, w₁, hq, .pass (x := .inLoop c) rfl (fun _ _ => .inl (by simp)) harr⟩
      | ret => exact ⟨_, a₁, w₁, hq, .pass (x := .inLoop c) rfl (fun _ _ => .inl (by simp)) harr⟩
      | panic ch => exact ⟨_, a₁, w₁, hq, .pass (x := .inLoop c) rfl (fun _ _ => .inl (by simp)) harr⟩
      | outgrown => exact ⟨_, a₁, w₁, hq, .pass (x := .inLoop c) rfl (fun _ _ => .inl (by simp)) harr⟩
  obtain ⟨e, a', w', hq, harr⟩ := key _ a w h0
  exact ⟨e, a', w', hq, .of_steps (.one step_loop) harr⟩

theorem Ex.next_le {r : Ex} {h : Heap} (x : r.ExtOf h) (hf : r ≠ .fail) : h.next ≤ r.next := by
  cases r with
  | fail => exact absurd rfl hf
  | norm t h' => exact (x h' rfl).choose_spec.next
  | exit i t h' => exact (x h' rfl).choose_spec.next
  | ret t h' => exact (x h' rfl).choose_spec.next
  | pan v h' => exact (x h' rfl).choose_spec.next
theorem ExQ.nf {r : Ex} {h : Heap} {φ : Map} {w : World} {Q : Exit → Act → World → Prop} (q : ExQ nt r h φ w Q) : r ≠ .fail := fun e => by subst e; exact q

/-- one stretch behind another one -/
theorem St.seq {x : Code} {f : PT V → Heap → Ex} {t : PT V} {h : Heap} {φ : Map} {w : World} {a : Act} {Q : Exit → Act → World → Prop} {N : Act → World → Prop} (hfx : ∀ t h, (f t h).ExtOf h) (hxx : (exC P callF ng nt lf x t h).ExtOf h)
    (s : St ng nt (match exC P callF ng nt lf x t h with | .norm t' h' => f t' h' | r => r) t h φ w a Q)
    (hx : St ng nt (exC P callF ng nt lf x t h) t h φ w a (Exit.then N Q) → x.wp P (Exit.then N Q) a w)
    (hN : ∀ t' h' φ' w' a', St ng nt (f t' h') t' h' φ' w' a' Q → N a' w') : x.wp P (Exit.then N Q) a w := by
  refine hx ?_
  obtain ⟨hr, fr, hg, ht, hd, hq⟩ := s
  have hnf := hq.nf
  cases hr0 : exC P callF ng nt lf x t h with
  | norm t1 h1 =>
    rw [hr0] at hq fr hnf hxx
    obtain ⟨l0, hl0⟩ := hxx h1 rfl
    have hle := Ex.next_le (hfx t1 h1) hnf
    refine ⟨hr, fr.sub (Nat.le_refl _) (Nat.succ_le_succ hle), hg, ht, hd, ?_⟩
    intro a' w' φ' l k1 k2 k3 k4
    refine hN t1 h1 φ' w' a' ⟨k4.hr' k3, k4.fresh (fr.sub k3.next (Nat.le_refl _)) (Nat.le_refl _), hg.mono k4.le, k1, k2, ExQ.trans k3 k4 hq⟩
  | exit i t1 h1 => rw [hr0] at hq fr; exact ⟨hr, fr, hg, ht, hd, hq⟩
  | ret t1 h1 => rw [hr0] at hq fr; exact ⟨hr, fr, hg, ht, hd, hq⟩
  | pan v h1 => rw [hr0] at hq fr; exact ⟨hr, fr, hg, ht, hd, hq⟩
  | fail => rw [hr0] at hq; exact hq.elim

theorem ex_ok (hc : CallOk P ng callF) (he : CallExt callF) (hm : P.follows .mixedOrders = true) : ∀ (c : Code) (t : PT V) (h : Heap) (φ : Map) (w : World) (a : Act) (Q : Exit → Act → World → Prop), St ng nt (exC P callF ng nt lf c t h) t h φ w a Q → c.wp P Q a w := by
  intro c
  induction c with
  | skip => intro t h φ w a Q ⟨hr, fr, hg, ht, hd, hq⟩; exact wp_skip (hq a w φ [] ht hd (Ext.refl h) (Post.same hr (fun _ _ _ => rfl)))
  | region id ops draw =>
    intro t h φ w a Q ⟨hr, fr, hg, ht, hd, hq⟩
    rw [exC_region] at fr hq
    cases draw with
    | true =>
      simp only [cond_true] at fr hq
      cases hs : regD P callF ng nt ops t h with
      | ok t1 h1 =>
        rw [hs] at fr hq
        exact regD_ok hc he hm hs hr fr hg ht hd hq
      | pan v h1 =>
        exfalso
        unfold regD at hs
        split at hs
        · rename_i t2 h2 its _
          cases hq : chkD P ops its 0 <;> rw [hq] at hs <;> cases hs
        · cases hs
      | fail => rw [hs] at hq; exact hq.elim
    | false =>
      simp only [cond_false] at fr hq
      refine wp_region_list (seq_ok hc (nt := nt) [] ops.toList t h hr ?_ hg ht hd ?_)
      · cases hs : seqL P callF ng nt ops ops.toList t h <;> rw [hs] at fr <;> exact fr
      · cases hs : seqL P callF ng nt ops ops.toList t h <;> rw [hs] at hq <;> exact hq
  | seq x y ihx ihy =>
    intro t h φ w a Q s
    rw [exC_seq] at s
    exact wp_seq (St.seq (exC_ext hc he y) (exC_ext hc he x t h) s (ihx t h φ w a _) fun t' h' φ' w' a' s' => ihy t' h' φ' w' a' Q s')
  | cond c x y ihx ihy =>
    intro t h φ w a Q ⟨hr, fr, hg, ht, hd, hq⟩
    rw [exC_cond] at fr hq
    have hv := ht.ev hg c
    cases hce : ev ng t c <;> rw [hce] at fr hq hv <;> try (exact hq.elim)
    rename_i q
    have hcv : a.eval c = .bool q := by
      generalize a.eval c = z at hv
      cases hv; rfl
    refine wp_cond hcv ?_
    cases q
    · exact ihy t h φ w a Q ⟨hr, fr, hg, ht, hd, hq⟩
    · exact ihx t h φ w a Q ⟨hr, fr, hg, ht, hd, hq⟩
  | block id c ih =>
    intro t h φ w a Q ⟨hr, fr, hg, ht, hd, hq⟩
    rw [exC_block] at fr hq
    refine wp_block (ih t h φ w a _ ⟨hr, ?_, hg, ht, hd, ?_⟩)
    · cases hs : exC P callF ng nt lf c t h with
      | exit i t1 h1 =>
        rw [hs] at fr
        unfold blockX at fr
        simp only at fr
        cases hb : Nat.beq i id <;> rw [hb] at fr <;> exact fr
      | _ => rw [hs] at fr; exact fr
    · cases hs : exC P callF ng nt lf c t h with
      | exit i t1 h1 =>
        rw [hs] at hq
        unfold blockX at hq
        simp only at hq
        cases hb : Nat.beq i id with
        | true =>
          rw [hb] at hq
          have := Nat.eq_of_beq_eq_true hb
          subst this
          intro a' w' φ' l k1 k2 k3 k4
          show (if i = i then Q .normal a' w' else _)
          rw [if_pos rfl]
          exact hq a' w' φ' l k1 k2 k3 k4
        | false =>
          rw [hb] at hq
          have := Nat.ne_of_beq_eq_false hb
          intro a' w' φ' l k1 k2 k3 k4
          show (if i = id then Q .normal a' w' else Q (.exit i) a' w')
          rw [if_neg this]
          exact hq a' w' φ' l k1 k2 k3 k4
      | norm t1 h1 => rw [hs] at hq; exact hq
      | ret t1 h1 => rw [hs] at hq; exact hq
      | pan v h1 => rw [hs] at hq; exact hq
      | fail => rw [hs] at hq; exact hq.elim
  | loop c ih =>
    intro t h φ w a Q s
    rw [exC_loop] at s
    refine wp_loop_n (fun n a w => ∃ t h φ, St ng nt (loopR (exC P callF ng nt lf c) n t h) t h φ w a Q) (fun a w ⟨t, h, φ, s⟩ => s.q) (fun n a w ⟨t, h, φ, s⟩ => ?_) ⟨t, h, φ, s⟩
    rw [loopR_succ] at s
    exact St.seq (loopR_ext (exC_ext hc he c) n) (exC_ext hc he c t h) s (ih t h φ w a _) fun t' h' φ' w' a' s' => ⟨t', h', φ', s'⟩
  | rangeFunc f ps x y _ _ => intro t h φ w a Q s; exact s.q.elim
  | exit id => intro t h φ w a Q ⟨hr, fr, hg, ht, hd, hq⟩; exact wp_exit (hq a w φ [] ht hd (Ext.refl h) (Post.same hr (fun _ _ _ => rfl)))
  | scope c _ => intro t h φ w a Q s; exact s.q.elim
  | label l => intro t h φ w a Q s; exact s.q.elim
  | goto l => intro t h φ w a Q s; exact s.q.elim
  | ret => intro t h φ w a Q ⟨hr, fr, hg, ht, hd, hq⟩; exact wp_ret (hq a w φ [] ht hd (Ext.refl h) (Post.same hr (fun _ _ _ => rfl)))
  | refuse s => intro t h φ w a Q s; exact s.q.elim
end
end Go.Ab
