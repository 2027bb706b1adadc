/-
  An abstract interpreter of the model's code, part 14: rows of operations in the order of the text. Conditions: none.
-/
import Derived.Test.YtednpcncjiaahaaAb13
import Derived.BigFrame
set_option linter.unusedVariables false
set_option linter.unusedSimpArgs false
namespace Go.Ab
open Go

theorem mix_self {h h' : Heap} {l : List Nat} (e : Ext h h' l) : mix h.get h h' l = h'.get := by
  funext x
  unfold mix
  by_cases h1 : x ∈ l ∨ h.next ≤ x
  · rw [if_pos h1]
  · rw [if_neg h1]
    rw [not_or] at h1
    exact (e.old x (by omega) h1.1).symm
theorem Post.trans {φ1 φ2 φ3 : Map} {h1 h2 h3 : Heap} {l1 l2 : List Nat} {w1 w2 w3 : World} (p1 : Post φ1 h1.get h1 h2 l1 φ2 w1 w2) (e1 : Ext h1 h2 l1) (e2 : Ext h2 h3 l2) (p2 : Post φ2 h2.get h2 h3 l2 φ3 w2 w3) :
    Post φ1 h1.get h1 h3 (l2 ++ l1) φ3 w1 w3 where
  le := Map.le_trans p1.le p2.le
  new := fun x h4 h5 => by
    by_cases h6 : φ2 x = none
    · have := p2.new x h6 h5; have := e1.next; omega
    · have := p1.new x h4 h6; have := e2.next; omega
  hr := by rw [mix_self (e1.trans e2)]; have := p2.hr; rwa [mix_self e2] at this
  fr := by
    rw [mix_self (e1.trans e2)]
    have f1 := p1.fr
    have f2 := p2.fr
    rw [mix_self e1] at f1
    rw [mix_self e2] at f2
    exact f1.trans f2
  own := fun x B h4 h5 h6 => by
    by_cases h7 : x ∈ l2 ∨ h2.next ≤ x
    · exact p2.own x B h7 h5 h6
    · rw [not_or] at h7
      rw [e2.old x (by omega) h7.1] at h5
      refine p1.own x B ?_ h5 h6
      rcases h4 with h4 | h4
      · rcases List.mem_append.1 h4 with h4 | h4
        · exact absurd h4 h7.1
        · exact .inl h4
      · exact .inr h4
theorem Post.hr' {φ φ' : Map} {h h' : Heap} {l : List Nat} {w w' : World} (e : Ext h h' l) (p : Post φ h.get h h' l φ' w w') : HR φ' h'.get w' := by
  have := p.hr; rwa [mix_self e] at this
theorem Post.fresh {φ φ' : Map} {g : Nat → Option Blk} {h h' : Heap} {l : List Nat} {w w' : World} (p : Post φ g h h' l φ' w w') {lo hi : Nat} (f : Fresh φ lo hi) (hlo : h'.next ≤ lo) : Fresh φ' lo hi := fun x h1 h2 => by
  cases hx : φ' x with
  | none => rfl
  | some pl =>
    have := p.new x (f x h1 h2) (by rw [hx]; simp)
    omega
theorem Fresh.sub {φ : Map} {lo hi lo' hi' : Nat} (f : Fresh φ lo hi) (h1 : lo ≤ lo') (h2 : hi' ≤ hi) : Fresh φ lo' hi' := fun x a b => f x (Nat.le_trans h1 a) (Nat.lt_of_lt_of_le b h2)

/-- works a value out first -/
noncomputable def forceV {α : Type} (v : V) (K : V → α) : α :=
  match v with
  | .i k n => (match n with
    | .ofNat m => forceN m fun m => K (.i k (.ofNat m))
    | .negSucc m => forceN m fun m => K (.i k (.negSucc m)))
  | .b x => (match x with
    | true => K (.b true)
    | false => K (.b false))
  | .s b => forceN b.n fun n => forceN b.v fun v => K (.s ⟨n, v⟩)
  | .p (some (a, o)) => forceN a fun a => forceN o fun o => K (.p (some (a, o)))
  | .sl (some (a, o)) l c x => forceN a fun a => forceN o fun o => forceN l fun l => forceN c fun c => K (.sl (some (a, o)) l c x)
  | v => K v
theorem forceV_eq {α : Type} (v : V) (K : V → α) : forceV v K = K v := by
  unfold forceV
  split
  · split <;> rw [forceN_eq]
  · split <;> rfl
  · rw [forceN_eq, forceN_eq]
  · rw [forceN_eq, forceN_eq]
  · rw [forceN_eq, forceN_eq, forceN_eq, forceN_eq]
  · rfl

/-- an operation, and that blocks have grown in number -/
noncomputable def opN (P : Program) (callF : CallF) (o : Oper) (ρ : Operand → V) (h : Heap) : Out :=
  match opX P callF o ρ h with
  | .val v h' => forceN h'.next fun nx => cond (Nat.ble h.next nx) (.val v { next := nx, t := h'.t, wl := h'.wl }) .fail
  | .pan v h' => cond (Nat.ble h.next h'.next) (.pan v h') .fail
  | .fail => .fail
theorem opN_val {P : Program} {callF : CallF} {o : Oper} {ρ : Operand → V} {h h' : Heap} {v : V} (e : opN P callF o ρ h = .val v h') : opX P callF o ρ h = .val v h' ∧ h.next ≤ h'.next := by
  unfold opN at e
  cases hx : opX P callF o ρ h with
  | val v1 h1 =>
    rw [hx] at e
    simp only [forceN_eq] at e
    cases hb : Nat.ble h.next h1.next with
    | true => rw [hb] at e; cases e; exact ⟨rfl, Nat.le_of_ble_eq_true hb⟩
    | false => rw [hb] at e; cases e
  | pan v1 h1 =>
    rw [hx] at e
    simp only at e
    cases hb : Nat.ble h.next h1.next with
    | true => rw [hb] at e; cases e
    | false => rw [hb] at e; cases e
  | fail => rw [hx] at e; cases e
theorem opN_pan {P : Program} {callF : CallF} {o : Oper} {ρ : Operand → V} {h h' : Heap} {v : V} (e : opN P callF o ρ h = .pan v h') : opX P callF o ρ h = .pan v h' ∧ h.next ≤ h'.next := by
  unfold opN at e
  cases hx : opX P callF o ρ h with
  | val v1 h1 =>
    rw [hx] at e
    simp only [forceN_eq] at e
    cases hb : Nat.ble h.next h1.next with
    | true => rw [hb] at e; cases e
    | false => rw [hb] at e; cases e
  | pan v1 h1 =>
    rw [hx] at e
    simp only at e
    cases hb : Nat.ble h.next h1.next with
    | true => rw [hb] at e; cases e; exact ⟨rfl, Nat.le_of_ble_eq_true hb⟩
    | false => rw [hb] at e; cases e
  | fail => rw [hx] at e; cases e

inductive ROut where
  | ok (t : PT V) (h : Heap)
  | pan (v : V) (h : Heap)
  | fail

noncomputable def seqL (P : Program) (callF : CallF) (ng nt : Nat) (ops : Array Oper) (l : List Oper) : PT V → Heap → ROut :=
  List.rec (motive := fun _ => PT V → Heap → ROut) (fun t h => .ok t h)
    (fun o _ ih t h => match wantedV nt ops o t with
      | some true => (match opN P callF o (ev ng t) h with
        | .val v h' => forceV v fun v => (match putV nt t o.dst v with
          | some t' => ih t' h'
          | none => .fail)
        | .pan v h' => .pan v h'
        | .fail => .fail)
      | some false => (match putV nt t o.dst (.tup []) with
        | some t' => ih t' h
        | none => .fail)
      | none => .fail) l

theorem seqL_nil {P : Program} {callF : CallF} {ng nt : Nat} {ops : Array Oper} {t : PT V} {h : Heap} : seqL P callF ng nt ops [] t h = .ok t h := rfl
theorem seqL_cons {P : Program} {callF : CallF} {ng nt : Nat} {ops : Array Oper} {o : Oper} {l : List Oper} {t : PT V} {h : Heap} : seqL P callF ng nt ops (o :: l) t h =
    (match wantedV nt ops o t with
      | some true => (match opN P callF o (ev ng t) h with
        | .val v h' => (match putV nt t o.dst v with
          | some t' => seqL P callF ng nt ops l t' h'
          | none => .fail)
        | .pan v h' => .pan v h'
        | .fail => .fail)
      | some false => (match putV nt t o.dst (.tup []) with
        | some t' => seqL P callF ng nt ops l t' h
        | none => .fail)
      | none => .fail) := by
  have e : seqL P callF ng nt ops (o :: l) t h =
    (match wantedV nt ops o t with
      | some true => (match opN P callF o (ev ng t) h with
        | .val v h' => forceV v fun v => (match putV nt t o.dst v with
          | some t' => seqL P callF ng nt ops l t' h'
          | none => .fail)
        | .pan v h' => .pan v h'
        | .fail => .fail)
      | some false => (match putV nt t o.dst (.tup []) with
        | some t' => seqL P callF ng nt ops l t' h
        | none => .fail)
      | none => .fail) := rfl
  rw [e]
  simp only [forceV_eq]

def ROut.next : ROut → Nat
  | .ok _ h => h.next
  | .pan _ h => h.next
  | .fail => 0
theorem seqL_next {P : Program} {callF : CallF} {ng nt : Nat} {ops : Array Oper} : ∀ (l : List Oper) (t : PT V) (h : Heap), seqL P callF ng nt ops l t h ≠ .fail → h.next ≤ (seqL P callF ng nt ops l t h).next
  | [], t, h, _ => Nat.le_refl _
  | o :: l, t, h, hf => by
    rw [seqL_cons] at hf ⊢
    cases hw : wantedV nt ops o t with
    | none => rw [hw] at hf; exact absurd rfl hf
    | some b =>
      rw [hw] at hf
      cases b with
      | false =>
        simp only at hf ⊢
        cases hp : putV nt t o.dst (.tup []) with
        | none => rw [hp] at hf; exact absurd rfl hf
        | some t' => rw [hp] at hf; exact seqL_next l t' h hf
      | true =>
        simp only at hf ⊢
        cases hx : opN P callF o (ev ng t) h with
        | fail => rw [hx] at hf; exact absurd rfl hf
        | pan v h' => exact (opN_pan hx).2
        | val v h' =>
          rw [hx] at hf
          simp only at hf ⊢
          cases hp : putV nt t o.dst v with
          | none => rw [hp] at hf; exact absurd rfl hf
          | some t' => rw [hp] at hf; exact Nat.le_trans (opN_val hx).2 (seqL_next l t' h' hf)

theorem RV.undef (φ : Map) : RV φ (.tup []) Go.undef := RV.tup_mk (RVs.nil φ)

/-- rows of operations in the order of the text -/
theorem seq_ok {P : Program} {callF : CallF} {ng nt : Nat} (hc : CallOk P ng callF) {ops : Array Oper} {Q : Exit → Act → World → Prop} (D : List Deferred) : ∀ (l : List Oper) (t : PT V) (h : Heap) {φ : Map} {w : World} {a : Act}, HR φ h.get w → Fresh φ h.next ((seqL P callF ng nt ops l t h).next + 1) → Glob ng φ → TR φ nt t a.tmps → a.defers = D →
    (match seqL P callF ng nt ops l t h with
      | .ok t' h' => ∀ a' w' φ' ll, TR φ' nt t' a'.tmps → a'.defers = D → Ext h h' ll → Post φ h.get h h' ll φ' w w' → Q .normal a' w'
      | .pan v h' => ∀ a' v' w' φ' ll, a'.tmps.size = nt → a'.defers = D → RV φ' v v' → Ext h h' ll → Post φ h.get h h' ll φ' w w' → Q (.panic [{ v := v', recovered := false }]) a' w'
      | .fail => False) → wpList P ops Q l a w
  | [], t, h, φ, w, a, hr, _, _, ht, hd, hQ => hQ a w φ [] ht hd (Ext.refl h) (Post.same hr (fun _ _ _ => rfl))
  | o :: l, t, h, φ, w, a, hr, fr, hg, ht, hd, hQ => by
    have hnf : seqL P callF ng nt ops (o :: l) t h ≠ .fail := fun e => by rw [e] at hQ; exact hQ
    have hnx := seqL_next (o :: l) t h hnf
    rw [seqL_cons] at hQ fr hnf hnx
    cases hw : wantedV nt ops o t with
    | none => rw [hw] at hQ; exact hQ.elim
    | some b =>
      rw [hw] at hQ fr hnf hnx
      have hwant : Region.wanted o (yielded ops a.tmps) = b := wanted_ok hw ht.size (fun j want d _ _ v hv => ht.val d v hv)
      cases b with
      | false =>
        simp only at hQ fr hnf hnx
        cases hp : putV nt t o.dst (.tup []) with
        | none => rw [hp] at hQ; exact hQ.elim
        | some t' =>
          rw [hp] at hQ fr hnf hnx
          refine wpList_skip hwant ?_
          exact seq_ok hc D l t' h hr fr hg (ht.put hp (RV.undef φ)) (by cases hdst : o.dst <;> exact hd) hQ
      | true =>
        simp only at hQ fr hnf hnx
        cases hx : opN P callF o (ev ng t) h with
        | fail => rw [hx] at hQ; exact hQ.elim
        | pan v h' =>
          rw [hx] at hQ fr hnf hnx
          simp only at hQ fr hnf hnx
          obtain ⟨hx1, hx2⟩ := opN_pan hx
          refine BigFrame.wpList_want hwant fun K hK => ?_
          exact op_pan hc hx1 hg hr fr (fun x => ht.ev hg x) (fun v' w' φ' ll h1 h2 h3 => hQ a v' w' φ' ll ht.size hd h1 h2 h3)
        | val v h' =>
          rw [hx] at hQ fr hnf hnx
          simp only at hQ fr hnf hnx
          obtain ⟨hx1, hx2⟩ := opN_val hx
          cases hp : putV nt t o.dst v with
          | none => rw [hp] at hQ; exact hQ.elim
          | some t' =>
            rw [hp] at hQ fr hnf hnx
            simp only at hQ fr hnf hnx
            have hn2 := seqL_next l t' h' hnf
            have fr' : Fresh φ h.next (h'.next + 1) := fr.sub (Nat.le_refl _) (Nat.succ_le_succ hn2)
            refine BigFrame.wpList_want hwant fun K hK => ?_
            refine op_ok hc hx1 hg hr (fun x _ _ => rfl) fr' (fun _ => fr' _ (Nat.le_refl _) (Nat.lt_succ_of_le hx2)) (fun x => ht.ev hg x) (by split <;> intros <;> rfl) ?_
            intro v' w' φ1 l1 h1 h2 h3
            refine hK _ _ ?_
            refine seq_ok hc D l t' h' (h3.hr' h2) (h3.fresh (fr.sub hx2 (Nat.le_refl _)) (Nat.le_refl _)) (hg.mono h3.le) ((ht.mono h3.le).put hp h1) (by cases hdst : o.dst <;> exact hd) ?_
            cases hs : seqL P callF ng nt ops l t' h' with
            | fail => rw [hs] at hQ; exact hQ
            | ok t2 h2' =>
              rw [hs] at hQ
              simp only at hQ ⊢
              intro a2 w2 φ2 l2 k1 k2 k3 k4
              exact hQ a2 w2 φ2 (l2 ++ l1) k1 k2 (h2.trans k3) (h3.trans h2 k3 k4)
            | pan v2 h2' =>
              rw [hs] at hQ
              simp only at hQ ⊢
              intro a2 v2' w2 φ2 l2 k1 k2 k3 k4 k5
              exact hQ a2 v2' w2 φ2 (l2 ++ l1) k1 k2 k3 (h2.trans k4) (h3.trans h2 k4 k5)

end Go.Ab
