/-
  An abstract interpreter of the model's code, part 1: trees, abstract values, abstract memory, and what they say of a real world. Conditions: none (plain definitions and lemmas over any program).
-/
import Derived.Test.YtednpcncjiaahaaAb0
import Derived.Laws.AppendOwn
import Derived.Orders
import Derived.Tactics
import Derived.Below
set_option linter.unusedVariables false
set_option linter.unusedSimpArgs false
namespace Go.Ab
open Go

/-! trees by numbers -/
inductive PT (α : Type) where
  | e : PT α
  | n (l : PT α) (v : Option α) (r : PT α) : PT α
inductive Pos where
  | h | o (p : Pos) | i (p : Pos)

noncomputable def Pos.get {α : Type} (p : Pos) : PT α → Option α :=
  Pos.rec (motive := fun _ => PT α → Option α) (fun t => PT.casesOn t none fun _ v _ => v) (fun _ ih t => PT.casesOn t none fun l _ _ => ih l) (fun _ ih t => PT.casesOn t none fun _ _ r => ih r) p
noncomputable def Pos.set {α : Type} (p : Pos) : α → PT α → PT α :=
  Pos.rec (motive := fun _ => α → PT α → PT α) (fun x t => PT.casesOn t (.n .e (some x) .e) fun l _ r => .n l (some x) r)
   (fun _ ih x t => PT.casesOn t (.n (ih x .e) none .e) fun l v r => .n (ih x l) v r)
   (fun _ ih x t => PT.casesOn t (.n .e none (ih x .e)) fun l v r => .n l v (ih x r)) p

theorem Pos.get_e {α : Type} (p : Pos) : p.get (.e : PT α) = none := by cases p <;> rfl
theorem Pos.get_set {α : Type} (p : Pos) : ∀ (x : α) (t : PT α), p.get (p.set x t) = some x := by
  induction p with
  | h => intro x t; cases t <;> rfl
  | o p ih => intro x t; cases t with
    | e => exact ih x .e
    | n l v r => exact ih x l
  | i p ih => intro x t; cases t with
    | e => exact ih x .e
    | n l v r => exact ih x r
theorem Pos.get_set_ne {α : Type} (p : Pos) : ∀ (q : Pos) (x : α) (t : PT α), p ≠ q → q.get (p.set x t) = q.get t := by
  induction p with
  | h => intro q x t hne; cases q with
    | h => exact absurd rfl hne
    | o q => cases t with
      | e => exact Pos.get_e q
      | n l v r => rfl
    | i q => cases t with
      | e => exact Pos.get_e q
      | n l v r => rfl
  | o p ih => intro q x t hne; cases q with
    | h => cases t <;> rfl
    | o q =>
      have hpq : p ≠ q := fun h => hne (by rw [h])
      cases t with
      | e => exact (ih q x .e hpq).trans (Pos.get_e q)
      | n l v r => exact ih q x l hpq
    | i q => cases t with
      | e => exact Pos.get_e q
      | n l v r => rfl
  | i p ih => intro q x t hne; cases q with
    | h => cases t <;> rfl
    | o q => cases t with
      | e => exact Pos.get_e q
      | n l v r => rfl
    | i q =>
      have hpq : p ≠ q := fun h => hne (by rw [h])
      cases t with
      | e => exact (ih q x .e hpq).trans (Pos.get_e q)
      | n l v r => exact ih q x r hpq

noncomputable def pathF (f : Nat) : Nat → Pos :=
  Nat.rec (motive := fun _ => Nat → Pos) (fun _ => .h) (fun _ ih k => Bool.rec (Bool.rec (Pos.o (ih (Nat.sub (Nat.div k 2) 1))) (Pos.i (ih (Nat.div k 2))) (Nat.beq (Nat.mod k 2) 1)) Pos.h (Nat.beq k 0)) f
noncomputable def path (k : Nat) : Pos := pathF (Nat.succ k) k
def Pos.toNat : Pos → Nat
  | .h => 0
  | .i p => 2 * p.toNat + 1
  | .o p => 2 * p.toNat + 2
theorem pathF_toNat : ∀ (f k : Nat), k < f → (pathF f k).toNat = k := by
  intro f
  induction f with
  | zero => intro k h; omega
  | succ f ih =>
    intro k hk
    show (Bool.rec (Bool.rec (Pos.o (pathF f (Nat.sub (Nat.div k 2) 1))) (Pos.i (pathF f (Nat.div k 2))) (Nat.beq (Nat.mod k 2) 1)) Pos.h (Nat.beq k 0) : Pos).toNat = k
    have e1 : Nat.div k 2 = k / 2 := rfl
    have e2 : Nat.mod k 2 = k % 2 := rfl
    have e3 : Nat.sub (k / 2) 1 = k / 2 - 1 := rfl
    rw [e1, e2, e3]
    cases h0 : Nat.beq k 0 with
    | true => have := Nat.eq_of_beq_eq_true h0; subst this; rfl
    | false =>
      have hk0 : k ≠ 0 := Nat.ne_of_beq_eq_false h0
      cases h1 : Nat.beq (k % 2) 1 with
      | true =>
        have := Nat.eq_of_beq_eq_true h1
        show 2 * (pathF f (k / 2)).toNat + 1 = k
        rw [ih _ (by omega)]; omega
      | false =>
        have := Nat.ne_of_beq_eq_false h1
        show 2 * (pathF f (k / 2 - 1)).toNat + 2 = k
        rw [ih _ (by omega)]; omega
theorem path_inj {a b : Nat} (h : path a = path b) : a = b := by
  have h1 := pathF_toNat (a + 1) a (by omega)
  have h2 := pathF_toNat (b + 1) b (by omega)
  have h' : pathF (a + 1) a = pathF (b + 1) b := h
  rw [h'] at h1
  omega

noncomputable def PT.get {α : Type} (t : PT α) (k : Nat) : Option α := (path k).get t
noncomputable def PT.set {α : Type} (t : PT α) (k : Nat) (x : α) : PT α := (path k).set x t
@[simp] theorem PT.get_set_same {α : Type} (t : PT α) (k : Nat) (x : α) : (t.set k x).get k = some x := Pos.get_set _ _ _
theorem PT.get_set_other {α : Type} (t : PT α) (k j : Nat) (x : α) (h : k ≠ j) : (t.set k x).get j = t.get j := Pos.get_set_ne _ _ _ _ fun e => h (path_inj e)
theorem PT.get_set {α : Type} (t : PT α) (k j : Nat) (x : α) : (t.set k x).get j = if k = j then some x else t.get j := by
  by_cases h : k = j
  · subst h; simp
  · rw [if_neg h, PT.get_set_other _ _ _ _ h]
@[simp] theorem PT.get_e {α : Type} (k : Nat) : (PT.e : PT α).get k = none := Pos.get_e _

/-! values -/
inductive V where
  | und
  | b (x : Bool)
  | i (k : IntKind) (n : Int)
  | s (l : SB)
  | p (a : Option (Nat × Nat))
  | sl (a : Option (Nat × Nat)) (len cap : Nat) (x : Bool)
  | m (r : Option Nat)
  | f (fn : Fn) (first cap : List V)
  | f0
  | ifc (t : TypeId) (v : V)
  | i0
  | agg (l : List V)
  | tup (l : List V)
  deriving Inhabited

def V.cells : V → List V
  | .agg l => l
  | v => [v]
/-- may stand in one cell -/
def V.sc : V → Bool
  | .und | .agg _ | .tup _ => false
  | _ => true

inductive Blk where
  | dead
  | cells (n es : Nat) (t : PT V) (own : Bool)
  | map (es : List (V × V × Nat)) (clock : Nat)
  | siter (s : ByteArray) (pos : Nat)

def Blk.own : Blk → Bool
  | .dead => false
  | .cells _ _ _ own => own
  | .map .. | .siter .. => true
def Blk.live : Blk → Bool
  | .dead => false
  | _ => true

structure Heap where
  next : Nat
  t : PT Blk
  wl : List Nat

noncomputable def Heap.get (h : Heap) (a : Nat) : Option Blk := cond (Nat.blt a h.next) (h.t.get a) none
noncomputable def Heap.new (h : Heap) (B : Blk) : Heap := { next := Nat.succ h.next, t := h.t.set h.next B, wl := h.wl }
noncomputable def Heap.upd (h : Heap) (a : Nat) (B : Blk) : Heap := { next := h.next, t := h.t.set a B, wl := a :: h.wl }

theorem blt_true {a b : Nat} (h : a < b) : Nat.blt a b = true := Nat.ble_eq_true_of_le h
theorem blt_false {a b : Nat} (h : b ≤ a) : Nat.blt a b = false := by
  cases hq : Nat.blt a b with
  | false => rfl
  | true => have : a < b := Nat.le_of_ble_eq_true hq; omega
theorem Heap.get_lt {h : Heap} {a : Nat} (ha : a < h.next) : h.get a = h.t.get a := by unfold Heap.get; rw [blt_true ha]; rfl
theorem Heap.get_ge {h : Heap} {a : Nat} (ha : h.next ≤ a) : h.get a = none := by unfold Heap.get; rw [blt_false ha]; rfl
theorem Heap.lt_of_get {h : Heap} {a : Nat} {B : Blk} (hg : h.get a = some B) : a < h.next := by
  rcases Nat.lt_or_ge a h.next with h1 | h1
  · exact h1
  · rw [Heap.get_ge h1] at hg; cases hg
theorem Heap.get_new (h : Heap) (B : Blk) : (h.new B).get h.next = some B := by
  rw [Heap.get_lt (show h.next < (h.new B).next from Nat.lt_succ_self _)]; exact PT.get_set_same _ _ _
theorem Heap.get_new_other (h : Heap) (B : Blk) {x : Nat} (hx : x ≠ h.next) : (h.new B).get x = h.get x := by
  rcases Nat.lt_or_ge x h.next with h1 | h1
  · rw [Heap.get_lt h1, Heap.get_lt (show x < (h.new B).next from Nat.lt_succ_of_lt h1)]
    exact PT.get_set_other _ _ _ _ fun e => hx e.symm
  · rw [Heap.get_ge h1, Heap.get_ge (show (h.new B).next ≤ x from by show Nat.succ h.next ≤ x; omega)]
theorem Heap.get_upd (h : Heap) (a : Nat) (B : Blk) (ha : a < h.next) : (h.upd a B).get a = some B := by
  rw [Heap.get_lt (show a < (h.upd a B).next from ha)]; exact PT.get_set_same _ _ _
theorem Heap.get_upd_other (h : Heap) (a : Nat) (B : Blk) {x : Nat} (hx : x ≠ a) : (h.upd a B).get x = h.get x := by
  rcases Nat.lt_or_ge x h.next with h1 | h1
  · rw [Heap.get_lt h1, Heap.get_lt (show x < (h.upd a B).next from h1)]
    exact PT.get_set_other _ _ _ _ fun e => hx e.symm
  · rw [Heap.get_ge h1, Heap.get_ge (show (h.upd a B).next ≤ x from h1)]

/-- What came of a heap: what is not among 'l' is as it was. -/
structure Ext (h h' : Heap) (l : List Nat) : Prop where
  next : h.next ≤ h'.next
  wl : h'.wl = l ++ h.wl
  old : ∀ a, a < h.next → a ∉ l → h'.get a = h.get a
theorem Ext.refl (h : Heap) : Ext h h [] := ⟨Nat.le_refl _, rfl, fun _ _ _ => rfl⟩
theorem Ext.trans {h1 h2 h3 : Heap} {l1 l2 : List Nat} (a : Ext h1 h2 l1) (b : Ext h2 h3 l2) : Ext h1 h3 (l2 ++ l1) :=
  ⟨Nat.le_trans a.next b.next, by rw [b.wl, a.wl, List.append_assoc], fun x hx hn => by
    rw [List.mem_append, not_or] at hn
    rw [b.old x (Nat.lt_of_lt_of_le hx a.next) hn.1, a.old x hx hn.2]⟩
theorem Ext.new (h : Heap) (B : Blk) : Ext h (h.new B) [] :=
  ⟨Nat.le_succ _, rfl, fun a ha _ => Heap.get_new_other h B (by omega)⟩
theorem Ext.upd (h : Heap) (a : Nat) (B : Blk) : Ext h (h.upd a B) [a] :=
  ⟨Nat.le_refl _, rfl, fun x _ hn => Heap.get_upd_other h a B (by simp at hn; exact hn)⟩

/-! where blocks are -/
structure Place where
  b : Nat
  base : Nat
  tot : Nat
  es : Nat
abbrev Map := Nat → Option Place

/-- the real value of an abstract one -/
inductive RV (φ : Map) : V → Value → Prop where
  | und (v : Value) : RV φ .und v
  | b (x : Bool) : RV φ (.b x) (.bool x)
  | i (k : IntKind) (n : Int) : RV φ (.i k n) (.int k n)
  | s (b : SB) (x : ByteArray) : x.data.toList = b.list → RV φ (.s b) (.string x)
  | p0 : RV φ (.p none) (.pointer none)
  | p (a o : Nat) (pl : Place) : φ a = some pl → RV φ (.p (some (a, o))) (.pointer (some ⟨pl.b, pl.base + o, none⟩))
  | sl0 : RV φ (.sl none 0 0 true) (.slice none 0 0)
  | sl (a o len cap c : Nat) (x : Bool) (pl : Place) : φ a = some pl → len ≤ cap → cap ≤ c → (x = true → c = cap) → (x = false → pl.base + o + c * pl.es ≤ pl.tot) →
      RV φ (.sl (some (a, o)) len cap x) (.slice (some ⟨pl.b, pl.base + o, none⟩) len c)
  | m0 : RV φ (.m none) (.map none)
  | m (r : Nat) (pl : Place) : φ r = some pl → pl.base = 0 → RV φ (.m (some r)) (.map (some pl.b))
  | f (fn : Fn) (fs cs : List V) (fs' cs' : Array Value) : fs.length = fs'.size → cs.length = cs'.size →
      (∀ (j : Nat) (v : V) (v' : Value), fs[j]? = some v → fs'[j]? = some v' → RV φ v v') → (∀ (j : Nat) (v : V) (v' : Value), cs[j]? = some v → cs'[j]? = some v' → RV φ v v') →
      RV φ (.f fn fs cs) (.func fn fs' cs')
  | f0 : RV φ .f0 .nilFunc
  | ifc (t : TypeId) (v : V) (v' : Value) : RV φ v v' → RV φ (.ifc t v) (.iface t v')
  | i0 : RV φ .i0 .nilIface
  | agg (l : List V) (l' : Array Value) : l.length = l'.size → (∀ (j : Nat) (v : V) (v' : Value), l[j]? = some v → l'[j]? = some v' → RV φ v v') → RV φ (.agg l) (.agg l')
  | tup (l : List V) (l' : Array Value) : l.length = l'.size → (∀ (j : Nat) (v : V) (v' : Value), l[j]? = some v → l'[j]? = some v' → RV φ v v') → RV φ (.tup l) (.tuple l')

def RVs (φ : Map) (l : List V) (l' : List Value) : Prop := l.length = l'.length ∧ ∀ (j : Nat) (v : V) (v' : Value), l[j]? = some v → l'[j]? = some v' → RV φ v v'

def Map.le (φ ψ : Map) : Prop := ∀ a pl, φ a = some pl → ψ a = some pl
theorem Map.le_refl (φ : Map) : φ.le φ := fun _ _ h => h
theorem Map.le_trans {a b c : Map} (h : Map.le a b) (k : Map.le b c) : Map.le a c := fun x pl e => k x pl (h x pl e)

theorem RV.mono {φ ψ : Map} (hl : φ.le ψ) {v : V} {v' : Value} (h : RV φ v v') : RV ψ v v' := by
  induction h with
  | und v => exact .und v
  | b x => exact .b x
  | i k n => exact .i k n
  | s b x h => exact .s b x h
  | p0 => exact .p0
  | p a o pl h => exact .p a o pl (hl _ _ h)
  | sl0 => exact .sl0
  | sl a o len cap c x pl h h1 h2 h3 h4 => exact .sl a o len cap c x pl (hl _ _ h) h1 h2 h3 h4
  | m0 => exact .m0
  | m r pl h h0 => exact .m r pl (hl _ _ h) h0
  | f fn fs cs fs' cs' h1 h2 _ _ ih1 ih2 => exact .f fn fs cs fs' cs' h1 h2 ih1 ih2
  | f0 => exact .f0
  | ifc t v v' _ ih => exact .ifc t v v' ih
  | i0 => exact .i0
  | agg l l' h1 _ ih => exact .agg l l' h1 ih
  | tup l l' h1 _ ih => exact .tup l l' h1 ih
theorem RVs.mono {φ ψ : Map} (hl : φ.le ψ) {v : List V} {v' : List Value} (h : RVs φ v v') : RVs ψ v v' := ⟨h.1, fun j a b ha hb => (h.2 j a b ha hb).mono hl⟩

theorem RVs.nil (φ : Map) : RVs φ [] [] := ⟨rfl, fun _ _ _ h => by simp at h⟩
theorem RVs.cons {φ : Map} {v : V} {v' : Value} {l : List V} {l' : List Value} (h : RV φ v v') (hs : RVs φ l l') : RVs φ (v :: l) (v' :: l') :=
  ⟨by simp [hs.1], fun j a b ha hb => by
    cases j with
    | zero => simp at ha hb; subst ha; subst hb; exact h
    | succ j => simp at ha hb; exact hs.2 j a b ha hb⟩
theorem RVs.head {φ : Map} {v : V} {v' : Value} {l : List V} {l' : List Value} (h : RVs φ (v :: l) (v' :: l')) : RV φ v v' := h.2 0 v v' rfl rfl
theorem RVs.tail {φ : Map} {v : V} {v' : Value} {l : List V} {l' : List Value} (h : RVs φ (v :: l) (v' :: l')) : RVs φ l l' :=
  ⟨by simpa using h.1, fun j a b ha hb => h.2 (j + 1) a b (by simpa using ha) (by simpa using hb)⟩
theorem RVs.nil_inv {φ : Map} {l' : List Value} (h : RVs φ [] l') : l' = [] := List.eq_nil_of_length_eq_zero h.1.symm
theorem RVs.cons_inv {φ : Map} {v : V} {l : List V} {l' : List Value} (h : RVs φ (v :: l) l') : ∃ v' t, l' = v' :: t ∧ RV φ v v' ∧ RVs φ l t := by
  cases l' with
  | nil => exact absurd h.1 (by simp)
  | cons x t => exact ⟨x, t, rfl, h.head, h.tail⟩
theorem RVs.append {φ : Map} {l k : List V} {l' k' : List Value} (h : RVs φ l l') (hk : RVs φ k k') : RVs φ (l ++ k) (l' ++ k') := by
  induction l generalizing l' with
  | nil => rw [h.nil_inv]; exact hk
  | cons v l ih => obtain ⟨v', t, rfl, h1, h2⟩ := h.cons_inv; exact RVs.cons h1 (ih h2)
theorem RVs.get {φ : Map} {l : List V} {l' : List Value} (h : RVs φ l l') {j : Nat} {v : V} (hv : l[j]? = some v) : ∃ v', l'[j]? = some v' ∧ RV φ v v' := by
  have hj : j < l'.length := by
    have := (List.getElem?_eq_some_iff.1 hv).1
    rw [h.1] at this; exact this
  exact ⟨l'[j], List.getElem?_eq_getElem hj, h.2 j v _ hv (List.getElem?_eq_getElem hj)⟩

theorem RV.agg_inv {φ : Map} {l : List V} {v' : Value} (h : RV φ (.agg l) v') : ∃ l', v' = .agg l' ∧ RVs φ l l'.toList := by
  cases h with
  | agg _ l' h1 h2 => exact ⟨l', rfl, by simpa using h1, fun j a b ha hb => h2 j a b ha (by simpa using hb)⟩
theorem RV.agg_mk {φ : Map} {l : List V} {l' : Array Value} (h : RVs φ l l'.toList) : RV φ (.agg l) (.agg l') :=
  .agg l l' (by simpa using h.1) fun j a b ha hb => h.2 j a b ha (by simpa using hb)
theorem RV.tup_inv {φ : Map} {l : List V} {v' : Value} (h : RV φ (.tup l) v') : ∃ l', v' = .tuple l' ∧ RVs φ l l'.toList := by
  cases h with
  | tup _ l' h1 h2 => exact ⟨l', rfl, by simpa using h1, fun j a b ha hb => h2 j a b ha (by simpa using hb)⟩
theorem RV.tup_mk {φ : Map} {l : List V} {l' : Array Value} (h : RVs φ l l'.toList) : RV φ (.tup l) (.tuple l') :=
  .tup l l' (by simpa using h.1) fun j a b ha hb => h.2 j a b ha (by simpa using hb)
theorem RV.f_inv {φ : Map} {fn : Fn} {fs cs : List V} {v' : Value} (h : RV φ (.f fn fs cs) v') : ∃ fs' cs', v' = .func fn fs' cs' ∧ RVs φ fs fs'.toList ∧ RVs φ cs cs'.toList := by
  cases h with
  | f _ _ _ fs' cs' h1 h2 h3 h4 => exact ⟨fs', cs', rfl, ⟨by simpa using h1, fun j a b ha hb => h3 j a b ha (by simpa using hb)⟩, ⟨by simpa using h2, fun j a b ha hb => h4 j a b ha (by simpa using hb)⟩⟩
theorem RV.f_mk {φ : Map} {fn : Fn} {fs cs : List V} {fs' cs' : Array Value} (h1 : RVs φ fs fs'.toList) (h2 : RVs φ cs cs'.toList) : RV φ (.f fn fs cs) (.func fn fs' cs') :=
  .f fn fs cs fs' cs' (by simpa using h1.1) (by simpa using h2.1) (fun j a b ha hb => h1.2 j a b ha (by simpa using hb)) (fun j a b ha hb => h2.2 j a b ha (by simpa using hb))

theorem RV.oneCell {φ : Map} {v : V} {v' : Value} (h : RV φ v v') (hs : v.sc = true) : v'.oneCell' = true ∧ v'.cells = #[v'] ∧ v.cells = [v] := by
  cases h <;> first | exact ⟨rfl, rfl, rfl⟩ | simp [V.sc] at hs
theorem RV.cellsOf {φ : Map} {v : V} {v' : Value} (h : RV φ v v') (hs : v.cells.all V.sc = true) : RVs φ v.cells v'.cells.toList ∧ ∀ u ∈ v'.cells.toList, u.oneCell' = true := by
  by_cases ha : ∃ l, v = .agg l
  · obtain ⟨l, rfl⟩ := ha
    obtain ⟨l', rfl, hl⟩ := h.agg_inv
    refine ⟨hl, fun u hu => ?_⟩
    obtain ⟨j, hj, hu⟩ := List.getElem_of_mem hu
    have hj' : j < l.length := by rw [hl.1]; exact hj
    have hv : RV φ l[j] u := by
      refine hl.2 j _ _ (List.getElem?_eq_getElem hj') ?_
      rw [← hu]; exact List.getElem?_eq_getElem hj
    exact (hv.oneCell (List.all_eq_true.1 hs _ (List.getElem_mem hj'))).1
  · have hc : v.cells = [v] := by cases v <;> first | rfl | exact absurd ⟨_, rfl⟩ ha
    rw [hc] at hs ⊢
    have hs' : v.sc = true := by simpa using hs
    obtain ⟨h1, h2, _⟩ := h.oneCell hs'
    rw [h2]
    exact ⟨RVs.cons h (RVs.nil φ), fun u hu => by simp at hu; subst hu; exact h1⟩

/-! what a world has of a block -/
structure REntry (φ : Map) (x : V × V × Nat) (e : MapEntry) : Prop where
  key : RV φ x.1 e.key
  val : RV φ x.2.1 e.val
  born : e.born = x.2.2

def BR (φ : Map) (B : Blk) (pl : Place) (w : World) : Prop :=
  match B with
  | .dead => True
  | .cells n es t own => ∃ c e fr, w.heap[pl.b]? = some (.cells c e fr) ∧ pl.es = es ∧ pl.tot = c.size ∧ pl.base + n ≤ c.size ∧
      (∀ j, j < n → ∃ v v', t.get j = some v ∧ c[pl.base + j]? = some v' ∧ RV φ v v' ∧ (own = true → v'.oneCell' = true)) ∧
      (own = true → pl.base = 0 ∧ ∀ j, j < c.size → ¬ (fr.1 ≤ j ∧ j < fr.2))
  | .map es clock => pl.base = 0 ∧ ∃ es', w.heap[pl.b]? = some (.map es' clock) ∧ es.length = es'.size ∧ ∀ (j : Nat) x e, es[j]? = some x → es'[j]? = some e → REntry φ x e
  | .siter s pos => pl.base = 0 ∧ w.heap[pl.b]? = some (.stringIter s pos)

theorem BR.mono {φ ψ : Map} (hl : φ.le ψ) {B : Blk} {pl : Place} {w : World} (h : BR φ B pl w) : BR ψ B pl w := by
  cases B with
  | dead => trivial
  | cells n es t own =>
    obtain ⟨c, e, fr, h1, h2, h3, h4, h5, h6⟩ := h
    exact ⟨c, e, fr, h1, h2, h3, h4, fun j hj => let ⟨v, v', a, b, d, o⟩ := h5 j hj; ⟨v, v', a, b, d.mono hl, o⟩, h6⟩
  | map es clock =>
    obtain ⟨h0, es', h1, h2, h3⟩ := h
    exact ⟨h0, es', h1, h2, fun j x e a b => let r := h3 j x e a b; ⟨r.key.mono hl, r.val.mono hl, r.born⟩⟩
  | siter s pos => exact h
theorem BR.world {φ : Map} {B : Blk} {pl : Place} {w w' : World} (h : BR φ B pl w) (e : w'.heap[pl.b]? = w.heap[pl.b]?) : BR φ B pl w' := by
  cases B with
  | dead => trivial
  | cells n es t own => unfold BR at h ⊢; rw [e]; exact h
  | map es clock => unfold BR at h ⊢; rw [e]; exact h
  | siter s pos => unfold BR at h ⊢; rw [e]; exact h
theorem BR.lt {φ : Map} {B : Blk} {pl : Place} {w : World} (h : BR φ B pl w) (hl : B.live = true) : pl.b < w.heap.size := by
  have key : ∀ o, w.heap[pl.b]? = some o → pl.b < w.heap.size := fun o ho => (Array.getElem?_eq_some_iff.1 ho).1
  cases B with
  | dead => simp [Blk.live] at hl
  | cells n es t own => obtain ⟨c, e, fr, h1, _⟩ := h; exact key _ h1
  | map es clock => obtain ⟨h0, es', h1, _⟩ := h; exact key _ h1
  | siter s pos => exact key _ h.2

/-- What a world has of some blocks; blocks of which 'g' tells nothing, or of which no place is known, are not spoken of. -/
structure HR (φ : Map) (g : Nat → Option Blk) (w : World) : Prop where
  blk : ∀ a B pl, g a = some B → φ a = some pl → BR φ B pl w
  inj : ∀ a a' B B' pl pl', a ≠ a' → g a = some B → g a' = some B' → φ a = some pl → φ a' = some pl' → B.own = true → B'.live = true → pl.b ≠ pl'.b

/-- the blocks that may be written -/
def Owned (φ : Map) (g : Nat → Option Blk) (b : Nat) : Prop := ∃ a B pl, g a = some B ∧ B.own = true ∧ φ a = some pl ∧ pl.b = b

/-- what a stretch of a run does to the world -/
structure Fr (φ : Map) (g : Nat → Option Blk) (φ' : Map) (g' : Nat → Option Blk) (w w' : World) : Prop where
  os : w'.os = w.os
  tape : w'.tape = w.tape
  output : w'.output = w.output
  size : w.heap.size ≤ w'.heap.size
  block : ∀ b, b < w.heap.size → ¬ Owned φ g b → w'.heap[b]? = w.heap[b]?
  owned : ∀ b, Owned φ' g' b → Owned φ g b ∨ w.heap.size ≤ b

theorem Fr.refl (φ : Map) (g : Nat → Option Blk) (w : World) : Fr φ g φ g w w := ⟨rfl, rfl, rfl, Nat.le_refl _, fun _ _ _ => rfl, fun _ h => .inl h⟩
theorem Fr.trans {φ1 φ2 φ3 : Map} {g1 g2 g3 : Nat → Option Blk} {w1 w2 w3 : World} (a : Fr φ1 g1 φ2 g2 w1 w2) (b : Fr φ2 g2 φ3 g3 w2 w3) : Fr φ1 g1 φ3 g3 w1 w3 where
  os := b.os.trans a.os
  tape := b.tape.trans a.tape
  output := b.output.trans a.output
  size := Nat.le_trans a.size b.size
  block := fun k hk hn => by
    rw [b.block k (Nat.lt_of_lt_of_le hk a.size) (fun ho => ?_), a.block k hk hn]
    rcases a.owned k ho with h | h
    · exact hn h
    · omega
  owned := fun k ho => by
    rcases b.owned k ho with h | h
    · exact a.owned k h
    · exact .inr (Nat.le_trans a.size h)

end Go.Ab
