/-
  What a call has of its own: cells, maps, slices that grow, each apart from the others. Conditions: none.
-/
import Derived.Test.YtednpcncjiaahaaSym3
set_option linter.unusedVariables false
set_option linter.unusedSimpArgs false
namespace Go.Ab
open Go

/-- what there was is as it was, but for the list of what was written -/
structure Mem (h0 H : Heap) : Prop where
  next : h0.next ≤ H.next
  old : ∀ a, a < h0.next → H.get a = h0.get a
theorem Keep.mem {h H : Heap} (k : Keep h H) : Mem h H := ⟨k.next, k.old⟩
theorem Mem.refl (h : Heap) : Mem h h := ⟨Nat.le_refl _, fun _ _ => rfl⟩
theorem Mem.trans {a b c : Heap} (x : Mem a b) (y : Mem b c) : Mem a c := ⟨Nat.le_trans x.next y.next, fun i hi => by rw [y.old i (Nat.lt_of_lt_of_le hi x.next), x.old i hi]⟩
theorem Mem.get {h h' : Heap} (k : Mem h h') {b : Nat} {B : Blk} (hb : h.get b = some B) : h'.get b = some B := by rw [k.old b (Heap.lt_of_get hb)]; exact hb
theorem SlAt.mem {h h' : Heap} {v : V} {es : Nat} {rows : List (List V)} (s : SlAt h v es rows) (k : Mem h h') : SlAt h' v es rows := by
  rcases s with s | ⟨b, o, cap, x, h1, h2, h3⟩
  · exact .inl s
  · refine .inr ⟨b, o, cap, x, h1, h2, fun hl => ?_⟩
    obtain ⟨n, e, t, own, q1, q2⟩ := h3 hl
    exact ⟨n, e, t, own, k.get q1, q2⟩
/-- other ones -/
inductive Res where
  | c (a : Nat) (cs : List V)
  | m (a : Nat) (es : List (V × V × Nat)) (clock : Nat)
  | o (v : V) (es : Nat) (rows : List (List V))
def Res.addr : Res → Option Nat
  | .c a _ => some a
  | .m a _ _ => some a
  | .o (.sl (some (a, _)) _ _ _) _ _ => some a
  | .o _ _ _ => none
def Res.holds (h0 H : Heap) : Res → Prop
  | .c a cs => ∃ es t, H.get a = some (.cells cs.length es t true) ∧ ∀ (j : Nat) (u : V), cs[j]? = some u → t.get j = some u
  | .m a es clock => H.get a = some (.map es clock)
  | .o v es rows => Own h0 H v es rows
theorem Res.bound {h0 H : Heap} {r : Res} (h : r.holds h0 H) {a : Nat} (ha : r.addr = some a) : a < H.next := by
  cases r with
  | c b cs => cases ha; obtain ⟨es, t, q, _⟩ := h; exact Heap.lt_of_get q
  | m b es clock => cases ha; exact Heap.lt_of_get h
  | o v es rows =>
    rcases h with ⟨rfl, _⟩ | ⟨b, ex, n, tr, rfl, h2, h3, _⟩
    · cases ha
    · cases ha; exact Heap.lt_of_get h3
/-- what a thing says hangs on its own block alone -/
theorem Res.frame {h0 H H' : Heap} {r : Res} (h : r.holds h0 H) (f : ∀ a, r.addr = some a → H'.get a = H.get a) : r.holds h0 H' := by
  cases r with
  | c b cs => obtain ⟨es, t, q, w⟩ := h; exact ⟨es, t, by rw [f b rfl]; exact q, w⟩
  | m b es clock => exact (f b rfl).trans h
  | o v es rows =>
    rcases h with h | ⟨b, ex, n, tr, rfl, h2, h3, h4⟩
    · exact .inl h
    · exact .inr ⟨b, ex, n, tr, rfl, h2, by rw [f b rfl]; exact h3, h4⟩
structure Sx (h0 H : Heap) (c : List Nat) (l : List Res) : Prop where
  mem : Mem h0 H
  wl : ∃ w, H.wl = w ++ c ∧ ∀ x ∈ w, h0.next ≤ x
  own : ∀ r ∈ l, r.holds h0 H ∧ ∀ a, r.addr = some a → h0.next ≤ a
  nd : l.Pairwise fun x y => ∀ a, x.addr = some a → y.addr ≠ some a
theorem Sx.start (h : Heap) : Sx h h h.wl [] := ⟨Mem.refl h, ⟨[], rfl, fun _ h => (by cases h)⟩, fun _ h => (by cases h), List.Pairwise.nil⟩
theorem Sx.keep {h0 H : Heap} {l : List Res} (S : Sx h0 H h0.wl l) : Keep h0 H := ⟨S.mem.next, S.mem.old, S.wl⟩
theorem Sx.lt {h0 H : Heap} {c : List Nat} {l : List Res} (S : Sx h0 H c l) {r : Res} (hr : r ∈ l) {a : Nat} (ha : r.addr = some a) : a < H.next := Res.bound (S.own r hr).1 ha
/-- a thing among things is another one -/
inductive Upd : List Res → Res → Res → List Res → Prop
  | head (r r' : Res) (l : List Res) : Upd (r :: l) r r' (r' :: l)
  | tail (x : Res) {l l' : List Res} {r r' : Res} (h : Upd l r r' l') : Upd (x :: l) r r' (x :: l')
theorem Upd.mem {l l' : List Res} {r r' : Res} (u : Upd l r r' l') : r ∈ l := by
  induction u with
  | head r r' l => exact List.mem_cons_self ..
  | tail x h ih => exact List.mem_cons_of_mem _ ih
theorem Upd.split {l l' : List Res} {r r' : Res} (u : Upd l r r' l') : ∃ p q, l = p ++ r :: q ∧ l' = p ++ r' :: q := by
  induction u with
  | head r r' l => exact ⟨[], l, rfl, rfl⟩
  | tail x h ih => obtain ⟨p, q, rfl, rfl⟩ := ih; exact ⟨x :: p, q, rfl, rfl⟩
/-- one thing becomes another one; the memory is another one but for the others' blocks -/
theorem Sx.upd {h0 H H' : Heap} {c c' : List Nat} {l l' : List Res} {r r' : Res} (S : Sx h0 H c l) (u : Upd l r r' l') (hm : Mem h0 H') (hw : ∃ w, H'.wl = w ++ c' ∧ ∀ x ∈ w, h0.next ≤ x)
    (hf : ∀ a, a < H.next → r.addr ≠ some a → H'.get a = H.get a) (hr : r'.holds h0 H' ∧ ∀ a, r'.addr = some a → h0.next ≤ a) (ha : ∀ a, r'.addr = some a → r.addr = some a ∨ H.next ≤ a) : Sx h0 H' c' l' := by
  obtain ⟨p, q, rfl, rfl⟩ := u.split
  have nd := S.nd
  rw [List.pairwise_append] at nd
  obtain ⟨n1, n2, n3⟩ := nd
  rw [List.pairwise_cons] at n2
  have oth : ∀ x ∈ p ++ q, (∀ a, x.addr = some a → r.addr ≠ some a) ∧ x.holds h0 H ∧ ∀ a, x.addr = some a → h0.next ≤ a := by
    intro x hx
    rcases List.mem_append.1 hx with hx | hx
    · exact ⟨fun a hxa => n3 x hx r (List.mem_cons_self ..) a hxa, S.own x (List.mem_append_left _ hx)⟩
    · exact ⟨fun a hxa hra => n2.1 x hx a hra hxa, S.own x (List.mem_append_right _ (List.mem_cons_of_mem _ hx))⟩
  have ne' : ∀ x ∈ p ++ q, ∀ a, x.addr = some a → r'.addr ≠ some a := by
    intro x hx a hxa hra
    obtain ⟨o1, o2, o3⟩ := oth x hx
    rcases ha a hra with h | h
    · exact o1 a hxa h
    · have := Res.bound o2 hxa; omega
  refine ⟨hm, hw, fun x hx => ?_, ?_⟩
  · rcases List.mem_append.1 hx with hx | hx
    · obtain ⟨o1, o2, o3⟩ := oth x (List.mem_append_left _ hx)
      exact ⟨Res.frame o2 fun a hxa => hf a (Res.bound o2 hxa) (o1 a hxa), o3⟩
    · rcases List.mem_cons.1 hx with rfl | hx
      · exact hr
      · obtain ⟨o1, o2, o3⟩ := oth x (List.mem_append_right _ hx)
        exact ⟨Res.frame o2 fun a hxa => hf a (Res.bound o2 hxa) (o1 a hxa), o3⟩
  · rw [List.pairwise_append]
    refine ⟨n1, ?_, fun x hx y hy => ?_⟩
    · rw [List.pairwise_cons]
      exact ⟨fun y hy a hra hya => ne' y (List.mem_append_right _ hy) a hya hra, n2.2⟩
    · rcases List.mem_cons.1 hy with rfl | hy
      · exact fun a hxa => ne' x (List.mem_append_left _ hx) a hxa
      · exact n3 x hx y (List.mem_cons_of_mem _ hy)
/-- a new thing -/
theorem Sx.new {h0 H H' : Heap} {c c' : List Nat} {l : List Res} {r : Res} (S : Sx h0 H c l) (hm : Mem h0 H') (hw : ∃ w, H'.wl = w ++ c' ∧ ∀ x ∈ w, h0.next ≤ x) (hf : ∀ a, a < H.next → H'.get a = H.get a) (hr : r.holds h0 H' ∧ ∀ a, r.addr = some a → h0.next ≤ a) (ha : ∀ a, r.addr = some a → H.next ≤ a) : Sx h0 H' c' (r :: l) := by
  refine ⟨hm, hw, fun x hx => ?_, ?_⟩
  · rcases List.mem_cons.1 hx with rfl | hx
    · exact hr
    · exact ⟨Res.frame (S.own x hx).1 fun a hxa => hf a (S.lt hx hxa), (S.own x hx).2⟩
  · rw [List.pairwise_cons]
    exact ⟨fun y hy a hra hya => by have := S.lt hy hya; have := ha a hra; omega, S.nd⟩
/-- nothing of this has changed -/
theorem Sx.step {h0 H H' : Heap} {c c' : List Nat} {l : List Res} (S : Sx h0 H c l) (hm : Mem H H') (hw : ∃ w, H'.wl = w ++ c' ∧ ∀ x ∈ w, h0.next ≤ x) : Sx h0 H' c' l :=
  ⟨S.mem.trans hm, hw, fun x hx => ⟨Res.frame (S.own x hx).1 fun a hxa => hm.old a (S.lt hx hxa), (S.own x hx).2⟩, S.nd⟩
theorem Sx.keep' {h0 H H' : Heap} {c : List Nat} {l : List Res} (S : Sx h0 H c l) (k : Keep H H') : Sx h0 H' c l := by
  refine S.step k.mem ?_
  obtain ⟨w, h1, h2⟩ := S.wl
  obtain ⟨w', h3, h4⟩ := k.wl
  exact ⟨w' ++ w, by rw [h3, h1, List.append_assoc], fun x hx => by
    rcases List.mem_append.1 hx with hx | hx
    · exact Nat.le_trans S.mem.next (h4 x hx)
    · exact h2 x hx⟩
theorem Mem.clr (H : Heap) (w : List Nat) : Mem H (Heap.mk H.next H.t w) := ⟨Nat.le_refl _, fun _ _ => rfl⟩
theorem Mem.new (H : Heap) (B : Blk) : Mem H (H.new B) := ⟨Nat.le_succ _, fun a ha => Heap.get_new_other H B (by omega)⟩
/-- into a row of any order -/
theorem Sx.clr {h0 H : Heap} {c : List Nat} {l : List Res} (S : Sx h0 H c l) : Sx h0 (Heap.mk H.next H.t []) [] l := S.step (Mem.clr H []) ⟨[], rfl, fun _ h => by cases h⟩
theorem Sx.dead {h0 H : Heap} {c : List Nat} {l : List Res} (S : Sx h0 H c l) : Sx h0 (H.new .dead) c l := S.step (Mem.new H _) S.wl
/-- and out of it -/
theorem Sx.fin {h0 H : Heap} {c c' : List Nat} {l : List Res} (S : Sx h0 H c l) {W w : List Nat} (hw : ∃ w', w = w' ++ c' ∧ ∀ x ∈ w', h0.next ≤ x) (hW : ∀ x ∈ W, h0.next ≤ x) : Sx h0 (Heap.mk H.next H.t (W ++ w)) c' l := by
  obtain ⟨w', rfl, h2⟩ := hw
  exact S.step (Mem.clr H _) ⟨W ++ w', (List.append_assoc _ _ _).symm, fun x hx => by
    rcases List.mem_append.1 hx with hx | hx
    · exact hW x hx
    · exact h2 x hx⟩

/-- some of them in another order -/
theorem Sx.sub {h0 H : Heap} {c : List Nat} {l l' : List Res} (S : Sx h0 H c l) (hl : List.Sublist l' l) : Sx h0 H c l' :=
  ⟨S.mem, S.wl, fun r hr => S.own r (hl.subset hr), S.nd.sublist hl⟩
theorem Sx.drop {h0 H : Heap} {c : List Nat} {l : List Res} {r : Res} (S : Sx h0 H c (r :: l)) : Sx h0 H c l := S.sub (List.sublist_cons_self _ _)

/-! steps -/
theorem e_al {h0 H : Heap} {c : List Nat} {l : List Res} (S : Sx h0 H c l) {z : List V} {K : Kt} {Q : V → Heap → Prop} (hz : z.all V.sc = true)
    (hK : ∀ a H', Sx h0 H' c (.c a z :: l) → a = H.next → H'.next = H.next + 1 → H'.wl = H.wl → RetsQ (K (.p (some (a, 0))) H') h0 Q) : RetsQ (al z H K) h0 Q := by
  rw [al_all hz]
  refine hK _ _ ?_ rfl rfl rfl
  refine S.new (S.mem.trans (Mem.new H _)) S.wl (fun a ha => Heap.get_new_other H _ (by omega)) ⟨⟨1, _, Heap.get_new H _, fun j u hj => ?_⟩, fun a ha => by cases ha; exact S.mem.next⟩ (fun a ha => by cases ha; exact Nat.le_refl _)
  have := (List.getElem?_eq_some_iff.1 hj).1
  rw [wr_get, if_pos (by omega)]; simpa using hj
theorem e_ld {h0 H : Heap} {c : List Nat} {l : List Res} (S : Sx h0 H c l) {a j : Nat} {cs : List V} {v : V} {K : V → ROut} {Q : V → Heap → Prop} (hm : .c a cs ∈ l) (hj : cs[j]? = some v) (hK : RetsQ (K v) h0 Q) : RetsQ (ld (.p (some (a, j))) H K) h0 Q := by
  obtain ⟨⟨es, t, q, w⟩, _⟩ := S.own _ hm
  rw [ld_p q (List.getElem?_eq_some_iff.1 hj).1 (w j v hj)]; exact hK
theorem ld_st {h0 H : Heap} {c : List Nat} {l : List Res} (S : Sx h0 H c l) {a j : Nat} {cs : List V} {v : V} (hm : .c a cs ∈ l) (hj : cs[j]? = some v) (K : V → ROut) : ld (.p (some (a, j))) H K = K v := by
  obtain ⟨⟨es, t, q, w⟩, _⟩ := S.own _ hm
  exact ld_p q (List.getElem?_eq_some_iff.1 hj).1 (w j v hj) K
theorem ldn_st {h0 H : Heap} {c : List Nat} {l : List Res} (S : Sx h0 H c l) {a o n : Nat} {cs xs : List V} (hm : .c a cs ∈ l) (hx : xs.length = n) (ho : ∀ (j : Nat) (u : V), xs[j]? = some u → cs[o + j]? = some u) (hle : o + n ≤ cs.length) (K : V → ROut) : ldn n (.p (some (a, o))) H K = K (.agg xs) := by
  obtain ⟨⟨es, t, q, w⟩, _⟩ := S.own _ hm
  exact ldn_p q hle (by rw [← hx]; exact readN_of fun j u hj => w _ _ (ho j u hj)) K
/-- all of it -/
theorem ldw_st {h0 H : Heap} {c : List Nat} {l : List Res} (S : Sx h0 H c l) {a n : Nat} {cs : List V} (hm : .c a cs ∈ l) (hn : cs.length = n) (K : V → ROut) : ldn n (.p (some (a, 0))) H K = K (.agg cs) :=
  ldn_st S hm hn (fun j u hj => by rw [Nat.zero_add]; exact hj) (by omega) K
/-- cells laid over others -/
def lay : List V → Nat → List V → List V
  | [], _, _ => []
  | c :: cs, 0, [] => c :: cs
  | _ :: cs, 0, x :: xs => x :: lay cs 0 xs
  | c :: cs, n + 1, xs => c :: lay cs n xs
theorem lay_nil : ∀ (cs : List V), lay cs 0 [] = cs
  | [] => rfl
  | _ :: _ => rfl
theorem lay_len : ∀ (cs : List V) (n : Nat) (xs : List V), (lay cs n xs).length = cs.length
  | [], n, xs => by cases n <;> rfl
  | c :: cs, 0, [] => rfl
  | c :: cs, 0, x :: xs => by show (lay cs 0 xs).length + 1 = _; rw [lay_len cs 0 xs]; rfl
  | c :: cs, n + 1, xs => by show (lay cs n xs).length + 1 = _; rw [lay_len cs n xs]; rfl
theorem lay_get : ∀ (cs : List V) (n : Nat) (xs : List V) (j : Nat), n + xs.length ≤ cs.length → (lay cs n xs)[j]? = if n ≤ j ∧ j < n + xs.length then xs[j - n]? else cs[j]?
  | [], n, xs, j, h => by
    have : xs = [] := List.eq_nil_of_length_eq_zero (by simp only [List.length_nil] at h; omega)
    subst this
    have e : lay [] n [] = [] := by cases n <;> rfl
    rw [e]; simp
  | c :: cs, 0, [], j, h => by simp [lay]
  | c :: cs, 0, x :: xs, 0, h => by simp [lay]
  | c :: cs, 0, x :: xs, j + 1, h => by
    have := lay_get cs 0 xs j (by simp at h ⊢; omega)
    simp only [lay, List.getElem?_cons_succ, this]
    simp
  | c :: cs, n + 1, xs, 0, h => by simp [lay]
  | c :: cs, n + 1, xs, j + 1, h => by
    have := lay_get cs n xs j (by simp at h; omega)
    simp only [lay, List.getElem?_cons_succ, this]
    by_cases hh : n ≤ j ∧ j < n + xs.length
    · rw [if_pos hh, if_pos (by omega)]; congr 1; omega
    · rw [if_neg hh, if_neg (by omega)]
theorem lay_one : ∀ (cs : List V) (n : Nat) (x : V), lay cs n [x] = cs.set n x
  | [], n, x => by cases n <;> rfl
  | c :: cs, 0, x => by show x :: lay cs 0 [] = _; rw [lay_nil]; rfl
  | c :: cs, n + 1, x => by show c :: lay cs n [x] = _; rw [lay_one cs n x]; rfl
theorem lay_all : ∀ (cs xs : List V), xs.length = cs.length → lay cs 0 xs = xs
  | [], [], _ => rfl
  | c :: cs, x :: xs, h => by show x :: lay cs 0 xs = _; rw [lay_all cs xs (by simpa using h)]
theorem e_st {h0 H : Heap} {c : List Nat} {l l' : List Res} (S : Sx h0 H c l) {a o n : Nat} {cs : List V} {x : V} {K : Heap → ROut} {Q : V → Heap → Prop} (hu : Upd l (.c a cs) (.c a (lay cs o x.cells)) l') (hs : x.cells.all V.sc = true) (hz : x.cells.length = n) (ho : o + n ≤ cs.length)
    (hK : ∀ H', Sx h0 H' c l' → H'.next = H.next → H'.wl = a :: H.wl → RetsQ (K H') h0 Q) : RetsQ (st n (.p (some (a, o))) x H K) h0 Q := by
  obtain ⟨⟨es, t, q, w⟩, ge⟩ := S.own _ hu.mem
  have ge := ge a rfl
  rw [st_p q hs hz ho]
  refine hK _ ?_ rfl rfl
  refine S.upd hu ⟨S.mem.next, fun b hb => by rw [Heap.get_upd_other H a _ (by omega), S.mem.old b hb]⟩ ?_ (fun b _ hb => Heap.get_upd_other H a _ (fun h => hb (by rw [h]; rfl))) ⟨⟨es, _, by rw [lay_len]; exact Heap.get_upd _ _ _ (Heap.lt_of_get q), fun j u hj => ?_⟩, fun b hb => by cases hb; exact ge⟩ (fun b hb => .inl (by cases hb; rfl))
  · obtain ⟨w', h1, h2⟩ := S.wl
    exact ⟨a :: w', by show a :: H.wl = _; rw [h1]; rfl, fun x hx => by rcases List.mem_cons.1 hx with rfl | hx; exact ge; exact h2 x hx⟩
  · rw [lay_get _ _ _ _ (by omega)] at hj
    rw [wr_get]
    by_cases hh : o ≤ j ∧ j < o + x.cells.length
    · rw [if_pos hh] at hj ⊢; exact hj
    · rw [if_neg hh] at hj ⊢; exact w j u hj
theorem e_call {h0 H : Heap} {c : List Nat} {l : List Res} (S : Sx h0 H c l) {o : Out} {K : Kt} {Q Q' : V → Heap → Prop} (g : Does o H Q') (hK : ∀ v H', Sx h0 H' c l → Q' v H' → Keep H H' → RetsQ (K v H') h0 Q) : RetsQ (cl o K) h0 Q := by
  obtain ⟨v, H', k, e, q⟩ := g
  rw [e, cl_val]
  exact hK v H' (S.keep' k) q k
theorem e_cln {h0 H : Heap} {c : List Nat} {l : List Res} (S : Sx h0 H c l) {o : Out} {K : Kt} {Q Q' : V → Heap → Prop} (g : Does o H Q') (hK : ∀ v H', Sx h0 H' c l → Q' v H' → Keep H H' → RetsQ (K v H') h0 Q) : RetsQ (cln o K) h0 Q := by
  obtain ⟨v, H', k, e, q⟩ := g
  rw [e, cln_val]
  exact hK v H' (S.keep' k) q k
theorem e_dead {h0 H : Heap} {c : List Nat} {l : List Res} (S : Sx h0 H c l) {K : Heap → ROut} {Q : V → Heap → Prop} (hK : ∀ H', Sx h0 H' c l → H'.next = H.next + 1 → H'.wl = H.wl → Mem H H' → RetsQ (K H') h0 Q) : RetsQ (fh (Heap.new H .dead) K) h0 Q := by
  rw [fh_eq]; exact hK _ S.dead rfl rfl (Mem.new H _)
theorem e_rt {h0 H : Heap} {l : List Res} (S : Sx h0 H h0.wl l) {v : V} {Q : V → Heap → Prop} (q : Q v H) : RetsQ (rt v H) h0 Q := RetsQ.rt S.keep q
/-- nothing older was written -/
theorem Keep.fresh {H H' : Heap} (k : Keep H H') (h : H.wl = []) : H'.wl.filter (fun x => Nat.blt x H.next) = [] := by
  obtain ⟨w, h1, h2⟩ := k.wl
  rw [h1, h, List.append_nil, List.filter_eq_nil_iff]
  intro x hx
  rw [blt_false (h2 x hx)]; simp
end Go.Ab
