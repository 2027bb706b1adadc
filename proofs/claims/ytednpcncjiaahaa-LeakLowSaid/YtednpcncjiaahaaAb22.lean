/-
  An abstract interpreter of the model's code, part 22: rows: a law that returns true and changes nothing. Conditions: none.
-/
import Derived.Test.YtednpcncjiaahaaAb21
import Derived.ProofKit
import Derived.Carry
set_option linter.unusedVariables false
set_option linter.unusedSimpArgs false
namespace Go.Ab
open Go Go.RowKit Go.ChangeShapes Go.WideShapes Go.ChangeAt

/-- where nothing may be written nothing has turned -/
theorem Post.below {φ φ' : Map} {h h' : Heap} {l : List Nat} {w w' : World} (p : Post φ h.get h h' l φ' w w') (ro : ∀ x B, h.get x = some B → B.own = false) : Below w.heap.size w w' :=
  ⟨p.fr.os, p.fr.tape, p.fr.output, p.fr.size, fun b hb => p.fr.block b hb fun ⟨a, B, _, h1, h2, _, _⟩ => by rw [ro a B h1] at h2; cases h2⟩

theorem Below.trodAll {H : Type} {enc : TypeId × Value → H} {P : Program} (hl : laidOutB P = true) {W W' : World} (hb : Below W.heap.size W W') : ∀ {ts : List TypeId} {vs : List Value} {ds : List (DataW H)} {ps : List MemPlace},
    (∀ t ∈ ts, P.readableRec t = true ∧ t < P.types.size) → DataW.TrodAll enc P W 0 (fun _ => true) true ts vs ds ps → (∀ x ∈ ps, x.block < W.heap.size) → DataW.TrodAll enc P W' 0 (fun b => decide (b < W.heap.size)) true ts vs ds ps
  | [], [], [], _, _, h, _ => h
  | [], [], _ :: _, _, _, h, _ => h.elim
  | [], _ :: _, _, _, _, h, _ => h.elim
  | _ :: _, [], _, _, _, h, _ => h.elim
  | _ :: _, _ :: _, [], _, _, h, _ => h.elim
  | t :: ts, v :: vs, d :: ds, ps, ht, h, hlt => by
    obtain ⟨p, q, h1, h2, rfl⟩ := h
    obtain ⟨a, b⟩ := ht t (by simp)
    exact ⟨p, q, Below.trod hl a b h1 hb (fun x hx => hlt x (by simp [hx])), Below.trodAll hl hb (fun t h => ht t (by simp [h])) h2 (fun x hx => hlt x (by simp [hx])), rfl⟩

/-- one closed fact: types can be read -/
def tsRowed (P : Program) (ts : List TypeId) : Bool := ts.all fun t => P.readableRec t && decide (t < P.types.size)

/-- THE END OF A LAW's ROW: true, and all reads as it did -/
theorem law_post {H : Type} {enc : TypeId × Value → H} {P : Program} (hl : laidOutB P = true) {f : Func} {s : ChangeSpec} {W W' : World} {args : Array Value} {ds gs : List (DataW H)} {before : List MemPlace} {tb : TypeId}
    (hW : DataW.Whole enc P f.params.toList s.vars false W args.toList ds gs before) (hb : Below W.heap.size W W') (hs : s.fn H (ds ++ gs) = { results := [.lit (.bool true)], args := ds, vars := gs })
    (hr : f.resultTypes = #[tb]) (hu : P.underlying tb = some .bool) (ht : tsRowed P f.params.toList = true) (hv : s.vars = []) : s.post enc P f false true false false W args (.bool true) W' := by
  have hlt := hW.lt
  have hW0 := hW
  obtain ⟨p, q, hA, hV, rfl, hz, hn⟩ := hW
  have hts : ∀ t ∈ f.params.toList, P.readableRec t = true ∧ t < P.types.size := fun t h => by
    have := List.all_eq_true.1 ht t h
    simpa using this
  have hA' := Below.trodAll hl hb hts hA (fun x hx => hlt x (by simp [hx]))
  rw [hv] at hV
  have hgs : gs = [] ∧ q = [] := by
    cases gs with
    | nil => exact ⟨rfl, hV⟩
    | cons _ _ => exact hV.elim
  obtain ⟨rfl, rfl⟩ := hgs
  refine ⟨ds, [], _, [], p, [], hW0, ?_, ?_, ?_, hb.frame _, fun h => by cases h⟩
  · rw [hs, hr]
    exact trodAll_mk1 (shut_bool hu true)
  · rw [hs]; exact hA'
  · rw [hs, hv]; rfl

/-- the memory of a call that is handed no memory: package-level variables alone, of which nothing is known -/
noncomputable def heap0 (ng : Nat) : Heap := { next := ng, t := .e, wl := [] }
def phi0 (ng : Nat) : Map := fun k => if k < ng then some ⟨k, 0, 0, 0⟩ else none
theorem heap0_get (ng x : Nat) : (heap0 ng).get x = none := by
  rcases Nat.lt_or_ge x ng with h | h
  · rw [Heap.get_lt (show x < (heap0 ng).next from h)]; exact PT.get_e x
  · exact Heap.get_ge h
theorem glob0 (ng : Nat) : Glob ng (phi0 ng) := fun k hk => ⟨⟨k, 0, 0, 0⟩, by simp [phi0, hk], rfl, rfl⟩
theorem hr0 (ng : Nat) (w : World) : HR (phi0 ng) (heap0 ng).get w := ⟨fun a B pl h _ => (by rw [heap0_get] at h; cases h), fun a a' B B' pl pl' _ h _ _ _ _ _ => (by rw [heap0_get] at h; cases h)⟩
/-- A LAW OF NUMBERS: what the interpreter says of a call without memory -/
theorem law_calls0 {P : Program} {fs : Nat → Option Func} {ng lf n : Nat} (hm : P.follows .mixedOrders = true) (hfs : FnsOk P fs) {f : FuncId} {args : List V} {h' : Heap} (e : callN P fs ng lf n f args (heap0 ng) = .val (.b true) h') (w : World) {args' : Array Value}
    (ha : RVs (phi0 ng) args args'.toList) : Calls P f args' w fun e w' => e = .returned (.bool true) ∧ Below w.heap.size w w' :=
  call_ret hm hfs e (glob0 ng) (hr0 ng w) ha (fun x h1 _ => by
    have h1 : ng ≤ x := h1
    simp [phi0, Nat.not_lt.2 h1]) fun v' w' φ' l hv _ hp => by
    cases hv
    exact ⟨rfl, hp.below fun x B hB => by rw [heap0_get] at hB; cases hB⟩
noncomputable def isTrue : Out → Bool
  | .val (.b true) _ => true
  | _ => false
theorem isTrue_spec {r : Out} (h : isTrue r = true) : ∃ h', r = .val (.b true) h' := by
  unfold isTrue at h
  split at h
  · exact ⟨_, rfl⟩
  · cases h
end Go.Ab
