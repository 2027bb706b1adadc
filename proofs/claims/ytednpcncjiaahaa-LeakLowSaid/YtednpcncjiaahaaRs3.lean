/-
  An abstract interpreter of the model's code, part 28: code, each piece with what follows it. Conditions: none.
-/
import Derived.Test.YtednpcncjiaahaaRsE
set_option linter.unusedVariables false
set_option linter.unusedSimpArgs false
namespace Go.Ab
open Go

/-- what follows: values, then memory -/
def Fv (n : Nat) : Type := Nat.rec (motive := fun _ => Type) (Heap → ROut) (fun _ T => V → T) n
noncomputable def hdV (l : List V) : V := List.rec (motive := fun _ => V) .und (fun v _ _ => v) l
noncomputable def tlV (l : List V) : List V := List.rec (motive := fun _ => List V) [] (fun _ t _ => t) l
noncomputable def Fv.app (n : Nat) : Fv n → List V → Heap → ROut := (fun (_ : Unit) =>
  Nat.rec (motive := fun n => Fv n → List V → Heap → ROut) (fun J _ h => J h) (fun _ ih J l h => ih (J (hdV l)) (tlV l) h) n) high1
noncomputable def Fv.lam (n : Nat) : (List V → Heap → ROut) → Fv n :=
  Nat.rec (motive := fun n => (List V → Heap → ROut) → Fv n) (fun f h => f [] h) (fun _ ih f v => ih fun l h => f (v :: l) h) n
theorem Fv.app_lam : ∀ (n : Nat) (f : List V → Heap → ROut) (l : List V) (h : Heap), l.length = n → Fv.app n (Fv.lam n f) l h = f l h
  | 0, f, [], h, _ => rfl
  | n + 1, f, v :: l, h, e => Fv.app_lam n (fun l h => f (v :: l) h) l h (by simpa using e)
noncomputable def jn (n : Nat) (X : Fv n → ROut) (J : Fv n) : ROut := X J
noncomputable def loop (n : Nat) (lf : Nat) (B : Fv n → Fv n) : Fv n := Nat.rec (motive := fun _ => Fv n) (Fv.lam n fun _ _ => .fail) (fun _ ih => B ih) lf
theorem loop_zero (n : Nat) (B : Fv n → Fv n) : loop n 0 B = Fv.lam n fun _ _ => .fail := rfl
theorem loop_succ (n lf : Nat) (B : Fv n → Fv n) : loop n (lf + 1) B = B (loop n lf B) := rfl

abbrev Kn := PT V → Heap → ROut
noncomputable def valsT (t : PT V) (live : List Nat) : List V := List.rec (motive := fun _ => List V) [] (fun k _ ih => tg t k :: ih) live
noncomputable def treeT (live : List Nat) : List V → PT V := List.rec (motive := fun _ => List V → PT V) (fun _ => .e) (fun k _ ih l => (path k).set (hdV l) (ih (tlV l))) live
theorem valsT_length (t : PT V) (live : List Nat) : (valsT t live).length = live.length := by
  induction live with
  | nil => rfl
  | cons k l ih => show (tg t k :: valsT t l).length = _; simp [ih]
/-- what is told of a piece of code: where a row parts, which values live on -/
inductive Ann where
  | z
  | r (sp : List Nat)
  | d (sp rec F : List Nat)
  | s (a b : Ann)
  | j (live : List Nat) (a b : Ann)
  | b (a : Ann)
  | l (live : List Nat) (a : Ann)

section
variable (P : Program) (cf : CallF) (ng nt lf : Nat)
noncomputable def exA (c : Code) : Ann → Kn → (Nat → Kn) → Kn → Kn :=
  Code.rec (motive := fun _ => Ann → Kn → (Nat → Kn) → Kn → Kn)
    (fun _ kn _ _ => kn)
    (fun _ ops draw an kn _ _ t h => match an with
      | .r sp => Bool.rec (motive := fun _ => ROut) (seqA P cf ng nt ops sp kn ops.toList 0 t h) .fail draw
      | .d sp rec F => Bool.rec (motive := fun _ => ROut) .fail (regR P cf ng nt ops sp rec F kn t h) draw
      | _ => .fail)
    (fun _ _ iha ihb an kn kx kr t h => match an with
      | .s x y => iha x (ihb y kn kx kr) kx kr t h
      | .j live x y => jn live.length (fun J => iha x (fun t h => Fv.app live.length J (valsT t live) h) kx kr t h) (Fv.lam live.length fun l h => ihb y kn kx kr (treeT live l) h)
      | _ => .fail)
    (fun c _ _ iha ihb an kn kx kr t h => match an with
      | .s x y => vb ((opd ng c).get t) fun q => ifB q (iha x kn kx kr t h) (ihb y kn kx kr t h)
      | _ => .fail)
    (fun id _ ih an kn kx kr t h => match an with
      | .b x => ih x kn (fun i => Bool.rec (motive := fun _ => Kn) (kx i) kn (Nat.beq i id)) kr t h
      | _ => .fail)
    (fun _ ih an _ kx kr t h => match an with
      | .l live x => Fv.app live.length (loop live.length lf fun S => Fv.lam live.length fun l h => ih x (fun t h => Fv.app live.length S (valsT t live) h) kx kr (treeT live l) h) (valsT t live) h
      | _ => .fail)
    (fun _ _ _ _ _ _ _ _ _ _ _ _ => .fail)
    (fun id _ _ kx _ => kx id)
    (fun _ _ _ _ _ _ _ _ => .fail)
    (fun _ _ _ _ _ _ _ => .fail)
    (fun _ _ _ _ _ _ _ => .fail)
    (fun _ _ _ kr => kr)
    (fun _ _ _ _ _ _ _ => .fail) c
end

/-! memory grows -/
section
variable {P : Program} {cf : CallF} {ng nt lf : Nat}
theorem vb_ext {v : V} {K : Bool → ROut} {h : Heap} (hK : ∀ q, Xt h (K q)) : Xt h (vb v K) := by
  cases v <;> first | exact hK _ | exact Xt.fail h
theorem ifB_ext {q : Bool} {x y : ROut} {h : Heap} (hx : Xt h x) (hy : Xt h y) : Xt h (ifB q x y) := by cases q; exact hy; exact hx
theorem loopK_ext {live : List Nat} {B : Kn → Kn} (hB : ∀ K, XtK K → XtK (B K)) : ∀ n, XtK fun t h => Fv.app live.length (loop live.length n fun S => Fv.lam live.length fun l h => B (fun t h => Fv.app live.length S (valsT t live) h) (treeT live l) h) (valsT t live) h := by
  intro n
  induction n with
  | zero =>
    intro t h
    simp only [loop_zero]
    rw [Fv.app_lam _ _ _ _ (valsT_length t live)]; exact Xt.fail h
  | succ n ihn =>
    intro t h
    simp only [loop_succ]
    rw [Fv.app_lam _ _ _ _ (valsT_length t live)]
    exact hB _ ihn _ h
theorem exA_ext (hc : CallOk P ng cf) (he : CallExt cf) : ∀ (c : Code) (an : Ann) (kn : Kn) (kx : Nat → Kn) (kr : Kn), XtK kn → (∀ i, XtK (kx i)) → XtK kr → XtK (exA P cf ng nt lf c an kn kx kr) := by
  intro c
  induction c with
  | skip => intro an kn kx kr h1 h2 h3; exact h1
  | region id ops draw =>
    intro an kn kx kr h1 h2 h3 t h
    cases an <;> try exact Xt.fail h
    · cases draw with
      | true => exact Xt.fail h
      | false => exact seqA_ext he h1 _ _ t h
    · cases draw with
      | true => exact regR_ext hc he h1 t h
      | false => exact Xt.fail h
  | seq x y ihx ihy =>
    intro an kn kx kr h1 h2 h3 t h
    cases an <;> try exact Xt.fail h
    · rename_i ax ay
      exact ihx ax _ kx kr (ihy ay kn kx kr h1 h2 h3) h2 h3 t h
    · rename_i live ax ay
      refine ihx ax (fun t h => Fv.app live.length (Fv.lam live.length fun l h => exA P cf ng nt lf y ay kn kx kr (treeT live l) h) (valsT t live) h) kx kr (fun t h => ?_) h2 h3 t h
      show Xt h (Fv.app live.length (Fv.lam live.length fun l h => exA P cf ng nt lf y ay kn kx kr (treeT live l) h) (valsT t live) h)
      rw [Fv.app_lam _ _ _ _ (valsT_length t live)]
      exact ihy ay kn kx kr h1 h2 h3 _ h
  | cond c x y ihx ihy =>
    intro an kn kx kr h1 h2 h3 t h
    cases an <;> try exact Xt.fail h
    rename_i ax ay
    exact vb_ext fun q => ifB_ext (ihx ax kn kx kr h1 h2 h3 t h) (ihy ay kn kx kr h1 h2 h3 t h)
  | block id c ih =>
    intro an kn kx kr h1 h2 h3 t h
    cases an <;> try exact Xt.fail h
    rename_i ax
    refine ih ax kn (fun i => Bool.rec (motive := fun _ => Kn) (kx i) kn (Nat.beq i id)) kr h1 (fun i => ?_) h3 t h
    cases Nat.beq i id
    · exact h2 i
    · exact h1
  | loop c ih =>
    intro an kn kx kr h1 h2 h3 t h
    cases an <;> try exact Xt.fail h
    rename_i live ax
    exact loopK_ext (B := fun K => exA P cf ng nt lf c ax K kx kr) (fun K hK => ih ax K kx kr hK h2 h3) lf t h
  | rangeFunc f ps x y _ _ => intro an kn kx kr h1 h2 h3 t h; exact Xt.fail h
  | exit id => intro an kn kx kr h1 h2 h3; exact h2 id
  | scope c _ => intro an kn kx kr h1 h2 h3 t h; exact Xt.fail h
  | label l => intro an kn kx kr h1 h2 h3 t h; exact Xt.fail h
  | goto l => intro an kn kx kr h1 h2 h3 t h; exact Xt.fail h
  | ret => intro an kn kx kr h1 h2 h3; exact h3
  | refuse s => intro an kn kx kr h1 h2 h3 t h; exact Xt.fail h
end

/-! that it is right -/
def FinM (T Pn : Value → World → Prop) (r : ROut) (h : Heap) (φ : Map) (w : World) : Prop :=
  match r with
  | .ok t h' => match t with
    | .n _ (some v) _ => ∀ v' w' φ' l, RV φ' v v' → Ext h h' l → Post φ h.get h h' l φ' w w' → T v' w'
    | _ => False
  | .pan v h' => ∀ v' w' φ' l, RV φ' v v' → Ext h h' l → Post φ h.get h h' l φ' w w' → Pn v' w'
  | .fail => False
theorem FinM.trans {T Pn : Value → World → Prop} {r : ROut} {h h1 : Heap} {φ φ1 : Map} {w w1 : World} {l : List Nat} (e : Ext h h1 l) (p : Post φ h.get h h1 l φ1 w w1) (q : FinM T Pn r h φ w) : FinM T Pn r h1 φ1 w1 := by
  unfold FinM at q ⊢
  cases r with
  | ok t h' =>
    cases t with
    | e => exact q
    | n a v b =>
      cases v with
      | none => exact q
      | some v => exact fun v' w' φ' l' k1 k2 k3 => q v' w' φ' (l' ++ l) k1 (e.trans k2) (p.trans e k2 k3)
  | pan v h' => exact fun v' w' φ' l' k1 k2 k3 => q v' w' φ' (l' ++ l) k1 (e.trans k2) (p.trans e k2 k3)
  | fail => exact q

structure Fin (T Pn : Value → World → Prop) (r : ROut) (h : Heap) (φ : Map) (w : World) : Prop where
  m : FinM T Pn r h φ w
  fr : Fresh φ h.next (r.next + 1)
theorem Fin.elim {T Pn : Value → World → Prop} {h : Heap} {φ : Map} {w : World} {p : Prop} (f : Fin T Pn .fail h φ w) : p := f.m.elim
theorem Fin.nf {T Pn : Value → World → Prop} {r : ROut} {h : Heap} {φ : Map} {w : World} (f : Fin T Pn r h φ w) : r ≠ .fail := fun e => by subst e; exact f.elim
theorem Fin.trans {T Pn : Value → World → Prop} {r : ROut} {h h1 : Heap} {φ φ1 : Map} {w w1 : World} {l : List Nat} (e : Ext h h1 l) (p : Post φ h.get h h1 l φ1 w w1) (q : Fin T Pn r h φ w) : Fin T Pn r h1 φ1 w1 :=
  ⟨q.m.trans e p, p.fresh (q.fr.sub e.next (Nat.le_refl _)) (Nat.le_refl _)⟩

structure SS (ng nt : Nat) (t : PT V) (h : Heap) (φ : Map) (w : World) (a : Act) : Prop where
  hr : HR φ h.get w
  glob : Glob ng φ
  tr : TR φ nt t a.tmps
  defers : a.defers = []

section
variable {P : Program} {cf : CallF} {ng nt lf : Nat} {T Pn : Value → World → Prop}

def KOk (ng nt : Nat) (T Pn : Value → World → Prop) (K : Kn) (N : Act → World → Prop) : Prop := ∀ t h φ w a, SS ng nt t h φ w a → Fin T Pn (K t h) h φ w → N a w

theorem stepA (hc : CallOk P ng cf) {o : Oper} {t : PT V} {h : Heap} {φ : Map} {w : World} {a : Act} {K : Kt} {N : Act → World → Prop} {Q : Exit → Act → World → Prop} (hX : ∀ v h', Xt h' (K v h')) (s : SS ng nt t h φ w a) (f : Fin T Pn (opA P ng o cf t h K) h φ w)
    (hN : ∀ v h' v' w' φ' l, RV φ' v v' → Ext h h' l → Post φ h.get h h' l φ' w w' → Fin T Pn (K v h') h' φ' w' → N (a.put o.dst v') w') (hP : ∀ v' w', Pn v' w' → Q (.panic [{ v := v', recovered := false }]) a w') (he : CallExt cf) : o.wp P a w N Q := by
  obtain ⟨hr, hg, ht, hd⟩ := s
  rcases opA_ok (P := P) (ng := ng) o cf t h K with e | e
  · rw [e] at f; exact f.elim
  · rw [e] at f
    cases hx : opX P cf o (ev ng t) h with
    | fail => rw [hx] at f; exact f.elim
    | pan v h' =>
      rw [hx] at f
      exact op_pan hc hx hg hr f.fr (fun x => ht.ev hg x) fun v' w' φ' l h1 h2 h3 => hP v' w' (f.m v' w' φ' l h1 h2 h3)
    | val v h' =>
      rw [hx] at f
      have f : Fin T Pn (K v h') h φ w := f
      have hle := (hX v h').le f.nf
      obtain ⟨k, hk⟩ := opX_ext he (.inl hx)
      have fr' : Fresh φ h.next (h'.next + 1) := f.fr.sub (Nat.le_refl _) (Nat.succ_le_succ hle)
      refine op_ok hc hx hg hr (fun x _ _ => rfl) fr' (fun _ => fr' _ (Nat.le_refl _) (Nat.lt_succ_of_le hk.next)) (fun x => ht.ev hg x) (by split <;> intros <;> rfl) ?_
      intro v' w' φ' l h1 h2 h3
      exact hN v h' v' w' φ' l h1 h2 h3 (Fin.trans h2 h3 f)

theorem SS.put {t t' : PT V} {h : Heap} {φ : Map} {w : World} {a : Act} (s : SS ng nt t h φ w a) {d : Option Tmp} {v : V} {v' : Value} (hp : putV nt t d v = some t') (hv : RV φ v v') : SS ng nt t' h φ w (a.put d v') :=
  ⟨s.hr, s.glob, s.tr.put hp hv, by cases d <;> exact s.defers⟩
theorem putA_put {d : Option Tmp} {v : V} {t : PT V} {K : PT V → ROut} {h : Heap} {φ : Map} {w : World} (f : Fin T Pn (putA nt d v t K) h φ w) : ∃ t', putV nt t d v = some t' ∧ Fin T Pn (K t') h φ w := by
  cases d with
  | none => exact ⟨t, rfl, f⟩
  | some d =>
    have f : Fin T Pn (ifB (Nat.blt d nt) (K (t.set d v)) .fail) h φ w := f
    cases hb : Nat.blt d nt with
    | false => rw [hb] at f; exact f.elim
    | true =>
      rw [hb] at f
      exact ⟨t.set d v, by show okc (Nat.blt d nt) _ = _; rw [hb]; rfl, f⟩
theorem vb_inv {v : V} {K : Bool → ROut} {h : Heap} {φ : Map} {w : World} (f : Fin T Pn (vb v K) h φ w) : ∃ q, v = .b q ∧ Fin T Pn (K q) h φ w := by
  cases v <;> first | exact ⟨_, rfl, f⟩ | exact f.elim
theorem splitA_ok {ops : Array Oper} {sp : List Nat} {o : Oper} {j : Nat} {t : PT V} {K : PT V → ROut} {h : Heap} {φ : Map} {w : World} {a : Act} (s : SS ng nt t h φ w a) (f : Fin T Pn (splitA nt ops sp o j t K) h φ w) : ∃ t', SS ng nt t' h φ w a ∧ Fin T Pn (K t') h φ w := by
  rcases splitA_eq (nt := nt) (ops := ops) (sp := sp) (o := o) (j := j) (t := t) (K := K) with e | e
  · rw [e] at f; exact f.elim
  · rw [e] at f; exact ⟨t, s, f⟩
theorem wantK_inv {ops : Array Oper} {o : Oper} {t : PT V} {yes no : ROut} {h : Heap} {φ : Map} {w : World} (f : Fin T Pn (wantA nt ops o t yes no) h φ w) : (wantedV nt ops o t = some true ∧ Fin T Pn yes h φ w) ∨ (wantedV nt ops o t = some false ∧ Fin T Pn no h φ w) := by
  rw [wantA_eq] at f
  cases hw : wantedV nt ops o t with
  | none => rw [hw] at f; exact f.elim
  | some b => rw [hw] at f; cases b with
    | true => exact .inl ⟨rfl, f⟩
    | false => exact .inr ⟨rfl, f⟩

theorem seqA_ok (hc : CallOk P ng cf) (he : CallExt cf) {ops : Array Oper} {sp : List Nat} {K : Kn} {Q : Exit → Act → World → Prop} (hX : XtK K) (hK : KOk ng nt T Pn K (Q .normal)) (hP : ∀ v' a w, a.defers = [] → Pn v' w → Q (.panic [{ v := v', recovered := false }]) a w) :
    ∀ (l : List Oper) (j : Nat) (t : PT V) (h : Heap) (φ : Map) (w : World) (a : Act), SS ng nt t h φ w a → Fin T Pn (seqA P cf ng nt ops sp K l j t h) h φ w → wpList P ops Q l a w
  | [], j, t, h, φ, w, a, s, f => hK t h φ w a s f
  | o :: l, j, t0, h, φ, w, a, s0, f0 => by
    have f0 : Fin T Pn (splitA nt ops sp o j t0 fun t => wantA nt ops o t (opA P ng o cf t h fun v h => putA nt o.dst v t fun t => seqA P cf ng nt ops sp K l (Nat.succ j) t h) (putA nt o.dst (.tup []) t fun t => seqA P cf ng nt ops sp K l (Nat.succ j) t h)) h φ w := f0
    obtain ⟨t, s, f⟩ := splitA_ok s0 f0
    have hwant : ∀ b, wantedV nt ops o t = some b → Region.wanted o (yielded ops a.tmps) = b := fun b hw => wanted_ok hw s.tr.size (fun j want d _ _ v hv => s.tr.val d v hv)
    rcases wantK_inv f with ⟨hw, f⟩ | ⟨hw, f⟩
    · refine BigFrame.wpList_want (hwant _ hw) fun K' hK' => ?_
      refine stepA hc (fun v h' => putA_ext fun t => seqA_ext he hX l (Nat.succ j) t h') s f (fun v h' v' w' φ' l' h1 h2 h3 f' => ?_) (fun v' w' hp => hP v' a w' s.defers hp) he
      obtain ⟨t', hp, f''⟩ := putA_put f'
      refine hK' _ _ ?_
      exact seqA_ok hc he hX hK hP l (Nat.succ j) t' h' φ' w' _ ((⟨h3.hr' h2, s.glob.mono h3.le, s.tr.mono h3.le, s.defers⟩ : SS ng nt t h' φ' w' a).put hp h1) f''
    · obtain ⟨t', hp, f''⟩ := putA_put f
      refine wpList_skip (hwant _ hw) ?_
      exact seqA_ok hc he hX hK hP l (Nat.succ j) t' h φ w _ (s.put hp (RV.undef φ)) f''

theorem regR_ok (hc : CallOk P ng cf) (he : CallExt cf) (hm : P.follows .mixedOrders = true) {id : Nat} {ops : Array Oper} {sp rec F : List Nat} {K : Kn} {Q : Exit → Act → World → Prop} (hX : XtK K) (hK : KOk ng nt T Pn K (Q .normal)) {t : PT V} {h : Heap} {φ : Map} {w : World} {a : Act}
    (s : SS ng nt t h φ w a) (f : Fin T Pn (regR P cf ng nt ops sp rec F K t h) h φ w) : (Code.region id ops true).wp P Q a w := by
  obtain ⟨t', h', T1, H, I, B, l, q1, d, e1, e2, e3, e4, e5, e6, e7⟩ := regR_inv hc he f.nf
  rw [q1] at f
  have hle := (hX t' h').le f.nf
  refine d.ok hm e1 e2 e3 e4 e5 e6 e7 s.hr (f.fr.sub (Nat.le_refl _) (Nat.succ_le_succ hle)) s.glob s.tr s.defers fun a' w' φ' l' k1 k2 k3 k4 => ?_
  exact hK t' h' φ' w' a' ⟨k4.hr' k3, s.glob.mono k4.le, k1, k2⟩ (Fin.trans k3 k4 f)
theorem tree_ok {φ : Map} {tmps : Array Value} (hs : tmps.size = nt) : ∀ (live : List Nat) (l : List V), (∀ (i k : Nat) (v : V), live[i]? = some k → l[i]? = some v → RV φ v (tmps.getD k undef)) → TR φ nt (treeT live l) tmps
  | [], l, _ => ⟨hs, fun k v hk => by have hk : (PT.e : PT V).get k = some v := hk; rw [PT.get_e] at hk; cases hk⟩
  | d :: live, l, hv => by
    refine ⟨hs, fun k v hk => ?_⟩
    have hk' : ((treeT live (tlV l)).set d (hdV l)).get k = some v := hk
    clear hk
    have hk := hk'
    rw [PT.get_set] at hk
    by_cases hdk : d = k
    · rw [if_pos hdk] at hk
      subst hdk
      have hk := Option.some.inj hk
      subst hk
      cases l with
      | nil => exact .und _
      | cons x l => exact hv 0 d x rfl rfl
    · rw [if_neg hdk] at hk
      refine (tree_ok hs live (tlV l) fun i k v h1 h2 => ?_).val k v hk
      cases l with
      | nil => simp [tlV] at h2
      | cons x l => exact hv (i + 1) k v (by simpa using h1) (by simpa [tlV] using h2)
theorem vals_get (t : PT V) : ∀ (live : List Nat) (i k : Nat) (v : V), live[i]? = some k → (valsT t live)[i]? = some v → v = tg t k
  | [], i, k, v, h, _ => by simp at h
  | d :: live, i, k, v, h1, h2 => by
    have h2 : (tg t d :: valsT t live)[i]? = some v := h2
    cases i with
    | zero => simp at h1 h2; subst h1; exact h2.symm
    | succ i => simp at h1 h2; exact vals_get t live i k v h1 h2
theorem SS.trim {t : PT V} {h : Heap} {φ : Map} {w : World} {a : Act} (s : SS ng nt t h φ w a) (live : List Nat) : SS ng nt (treeT live (valsT t live)) h φ w a :=
  ⟨s.hr, s.glob, tree_ok s.tr.size live _ fun i k v h1 h2 => by
    rw [vals_get t live i k v h1 h2, tg_get]
    cases hk : t.get k with
    | none => exact .und _
    | some u => exact s.tr.val k u hk, s.defers⟩

theorem exA_ok (hc : CallOk P ng cf) (he : CallExt cf) (hm : P.follows .mixedOrders = true) : ∀ (c : Code) (an : Ann) (kn : Kn) (kx : Nat → Kn) (kr : Kn) (Q : Exit → Act → World → Prop), XtK kn → (∀ i, XtK (kx i)) → XtK kr → KOk ng nt T Pn kn (Q .normal) → (∀ i, KOk ng nt T Pn (kx i) (Q (.exit i))) → KOk ng nt T Pn kr (Q .ret) →
    (∀ v' a w, a.defers = [] → Pn v' w → Q (.panic [{ v := v', recovered := false }]) a w) → ∀ (t : PT V) (h : Heap) (φ : Map) (w : World) (a : Act), SS ng nt t h φ w a → Fin T Pn (exA P cf ng nt lf c an kn kx kr t h) h φ w → c.wp P Q a w := by
  intro c
  induction c with
  | skip => intro an kn kx kr Q x1 x2 x3 h1 h2 h3 h4 t h φ w a s f; exact wp_skip (h1 t h φ w a s f)
  | region id ops draw =>
    intro an kn kx kr Q x1 x2 x3 h1 h2 h3 h4 t h φ w a s f
    cases an <;> try exact f.elim
    rotate_right
    · cases draw with
      | true => exact regR_ok hc he hm x1 h1 s f
      | false => exact f.elim
    cases draw with
    | true => exact f.elim
    | false => exact wp_region_list (seqA_ok hc he x1 h1 h4 _ _ t h φ w a s f)
  | seq x y ihx ihy =>
    intro an kn kx kr Q x1 x2 x3 h1 h2 h3 h4 t h φ w a s f
    cases an <;> try exact f.elim
    · rename_i ax ay
      refine wp_seq (ihx ax (exA P cf ng nt lf y ay kn kx kr) kx kr (Exit.then (y.wp P Q) Q) (exA_ext hc he y ay kn kx kr x1 x2 x3) x2 x3 (fun t h φ w a s f => ihy ay kn kx kr Q x1 x2 x3 h1 h2 h3 h4 t h φ w a s f) h2 h3 h4 t h φ w a s f)
    · rename_i live ax ay
      have f : Fin T Pn (exA P cf ng nt lf x ax (fun t h => Fv.app live.length (Fv.lam live.length fun l h => exA P cf ng nt lf y ay kn kx kr (treeT live l) h) (valsT t live) h) kx kr t h) h φ w := f
      have hX : XtK (fun t h => Fv.app live.length (Fv.lam live.length fun l h => exA P cf ng nt lf y ay kn kx kr (treeT live l) h) (valsT t live) h) := fun t h => by
        show Xt h (Fv.app live.length (Fv.lam live.length fun l h => exA P cf ng nt lf y ay kn kx kr (treeT live l) h) (valsT t live) h)
        rw [Fv.app_lam _ _ _ _ (valsT_length t live)]; exact exA_ext hc he y ay kn kx kr x1 x2 x3 _ h
      refine wp_seq (ihx ax _ kx kr (Exit.then (y.wp P Q) Q) hX x2 x3 (fun t h φ w a s f => ?_) h2 h3 h4 t h φ w a s f)
      have f : Fin T Pn (Fv.app live.length (Fv.lam live.length fun l h => exA P cf ng nt lf y ay kn kx kr (treeT live l) h) (valsT t live) h) h φ w := f
      rw [Fv.app_lam _ _ _ _ (valsT_length t live)] at f
      exact ihy ay kn kx kr Q x1 x2 x3 h1 h2 h3 h4 _ h φ w a (s.trim live) f
  | cond c x y ihx ihy =>
    intro an kn kx kr Q x1 x2 x3 h1 h2 h3 h4 t h φ w a s f
    cases an <;> try exact f.elim
    rename_i ax ay
    have f : Fin T Pn (vb ((opd ng c).get t) fun q => ifB q (exA P cf ng nt lf x ax kn kx kr t h) (exA P cf ng nt lf y ay kn kx kr t h)) h φ w := f
    rw [opd_eq] at f
    obtain ⟨q, e, f⟩ := vb_inv f
    have hv := s.tr.ev s.glob c
    rw [e] at hv
    have hcv : a.eval c = .bool q := by
      generalize a.eval c = z at hv
      cases hv; rfl
    refine wp_cond hcv ?_
    cases q
    · exact ihy ay kn kx kr Q x1 x2 x3 h1 h2 h3 h4 t h φ w a s f
    · exact ihx ax kn kx kr Q x1 x2 x3 h1 h2 h3 h4 t h φ w a s f
  | block id c ih =>
    intro an kn kx kr Q x1 x2 x3 h1 h2 h3 h4 t h φ w a s f
    cases an <;> try exact f.elim
    rename_i ax
    refine wp_block (ih ax kn (fun i => Bool.rec (motive := fun _ => Kn) (kx i) kn (Nat.beq i id)) kr (Exit.inBlock id Q) x1 (fun i => by cases Nat.beq i id; exact x2 i; exact x1) x3 h1 (fun i t h φ w a s f => ?_) h3 h4 t h φ w a s f)
    show (if i = id then Q .normal a w else Q (.exit i) a w)
    cases hb : Nat.beq i id with
    | true =>
      rw [hb] at f
      rw [if_pos (Nat.eq_of_beq_eq_true hb)]
      exact h1 t h φ w a s f
    | false =>
      rw [hb] at f
      rw [if_neg (Nat.ne_of_beq_eq_false hb)]
      exact h2 i t h φ w a s f
  | loop c ih =>
    intro an kn kx kr Q x1 x2 x3 h1 h2 h3 h4 t h φ w a s f
    cases an <;> try exact f.elim
    rename_i live ax
    have f : Fin T Pn (Fv.app live.length (loop live.length lf fun S => Fv.lam live.length fun l h => exA P cf ng nt lf c ax (fun t h => Fv.app live.length S (valsT t live) h) kx kr (treeT live l) h) (valsT t live) h) h φ w := f
    have hX : ∀ n, XtK fun t h => Fv.app live.length (loop live.length n fun S => Fv.lam live.length fun l h => exA P cf ng nt lf c ax (fun t h => Fv.app live.length S (valsT t live) h) kx kr (treeT live l) h) (valsT t live) h := loopK_ext (B := fun K => exA P cf ng nt lf c ax K kx kr) (fun K hK => exA_ext hc he c ax K kx kr hK x2 x3)
    refine wp_loop_n (fun n a w => ∃ t h φ, SS ng nt t h φ w a ∧ Fin T Pn (Fv.app live.length (loop live.length n fun S => Fv.lam live.length fun l h => exA P cf ng nt lf c ax (fun t h => Fv.app live.length S (valsT t live) h) kx kr (treeT live l) h) (valsT t live) h) h φ w)
      (fun a w ⟨t, h, φ, s, f⟩ => ?_) (fun n a w ⟨t, h, φ, s, f⟩ => ?_) ⟨t, h, φ, s, f⟩
    · rw [loop_zero, Fv.app_lam _ _ _ _ (valsT_length t live)] at f; exact f.elim
    · rw [loop_succ, Fv.app_lam _ _ _ _ (valsT_length t live)] at f
      refine ih ax _ kx kr (Exit.then (fun a w => ∃ t h φ, SS ng nt t h φ w a ∧ Fin T Pn (Fv.app live.length (loop live.length n fun S => Fv.lam live.length fun l h => exA P cf ng nt lf c ax (fun t h => Fv.app live.length S (valsT t live) h) kx kr (treeT live l) h) (valsT t live) h) h φ w) Q) (hX n) x2 x3 (fun t h φ w a s f => ⟨t, h, φ, s, f⟩) h2 h3 h4 _ h φ w a (s.trim live) f
  | rangeFunc f ps x y _ _ => intro an kn kx kr Q x1 x2 x3 h1 h2 h3 h4 t h φ w a s f; exact f.elim
  | exit id => intro an kn kx kr Q x1 x2 x3 h1 h2 h3 h4 t h φ w a s f; exact wp_exit (h2 id t h φ w a s f)
  | scope c _ => intro an kn kx kr Q x1 x2 x3 h1 h2 h3 h4 t h φ w a s f; exact f.elim
  | label l => intro an kn kx kr Q x1 x2 x3 h1 h2 h3 h4 t h φ w a s f; exact f.elim
  | goto l => intro an kn kx kr Q x1 x2 x3 h1 h2 h3 h4 t h φ w a s f; exact f.elim
  | ret => intro an kn kx kr Q x1 x2 x3 h1 h2 h3 h4 t h φ w a s f; exact wp_ret (h3 t h φ w a s f)
  | refuse s => intro an kn kx kr Q x1 x2 x3 h1 h2 h3 h4 t h φ w a s f; exact f.elim
end
end Go.Ab
