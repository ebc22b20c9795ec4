/- Small words for the walks: one operation behind another; a state under other numbers. Nothing of the dump stands here. -/
import Derived.Test.YtmkfpfnjimmmaaaSepJ
namespace Go.Proofs.Ytmkfpfnjimmmaaa
open Go.RowKit
set_option linter.unusedVariables false
set_option linter.unusedSimpArgs false

/-- A value, seen. -/
inductive IsV : AV → AV → Prop where
  | d (x : D) : IsV (.d x) (.d x)
  | agg (vs : List AV) : IsV (.agg vs) (.agg vs)
  | tup (vs : List AV) : IsV (.tup vs) (.tup vs)
  | ptr (g i j : Nat) : IsV (.ptr g i j) (.ptr g i j)
  | vptr (o : Bool) (c : List D) (j : Nat) : IsV (.vptr o c j) (.vptr o c j)
  | lent (sz : Nat) (es : List (List D)) : IsV (.lent sz es) (.lent sz es)
  | own (g i n : Nat) : IsV (.own g i n) (.own g i n)
  | nsl : IsV .nsl .nsl
  | nptr : IsV .nptr .nptr
  | fn (f : FuncId) (cs : List AV) : IsV (.fn f cs) (.fn f cs)
  | und : IsV .und .und
/-- The cells of a value, seen. -/
inductive FlatV : AV → List AV → Prop where
  | agg (vs : List AV) : FlatV (.agg vs) vs
  | d (x : D) : FlatV (.d x) [.d x]
  | own (g i n : Nat) : FlatV (.own g i n) [.own g i n]
  | nsl : FlatV .nsl [.nsl]
  | ptr (g i j : Nat) : FlatV (.ptr g i j) [.ptr g i j]
theorem FlatV.eq {x : AV} {l : List AV} (h : FlatV x l) : x.flat = l := by cases h <;> rfl
theorem IsV.eq {x y : AV} (h : IsV x y) : x = y := by cases h <;> rfl

section
variable {P : Program} {nt : Nat} {σ : St} {AQ : Exit → St → Prop} {T : Nat → AV} {B : Nat → Blk} {ops : Array Oper} {l : List Oper} {o : Oper}

theorem Reads.v {p : AV} {g j : Nat} {e : TypeId} {cs out : List AV} (h : p = .ptr g 0 j) (hb : σ.blk g = .var e cs) (hd : cs.drop j = out) : Reads σ p [g] out := by subst hd; exact .var h hb
theorem Reads.r {p : AV} {g i j sz : Nat} {e : TypeId} {es : List (List D)} {c : List D} {out : List AV} (h : p = .ptr g i j) (hb : σ.blk g = .row sz e es) (hc : es[i]? = some c) (hd : (c.drop j).map .d = out) : Reads σ p [g] out := by subst hd; exact .row h hb hc
theorem Reads.w {p : AV} {f : Bool} {c : List D} {j : Nat} {out : List AV} (h : p = .vptr f c j) (hd : (c.drop j).map .d = out) : Reads σ p [] out := by subst hd; exact .view h
theorem B.mv {x : Operand} {v : AV} (ho : o.op = .move x ∨ o.op = .assign x) (hv : IsV (σ.eval x) v) (hd : dstOk o nt = true) : DoesB P nt o σ ⟨tmpsIn [x], [], v, []⟩ := by
  have := B.move (P := P) ho hd (σ := σ)
  rw [hv.eq] at this
  exact this

theorem AL.v {t : Nat} {rt rb : List Nat} {v : AV} (hg : o.guard = none) (ho : o.dst = some t) (hd : DoesB P nt o ⟨T, B⟩ ⟨rt, rb, v, []⟩) (h : AL P nt ops AQ l ⟨upd T t v, B⟩) : AL P nt ops AQ (o :: l) ⟨T, B⟩ :=
  AL.cons (.plain hg hd) (by show AL _ _ _ _ _ ⟨putOf T o.dst v, B⟩; rw [ho]; exact h)
theorem AL.u {t g : Nat} {b : Blk} {rt rb : List Nat} {v : AV} (hg : o.guard = none) (ho : o.dst = some t) (hd : DoesB P nt o ⟨T, B⟩ ⟨rt, rb, v, [(g, b)]⟩) (h : AL P nt ops AQ l ⟨upd T t v, upd B g b⟩) : AL P nt ops AQ (o :: l) ⟨T, B⟩ :=
  AL.cons (.plain hg hd) (by show AL _ _ _ _ _ ⟨putOf T o.dst v, upd B g b⟩; rw [ho]; exact h)
theorem AL.u2 {t g g2 : Nat} {b b2 : Blk} {rt rb : List Nat} {v : AV} (hg : o.guard = none) (ho : o.dst = some t) (hd : DoesB P nt o ⟨T, B⟩ ⟨rt, rb, v, [(g, b), (g2, b2)]⟩) (h : AL P nt ops AQ l ⟨upd T t v, upd (upd B g b) g2 b2⟩) : AL P nt ops AQ (o :: l) ⟨T, B⟩ :=
  AL.cons (.plain hg hd) (by show AL _ _ _ _ _ ⟨putOf T o.dst v, upd (upd B g b) g2 b2⟩; rw [ho]; exact h)
theorem AL.s {g : Nat} {b : Blk} {rt rb : List Nat} {v : AV} (hg : o.guard = none) (ho : o.dst = none) (hd : DoesB P nt o ⟨T, B⟩ ⟨rt, rb, v, [(g, b)]⟩) (h : AL P nt ops AQ l ⟨T, upd B g b⟩) : AL P nt ops AQ (o :: l) ⟨T, B⟩ :=
  AL.cons (.plain hg hd) (by show AL _ _ _ _ _ ⟨putOf T o.dst v, upd B g b⟩; rw [ho]; exact h)
/-- Guarded operations. -/
theorem AL.gv {t t' j : Nat} {b : Bool} {rt rb : List Nat} {v : AV} (hg : o.guard = some (j, b)) (hj : ((ops[j]?).bind (·.dst)) = some t') (hb : T t' = .d (.bool b)) (ho : o.dst = some t) (hd : DoesB P nt o ⟨T, B⟩ ⟨rt, rb, v, []⟩) (h : AL P nt ops AQ l ⟨upd T t v, B⟩) : AL P nt ops AQ (o :: l) ⟨T, B⟩ :=
  AL.cons (.on (σ := ⟨T, B⟩) hg hj hb hd) (by show AL _ _ _ _ _ ⟨putOf T o.dst v, B⟩; rw [ho]; exact h)
theorem AL.gu {t t' j g : Nat} {bk : Blk} {b : Bool} {rt rb : List Nat} {v : AV} (hg : o.guard = some (j, b)) (hj : ((ops[j]?).bind (·.dst)) = some t') (hb : T t' = .d (.bool b)) (ho : o.dst = some t) (hd : DoesB P nt o ⟨T, B⟩ ⟨rt, rb, v, [(g, bk)]⟩) (h : AL P nt ops AQ l ⟨upd T t v, upd B g bk⟩) : AL P nt ops AQ (o :: l) ⟨T, B⟩ :=
  AL.cons (.on (σ := ⟨T, B⟩) hg hj hb hd) (by show AL _ _ _ _ _ ⟨putOf T o.dst v, upd B g bk⟩; rw [ho]; exact h)
theorem AL.off {t t' j : Nat} {b g : Bool} (hg : o.guard = some (j, g)) (hj : ((ops[j]?).bind (·.dst)) = some t') (hb : T t' = .d (.bool b)) (hne : g = !b) (ho : o.dst = some t) (hnt : t < nt) (h : AL P nt ops AQ l ⟨upd T t (.tup []), B⟩) : AL P nt ops AQ (o :: l) ⟨T, B⟩ := by
  subst hne
  exact AL.cons (.off (σ := ⟨T, B⟩) (by rw [ho]; intro t h; cases h; exact hnt) hg hj hb) (by show AL _ _ _ _ _ ⟨putOf T o.dst (.tup []), B⟩; rw [ho]; exact h)
theorem AL.offU {t t' j : Nat} {g : Bool} (hg : o.guard = some (j, g)) (hj : ((ops[j]?).bind (·.dst)) = some t') (hb : T t' = .tup []) (ho : o.dst = some t) (hnt : t < nt) (h : AL P nt ops AQ l ⟨upd T t (.tup []), B⟩) : AL P nt ops AQ (o :: l) ⟨T, B⟩ := by
  exact AL.cons (.offU (σ := ⟨T, B⟩) (by rw [ho]; intro t h; cases h; exact hnt) hg hj hb) (by show AL _ _ _ _ _ ⟨putOf T o.dst (.tup []), B⟩; rw [ho]; exact h)

theorem Chain.v {t : Nat} {rt rb : List Nat} {v : AV} {fs : List Info} {σ' : St} (hg : o.guard = none) (ho : o.dst = some t) (hd : DoesB P nt o ⟨T, B⟩ ⟨rt, rb, v, []⟩) (h : Chain P nt ops l ⟨upd T t v, B⟩ fs σ') : Chain P nt ops (o :: l) ⟨T, B⟩ (⟨rt, rb, v, []⟩ :: fs) σ' :=
  Chain.cons (.plain hg hd) (by show Chain _ _ _ _ ⟨putOf T o.dst v, B⟩ _ _; rw [ho]; exact h)
theorem Chain.u {t g : Nat} {b : Blk} {rt rb : List Nat} {v : AV} {fs : List Info} {σ' : St} (hg : o.guard = none) (ho : o.dst = some t) (hd : DoesB P nt o ⟨T, B⟩ ⟨rt, rb, v, [(g, b)]⟩) (h : Chain P nt ops l ⟨upd T t v, upd B g b⟩ fs σ') : Chain P nt ops (o :: l) ⟨T, B⟩ (⟨rt, rb, v, [(g, b)]⟩ :: fs) σ' :=
  Chain.cons (.plain hg hd) (by show Chain _ _ _ _ ⟨putOf T o.dst v, upd B g b⟩ _ _; rw [ho]; exact h)
theorem Chain.u2 {t g g2 : Nat} {b b2 : Blk} {rt rb : List Nat} {v : AV} {fs : List Info} {σ' : St} (hg : o.guard = none) (ho : o.dst = some t) (hd : DoesB P nt o ⟨T, B⟩ ⟨rt, rb, v, [(g, b), (g2, b2)]⟩) (h : Chain P nt ops l ⟨upd T t v, upd (upd B g b) g2 b2⟩ fs σ') : Chain P nt ops (o :: l) ⟨T, B⟩ (⟨rt, rb, v, [(g, b), (g2, b2)]⟩ :: fs) σ' :=
  Chain.cons (.plain hg hd) (by show Chain _ _ _ _ ⟨putOf T o.dst v, upd (upd B g b) g2 b2⟩ _ _; rw [ho]; exact h)
theorem Chain.s {g : Nat} {b : Blk} {rt rb : List Nat} {v : AV} {fs : List Info} {σ' : St} (hg : o.guard = none) (ho : o.dst = none) (hd : DoesB P nt o ⟨T, B⟩ ⟨rt, rb, v, [(g, b)]⟩) (h : Chain P nt ops l ⟨T, upd B g b⟩ fs σ') : Chain P nt ops (o :: l) ⟨T, B⟩ (⟨rt, rb, v, [(g, b)]⟩ :: fs) σ' :=
  Chain.cons (.plain hg hd) (by show Chain _ _ _ _ ⟨putOf T o.dst v, upd B g b⟩ _ _; rw [ho]; exact h)
theorem Chain.gv {t t' j : Nat} {b : Bool} {rt rb : List Nat} {v : AV} {fs : List Info} {σ' : St} (hg : o.guard = some (j, b)) (hj : ((ops[j]?).bind (·.dst)) = some t') (hb : T t' = .d (.bool b)) (ho : o.dst = some t) (hd : DoesB P nt o ⟨T, B⟩ ⟨rt, rb, v, []⟩) (h : Chain P nt ops l ⟨upd T t v, B⟩ fs σ') : Chain P nt ops (o :: l) ⟨T, B⟩ (⟨t' :: rt, rb, v, []⟩ :: fs) σ' :=
  Chain.cons (.on (σ := ⟨T, B⟩) hg hj hb hd) (by show Chain _ _ _ _ ⟨putOf T o.dst v, B⟩ _ _; rw [ho]; exact h)
theorem Chain.off {t t' j : Nat} {b g : Bool} {fs : List Info} {σ' : St} (hg : o.guard = some (j, g)) (hj : ((ops[j]?).bind (·.dst)) = some t') (hb : T t' = .d (.bool b)) (hne : g = !b) (ho : o.dst = some t) (hnt : t < nt) (h : Chain P nt ops l ⟨upd T t (.tup []), B⟩ fs σ') : Chain P nt ops (o :: l) ⟨T, B⟩ (⟨[t'], [], .tup [], []⟩ :: fs) σ' := by
  subst hne
  exact Chain.cons (.off (σ := ⟨T, B⟩) (by rw [ho]; intro t h; cases h; exact hnt) hg hj hb) (by show Chain _ _ _ _ ⟨putOf T o.dst (.tup []), B⟩ _ _; rw [ho]; exact h)
theorem Chain.offU {t t' j : Nat} {g : Bool} {fs : List Info} {σ' : St} (hg : o.guard = some (j, g)) (hj : ((ops[j]?).bind (·.dst)) = some t') (hb : T t' = .tup []) (ho : o.dst = some t) (hnt : t < nt) (h : Chain P nt ops l ⟨upd T t (.tup []), B⟩ fs σ') : Chain P nt ops (o :: l) ⟨T, B⟩ (⟨[t'], [], .tup [], []⟩ :: fs) σ' := by
  exact Chain.cons (.offU (σ := ⟨T, B⟩) (by rw [ho]; intro t h; cases h; exact hnt) hg hj hb) (by show Chain _ _ _ _ ⟨putOf T o.dst (.tup []), B⟩ _ _; rw [ho]; exact h)

/-- The same value, its blocks under other numbers, some rows frozen. -/
inductive Loc (B : Nat → Blk) (gs ks : List Nat) : AV → AV → Prop where
  | d (x : D) : Loc B gs ks (.d x) (.d x)
  | nsl : Loc B gs ks .nsl .nsl
  | nptr : Loc B gs ks .nptr .nptr
  | und (x : AV) : Loc B gs ks x .und
  | lent (sz : Nat) (es : List (List D)) : Loc B gs ks (.lent sz es) (.lent sz es)
  | vptr (o : Bool) (c : List D) (j : Nat) : Loc B gs ks (.vptr o c j) (.vptr o c j)
  | own {g g' i n : Nat} (h : ks[g']? = some g) : Loc B gs ks (.own g i n) (.own g' i n)
  | ptr {g g' i j : Nat} (h : ks[g']? = some g) : Loc B gs ks (.ptr g i j) (.ptr g' i j)
  | fz {g n sz : Nat} {e : TypeId} {es : List (List D)} (hg : g ∈ gs) (hb : B g = .row sz e es) (hn : n = es.length) : Loc B gs ks (.own g 0 n) (.d (.view sz es))
  | nv (sz : Nat) : Loc B gs ks .nsl (.d (.view sz []))
  | agg {vs us : List AV} (hl : vs.length = us.length) (h : ∀ (i : Nat) (x y : AV), vs[i]? = some x → us[i]? = some y → Loc B gs ks x y) : Loc B gs ks (.agg vs) (.agg us)
  | tup {vs us : List AV} (hl : vs.length = us.length) (h : ∀ (i : Nat) (x y : AV), vs[i]? = some x → us[i]? = some y → Loc B gs ks x y) : Loc B gs ks (.tup vs) (.tup us)

theorem VA.loc {w0 : World} {U : Nat → Prop} {E E' : Env} {a : Act} {w : World} (hr : Rel w0 U nt σ E a w) {gs ks : List Nat} {F' : Nat → Prop} (hF : ∀ b, F' b → Fof E (killed σ.blk gs) b) (hE : ∀ g g', ks[g']? = some g → E.kn g → E'.kn g' ∧ E'.β g' = E.β g ∧ E'.sz g' = E.sz g ∧ E'.cap g' = E.cap g ∧ E'.vr g' = E.vr g) {x y : AV} {v : Value} (hw : Loc σ.blk gs ks x y) (h : VA E w (Fof E σ.blk) U w0.heap.size x v) : VA E' w F' U w0.heap.size y v := by
  have hF2 : ∀ b, b < w.heap.size → F' b → Fof E σ.blk b := fun b _ hf => Fof_killed (hF b hf)
  induction hw generalizing v with
  | d x => cases h with | d h => exact .d (h.keep (Nat.le_refl _) (fun _ _ _ => rfl) hF2)
  | nsl => cases h; exact .nsl
  | nptr => cases h; exact .nptr
  | und x => exact .und _
  | lent sz es =>
    cases h with
    | lent u h1 h2 h3 h4 h5 h6 h7 =>
      refine .lent u h1 h2 h3 h4 h5 (fun i x hx => ?_) (fun i x j d hx hd => (h7 i x j d hx hd).keep (Nat.le_refl _) (fun _ _ _ => rfl) hF2)
      obtain ⟨b, off, q1, q2, q3⟩ := h6 i x hx
      exact ⟨b, off, q1, ⟨q2.1, fun hf => q2.2.1 (hF2 b q2.1 hf), q2.2.2⟩, q3⟩
  | vptr o c j =>
    cases h with
    | vptr u h1 h2 h3 => exact .vptr u ⟨h1.1, fun hf => h1.2.1 (hF2 _ h1.1 hf), h1.2.2⟩ h2 fun j d hd => (h3 j d hd).keep (Nat.le_refl _) (fun _ _ _ => rfl) hF2
  | own hg =>
    cases h with
    | onil hk hv =>
      obtain ⟨h1, _, _, _, h5⟩ := hE _ _ hg hk
      exact .onil h1 (h5.trans hv)
    | own hk hv hn hm ha =>
      obtain ⟨h1, h2, h3, h4, h5⟩ := hE _ _ hg hk
      exact .own h1 (h5.trans hv) hn hm (by rw [h2, h3, h4]; exact ha)
  | ptr hg =>
    cases h with
    | ptr hk =>
      obtain ⟨h1, h2, h3, h4, h5⟩ := hE _ _ hg hk
      rw [← h2, ← h3]
      exact .ptr h1
  | fz hg hb hn =>
    have := h.weak hr (gs := gs) (.fz0 hg hb hn)
    cases this with
    | d h => exact .d (h.keep (Nat.le_refl _) (fun _ _ _ => rfl) (fun b _ hf => hF b hf))
  | nv sz =>
    cases h
    exact .d (.view (fun _ _ => .tuple #[]) rfl (Nat.le_refl _) (Nat.zero_le _) (fun _ => rfl) (fun i x hx => by simp at hx) (fun i x hx => by simp at hx) (fun i x j d hx => by simp at hx))
  | agg hl _ ih =>
    cases h with
    | agg hl' h' =>
      refine .agg (hl.symm.trans hl') fun i x u hx hu => ?_
      have hlt := (List.getElem?_eq_some_iff.1 hx).1
      exact ih i _ x (List.getElem?_eq_getElem (by omega)) hx (h' i _ u (List.getElem?_eq_getElem (by omega)) hu)
  | tup hl _ ih =>
    cases h with
    | tup hl' h' =>
      refine .tup (hl.symm.trans hl') fun i x u hx hu => ?_
      have hlt := (List.getElem?_eq_some_iff.1 hx).1
      exact ih i _ x (List.getElem?_eq_getElem (by omega)) hx (h' i _ u (List.getElem?_eq_getElem (by omega)) hu)

def blksOf (bs : List Blk) : Nat → Blk := fun g => bs.getD g .free

/-- A block under another number. -/
inductive LocB (B : Nat → Blk) (gs ks : List Nat) : Blk → Blk → Prop where
  | row (sz : Nat) (e : TypeId) (es : List (List D)) : LocB B gs ks (.row sz e es) (.row sz e es)
  | var {e : TypeId} {cs cs' : List AV} (hl : cs.length = cs'.length) (hlv : leaves cs' = true) (h : ∀ (i : Nat) (x y : AV), cs[i]? = some x → cs'[i]? = some y → Loc B gs ks x y) : LocB B gs ks (.var e cs) (.var e cs')

/-- A state under other numbers. -/
structure Moved (σ σ' : St) : Prop where
  mv : ∃ (gs ks : List Nat) (bs : List Blk), (∀ g ∈ gs, ∃ sz e es, σ.blk g = .row sz e es) ∧ (∀ t, Loc σ.blk gs ks (σ.tmp t) (σ'.tmp t)) ∧ σ'.blk = blksOf bs ∧ ks.length = bs.length ∧ ks.Nodup ∧ (∀ g ∈ gs, g ∉ ks) ∧ ∀ (i : Nat) (g : Nat) (b : Blk), ks[i]? = some g → bs[i]? = some b → LocB σ.blk gs ks (σ.blk g) b

theorem Rel.moved {w0 : World} {U : Nat → Prop} {E : Env} {a : Act} {w : World} (hr : Rel w0 U nt σ E a w) {σ' : St} (h : Moved σ σ') : ∃ E', Rel w0 U nt σ' E' a w := by
  obtain ⟨gs, ks, bs, h1, h2, h3, h4, h5, h6, h7⟩ := h.mv
  let E2 : Env := ⟨fun i => E.β (ks.getD i 0), fun i => E.sz (ks.getD i 0), fun i => E.cap (ks.getD i 0), fun i => E.vr (ks.getD i 0), fun i => i < ks.length⟩
  have hE : ∀ g g', ks[g']? = some g → E.kn g → E2.kn g' ∧ E2.β g' = E.β g ∧ E2.sz g' = E.sz g ∧ E2.cap g' = E.cap g ∧ E2.vr g' = E.vr g := fun g g' hg _ => by
    have hlt : g' < ks.length := (List.getElem?_eq_some_iff.1 hg).1
    have e0 : ks.getD g' 0 = g := by rw [List.getD_eq_getElem?_getD, hg]; rfl
    exact ⟨hlt, by show E.β (ks.getD g' 0) = _; rw [e0], by show E.sz (ks.getD g' 0) = _; rw [e0], by show E.cap (ks.getD g' 0) = _; rw [e0], by show E.vr (ks.getD g' 0) = _; rw [e0]⟩
  have hat : ∀ i, i < ks.length → ∃ g b, ks[i]? = some g ∧ ks.getD i 0 = g ∧ bs[i]? = some b ∧ blksOf bs i = b ∧ g ∉ gs ∧ LocB σ.blk gs ks (σ.blk g) b := fun i hi => by
    have e1 : ks[i]? = some ks[i] := List.getElem?_eq_getElem hi
    have e2 : bs[i]? = some (bs[i]'(by omega)) := List.getElem?_eq_getElem (by omega)
    exact ⟨_, _, e1, by rw [List.getD_eq_getElem?_getD, e1]; rfl, e2, by rw [blksOf, List.getD_eq_getElem?_getD, e2]; rfl, fun hg => h6 _ hg (List.mem_of_getElem? e1), h7 i _ _ e1 e2⟩
  have hout : ∀ i, ¬ i < ks.length → blksOf bs i = .free := fun i hi => by
    rw [blksOf, List.getD_eq_getElem?_getD, List.getElem?_eq_none (by omega)]
    rfl
  have hhot : ∀ i, Hot E2 i (blksOf bs i) → i < ks.length ∧ Hot E (ks.getD i 0) (σ.blk (ks.getD i 0)) ∧ ks.getD i 0 ∉ gs := fun i hi => by
    by_cases hlt : i < ks.length
    · obtain ⟨g, b, q1, q2, q3, q4, q5, q6⟩ := hat i hlt
      have hv : E2.vr i = E.vr g := by show E.vr (ks.getD i 0) = _; rw [q2]
      refine ⟨hlt, ?_, by rw [q2]; exact q5⟩
      rw [q2]
      rw [q4] at hi
      generalize σ.blk g = c at q6
      cases q6 with
      | row => exact (Hot_env hv).1 hi
      | var => trivial
    · rw [hout i hlt] at hi
      cases hi
  have hF : ∀ b, Fof E2 (blksOf bs) b → Fof E (killed σ.blk gs) b := fun b ⟨i, q1, q2⟩ => by
    obtain ⟨r1, r2, r3⟩ := hhot i q1
    exact ⟨ks.getD i 0, by rw [killed_out r3]; exact r2, q2⟩
  refine ⟨E2, ⟨hr.mem.below, fun i => ?_, fun i j q1 q2 q3 => ?_⟩, hr.size, hr.defers, fun t => by rw [h3]; exact (hr.tmp t).loc hr hF hE (h2 t)⟩
  · rw [h3]
    by_cases hlt : i < ks.length
    · obtain ⟨g, b, q1, q2, q3, q4, q5, q6⟩ := hat i hlt
      rw [q4]
      have hbl := hr.mem.blk g
      have e1 : E2.β i = E.β g := by show E.β (ks.getD i 0) = _; rw [q2]
      have e2 : E2.sz i = E.sz g := by show E.sz (ks.getD i 0) = _; rw [q2]
      have e3 : E2.cap i = E.cap g := by show E.cap (ks.getD i 0) = _; rw [q2]
      have e4 : E2.vr i = E.vr g := by show E.vr (ks.getD i 0) = _; rw [q2]
      generalize hc : σ.blk g = c at q6 hbl
      cases q6 with
      | row sz e es =>
        obtain ⟨r1, r2, r3, r4, r5, r6, r7⟩ := hbl
        refine ⟨hlt, e2.trans r2, r3, by rw [e3]; exact r4, by rw [e3]; exact r5, by rw [e3, e4]; exact r6, fun hv => ?_⟩
        rw [e4] at hv
        obtain ⟨s1, cur, s2, s3, s4⟩ := r7 hv
        refine ⟨by rw [e1]; exact s1, cur, by rw [e1]; exact s2, by rw [e3]; exact s3, fun k x hx => ⟨(s4 k x hx).1, fun j d hd => ?_⟩⟩
        obtain ⟨u, t1, t2⟩ := (s4 k x hx).2 j d hd
        exact ⟨u, t1, t2.keep (Nat.le_refl _) (fun _ _ _ => rfl) fun b _ hf => Fof_killed (hF b hf)⟩
      | var hl hlv hcs =>
        obtain ⟨r1, r2, cur, r3, r4, r5⟩ := hbl
        refine ⟨hlt, by rw [e1]; exact r2, cur, by rw [e1]; exact r3, r4.trans hl, fun j y hy => ⟨leaves_at hlv hy, ?_⟩⟩
        have hj := (List.getElem?_eq_some_iff.1 hy).1
        obtain ⟨_, u, t1, t2⟩ := r5 j _ (List.getElem?_eq_getElem (by omega))
        exact ⟨u, t1, t2.loc hr hF hE (hcs j _ y (List.getElem?_eq_getElem (by omega)) hy)⟩
    · rw [hout i hlt]
      exact hlt
  · rw [h3] at q1 q2
    obtain ⟨r1, r2, r3⟩ := hhot i q1
    obtain ⟨s1, s2, s3⟩ := hhot j q2
    have := hr.mem.inj _ _ r2 s2 q3
    rw [List.getD_eq_getElem?_getD, List.getD_eq_getElem?_getD, List.getElem?_eq_getElem r1, List.getElem?_eq_getElem s1] at this
    have this' : ks[i] = ks[j] := by simpa using this
    have hpw := List.pairwise_iff_getElem.1 h5
    rcases Nat.lt_trichotomy i j with h | h | h
    · exact absurd this' (hpw i j r1 s1 h)
    · exact h
    · exact absurd this'.symm (hpw j i s1 r1 h)

theorem Aw.move {c : Code} {σ' : St} (hm : Moved σ σ') (h : Aw P nt c AQ σ') : Aw P nt c AQ σ := fun w0 U E a w hr => by
  obtain ⟨E', hr'⟩ := hr.moved hm
  exact h w0 U E' a w hr'
theorem AL.move {σ' : St} (hm : Moved σ σ') (h : AL P nt ops AQ l σ') : AL P nt ops AQ l σ := fun w0 U E a w hr => by
  obtain ⟨E', hr'⟩ := hr.moved hm
  exact h w0 U E' a w hr'

theorem Aw.condT {c : Operand} {x y : Code} {b : Bool} (hc : σ.eval c = .d (.bool b)) (hb : b = true) (h : Aw P nt x AQ σ) : Aw P nt (.cond c x y) AQ σ := Aw.cond hc (fun _ => h) fun e => by rw [hb] at e; cases e
theorem Aw.condF {c : Operand} {x y : Code} {b : Bool} (hc : σ.eval c = .d (.bool b)) (hb : b = false) (h : Aw P nt y AQ σ) : Aw P nt (.cond c x y) AQ σ := Aw.cond hc (fun e => by rw [hb] at e; cases e) fun _ => h

theorem arith_add64 {a b : Int} (h : -9223372036854775808 ≤ a + b ∧ a + b ≤ 9223372036854775807) : arith .add .i64 a b = some (a + b) := congrArg some (IntWalk.i64_in _ h)
theorem arith_sub64 {a b : Int} (h : -9223372036854775808 ≤ a - b ∧ a - b ≤ 9223372036854775807) : arith .sub .i64 a b = some (a - b) := congrArg some (IntWalk.i64_in _ h)
theorem arith_mul64 {a b : Int} (h : -9223372036854775808 ≤ a * b ∧ a * b ≤ 9223372036854775807) : arith .mul .i64 a b = some (a * b) := congrArg some (IntWalk.i64_in _ h)

theorem loc_und {gs ks : List Nat} : ∀ t, Loc B gs ks (T t) ((fun _ => AV.und) t) := fun t => .und _
theorem loc_upd {gs ks : List Nat} {T' : Nat → AV} {t : Nat} {v : AV} (h : Loc B gs ks (T t) v) (hs : ∀ t, Loc B gs ks (T t) (T' t)) : ∀ k, Loc B gs ks (T k) (upd T' t v k) := fun k => by
  by_cases hk : k = t
  · subst hk; rw [upd_same]; exact h
  · rw [upd_other _ _ _ hk]; exact hs k
theorem Moved.mk' {T' : Nat → AV} (gs ks : List Nat) (bs : List Blk) (hgs : ∀ g ∈ gs, ∃ sz e es, B g = .row sz e es) (ht : ∀ t, Loc B gs ks (T t) (T' t)) (hl : ks.length = bs.length) (hn : ks.Nodup) (hd : ∀ g ∈ gs, g ∉ ks)
    (hb : ∀ (i : Nat) (g : Nat) (b : Blk), ks[i]? = some g → bs[i]? = some b → LocB B gs ks (B g) b) : Moved ⟨T, B⟩ ⟨T', blksOf bs⟩ := ⟨gs, ks, bs, hgs, ht, rfl, hl, hn, hd, hb⟩

/-- The results, one by one. -/
inductive ResL (P : Program) (σ : St) : List ResultVar → List AV → Prop where
  | nil : ResL P σ [] []
  | cons {x : ResultVar} {y : AV} {xs : List ResultVar} {ys : List AV} (h : ResA P σ x y) (hs : ResL P σ xs ys) : ResL P σ (x :: xs) (y :: ys)
theorem ResL.at {xs : List ResultVar} {ys : List AV} (h : ResL P σ xs ys) : xs.length = ys.length ∧ ∀ (i : Nat) (x : ResultVar) (y : AV), xs[i]? = some x → ys[i]? = some y → ResA P σ x y := by
  induction h with
  | nil => exact ⟨rfl, at_nil⟩
  | cons h _ ih => exact ⟨by simp [ih.1], at_cons h ih.2⟩
theorem ResA.t {t : Nat} {v : AV} (h : IsV (σ.tmp t) v) : ResA P σ (.tmp t) v := by rw [← h.eq]; exact .tmp t

/-- All that is handed back is plain. -/
theorem Ret.all {fn : Func} {post : AV → List RB → Prop} {rs : List ResultVar} {vs : List AV} {r1 r : AV} (gs : List Nat) (hrs : fn.results.toList = rs) (h : ResL P σ rs vs) (hgs : ∀ g ∈ gs, ∃ sz e es, σ.blk g = .row sz e es) (hw : Weak σ.blk (· ∈ gs) (resVal vs) r1) (hn : Ren (fun _ _ => False) r1 r) (hp : post r []) : Ret P fn σ post := by
  subst hrs
  refine ⟨vs, gs, [], r1, r, [], h.at.1, h.at.2, hgs, hw, rfl, List.nodup_nil, fun i g b hi => by simp at hi, ?_, hp⟩
  have key : ∀ {x y : AV}, Ren (fun _ _ => False) x y → Ren (fun g g' => ([] : List Nat)[g']? = some g) x y := fun h => by
    induction h with
    | d x => exact .d x
    | nsl => exact .nsl
    | nptr => exact .nptr
    | und x => exact .und x
    | own h => exact h.elim
    | agg hl _ ih => exact .agg hl ih
    | tup hl _ ih => exact .tup hl ih
  exact key hn

/-- One row is handed back. -/
theorem Ret.row {fn : Func} {post : AV → List RB → Prop} {t g n sz : Nat} {e : TypeId} {es : List (List D)} (hrs : fn.results.toList = [.tmp t]) (ht : σ.tmp t = .own g 0 n) (hb : σ.blk g = .row sz e es) (hp : post (.own 0 0 n) [⟨sz, e, es⟩]) : Ret P fn σ post := by
  refine ⟨[.own g 0 n], [], [g], .own g 0 n, .own 0 0 n, [⟨sz, e, es⟩], by rw [hrs]; rfl, ?_, fun g h => by simp at h, .refl _, rfl, by simp, ?_, .own rfl, hp⟩
  · rw [hrs]
    refine at_cons ?_ at_nil
    rw [← ht]
    exact .tmp t
  · intro i g' b h1 h2
    match i, h1, h2 with
    | 0, h1, h2 =>
      obtain rfl : g = g' := by simpa using h1
      obtain rfl : (⟨sz, e, es⟩ : RB) = b := by simpa using h2
      exact ⟨by simp, hb⟩
    | i + 1, h1, _ => simp at h1

/-- Several values are handed back, some rows among them. -/
theorem Ret.rows {fn : Func} {post : AV → List RB → Prop} {rs : List ResultVar} {vs : List AV} {r1 r : AV} {bs : List RB} (gs keep : List Nat) (hrs : fn.results.toList = rs) (h : ResL P σ rs vs) (hgs : ∀ g ∈ gs, ∃ sz e es, σ.blk g = .row sz e es) (hw : Weak σ.blk (· ∈ gs) (resVal vs) r1)
    (hl : keep.length = bs.length) (hnd : keep.Nodup) (hk : ∀ (i : Nat) (g : Nat) (b : RB), keep[i]? = some g → bs[i]? = some b → g ∉ gs ∧ σ.blk g = b.blk) (hn : Ren (fun g g' => keep[g']? = some g) r1 r) (hp : post r bs) : Ret P fn σ post := by
  subst hrs
  exact ⟨vs, gs, keep, r1, r, bs, h.at.1, h.at.2, hgs, hw, hl, hnd, hk, hn, hp⟩
theorem gs_nil : ∀ g ∈ ([] : List Nat), ∃ sz e es, σ.blk g = .row sz e es := fun g h => by simp at h
theorem gs_cons {g : Nat} {gs : List Nat} {sz : Nat} {e : TypeId} {es : List (List D)} (h : σ.blk g = .row sz e es) (hs : ∀ g ∈ gs, ∃ sz e es, σ.blk g = .row sz e es) : ∀ k ∈ g :: gs, ∃ sz e es, σ.blk k = .row sz e es := fun k hk => by
  rcases List.mem_cons.1 hk with rfl | hk
  · exact ⟨_, _, _, h⟩
  · exact hs k hk

theorem upd_id {α : Type} (f : Nat → α) (i : Nat) : upd f i (f i) = f := by
  funext k
  by_cases h : k = i
  · subst h; rw [upd_same]
  · rw [upd_other _ _ _ h]
/-- A truth value in a slot is parted. -/
theorem AL.cases {t : Nat} {b : Bool} (ht : T t = .d (.bool b)) (h1 : b = true → AL P nt ops AQ l ⟨upd T t (.d (.bool true)), B⟩) (h2 : b = false → AL P nt ops AQ l ⟨upd T t (.d (.bool false)), B⟩) : AL P nt ops AQ l ⟨T, B⟩ := by
  cases b with
  | true => have := h1 rfl; rw [← ht, upd_id] at this; exact this
  | false => have := h2 rfl; rw [← ht, upd_id] at this; exact this
theorem Aw.cases {c : Code} {t : Nat} {b : Bool} (ht : T t = .d (.bool b)) (h1 : b = true → Aw P nt c AQ ⟨upd T t (.d (.bool true)), B⟩) (h2 : b = false → Aw P nt c AQ ⟨upd T t (.d (.bool false)), B⟩) : Aw P nt c AQ ⟨T, B⟩ := by
  cases b with
  | true => have := h1 rfl; rw [← ht, upd_id] at this; exact this
  | false => have := h2 rfl; rw [← ht, upd_id] at this; exact this
theorem B.pickT {c x y : Operand} {v : AV} (ho : o.op = .pick c x y) (hc : σ.eval c = .d (.bool true)) (hv : IsV (σ.eval x) v) (hd : dstOk o nt = true) : DoesB P nt o σ ⟨tmpsIn [c, x, y], [], v, []⟩ := by
  have := B.pick (P := P) ho hc hd
  simp only [cond_true, hv.eq] at this
  exact this
theorem B.pickF {c x y : Operand} {v : AV} (ho : o.op = .pick c x y) (hc : σ.eval c = .d (.bool false)) (hv : IsV (σ.eval y) v) (hd : dstOk o nt = true) : DoesB P nt o σ ⟨tmpsIn [c, x, y], [], v, []⟩ := by
  have := B.pick (P := P) ho hc hd
  simp only [cond_false, hv.eq] at this
  exact this
theorem LocB.row' {B : Nat → Blk} {gs ks : List Nat} {sz : Nat} {e : TypeId} {es es' : List (List D)} (h : es = es') : LocB B gs ks (.row sz e es) (.row sz e es') := by subst h; exact .row _ _ _

/-- What comes as a row may be taken as plain. -/
theorem ACalls.plain {f : FuncId} {args : List AV} {n : Nat} {b : RB} (h : ACalls P f args fun r bs => r = .own 0 0 n ∧ bs = [b]) (hn : n = b.es.length) : ACalls P f args fun r bs => r = .d (.view b.sz b.es) ∧ bs = [] := fun w U vs hl hv =>
  (h w U vs hl hv).mono fun e w' ⟨r, bs, v, E, ⟨h1, h2⟩, h3, h4, h5⟩ => by
    subst h1 h2
    have hr : Rel w U 0 ⟨fun _ => .und, rowsB [b]⟩ E { tmps := #[], defers := [] } w' := ⟨h4, rfl, rfl, fun t => .und _⟩
    have h6 := h5.weak hr (gs := [0]) (x' := .d (.view b.sz b.es)) (.fz0 (by simp) rfl hn)
    have hr2 : Rel w U 0 ⟨fun _ => .und, fun _ => .free⟩ _ { tmps := #[], defers := [] } w' := (hr.moved (σ' := ⟨fun _ => .und, blksOf []⟩) ⟨[], [], [], fun g h => by simp at h, fun t => .und _, rfl, rfl, List.nodup_nil, fun g h => by simp at h, fun i g b h => by simp at h⟩).choose_spec
    cases h6 with
    | d h6 =>
      refine ⟨.d (.view b.sz b.es), [], v, _, ⟨rfl, rfl⟩, h3, hr2.mem, .d (h6.keep (Nat.le_refl _) (fun _ _ _ => rfl) fun b _ hf => ?_)⟩
      obtain ⟨g, h7, _⟩ := hf
      cases h7

theorem AL.isNil' {t d ty e : TypeId} {x y : Operand} {f : Bool} {sz : Nat} {es : List (List D)} (hg : o.guard = none) (ho : o.op = .binOp .eql t x y ty) (hds : o.dst = some d) (ht : P.underlying t = some (.slice e)) (hx : SlV (St.eval ⟨T, B⟩ x) f sz es) (hy : y = .const (.slice none 0 0)) (hd : dstOk o nt = true)
    (h1 : es = [] → AL P nt ops AQ l ⟨upd T d (.d (.bool true)), B⟩) (h2 : AL P nt ops AQ l ⟨upd T d (.d (.bool false)), B⟩) : AL P nt ops AQ (o :: l) ⟨T, B⟩ :=
  AL.isNil hg ho ht hx hy hd (fun h => by show AL _ _ _ _ _ ⟨putOf T o.dst _, B⟩; rw [hds]; exact h1 h) (by show AL _ _ _ _ _ ⟨putOf T o.dst _, B⟩; rw [hds]; exact h2)

theorem AL.uc {t g sz : Nat} {e : TypeId} {es : List (List D)} {rt rb : List Nat} {v : AV} (hg : o.guard = none) (ho : o.dst = some t) (hd : DoesB P nt o ⟨T, B⟩ ⟨rt, rb, v, rowsAt g [⟨sz, e, es⟩]⟩) (h : AL P nt ops AQ l ⟨upd T t v, upd B g (.row sz e es)⟩) : AL P nt ops AQ (o :: l) ⟨T, B⟩ := AL.u hg ho hd h
theorem AL.uc2 {t g sz sz2 : Nat} {e e2 : TypeId} {es es2 : List (List D)} {rt rb : List Nat} {v : AV} (hg : o.guard = none) (ho : o.dst = some t) (hd : DoesB P nt o ⟨T, B⟩ ⟨rt, rb, v, rowsAt g [⟨sz, e, es⟩, ⟨sz2, e2, es2⟩]⟩) (h : AL P nt ops AQ l ⟨upd T t v, upd (upd B g (.row sz e es)) (g + 1) (.row sz2 e2 es2)⟩) : AL P nt ops AQ (o :: l) ⟨T, B⟩ := AL.u2 hg ho hd h
theorem Chain.uc {t g sz : Nat} {e : TypeId} {es : List (List D)} {rt rb : List Nat} {v : AV} {fs : List Info} {σ' : St} (hg : o.guard = none) (ho : o.dst = some t) (hd : DoesB P nt o ⟨T, B⟩ ⟨rt, rb, v, rowsAt g [⟨sz, e, es⟩]⟩) (h : Chain P nt ops l ⟨upd T t v, upd B g (.row sz e es)⟩ fs σ') : Chain P nt ops (o :: l) ⟨T, B⟩ (⟨rt, rb, v, [(g, .row sz e es)]⟩ :: fs) σ' := Chain.u hg ho hd h
theorem B.idxOwn0 {t e : TypeId} {sz g n : Nat} {x ix : Operand} {k : IntKind} {q : Int} {i : Nat} {es : List (List D)} {e' : TypeId} (ho : o.op = .indexAddr t x ix) (ht : elOf P t = some (e, sz)) (hx : σ.eval x = .own g 0 n) (hq : σ.eval ix = .d (.int k q)) (hb : σ.blk g = .row sz e' es)
    (hi : q = (i : Int)) (hlt : i < n) (hd : dstOk o nt = true) : DoesB P nt o σ ⟨tmpsIn [x, ix], [g], .ptr g i 0, []⟩ := by
  have := B.idxOwn (P := P) ho ht hx hq hb hi hlt hd
  rw [Nat.zero_add] at this
  exact this

/-- Two lists, place by place. -/
inductive L2 {α β : Type} (p : α → β → Prop) : List α → List β → Prop where
  | nil : L2 p [] []
  | cons {x : α} {y : β} {xs : List α} {ys : List β} (h : p x y) (hs : L2 p xs ys) : L2 p (x :: xs) (y :: ys)
theorem L2.at {α β : Type} {p : α → β → Prop} {xs : List α} {ys : List β} (h : L2 p xs ys) : xs.length = ys.length ∧ ∀ (i : Nat) (x : α) (y : β), xs[i]? = some x → ys[i]? = some y → p x y := by
  induction h with
  | nil => exact ⟨rfl, at_nil⟩
  | cons h _ ih => exact ⟨by simp [ih.1], at_cons h ih.2⟩
theorem Weak.aggL {B : Nat → Blk} {fz : Nat → Prop} {vs us : List AV} (h : L2 (Weak B fz) vs us) : Weak B fz (.agg vs) (.agg us) := .agg h.at.1 h.at.2
theorem Weak.tupL {B : Nat → Blk} {fz : Nat → Prop} {vs us : List AV} (h : L2 (Weak B fz) vs us) : Weak B fz (.tup vs) (.tup us) := .tup h.at.1 h.at.2
theorem Ren.aggL {R : Nat → Nat → Prop} {vs us : List AV} (h : L2 (Ren R) vs us) : Ren R (.agg vs) (.agg us) := .agg h.at.1 h.at.2
theorem Ren.tupL {R : Nat → Nat → Prop} {vs us : List AV} (h : L2 (Ren R) vs us) : Ren R (.tup vs) (.tup us) := .tup h.at.1 h.at.2
theorem Loc.aggL {B : Nat → Blk} {gs ks : List Nat} {vs us : List AV} (h : L2 (Loc B gs ks) vs us) : Loc B gs ks (.agg vs) (.agg us) := .agg h.at.1 h.at.2
theorem ArgA.aggL {rb : List Nat} {vs us : List AV} (h : L2 (ArgA σ rb) vs us) : ArgA σ rb (.agg vs) (.agg us) := .agg h.at.1 h.at.2

theorem Aw.drawn {id : Nat} {fs : List Info} {σ' : St} (hm : P.follows .mixedOrders = true) (hc : Chain P nt ops ops.toList σ fs σ') (hk : okDraw ops.toList fs (ancsOf ops.toList) = true) (hq : AQ .normal σ') : Aw P nt (.region id ops true) AQ σ := Aw.draw hm (by simp) hc hk hq

/-- A region that draws its order, operation behind operation; acc: what is done. -/
def CD (P : Program) (nt : Nat) (ops : Array Oper) (AQ : Exit → St → Prop) (l : List Oper) (σ : St) (acc : List Info) : Prop := ∃ fs σ', Chain P nt ops l σ fs σ' ∧ okDraw ops.toList (acc ++ fs) (ancsOf ops.toList) = true ∧ AQ .normal σ'
theorem Aw.drawn' {id : Nat} (hm : P.follows .mixedOrders = true) (h : CD P nt ops AQ ops.toList σ []) : Aw P nt (.region id ops true) AQ σ := by
  obtain ⟨fs, σ', hc, hk, hq⟩ := h
  exact Aw.drawn hm hc hk hq
theorem CD.nil {acc : List Info} (hk : okDraw ops.toList acc (ancsOf ops.toList) = true) (h : AQ .normal σ) : CD P nt ops AQ [] σ acc := ⟨[], σ, Chain.nil, by rw [List.append_nil]; exact hk, h⟩
theorem CD.v {t : Nat} {rt rb : List Nat} {v : AV} {acc : List Info} (hg : o.guard = none) (ho : o.dst = some t) (hd : DoesB P nt o ⟨T, B⟩ ⟨rt, rb, v, []⟩) (h : CD P nt ops AQ l ⟨upd T t v, B⟩ (acc ++ [⟨rt, rb, v, []⟩])) : CD P nt ops AQ (o :: l) ⟨T, B⟩ acc := by
  obtain ⟨fs, σ', hc, hk, hq⟩ := h
  exact ⟨⟨rt, rb, v, []⟩ :: fs, σ', Chain.v hg ho hd hc, by rw [List.append_assoc] at hk; exact hk, hq⟩
theorem CD.u {t g : Nat} {b : Blk} {rt rb : List Nat} {v : AV} {acc : List Info} (hg : o.guard = none) (ho : o.dst = some t) (hd : DoesB P nt o ⟨T, B⟩ ⟨rt, rb, v, [(g, b)]⟩) (h : CD P nt ops AQ l ⟨upd T t v, upd B g b⟩ (acc ++ [⟨rt, rb, v, [(g, b)]⟩])) : CD P nt ops AQ (o :: l) ⟨T, B⟩ acc := by
  obtain ⟨fs, σ', hc, hk, hq⟩ := h
  exact ⟨⟨rt, rb, v, [(g, b)]⟩ :: fs, σ', Chain.u hg ho hd hc, by rw [List.append_assoc] at hk; exact hk, hq⟩
theorem CD.u2 {t g g2 : Nat} {b b2 : Blk} {rt rb : List Nat} {v : AV} {acc : List Info} (hg : o.guard = none) (ho : o.dst = some t) (hd : DoesB P nt o ⟨T, B⟩ ⟨rt, rb, v, [(g, b), (g2, b2)]⟩) (h : CD P nt ops AQ l ⟨upd T t v, upd (upd B g b) g2 b2⟩ (acc ++ [⟨rt, rb, v, [(g, b), (g2, b2)]⟩])) : CD P nt ops AQ (o :: l) ⟨T, B⟩ acc := by
  obtain ⟨fs, σ', hc, hk, hq⟩ := h
  exact ⟨⟨rt, rb, v, [(g, b), (g2, b2)]⟩ :: fs, σ', Chain.u2 hg ho hd hc, by rw [List.append_assoc] at hk; exact hk, hq⟩
theorem CD.s {g : Nat} {b : Blk} {rt rb : List Nat} {v : AV} {acc : List Info} (hg : o.guard = none) (ho : o.dst = none) (hd : DoesB P nt o ⟨T, B⟩ ⟨rt, rb, v, [(g, b)]⟩) (h : CD P nt ops AQ l ⟨T, upd B g b⟩ (acc ++ [⟨rt, rb, v, [(g, b)]⟩])) : CD P nt ops AQ (o :: l) ⟨T, B⟩ acc := by
  obtain ⟨fs, σ', hc, hk, hq⟩ := h
  exact ⟨⟨rt, rb, v, [(g, b)]⟩ :: fs, σ', Chain.s hg ho hd hc, by rw [List.append_assoc] at hk; exact hk, hq⟩
theorem CD.gv {t t' j : Nat} {b : Bool} {rt rb : List Nat} {v : AV} {acc : List Info} (hg : o.guard = some (j, b)) (hj : ((ops[j]?).bind (·.dst)) = some t') (hb : T t' = .d (.bool b)) (ho : o.dst = some t) (hd : DoesB P nt o ⟨T, B⟩ ⟨rt, rb, v, []⟩) (h : CD P nt ops AQ l ⟨upd T t v, B⟩ (acc ++ [⟨t' :: rt, rb, v, []⟩])) : CD P nt ops AQ (o :: l) ⟨T, B⟩ acc := by
  obtain ⟨fs, σ', hc, hk, hq⟩ := h
  exact ⟨⟨t' :: rt, rb, v, []⟩ :: fs, σ', Chain.gv hg hj hb ho hd hc, by rw [List.append_assoc] at hk; exact hk, hq⟩
theorem CD.off {t t' j : Nat} {b g : Bool} {acc : List Info} (hg : o.guard = some (j, g)) (hj : ((ops[j]?).bind (·.dst)) = some t') (hb : T t' = .d (.bool b)) (hne : g = !b) (ho : o.dst = some t) (hnt : t < nt) (h : CD P nt ops AQ l ⟨upd T t (.tup []), B⟩ (acc ++ [⟨[t'], [], .tup [], []⟩])) : CD P nt ops AQ (o :: l) ⟨T, B⟩ acc := by
  obtain ⟨fs, σ', hc, hk, hq⟩ := h
  exact ⟨⟨[t'], [], .tup [], []⟩ :: fs, σ', Chain.off hg hj hb hne ho hnt hc, by rw [List.append_assoc] at hk; exact hk, hq⟩
theorem CD.offU {t t' j : Nat} {g : Bool} {acc : List Info} (hg : o.guard = some (j, g)) (hj : ((ops[j]?).bind (·.dst)) = some t') (hb : T t' = .tup []) (ho : o.dst = some t) (hnt : t < nt) (h : CD P nt ops AQ l ⟨upd T t (.tup []), B⟩ (acc ++ [⟨[t'], [], .tup [], []⟩])) : CD P nt ops AQ (o :: l) ⟨T, B⟩ acc := by
  obtain ⟨fs, σ', hc, hk, hq⟩ := h
  exact ⟨⟨[t'], [], .tup [], []⟩ :: fs, σ', Chain.offU hg hj hb ho hnt hc, by rw [List.append_assoc] at hk; exact hk, hq⟩
theorem CD.uc {t g sz : Nat} {e : TypeId} {es : List (List D)} {rt rb : List Nat} {v : AV} {acc : List Info} (hg : o.guard = none) (ho : o.dst = some t) (hd : DoesB P nt o ⟨T, B⟩ ⟨rt, rb, v, rowsAt g [⟨sz, e, es⟩]⟩) (h : CD P nt ops AQ l ⟨upd T t v, upd B g (.row sz e es)⟩ (acc ++ [⟨rt, rb, v, [(g, .row sz e es)]⟩])) : CD P nt ops AQ (o :: l) ⟨T, B⟩ acc := by
  obtain ⟨fs, σ', hc, hk, hq⟩ := h
  exact ⟨⟨rt, rb, v, [(g, .row sz e es)]⟩ :: fs, σ', Chain.uc hg ho hd hc, by rw [List.append_assoc] at hk; exact hk, hq⟩
theorem CD.uc2 {t g sz sz2 : Nat} {e e2 : TypeId} {es es2 : List (List D)} {rt rb : List Nat} {v : AV} {acc : List Info} (hg : o.guard = none) (ho : o.dst = some t) (hd : DoesB P nt o ⟨T, B⟩ ⟨rt, rb, v, rowsAt g [⟨sz, e, es⟩, ⟨sz2, e2, es2⟩]⟩) (h : CD P nt ops AQ l ⟨upd T t v, upd (upd B g (.row sz e es)) (g + 1) (.row sz2 e2 es2)⟩ (acc ++ [⟨rt, rb, v, [(g, .row sz e es), (g + 1, .row sz2 e2 es2)]⟩])) : CD P nt ops AQ (o :: l) ⟨T, B⟩ acc := CD.u2 hg ho hd h
theorem CD.gu {t t' j g : Nat} {bk : Blk} {b : Bool} {rt rb : List Nat} {v : AV} {acc : List Info} (hg : o.guard = some (j, b)) (hj : ((ops[j]?).bind (·.dst)) = some t') (hb : T t' = .d (.bool b)) (ho : o.dst = some t) (hd : DoesB P nt o ⟨T, B⟩ ⟨rt, rb, v, [(g, bk)]⟩) (h : CD P nt ops AQ l ⟨upd T t v, upd B g bk⟩ (acc ++ [⟨t' :: rt, rb, v, [(g, bk)]⟩])) : CD P nt ops AQ (o :: l) ⟨T, B⟩ acc := by
  obtain ⟨fs, σ', hc, hk, hq⟩ := h
  refine ⟨⟨t' :: rt, rb, v, [(g, bk)]⟩ :: fs, σ', Chain.cons (.on (σ := ⟨T, B⟩) hg hj hb hd) (by show Chain _ _ _ _ ⟨putOf T o.dst v, upd B g bk⟩ _ _; rw [ho]; exact hc), by rw [List.append_assoc] at hk; exact hk, hq⟩
theorem CD.cases {t : Nat} {b : Bool} {acc : List Info} (ht : T t = .d (.bool b)) (h1 : b = true → CD P nt ops AQ l ⟨upd T t (.d (.bool true)), B⟩ acc) (h2 : b = false → CD P nt ops AQ l ⟨upd T t (.d (.bool false)), B⟩ acc) : CD P nt ops AQ l ⟨T, B⟩ acc := by
  cases b with
  | true => have := h1 rfl; rw [← ht, upd_id] at this; exact this
  | false => have := h2 rfl; rw [← ht, upd_id] at this; exact this

/-- What a call hands back, some of its rows frozen, others under new numbers. -/
theorem ACalls.fit {f : FuncId} {args : List AV} {x x' : AV} {bs0 bs1 : List RB} (gs ks : List Nat) (h : ACalls P f args fun r bs => r = x ∧ bs = bs0) (hgs : ∀ g ∈ gs, ∃ sz e es, rowsB bs0 g = .row sz e es) (hw : Loc (rowsB bs0) gs ks x x')
    (hl : ks.length = bs1.length) (hn : ks.Nodup) (hd : ∀ g ∈ gs, g ∉ ks) (hb : ∀ (i : Nat) (g : Nat) (b : RB), ks[i]? = some g → bs1[i]? = some b → rowsB bs0 g = b.blk) : ACalls P f args fun r bs => r = x' ∧ bs = bs1 := fun w U vs hl' hv =>
  (h w U vs hl' hv).mono fun e w' ⟨r, bs, v, E, ⟨h1, h2⟩, h3, h4, h5⟩ => by
    subst h1 h2
    have hr : Rel w U 1 ⟨upd (fun _ => .und) 0 r, rowsB bs⟩ E { tmps := #[v], defers := [] } w' := ⟨h4, rfl, rfl, fun t => by
      by_cases ht : t = 0
      · subst ht; exact h5
      · show VA E w' _ U w.heap.size (upd (fun _ => AV.und) 0 r t) _
        rw [upd_other _ _ _ ht]; exact .und _⟩
    have hlen : ks.length = (bs1.map RB.blk).length := by rw [List.length_map]; exact hl
    have hbk : blksOf (bs1.map RB.blk) = rowsB bs1 := by
      funext g
      unfold blksOf rowsB
      rw [List.getD_eq_getElem?_getD, List.getElem?_map]
      cases bs1[g]? <;> rfl
    obtain ⟨E', hr2⟩ := hr.moved (σ' := ⟨upd (fun _ => .und) 0 x', blksOf (bs1.map RB.blk)⟩) (Moved.mk' gs ks _ hgs (loc_upd hw loc_und) hlen hn hd fun i g b q1 q2 => by
      rw [List.getElem?_map] at q2
      cases hq : bs1[i]? with
      | none => rw [hq] at q2; cases q2
      | some b' =>
        rw [hq] at q2
        obtain rfl : b'.blk = b := by simpa using q2
        rw [hb i g b' q1 hq]
        exact .row _ _ _)
    have h6 := hr2.mem
    have h7 := hr2.tmp 0
    rw [hbk] at h6
    have h7' : VA E' w' (Fof E' (rowsB bs1)) U w.heap.size x' v := by
      have := h7
      simp only [hbk] at this
      exact this
    exact ⟨x', bs1, v, E', ⟨rfl, rfl⟩, h3, h6, h7'⟩
/-- All rows that come back, frozen. -/
theorem ACalls.froz {f : FuncId} {args : List AV} {x x' : AV} {bs0 : List RB} (gs : List Nat) (h : ACalls P f args fun r bs => r = x ∧ bs = bs0) (hgs : ∀ g ∈ gs, ∃ sz e es, rowsB bs0 g = .row sz e es) (hw : Loc (rowsB bs0) gs [] x x') : ACalls P f args fun r bs => r = x' ∧ bs = [] :=
  ACalls.fit gs [] h hgs hw rfl List.nodup_nil (fun g _ h => by simp at h) fun i g b h => by simp at h
theorem rb_nil {bs : List RB} : ∀ g ∈ ([] : List Nat), ∃ sz e es, rowsB bs g = .row sz e es := fun g h => by simp at h
theorem rb_cons {bs : List RB} {g : Nat} {gs : List Nat} {sz : Nat} {e : TypeId} {es : List (List D)} (h : rowsB bs g = .row sz e es) (hs : ∀ g ∈ gs, ∃ sz e es, rowsB bs g = .row sz e es) : ∀ k ∈ g :: gs, ∃ sz e es, rowsB bs k = .row sz e es := fun k hk => by
  rcases List.mem_cons.1 hk with rfl | hk
  · exact ⟨_, _, _, h⟩
  · exact hs k hk
theorem keep_nil {gs : List Nat} : ∀ (i : Nat) (g : Nat) (b : RB), ([] : List Nat)[i]? = some g → ([] : List RB)[i]? = some b → g ∉ gs ∧ σ.blk g = b.blk := at_nil
theorem keep_cons {gs : List Nat} {g : Nat} {keep : List Nat} {bs : List RB} {sz : Nat} {e : TypeId} {es : List (List D)} (h1 : g ∉ gs) (h2 : σ.blk g = .row sz e es) (hs : ∀ (i : Nat) (g : Nat) (b : RB), keep[i]? = some g → bs[i]? = some b → g ∉ gs ∧ σ.blk g = b.blk) :
    ∀ (i : Nat) (g' : Nat) (b : RB), (g :: keep)[i]? = some g' → ((⟨sz, e, es⟩ : RB) :: bs)[i]? = some b → g' ∉ gs ∧ σ.blk g' = b.blk := at_cons ⟨h1, h2⟩ hs
theorem arith_addu64 {a b : Int} (h : 0 ≤ a + b ∧ a + b ≤ 18446744073709551615) : arith .add .u64 a b = some (a + b) := congrArg some (IntWalk.u64_in _ h)
theorem arith_subu64 {a b : Int} (h : 0 ≤ a - b ∧ a - b ≤ 18446744073709551615) : arith .sub .u64 a b = some (a - b) := congrArg some (IntWalk.u64_in _ h)
theorem arith_mulu64 {a b : Int} (h : 0 ≤ a * b ∧ a * b ≤ 18446744073709551615) : arith .mul .u64 a b = some (a * b) := congrArg some (IntWalk.u64_in _ h)

/-- The row that an operation makes, frozen at once. -/
theorem DoesB.frz {rt rb : List Nat} {ups : List (Nat × Blk)} {t g m sz : Nat} {e : TypeId} {es : List (List D)} (ho : o.dst = some t) (hm : m = es.length) (h : DoesB P nt o σ ⟨rt, rb, .own g 0 m, ups ++ [(g, .row sz e es)]⟩) :
    DoesB P nt o σ ⟨rt, rb, .d (.view sz es), (ups ++ [(g, .row sz e es)]) ++ [(g, .dead)]⟩ := fun σ' ha w0 U E a w N Q hr hN => by
  refine h σ' ha w0 U E a w N Q hr fun E' a' w' hr' => hN E' a' w' ?_
  have hbg : upsOf σ'.blk (ups ++ [(g, .row sz e es)]) g = .row sz e es := by
    unfold upsOf
    rw [List.foldl_append]
    exact upd_same _ _ _
  refine hr'.weaken [g] (fun k hk => by have hkg : k = g := (by simpa using hk); rw [hkg]; exact ⟨_, _, _, hbg⟩) _ (fun k => ?_) (fun k => .inl ?_)
  · show Weak _ _ (putOf σ'.tmp o.dst _ k) (putOf σ'.tmp o.dst _ k)
    rw [ho]
    show Weak _ _ (upd σ'.tmp t _ k) (upd σ'.tmp t _ k)
    by_cases hk : k = t
    · subst hk; rw [upd_same, upd_same]; exact .fz0 (by simp) hbg hm
    · rw [upd_other _ _ _ hk, upd_other _ _ _ hk]; exact .refl _
  · show upsOf σ'.blk ((ups ++ [(g, .row sz e es)]) ++ [(g, .dead)]) k = killed (upsOf σ'.blk (ups ++ [(g, .row sz e es)])) [g] k
    have e1 : upsOf σ'.blk ((ups ++ [(g, .row sz e es)]) ++ [(g, .dead)]) = upd (upsOf σ'.blk (ups ++ [(g, .row sz e es)])) g .dead := by
      unfold upsOf
      rw [List.foldl_append]
      rfl
    rw [e1]
    by_cases hk : k = g
    · subst hk; rw [upd_same, killed_in (by simp)]
    · rw [upd_other _ _ _ hk, killed_out (by simpa using hk)]
theorem DoesB.frz1 {rt rb : List Nat} {t g m sz : Nat} {e : TypeId} {es : List (List D)} (ho : o.dst = some t) (hm : m = es.length) (h : DoesB P nt o σ ⟨rt, rb, .own g 0 m, [(g, .row sz e es)]⟩) : DoesB P nt o σ ⟨rt, rb, .d (.view sz es), [(g, .row sz e es), (g, .dead)]⟩ := DoesB.frz (ups := []) ho hm h
theorem DoesB.frz2 {rt rb : List Nat} {t g m g0 sz : Nat} {b0 : Blk} {e : TypeId} {es : List (List D)} (ho : o.dst = some t) (hm : m = es.length) (h : DoesB P nt o σ ⟨rt, rb, .own g 0 m, [(g0, b0), (g, .row sz e es)]⟩) : DoesB P nt o σ ⟨rt, rb, .d (.view sz es), [(g0, b0), (g, .row sz e es), (g, .dead)]⟩ := DoesB.frz (ups := [(g0, b0)]) ho hm h
theorem AL.u3 {t g g2 g3 : Nat} {b b2 b3 : Blk} {rt rb : List Nat} {v : AV} (hg : o.guard = none) (ho : o.dst = some t) (hd : DoesB P nt o ⟨T, B⟩ ⟨rt, rb, v, [(g, b), (g2, b2), (g3, b3)]⟩) (h : AL P nt ops AQ l ⟨upd T t v, upd (upd (upd B g b) g2 b2) g3 b3⟩) : AL P nt ops AQ (o :: l) ⟨T, B⟩ :=
  AL.cons (.plain hg hd) (by show AL _ _ _ _ _ ⟨putOf T o.dst v, upd (upd (upd B g b) g2 b2) g3 b3⟩; rw [ho]; exact h)
theorem CD.u3 {t g g2 g3 : Nat} {b b2 b3 : Blk} {rt rb : List Nat} {v : AV} {acc : List Info} (hg : o.guard = none) (ho : o.dst = some t) (hd : DoesB P nt o ⟨T, B⟩ ⟨rt, rb, v, [(g, b), (g2, b2), (g3, b3)]⟩) (h : CD P nt ops AQ l ⟨upd T t v, upd (upd (upd B g b) g2 b2) g3 b3⟩ (acc ++ [⟨rt, rb, v, [(g, b), (g2, b2), (g3, b3)]⟩])) : CD P nt ops AQ (o :: l) ⟨T, B⟩ acc := by
  obtain ⟨fs, σ', hc, hk, hq⟩ := h
  refine ⟨⟨rt, rb, v, [(g, b), (g2, b2), (g3, b3)]⟩ :: fs, σ', Chain.cons (.plain hg hd) (by show Chain _ _ _ _ ⟨putOf T o.dst v, upd (upd (upd B g b) g2 b2) g3 b3⟩ _ _; rw [ho]; exact hc), by rw [List.append_assoc] at hk; exact hk, hq⟩
end
end Go.Proofs.Ytmkfpfnjimmmaaa
