/- Calls, and where a function begins and ends. Nothing of the dump stands here. -/
import Derived.Test.YtmkfpfnjimmmaaaSepH
namespace Go.Proofs.Ytmkfpfnjimmmaaa
open Go.RowKit
set_option linter.unusedVariables false
set_option linter.unusedSimpArgs false

/-- The same value, its rows under other numbers. -/
inductive Ren (R : Nat → Nat → Prop) : AV → AV → Prop where
  | d (x : D) : Ren R (.d x) (.d x)
  | nsl : Ren R .nsl .nsl
  | nptr : Ren R .nptr .nptr
  | und (x : AV) : Ren R x .und
  | own {g g' i n : Nat} (h : R g g') : Ren R (.own g i n) (.own g' i n)
  | agg {vs us : List AV} (hl : vs.length = us.length) (h : ∀ (i : Nat) (x y : AV), vs[i]? = some x → us[i]? = some y → Ren R x y) : Ren R (.agg vs) (.agg us)
  | tup {vs us : List AV} (hl : vs.length = us.length) (h : ∀ (i : Nat) (x y : AV), vs[i]? = some x → us[i]? = some y → Ren R x y) : Ren R (.tup vs) (.tup us)

theorem at_nil {α β : Type} {p : α → β → Prop} : ∀ (i : Nat) (x : α) (y : β), ([] : List α)[i]? = some x → ([] : List β)[i]? = some y → p x y := fun i x y h => by simp at h
theorem at_cons {α β : Type} {p : α → β → Prop} {x : α} {y : β} {xs : List α} {ys : List β} (h : p x y) (hs : ∀ (i : Nat) (x : α) (y : β), xs[i]? = some x → ys[i]? = some y → p x y) : ∀ (i : Nat) (x' : α) (y' : β), (x :: xs)[i]? = some x' → (y :: ys)[i]? = some y' → p x' y' := fun i x' y' h1 h2 => by
  cases i with
  | zero =>
    obtain rfl : x = x' := by simpa using h1
    obtain rfl : y = y' := by simpa using h2
    exact h
  | succ i => exact hs i x' y' (by simpa using h1) (by simpa using h2)

theorem VA.ren {E E' : Env} {w : World} {F F' U U' : Nat → Prop} {base base' : Nat} {R : Nat → Nat → Prop} (hE : ∀ g g', R g g' → E.kn g → E'.kn g' ∧ E'.β g' = E.β g ∧ E'.sz g' = E.sz g ∧ E'.cap g' = E.cap g ∧ E'.vr g' = E.vr g) (hV : ∀ x v, VD w F U base x v → VD w F' U' base' x v) {x y : AV} {v : Value} (hr : Ren R x y) (h : VA E w F U base x v) : VA E' w F' U' base' y v := by
  induction hr generalizing v with
  | d x => cases h with | d h => exact .d (hV _ _ h)
  | nsl => cases h; exact .nsl
  | nptr => cases h; exact .nptr
  | und x => exact .und _
  | own hg =>
    cases h with
    | onil hk hv =>
      obtain ⟨h1, _, _, _, h5⟩ := hE _ _ hg hk
      exact .onil h1 (h5.trans hv)
    | own hk hv hn hm ha =>
      obtain ⟨h1, h2, h3, h4, h5⟩ := hE _ _ hg hk
      exact .own h1 (h5.trans hv) hn hm (by rw [h2, h3, h4]; exact ha)
  | agg hl _ ih =>
    cases h with
    | agg hl' h' =>
      refine .agg (hl.symm.trans hl') fun i x u hx hu => ?_
      have hlt := (List.getElem?_eq_some_iff.1 hx).1
      exact ih i _ x (List.getElem?_eq_getElem (by omega)) hx (h' i _ u (List.getElem?_eq_getElem (by omega)) hu)
  | tup hl _ ih =>
    cases h with
    | tup hl' h' =>
      refine .tup (hl.symm.trans hl') fun i x u hx hu => ?_
      have hlt := (List.getElem?_eq_some_iff.1 hx).1
      exact ih i _ x (List.getElem?_eq_getElem (by omega)) hx (h' i _ u (List.getElem?_eq_getElem (by omega)) hu)

/-- A row that a call hands back. -/
structure RB where
  sz : Nat
  e : TypeId
  es : List (List D)

def RB.blk (b : RB) : Blk := .row b.sz b.e b.es
def rowsB (bs : List RB) : Nat → Blk := fun g => match bs[g]? with | some b => b.blk | none => .free

def E0 : Env := ⟨fun _ => 0, fun _ => 0, fun _ => 0, fun _ => false, fun _ => False⟩

/-- What a function does with such arguments: its result, and the rows that come with it. -/
def ACalls (P : Program) (f : FuncId) (args : List AV) (post : AV → List RB → Prop) : Prop :=
  ∀ (w : World) (U : Nat → Prop) (vs : List Value), vs.length = args.length → (∀ (i : Nat) (x : AV) (v : Value), args[i]? = some x → vs[i]? = some v → VA E0 w (fun _ => False) U w.heap.size x v) →
    Calls P f vs.toArray w fun e w' => ∃ r bs v E, post r bs ∧ e = .returned v ∧ Mem w U (rowsB bs) E w' ∧ VA E w' (Fof E (rowsB bs)) U w.heap.size r v

theorem ACalls.mono {P : Program} {f : FuncId} {args : List AV} {post post' : AV → List RB → Prop} (h : ACalls P f args post) (hp : ∀ r bs, post r bs → post' r bs) : ACalls P f args post' := fun w U vs hl hv =>
  (h w U vs hl hv).mono fun e w' ⟨r, bs, v, E, h1, h2⟩ => ⟨r, bs, v, E, hp r bs h1, h2⟩

section
variable {P : Program} {nt : Nat} {o : Oper} {σ : St}

/-- What is handed to a call: a row of the caller's own is lent. -/
inductive ArgA (σ : St) (rb : List Nat) : AV → AV → Prop where
  | d (x : D) : ArgA σ rb (.d x) (.d x)
  | nsl : ArgA σ rb .nsl .nsl
  | nv (sz : Nat) : ArgA σ rb .nsl (.d (.view sz []))
  | lent (sz : Nat) (es : List (List D)) : ArgA σ rb (.lent sz es) (.lent sz es)
  | lnd (sz : Nat) (es : List (List D)) : ArgA σ rb (.d (.view sz es)) (.lent sz es)
  | nlent (sz : Nat) : ArgA σ rb .nsl (.lent sz [])
  | und (x : AV) : ArgA σ rb x .und
  | own {g n sz : Nat} {e : TypeId} {es : List (List D)} (hg : g ∈ rb) (hb : σ.blk g = .row sz e es) (hn : n = es.length) : ArgA σ rb (.own g 0 n) (.lent sz es)
  | part {g i n sz : Nat} {e : TypeId} {es : List (List D)} (hg : g ∈ rb) (hb : σ.blk g = .row sz e es) (hn : i + n ≤ es.length) : ArgA σ rb (.own g i n) (.lent sz ((es.drop i).take n))
  | agg {vs us : List AV} (hl : vs.length = us.length) (h : ∀ (i : Nat) (x y : AV), vs[i]? = some x → us[i]? = some y → ArgA σ rb x y) : ArgA σ rb (.agg vs) (.agg us)

def ArgsA (σ : St) (rb : List Nat) (xs ys : List AV) : Prop := xs.length = ys.length ∧ ∀ (i : Nat) (x y : AV), xs[i]? = some x → ys[i]? = some y → ArgA σ rb x y
theorem ArgsA.nil {rb : List Nat} : ArgsA σ rb [] [] := ⟨rfl, at_nil⟩
theorem ArgsA.cons {rb : List Nat} {x y : AV} {xs ys : List AV} (h : ArgA σ rb x y) (hs : ArgsA σ rb xs ys) : ArgsA σ rb (x :: xs) (y :: ys) := ⟨by simp [hs.1], at_cons h hs.2⟩

theorem ArgA.agree {σ' : St} {rb : List Nat} (ha : ∀ g ∈ rb, σ'.blk g = σ.blk g) {x y : AV} (h : ArgA σ rb x y) : ArgA σ' rb x y := by
  induction h with
  | d x => exact .d x
  | nsl => exact .nsl
  | nv sz => exact .nv sz
  | lent sz es => exact .lent sz es
  | lnd sz es => exact .lnd sz es
  | nlent sz => exact .nlent sz
  | und x => exact .und x
  | own hg hb hn => exact .own hg ((ha _ hg).trans hb) hn
  | part hg hb hn => exact .part hg ((ha _ hg).trans hb) hn
  | agg hl _ ih => exact .agg hl ih

/-- What the callee may take for old: what the caller may read, and does not write. -/
def Ucall (E : Env) (B : Nat → Blk) (U : Nat → Prop) (base : Nat) : Nat → Prop := fun b => ¬ Fof E B b ∧ (U b ∨ base ≤ b)

theorem VD.lend {w : World} {F U : Nat → Prop} {base b2 : Nat} {x : D} {v : Value} (h : VD w F U base x v) : VD w (fun _ => False) (fun b => ¬ F b ∧ (U b ∨ base ≤ b)) b2 x v := by
  induction h with
  | int => exact .int _ _
  | bool => exact .bool _
  | view u hl hc hm hz hsz hat hV ih =>
    refine .view u hl hc hm hz hsz (fun i x hx => ?_) ih
    obtain ⟨b, off, ha, ⟨h1, h2, h3⟩, h5⟩ := hat i x hx
    exact ⟨b, off, ha, ⟨h1, id, fun ho => .inl ⟨h2, h3 ho⟩⟩, h5⟩

theorem ArgA.give {w0 : World} {U : Nat → Prop} {E : Env} {a : Act} {w : World} (hr : Rel w0 U nt σ E a w) {rb : List Nat} {x y : AV} {v : Value} (hw : ArgA σ rb x y) (h : VA E w (Fof E σ.blk) U w0.heap.size x v) : VA E0 w (fun _ => False) (Ucall E σ.blk U w0.heap.size) w.heap.size y v := by
  have row : ∀ {i n g sz : Nat} {e : TypeId} {es : List (List D)} {v : Value}, σ.blk g = .row sz e es → i + n ≤ es.length → VA E w (Fof E σ.blk) U w0.heap.size (.own g i n) v → VA E0 w (fun _ => False) (Ucall E σ.blk U w0.heap.size) w.heap.size (.lent sz ((es.drop i).take n)) v := by
    intro i n g sz e es v hb hn hv
    have hpos : 0 < sz := by have := hr.mem.blk g; rw [hb] at this; exact this.2.2.1
    obtain ⟨ad, cap, news, rfl, h2, h3, h4, h5, h6, h7, h8⟩ := ((Src.part (σ := σ) (sz := sz) (p := .own g i n) rfl hb hn).elems hr hv).sl
    refine .lent (fun i j => news.getD (i * sz + j) undef) rfl h2 h3 h4 (fun i x hx => (h8 i x hx).1) (fun k x hx => ?_) (fun k x j d hx hd => ?_)
    · have hi := (List.getElem?_eq_some_iff.1 hx).1
      have hcell : ∀ j, j < sz → k * sz + j < news.length := fun j hj => by
        have := Nat.mul_le_mul_right sz (show k + 1 ≤ ((es.drop i).take n).length from hi)
        rw [Nat.add_mul] at this
        omega
      obtain ⟨b, off, hab, hbl, _⟩ := h6 (k * sz) _ (List.getElem?_eq_getElem (hcell 0 (by omega)))
      subst hab
      refine ⟨b, off, rfl, ⟨hbl, id, fun ho => by cases ho⟩, fun j hj => ?_⟩
      obtain ⟨b', off', hab', _, hc⟩ := h6 (k * sz + j) _ (List.getElem?_eq_getElem (hcell j hj))
      cases hab'
      rw [hc, List.getD_eq_getElem?_getD, List.getElem?_eq_getElem (hcell j hj)]
      rfl
    · obtain ⟨u, h9, h10⟩ := (h8 k x hx).2 j d hd
      rw [List.getD_eq_getElem?_getD, h9]
      exact h10.lend
  induction hw generalizing v with
  | d x => cases h with | d h => exact .d h.lend
  | nsl => cases h; exact .nsl
  | nlent sz =>
    cases h
    exact .lent (fun _ _ => .tuple #[]) rfl (Nat.le_refl _) (Nat.zero_le _) (fun _ => rfl) (fun i x hx => by simp at hx) (fun i x hx => by simp at hx) (fun i x j d hx => by simp at hx)
  | lent sz es =>
    cases h with
    | lent u h1 h2 h3 h4 h5 h6 h7 =>
      refine .lent u h1 h2 h3 h4 h5 (fun i x hx => ?_) (fun i x j d hx hd => (h7 i x j d hx hd).lend)
      obtain ⟨b, off, q1, q2, q3⟩ := h6 i x hx
      exact ⟨b, off, q1, ⟨q2.1, id, fun ho => by cases ho⟩, q3⟩
  | lnd sz es =>
    cases h with
    | d h => cases h with
      | view u h1 h2 h3 h4 h5 h6 h7 =>
        refine .lent u h1 h2 h3 h4 h5 (fun i x hx => ?_) (fun i x j d hx hd => (h7 i x j d hx hd).lend)
        obtain ⟨b, off, q1, q2, q3⟩ := h6 i x hx
        exact ⟨b, off, q1, ⟨q2.1, id, fun ho => by cases ho⟩, q3⟩
  | nv sz =>
    cases h
    exact .d (.view (fun _ _ => .tuple #[]) rfl (Nat.le_refl _) (Nat.zero_le _) (fun _ => rfl) (fun i x hx => by simp at hx) (fun i x hx => by simp at hx) (fun i x j d hx => by simp at hx))
  | und x => exact .und _
  | own hg hb hn =>
    have := row (i := 0) hb (by omega) h
    rw [List.drop_zero, List.take_of_length_le (by omega)] at this
    exact this
  | part hg hb hn => exact row hb hn h
  | agg hl _ ih =>
    cases h with
    | agg hl' h' =>
      refine .agg (hl.symm.trans hl') fun i x u hx hu => ?_
      have hlt := (List.getElem?_eq_some_iff.1 hx).1
      exact ih i _ x (List.getElem?_eq_getElem (by omega)) hx (h' i _ u (List.getElem?_eq_getElem (by omega)) hu)

def rowsAt (k : Nat) : List RB → List (Nat × Blk)
  | [] => []
  | b :: bs => (k, b.blk) :: rowsAt (k + 1) bs
def Blk.isFree : Blk → Bool
  | .free => true
  | _ => false
theorem isFree_eq {b : Blk} (h : b.isFree = true) : b = .free := by cases b <;> first | rfl | cases h

theorem rowsAt_fst : ∀ (bs : List RB) (k : Nat), (rowsAt k bs).map (·.1) = List.range' k bs.length
  | [], k => rfl
  | b :: bs, k => by
    simp only [rowsAt, List.map_cons, rowsAt_fst bs (k + 1), List.length_cons, List.range'_succ]

theorem upsOf_rows : ∀ (bs : List RB) (k : Nat) (B : Nat → Blk) (g : Nat), upsOf B (rowsAt k bs) g = if k ≤ g ∧ g < k + bs.length then rowsB bs (g - k) else B g
  | [], k, B, g => by
    rw [if_neg (by simp)]
    rfl
  | b :: bs, k, B, g => by
    show upsOf (upd B k b.blk) (rowsAt (k + 1) bs) g = _
    rw [upsOf_rows bs (k + 1)]
    by_cases h1 : g = k
    · subst h1
      rw [if_neg (by omega), upd_same, if_pos (by simp), Nat.sub_self]
      rfl
    · rw [upd_other _ _ _ h1]
      by_cases h2 : k + 1 ≤ g ∧ g < k + 1 + bs.length
      · rw [if_pos h2, if_pos (by simp; omega)]
        have : g - k = (g - (k + 1)) + 1 := by omega
        rw [this]
        simp [rowsB]
      · rw [if_neg h2, if_neg (by simp; omega)]

/-- The callee's rows come to the caller's blocks. -/
def Env.join (E E2 : Env) (k m : Nat) : Env :=
  ⟨fun g => if k ≤ g ∧ g < k + m then E2.β (g - k) else E.β g, fun g => if k ≤ g ∧ g < k + m then E2.sz (g - k) else E.sz g, fun g => if k ≤ g ∧ g < k + m then E2.cap (g - k) else E.cap g, fun g => if k ≤ g ∧ g < k + m then E2.vr (g - k) else E.vr g,
    fun g => (k ≤ g ∧ g < k + m ∧ E2.kn (g - k)) ∨ (¬ (k ≤ g ∧ g < k + m) ∧ E.kn g)⟩

theorem Env.join_in {E E2 : Env} {k m g : Nat} (h : g < m) : (E.join E2 k m).β (k + g) = E2.β g ∧ (E.join E2 k m).sz (k + g) = E2.sz g ∧ (E.join E2 k m).cap (k + g) = E2.cap g ∧ (E.join E2 k m).vr (k + g) = E2.vr g ∧ ((E.join E2 k m).kn (k + g) ↔ E2.kn g) := by
  have h1 : k ≤ k + g ∧ k + g < k + m := by omega
  have h2 : k + g - k = g := by omega
  unfold Env.join
  simp only [h1, h2, and_self, if_true, not_true, false_and, or_false, true_and, Nat.le_add_right]
theorem Env.join_out {E E2 : Env} {k m g : Nat} (h : ¬ (k ≤ g ∧ g < k + m)) : (E.join E2 k m).β g = E.β g ∧ (E.join E2 k m).sz g = E.sz g ∧ (E.join E2 k m).cap g = E.cap g ∧ (E.join E2 k m).vr g = E.vr g ∧ ((E.join E2 k m).kn g ↔ E.kn g) := by
  unfold Env.join
  simp only [if_neg h, true_and]
  exact ⟨fun h1 => h1.elim (fun h2 => absurd ⟨h2.1, h2.2.1⟩ h) (·.2), fun h1 => .inr ⟨h, h1⟩⟩

theorem Hot_env {E E' : Env} {g g' : Nat} {b : Blk} (h : E'.vr g' = E.vr g) : Hot E' g' b ↔ Hot E g b := by
  cases b <;> simp [Hot, h]

theorem Rel.joined {w0 : World} {U : Nat → Prop} {E E2 : Env} {a : Act} {w w' : World} (hr : Rel w0 U nt σ E a w) {k : Nat} {bs : List RB} (hfree : ∀ g, k ≤ g → g < k + bs.length → σ.blk g = .free) (h2 : Mem w (Ucall E σ.blk U w0.heap.size) (rowsB bs) E2 w') :
    Rel w0 U nt ⟨σ.tmp, upsOf σ.blk (rowsAt k bs)⟩ (E.join E2 k bs.length) a w' ∧
      ∀ x v, VD w' (Fof E2 (rowsB bs)) (Ucall E σ.blk U w0.heap.size) w.heap.size x v → VD w' (Fof (E.join E2 k bs.length) (upsOf σ.blk (rowsAt k bs))) U w0.heap.size x v := by
  have hB : ∀ g, upsOf σ.blk (rowsAt k bs) g = if k ≤ g ∧ g < k + bs.length then rowsB bs (g - k) else σ.blk g := upsOf_rows bs k σ.blk
  have hkn2 : ∀ i, E2.kn i → i < bs.length := fun i hi => by
    rcases Nat.lt_or_ge i bs.length with h | h
    · exact h
    · have h3 := h2.blk i
      unfold rowsB at h3
      rw [List.getElem?_eq_none h] at h3
      exact absurd hi h3
  -- who is hot
  have hotIn : ∀ i, i < bs.length → (Hot (E.join E2 k bs.length) (k + i) (upsOf σ.blk (rowsAt k bs) (k + i)) ↔ Hot E2 i (rowsB bs i)) := fun i hi => by
    rw [hB, if_pos (by omega), show k + i - k = i by omega]
    exact Hot_env (Env.join_in hi).2.2.2.1
  have hotOut : ∀ g, ¬ (k ≤ g ∧ g < k + bs.length) → (Hot (E.join E2 k bs.length) g (upsOf σ.blk (rowsAt k bs) g) ↔ Hot E g (σ.blk g)) := fun g hg => by
    rw [hB, if_neg hg]
    exact Hot_env (Env.join_out hg).2.2.2.1
  have hot2 : ∀ i, Hot E2 i (rowsB bs i) → i < bs.length ∧ w.heap.size ≤ E2.β i ∧ E2.β i < w'.heap.size := fun i hi => by
    have h3 := (h2.blk i).lt hi
    exact ⟨hkn2 i h3.2.2, h3.2.1, h3.1⟩
  have hFsplit : ∀ b, Fof (E.join E2 k bs.length) (upsOf σ.blk (rowsAt k bs)) b ↔ Fof E σ.blk b ∨ Fof E2 (rowsB bs) b := fun b => by
    constructor
    · rintro ⟨g, h3, h4⟩
      by_cases hg : k ≤ g ∧ g < k + bs.length
      · obtain ⟨i, rfl⟩ : ∃ i, g = k + i := ⟨g - k, by omega⟩
        have hi : i < bs.length := by omega
        exact .inr ⟨i, (hotIn i hi).1 h3, by rw [← (Env.join_in hi).1]; exact h4⟩
      · exact .inl ⟨g, (hotOut g hg).1 h3, by rw [← (Env.join_out hg).1]; exact h4⟩
    · rintro (⟨g, h3, h4⟩ | ⟨i, h3, h4⟩)
      · have hg : ¬ (k ≤ g ∧ g < k + bs.length) := fun hg => by rw [hfree g hg.1 hg.2] at h3; cases h3
        exact ⟨g, (hotOut g hg).2 h3, by rw [(Env.join_out hg).1]; exact h4⟩
      · have hi := (hot2 i h3).1
        exact ⟨k + i, (hotIn i hi).2 h3, by rw [(Env.join_in hi).1]; exact h4⟩
  have hbel : Below w0.heap.size w0 w' := hr.mem.below.trans (h2.below.mono hr.mem.below.size)
  have hold : ∀ b, b < w.heap.size → w'.heap[b]? = w.heap[b]? := fun b hb => h2.below.block b hb
  have hF1 : ∀ b, b < w.heap.size → Fof (E.join E2 k bs.length) (upsOf σ.blk (rowsAt k bs)) b → Fof E σ.blk b := fun b hb hf => by
    rcases (hFsplit b).1 hf with h3 | ⟨i, h3, h4⟩
    · exact h3
    · have := (hot2 i h3).2.1; omega
  have hE1 : ∀ g, E.kn g → (E.join E2 k bs.length).kn g ∧ (E.join E2 k bs.length).β g = E.β g ∧ (E.join E2 k bs.length).sz g = E.sz g ∧ (E.join E2 k bs.length).cap g = E.cap g ∧ (E.join E2 k bs.length).vr g = E.vr g := fun g hg => by
    have hn : ¬ (k ≤ g ∧ g < k + bs.length) := fun hn => by
      have := hr.mem.blk g
      rw [hfree g hn.1 hn.2] at this
      exact this hg
    obtain ⟨q1, q2, q3, q4, q5⟩ := Env.join_out (E := E) (E2 := E2) hn
    exact ⟨q5.2 hg, q1, q2, q3, q4⟩
  have hVD : ∀ x v, VD w' (Fof E2 (rowsB bs)) (Ucall E σ.blk U w0.heap.size) w.heap.size x v → VD w' (Fof (E.join E2 k bs.length) (upsOf σ.blk (rowsAt k bs))) U w0.heap.size x v := by
    intro x v h
    induction h with
    | int => exact .int _ _
    | bool => exact .bool _
    | view u hl hc hm hz hsz hat hV ih =>
      refine .view u hl hc hm hz hsz (fun i x hx => ?_) ih
      obtain ⟨b, off, q1, ⟨q2, q3, q4⟩, q5⟩ := hat i x hx
      refine ⟨b, off, q1, ⟨q2, fun hf => ?_, fun _ => ?_⟩, q5⟩
      · rcases (hFsplit b).1 hf with h3 | h3
        · rcases q4 rfl with h4 | h4
          · exact h4.1 h3
          · obtain ⟨g, h5, h6⟩ := h3
            have := ((hr.mem.blk g).lt h5).1
            omega
        · exact q3 h3
      · rcases q4 rfl with h4 | h4
        · exact h4.2
        · exact .inr (Nat.le_trans hr.mem.below.size h4)
  refine ⟨⟨⟨hbel, fun g => ?_, fun g g' h3 h4 h5 => ?_⟩, hr.size, hr.defers, fun t => (hr.tmp t).keep h2.below.size (fun b hb _ => hold b hb) hF1 hE1⟩, hVD⟩
  · show BlkOk _ _ _ _ _ g (upsOf σ.blk (rowsAt k bs) g)
    rw [hB]
    by_cases hg : k ≤ g ∧ g < k + bs.length
    · rw [if_pos hg]
      obtain ⟨i, rfl⟩ : ∃ i, g = k + i := ⟨g - k, by omega⟩
      have hi : i < bs.length := by omega
      rw [show k + i - k = i by omega]
      have hbl := h2.blk i
      obtain ⟨q1, q2, q3, q4, q5⟩ := Env.join_in (E := E) (E2 := E2) (k := k) hi
      have hbi : rowsB bs i = (bs[i]).blk := by unfold rowsB; rw [List.getElem?_eq_getElem hi]
      rw [hbi] at hbl ⊢
      obtain ⟨r1, r2, r3, r4, r5, r6, r7⟩ := hbl
      refine ⟨q5.2 r1, q2.trans r2, r3, by rw [q3]; exact r4, by rw [q3]; exact r5, by rw [q3, q4]; exact r6, fun hv => ?_⟩
      rw [q4] at hv
      obtain ⟨s1, cur, s2, s3, s4⟩ := r7 hv
      refine ⟨by rw [q1]; exact Nat.le_trans hr.mem.below.size s1, cur, by rw [q1]; exact s2, by rw [q3]; exact s3, fun i x hx => ⟨(s4 i x hx).1, fun j d hd => ?_⟩⟩
      obtain ⟨u, t1, t2⟩ := (s4 i x hx).2 j d hd
      exact ⟨u, t1, hVD _ _ t2⟩
    · rw [if_neg hg]
      refine (hr.mem.blk g).keep h2.below.size (fun b hb _ => hold b hb) hF1 hE1 (fun hl => hold _ ((hr.mem.blk g).lt hl).1) fun he => ?_
      have h4 := hr.mem.blk g
      rw [he] at h4
      exact fun h5 => h4 ((Env.join_out hg).2.2.2.2.1 h5)
  · have key : ∀ g, Hot (E.join E2 k bs.length) g (upsOf σ.blk (rowsAt k bs) g) → (∃ i, g = k + i ∧ i < bs.length ∧ Hot E2 i (rowsB bs i) ∧ (E.join E2 k bs.length).β g = E2.β i) ∨ (Hot E g (σ.blk g) ∧ (E.join E2 k bs.length).β g = E.β g) := fun g hh => by
      by_cases hg : k ≤ g ∧ g < k + bs.length
      · obtain ⟨i, rfl⟩ : ∃ i, g = k + i := ⟨g - k, by omega⟩
        have hi : i < bs.length := by omega
        exact .inl ⟨i, rfl, hi, (hotIn i hi).1 hh, (Env.join_in hi).1⟩
      · exact .inr ⟨(hotOut g hg).1 hh, (Env.join_out hg).1⟩
    rcases key g h3 with ⟨i, rfl, hi, q1, q2⟩ | ⟨q1, q2⟩
    · rcases key g' h4 with ⟨i', rfl, hi', r1, r2⟩ | ⟨r1, r2⟩
      · rw [q2, r2] at h5
        rw [h2.inj i i' q1 r1 h5]
      · rw [q2, r2] at h5
        have := (hot2 i q1).2.1
        have := ((hr.mem.blk g').lt r1).1
        omega
    · rcases key g' h4 with ⟨i', rfl, hi', r1, r2⟩ | ⟨r1, r2⟩
      · rw [q2, r2] at h5
        have := (hot2 i' r1).2.1
        have := ((hr.mem.blk g).lt q1).1
        omega
      · rw [q2, r2] at h5
        exact hr.mem.inj g g' q1 r1 h5

/-- A call: what it hands back is known. -/
theorem B.call {f : FuncId} {xs : Array Operand} {ts : Array TypeId} {as' : List AV} {rb : List Nat} {r r' : AV} {bs : List RB} {k : Nat} (ho : o.op = .call { callee := .value (.func f), args := xs, argTypes := ts }) (hf : ∀ (us : Array Value) (u : World), (callFunc f us).run P u = .ok (.enter f us) u)
    (hargs : ArgsA σ rb (xs.toList.map σ.eval) as') (hc : ACalls P f as' fun q qs => q = r ∧ qs = bs) (hfree : (List.range' k bs.length).all (fun g => (σ.blk g).isFree) = true) (hren : Ren (fun g g' => g < bs.length ∧ g' = k + g) r r') (hd : dstOk o nt = true) :
    DoesB P nt o σ ⟨tmpsIn xs.toList, List.range' k bs.length ++ rb, r', rowsAt k bs⟩ := fun σ' ha w0 U E a w N Q hr hN => by
  have hfr : ∀ g, k ≤ g → g < k + bs.length → σ'.blk g = .free := fun g h1 h2 => by
    have hm : g ∈ List.range' k bs.length := by simp; omega
    exact (ha.2 g (by simp; exact .inl (by omega))).trans (isFree_eq (List.all_eq_true.1 hfree g hm))
  have hev : xs.toList.map σ'.eval = xs.toList.map σ.eval := List.map_congr_left fun x hx => Agree.eval (rb := List.range' k bs.length ++ rb) ha hx
  have hcalls := hc w (Ucall E σ'.blk U w0.heap.size) (xs.toList.map a.eval) (by have := hargs.1; simp at this ⊢; exact this) (fun i x v hx hv => by
    have hlt : i < (xs.toList.map σ.eval).length := by rw [hargs.1]; exact (List.getElem?_eq_some_iff.1 hx).1
    have hxi : i < xs.toList.length := by simpa using hlt
    rw [List.getElem?_map, List.getElem?_eq_getElem hxi] at hv
    obtain rfl : a.eval xs.toList[i] = v := by simpa using hv
    have h1 := hargs.2 i (σ.eval xs.toList[i]) x (by rw [List.getElem?_map, List.getElem?_eq_getElem hxi]; rfl) hx
    have h2 : ArgA σ' rb (σ'.eval xs.toList[i]) x := by
      rw [Agree.eval (rb := List.range' k bs.length ++ rb) ha (List.getElem_mem hxi)]
      exact h1.agree fun g hg => ha.2 g (List.mem_append.2 (.inr hg))
    exact h2.give hr (hr.eval _))
  unfold Oper.wp
  rw [execOp, ho]
  have hargs' : (xs.toList.map a.eval).toArray = xs.map a.eval := by rw [← Array.toList_map, Array.toArray_toList]
  rw [hargs'] at hcalls
  have hrun : (do let d ← resolve a.eval { callee := .value (.func f), args := xs, argTypes := ts } o.type; invoke d.target d.args : Sem Next).run P w = .ok (.enter f (xs.map a.eval)) w := by
    simp [resolve, Act.eval, Deferred.ofValue, invoke, hf]
  simp only [hrun]
  show Calls _ _ _ _ _
  refine hcalls.mono fun e w' ⟨q, qs, v, E2, ⟨h1, h2⟩, h3, hmem, hva⟩ => ?_
  subst h1 h2 h3
  obtain ⟨hr', hVD⟩ := hr.joined hfr hmem
  refine hN _ _ _ (hr'.undef (dstOk_lt hd) (hva.ren (fun g g' hg hk => ?_) (fun x v h => hVD x v h) hren))
  obtain ⟨hlt, rfl⟩ := hg
  obtain ⟨q1, q2, q3, q4, q5⟩ := Env.join_in (E := E) (E2 := E2) (k := k) hlt
  exact ⟨q5.2 hk, q1, q2, q3, q4⟩

/- Where a function begins and ends. -/

/-- What the result variables hold. -/
inductive ResA (P : Program) (σ : St) : ResultVar → AV → Prop where
  | tmp (t : Nat) : ResA P σ (.tmp t) (σ.tmp t)
  | one {t n : Nat} {ty : TypeId} {rb : List Nat} {v : AV} {cs : List AV} (ht : tyOf P ty = some (false, n)) (hx : Reads σ (σ.tmp t) rb (v :: cs)) : ResA P σ (.cell t ty) v
  | many {t n : Nat} {ty : TypeId} {rb : List Nat} {vs cs : List AV} (ht : tyOf P ty = some (true, n)) (hx : Reads σ (σ.tmp t) rb cs) (hv : takeO n cs = some vs) : ResA P σ (.cell t ty) (.agg vs)

def resVal (vs : List AV) : AV := match vs with | [x] => x | _ => .tup vs

/-- What is handed back: rows that stay rows have new numbers; others are only read. -/
structure Ret (P : Program) (fn : Func) (σ : St) (post : AV → List RB → Prop) : Prop where
  ret : ∃ (vs : List AV) (gs keep : List Nat) (r1 r : AV) (bs : List RB), fn.results.toList.length = vs.length ∧ (∀ (i : Nat) (x : ResultVar) (y : AV), fn.results.toList[i]? = some x → vs[i]? = some y → ResA P σ x y) ∧
    (∀ g ∈ gs, ∃ sz e es, σ.blk g = .row sz e es) ∧ Weak σ.blk (· ∈ gs) (resVal vs) r1 ∧ keep.length = bs.length ∧ keep.Nodup ∧ (∀ (i : Nat) (g : Nat) (b : RB), keep[i]? = some g → bs[i]? = some b → g ∉ gs ∧ σ.blk g = b.blk) ∧
    Ren (fun g g' => keep[g']? = some g) r1 r ∧ post r bs

def APost (P : Program) (fn : Func) (post : AV → List RB → Prop) : Exit → St → Prop
  | .normal, σ | .ret, σ => Ret P fn σ post
  | _, _ => False

def resRun (tmps : Array Value) : ResultVar → Sem Value
  | .tmp t => pure (tmps.getD t undef)
  | .cell p ty => do loadVar ty (← asAddr (tmps.getD p undef))
theorem results_eq (fn : Func) (tmps : Array Value) : results fn tmps = (do let vs ← fn.results.mapM (resRun tmps); pure (if h : vs.size = 1 then vs[0] else .tuple vs)) := by
  have e : (fun x => match x with | ResultVar.tmp t => (pure (tmps.getD t undef) : Sem Value) | .cell a t => do loadVar t (← asAddr (tmps.getD a undef))) = resRun tmps := by
    funext x
    cases x <;> rfl
  unfold results
  rw [← e]
  rfl

theorem run_res {w0 : World} {U : Nat → Prop} {E : Env} {a : Act} {w : World} (hr : Rel w0 U nt σ E a w) : ∀ (rs : List ResultVar) (vs : List AV), rs.length = vs.length → (∀ (i : Nat) (x : ResultVar) (y : AV), rs[i]? = some x → vs[i]? = some y → ResA P σ x y) →
    ∃ us : List Value, us.length = vs.length ∧ (rs.mapM (resRun a.tmps)).run P w = .ok us w ∧ ∀ (i : Nat) (y : AV) (u : Value), vs[i]? = some y → us[i]? = some u → VA E w (Fof E σ.blk) U w0.heap.size y u
  | [], vs, hl, _ => by
    obtain rfl : vs = [] := List.eq_nil_of_length_eq_zero hl.symm
    exact ⟨[], rfl, by simp, at_nil⟩
  | x :: rs, [], hl, _ => by simp at hl
  | x :: rs, y :: vs, hl, h => by
    obtain ⟨us, h1, h2, h3⟩ := run_res hr rs vs (by simpa using hl) fun i x y hx hy => h (i + 1) x y (by simpa using hx) (by simpa using hy)
    obtain ⟨u, h4, h5⟩ : ∃ u, (resRun a.tmps x).run P w = .ok u w ∧ VA E w (Fof E σ.blk) U w0.heap.size y u := by
      have hxy := h 0 x y rfl rfl
      cases hxy with
      | tmp t => exact ⟨a.tmps.getD t undef, by simp only [resRun, Sem.run_pure], hr.tmp t⟩
      | @one t n ty rb v cs ht hx =>
        obtain ⟨b, off, q1, q2⟩ := hx.cells hr (hr.tmp t)
        obtain ⟨_, u, q3, q4⟩ := q2 0 y rfl
        have hl : w.cell? ⟨b, off, none⟩ = some u := q3
        refine ⟨u, ?_, q4⟩
        simp only [resRun, q1]
        simp [asAddr, loadVar, Sem.run_bind, (tyOf_run ht w).1, hl]
      | @many t n ty rb vs' cs ht hx hv =>
        obtain ⟨hn, hv'⟩ := takeO_eq hv
        obtain ⟨b, off, q1, q2⟩ := hx.cells hr (hr.tmp t)
        obtain ⟨f, hf⟩ := Go.Deep.choose_lt (n := n) (p := fun i u => w.cell? ⟨b, off + i, none⟩ = some u ∧ ∀ y, cs[i]? = some y → VA E w (Fof E σ.blk) U w0.heap.size y u) fun i hi => by
          obtain ⟨y, hy⟩ : ∃ y, cs[i]? = some y := ⟨_, List.getElem?_eq_getElem (by omega)⟩
          obtain ⟨_, u, h4, h5⟩ := q2 i y hy
          exact ⟨u, h4, fun y' hy' => by rw [hy] at hy'; cases hy'; exact h5⟩
        have hl : (loadCells ⟨b, off, none⟩ n).run P w = .ok ((List.range n).map f).toArray w := by
          have := run_loadCells_list (P := P) (w := w) ⟨b, off, none⟩ ((List.range n).map f) fun j u hu => by
            have hj : j < n := by have := (List.getElem?_eq_some_iff.1 hu).1; simpa using this
            rw [List.getElem?_map, List.getElem?_range hj] at hu
            obtain rfl : f j = u := by simpa using hu
            rw [addr_add]
            exact (hf j hj).1
          simpa using this
        refine ⟨.agg ((List.range n).map f).toArray, ?_, ?_⟩
        · simp only [resRun, q1]
          simp [asAddr, loadVar, Sem.run_bind, (tyOf_run ht w).1, (tyOf_run ht w).2, hl]
        · subst hv'
          refine .agg (by simp; omega) fun i y u hy hu => ?_
          have hj : i < n := by have := (List.getElem?_eq_some_iff.1 hu).1; simpa using this
          rw [List.getElem?_map, List.getElem?_range hj] at hu
          obtain rfl : f i = u := by simpa using hu
          rw [List.getElem?_take_of_lt hj] at hy
          exact (hf i hj).2 y hy
    refine ⟨u :: us, by simp [h1], ?_, at_cons h5 h3⟩
    rw [List.mapM_cons]
    simp only [Sem.run_bind, h4, Result.andThen_ok, h2, Sem.run_pure]

theorem Rel.ret {w : World} {U : Nat → Prop} {E : Env} {a : Act} {w' : World} {fn : Func} {post : AV → List RB → Prop} (hr : Rel w U nt σ E a w') (h : Ret P fn σ post) :
    ∃ v, (results fn a.tmps).run P w' = .ok v w' ∧ ∃ r bs E2, post r bs ∧ Mem w U (rowsB bs) E2 w' ∧ VA E2 w' (Fof E2 (rowsB bs)) U w.heap.size r v := by
  obtain ⟨vs, gs, keep, r1, r, bs, h1, h2, h3, h4, h5, h6, h7, h8, h9⟩ := h.ret
  obtain ⟨us, h10, h11, h12⟩ := run_res (P := P) hr _ _ h1 h2
  have hrun : (results fn a.tmps).run P w' = .ok (if h : us.length = 1 then us[0] else .tuple us.toArray) w' := by
    rw [results_eq, Sem.run_bind]
    have hm : (fn.results.mapM (resRun a.tmps)).run P w' = .ok us.toArray w' := by
      rw [Array.mapM_eq_mapM_toList]
      simp [h11]
    simp only [hm, Result.andThen_ok]
    simp
  have hva : VA E w' (Fof E σ.blk) U w.heap.size (resVal vs) (if h : us.length = 1 then us[0] else .tuple us.toArray) := by
    match vs, us, h10, h12 with
    | [x], [u], _, h12 => exact h12 0 x u rfl rfl
    | [], [], _, h12 => exact .tup rfl h12
    | x :: y :: vs, [], h, _ => simp at h
    | x :: y :: vs, [u], h, _ => simp at h
    | x :: y :: vs, u :: u' :: us, h, h12 => exact .tup h.symm h12
  have hva1 := hva.weak hr h4
  let E2 : Env := ⟨fun i => E.β (keep.getD i 0), fun i => E.sz (keep.getD i 0), fun i => E.cap (keep.getD i 0), fun i => E.vr (keep.getD i 0), fun i => i < keep.length⟩
  have hkeep : ∀ i, i < keep.length → ∃ g b, keep[i]? = some g ∧ keep.getD i 0 = g ∧ bs[i]? = some b ∧ g ∉ gs ∧ σ.blk g = b.blk := fun i hi => by
    have e1 : keep[i]? = some keep[i] := List.getElem?_eq_getElem hi
    have e2 : bs[i]? = some (bs[i]'(by omega)) := List.getElem?_eq_getElem (by omega)
    exact ⟨_, _, e1, by rw [List.getD_eq_getElem?_getD, e1]; rfl, e2, h7 i _ _ e1 e2⟩
  have hhot : ∀ i, Hot E2 i (rowsB bs i) → i < keep.length ∧ Hot E (keep.getD i 0) (σ.blk (keep.getD i 0)) ∧ keep.getD i 0 ∉ gs := fun i hi => by
    unfold rowsB at hi
    split at hi
    · rename_i b hb
      have hlt : i < keep.length := by rw [h5]; exact (List.getElem?_eq_some_iff.1 hb).1
      obtain ⟨g, b', q1, q2, q3, q4, q5⟩ := hkeep i hlt
      rw [hb] at q3
      cases q3
      refine ⟨hlt, ?_, by rw [q2]; exact q4⟩
      rw [q2, q5]
      have : E2.vr i = E.vr g := by show E.vr (keep.getD i 0) = _; rw [q2]
      exact (Hot_env this).1 hi
    · cases hi
  have hF : ∀ b, Fof E2 (rowsB bs) b → Fof E (killed σ.blk gs) b := fun b ⟨i, q1, q2⟩ => by
    obtain ⟨r1, r2, r3⟩ := hhot i q1
    exact ⟨keep.getD i 0, by rw [killed_out r3]; exact r2, q2⟩
  have hVD : ∀ {F : Nat → Prop} x v, (∀ b, Fof E2 (rowsB bs) b → F b) → VD w' F U w.heap.size x v → VD w' (Fof E2 (rowsB bs)) U w.heap.size x v := fun x v hF h => h.keep (Nat.le_refl _) (fun _ _ _ => rfl) fun b _ hf => hF b hf
  refine ⟨_, hrun, r, bs, E2, h9, ⟨hr.mem.below, fun i => ?_, fun i j q1 q2 q3 => ?_⟩, hva1.ren (fun g g' hg _ => ?_) (fun x v h => hVD x v hF h) h8⟩
  · unfold rowsB
    cases hb : bs[i]? with
    | none =>
      show ¬ _
      have := (List.getElem?_eq_none_iff).1 hb
      show ¬ (i < keep.length)
      omega
    | some b =>
      have hlt : i < keep.length := by rw [h5]; exact (List.getElem?_eq_some_iff.1 hb).1
      obtain ⟨g, b', q1, q2, q3, q4, q5⟩ := hkeep i hlt
      rw [hb] at q3
      cases q3
      have hbl := hr.mem.blk g
      rw [q5] at hbl
      obtain ⟨r1, r2, r3, r4, r5, r6, r7⟩ := hbl
      have e1 : E2.β i = E.β g := by show E.β (keep.getD i 0) = _; rw [q2]
      have e2 : E2.sz i = E.sz g := by show E.sz (keep.getD i 0) = _; rw [q2]
      have e3 : E2.cap i = E.cap g := by show E.cap (keep.getD i 0) = _; rw [q2]
      have e4 : E2.vr i = E.vr g := by show E.vr (keep.getD i 0) = _; rw [q2]
      refine ⟨hlt, e2.trans r2, r3, by rw [e3]; exact r4, by rw [e3]; exact r5, by rw [e3, e4]; exact r6, fun hv => ?_⟩
      rw [e4] at hv
      obtain ⟨s1, cur, s2, s3, s4⟩ := r7 hv
      refine ⟨by rw [e1]; exact s1, cur, by rw [e1]; exact s2, by rw [e3]; exact s3, fun k x hx => ⟨(s4 k x hx).1, fun j d hd => ?_⟩⟩
      obtain ⟨u, t1, t2⟩ := (s4 k x hx).2 j d hd
      exact ⟨u, t1, hVD d u (fun b hb => Fof_killed (hF b hb)) t2⟩
  · obtain ⟨r1, r2, r3⟩ := hhot i q1
    obtain ⟨s1, s2, s3⟩ := hhot j q2
    have := hr.mem.inj _ _ r2 s2 q3
    rw [List.getD_eq_getElem?_getD, List.getD_eq_getElem?_getD, List.getElem?_eq_getElem r1, List.getElem?_eq_getElem s1] at this
    have this' : keep[i] = keep[j] := by simpa using this
    have hpw := List.pairwise_iff_getElem.1 h6
    rcases Nat.lt_trichotomy i j with h | h | h
    · exact absurd this' (hpw i j r1 s1 h)
    · exact h
    · exact absurd this'.symm (hpw j i s1 r1 h)
  · have hlt : g' < keep.length := (List.getElem?_eq_some_iff.1 hg).1
    have e0 : keep.getD g' 0 = g := by rw [List.getD_eq_getElem?_getD, hg]; rfl
    exact ⟨hlt, by show E.β (keep.getD g' 0) = _; rw [e0], by show E.sz (keep.getD g' 0) = _; rw [e0], by show E.cap (keep.getD g' 0) = _; rw [e0], by show E.vr (keep.getD g' 0) = _; rw [e0]⟩

def stOf (args : List AV) : St := ⟨fun t => args.getD t .und, fun _ => .free⟩

/-- A function's walk gives its word. -/
theorem ACalls.of {f : FuncId} {fn : Func} {c : Code} {args : List AV} {post : AV → List RB → Prop} (hf : P.funcs[f]? = some fn) (hb : fn.body = some c) (hn : args.length ≤ fn.ntmps) (h : Aw P fn.ntmps c (APost P fn post) (stOf args)) : ACalls P f args post := fun w U vs hl hv => by
  refine calls_of_wp hf hb ?_
  have hr : Rel w U fn.ntmps (stOf args) E0 { tmps := vs.toArray ++ Array.replicate (fn.ntmps - vs.toArray.size) undef, defers := [] } w := by
    have hF : Fof E0 (stOf args).blk = fun _ => False := by
      funext b
      exact propext ⟨fun ⟨g, h1, _⟩ => (by cases h1), fun h => h.elim⟩
    refine ⟨⟨Below.refl _ _, fun g => id, fun g g' h1 => by cases h1⟩, by simp; omega, rfl, fun t => ?_⟩
    rw [hF]
    show VA _ _ _ _ _ (args.getD t .und) _
    by_cases ht : t < args.length
    · have e1 : args[t]? = some args[t] := List.getElem?_eq_getElem ht
      have e2 : vs[t]? = some (vs[t]'(by omega)) := List.getElem?_eq_getElem (by omega)
      have e3 : (vs.toArray ++ Array.replicate (fn.ntmps - vs.toArray.size) undef).getD t undef = vs[t]'(by omega) := by
        rw [Array.getD_eq_getD_getElem?, Array.getElem?_append_left (by simp; omega)]
        simp [e2]
      rw [e3, List.getD_eq_getElem?_getD, e1]
      exact hv t _ _ e1 e2
    · rw [List.getD_eq_getElem?_getD, List.getElem?_eq_none (by omega)]
      exact .und _
  refine wp_mono (h w U E0 _ w hr) fun e a w' ⟨σ, E, h1, h2⟩ => ?_
  have fin : Ret P fn σ post → a.defers = [] ∧ ∃ v, (results fn a.tmps).run P w' = .ok v w' ∧ ∃ r bs v' E, post r bs ∧ Ending.returned v = .returned v' ∧ Mem w U (rowsB bs) E w' ∧ VA E w' (Fof E (rowsB bs)) U w.heap.size r v' := fun hret => by
    obtain ⟨v, h3, r, bs, E2, h4, h5, h6⟩ := h1.ret hret
    exact ⟨h1.defers, v, h3, r, bs, v, E2, h4, rfl, h5, h6⟩
  cases e with
  | normal => exact fin h2
  | ret => exact fin h2
  | _ => exact h2.elim
end
end Go.Proofs.Ytmkfpfnjimmmaaa
