/- Calls: what is handed in, and what comes back. Nothing of the dump stands here. -/
import Derived.Test.YtmkfpfnjimmmaaaVI
import Derived.WalkKit
namespace Go.Proofs.Ytmkfpfnjimmmaaa
open Go.RowKit
set_option linter.unusedVariables false
set_option linter.unusedSimpArgs false

/-- Where a callee's call stands: it may write what it was handed; some of its names are for good. -/
def Cx.call (w : World) (F : Nat → Prop) (pn : Nat → Prop) (E : Env) : Cx := ⟨w, F, fun g b => pn g ∧ E.kn g ∧ E.at_ g = b, []⟩
theorem Cx.call_kept (w : World) (F : Nat → Prop) (pn : Nat → Prop) (E : Env) (h : ∀ g, pn g → g < 64) (ht : TabIn w) (hF : ∀ g x, tabAt g = some x → ¬ F g) : Kept (Cx.call w F pn E) w := ⟨Below.refl _ _, fun b _ _ => rfl, fun g b hp => h g hp.1, ht, hF⟩

/-- What a function does with such arguments, and such blocks: its result, and what the blocks are then. -/
def HC (P : Program) (f : FuncId) (args : List AV) (B : Nat → Blk) (pn : Nat → Prop) (post : AV → (Nat → Blk) → Prop) : Prop :=
  ∀ (w : World) (U : Nat → Prop) (E : Env) (vs : List Value), Mem (Cx.call w (Fof E B) pn E) U B E w → (∀ g, pn g → E.kn g) → vs.length = args.length →
    (∀ (i : Nat) (x : AV) (v : Value), args[i]? = some x → vs[i]? = some v → VA E w (Fof E B) U w.heap.size x v) →
    Calls P f vs.toArray w fun e w' => ∃ r B' v E', post r B' ∧ e = .returned v ∧ Mem (Cx.call w (Fof E B) pn E) U B' E' w' ∧ VA E' w' (Fof E' B') U w.heap.size r v

def Ucall (F U : Nat → Prop) (base : Nat) (F2 : Nat → Prop) : Nat → Prop := fun b => (¬ F b ∨ F2 b) ∧ (U b ∨ base ≤ b)

section
variable {c : Cx} {U : Nat → Prop} {B : Nat → Blk} {E : Env} {w : World} {ρ : Nat → Nat} {N : Nat → Prop} {B2 : Nat → Blk} {ln : Nat → Prop} {pn : Nat → Prop}

/-- What a call is told of the caller's state. -/
structure Hand (B : Nat → Blk) (ρ : Nat → Nat) (N : Nat → Prop) (B2 : Nat → Blk) (ln : Nat → Prop) (pn : Nat → Prop) : Prop where
  blk : ∀ g, N g → BCv B (fun g g' => N g' ∧ ρ g' = g) (fun _ => True) (fun _ => False) ln (B (ρ g)) (B2 g)
  free : ∀ g, ¬ N g → B2 g = .free
  inj : ∀ g g', N g → N g' → B2 g ≠ .dead → B2 g' ≠ .dead → ρ g = ρ g' → g = g'
  ln : ∀ g, ln g → ∀ g', N g' → ρ g' = g → B2 g' = .dead
  pl : ∀ g, pn g → g < 64
  pn : ∀ g, pn g → N g ∧ B (ρ g) ≠ .free

theorem Hot_to {R : Nat → Nat → Prop} {al : Bool → Prop} {fz : Nat → Prop} {g : Nat} {b b' : Blk} (h : BCv B R al fz ln b b') (hh : Hot E (ρ g) b) (hd : b' ≠ .dead) : Hot (E.re ρ N) g b' := by
  cases h with
  | row => exact hh
  | var => exact trivial
  | mp => exact trivial
  | dead => exact absurd rfl hd

theorem Hand.hot (h : Hand B ρ N B2 ln pn) {b : Nat} (hf : Fof (E.re ρ N) B2 b) : ∃ g', N g' ∧ Hot E (ρ g') (B (ρ g')) ∧ B2 g' ≠ .dead ∧ E.β (ρ g') = b := by
  obtain ⟨g', h1, h2⟩ := hf
  have n1 : N g' := Classical.byContradiction fun hn => by rw [h.free g' hn] at h1; cases h1
  exact ⟨g', n1, Hot_re (h.blk g' n1) h1, Hot_dead h1, h2⟩

theorem Hand.recast (h : Hand B ρ N B2 ln pn) (hm : Mem c U B E w) :
    Recast c U B E w ρ N B2 (Cx.call w (Fof (E.re ρ N) B2) pn (E.re ρ N)) (Ucall (Fof E B) U c.heap.size (Fof (E.re ρ N) B2)) (fun _ => True) (fun _ => False) ln := by
  refine ⟨⟨hm, fun g g' ⟨h1, h2⟩ hk => by subst h2; exact ⟨⟨h1, hk⟩, rfl, rfl, rfl, rfl⟩, trivial, fun o b _ ⟨h1, h2, h3⟩ => ⟨h1, fun hf => h2 ?_, fun ho => .inl ⟨.inl h2, h3 ho⟩⟩, fun g hg => hg.elim, fun g hg hot hf => ?_⟩, h.blk, h.free,
    fun g g' n1 n2 _ d1 d2 e => h.inj g g' n1 n2 d1 d2 e, fun g n1 hot d1 => .inr ⟨g, Hot_to (h.blk g n1) hot d1, rfl⟩⟩
  · obtain ⟨g', _, q1, _, q2⟩ := h.hot hf
    exact ⟨_, q1, q2⟩
  · obtain ⟨g', n1, q1, q2, q3⟩ := h.hot hf
    have := hm.inj _ _ q1 hot q3
    exact q2 (h.ln g hg g' n1 this)

theorem Hand.mem (h : Hand B ρ N B2 ln pn) (hm : Mem c U B E w) : Mem (Cx.call w (Fof (E.re ρ N) B2) pn (E.re ρ N)) (Ucall (Fof E B) U c.heap.size (Fof (E.re ρ N) B2)) B2 (E.re ρ N) w :=
  (h.recast hm).mem_ (Cx.call_kept _ _ _ _ h.pl hm.below.tabIn fun g x ht hf => by
    obtain ⟨g', n1, q1, q2, q3⟩ := h.hot hf
    have := ((hm.blk _).lt q1).2.1
    rw [q3] at this
    exact hm.below.tabMine ht this) ⟨fun b hb => ⟨.inr hb, by
    obtain ⟨g', n1, q1, q2, q3⟩ := h.hot hb
    have := ((hm.blk _).lt q1).2.1
    rw [q3] at this
    exact this.elim .inr fun hh => .inl (hm.pins.1 _ hh)⟩, fun g b hb => ⟨hb.2.1, hb.2.2⟩⟩

/-- What the caller is told of the callee's state. -/
structure Back (B : Nat → Blk) (ρ : Nat → Nat) (N : Nat → Prop) (B2 : Nat → Blk) (pn : Nat → Prop) (B' : Nat → Blk) (src : Nat → Option Nat) (B3 : Nat → Blk) : Prop where
  old : ∀ g, src g = none → (B3 g = B g ∧ ∀ g', N g' → ρ g' = g → B2 g' = .dead) ∨ (B3 g = .dead ∧ B g ≠ .free)
  new : ∀ g i, src g = some i → BCv B' (fun i g => src g = some i) (fun o => o = false) (fun _ => False) (fun _ => False) (B' i) (B3 g)
  inj : ∀ g g' i, src g = some i → src g' = some i → B3 g ≠ .dead → B3 g' ≠ .dead → g = g'
  pin : ∀ g i, src g = some i → (pn i ∧ ρ i = g) ∨ B g = .free

def Env.join3 (E E' : Env) (src : Nat → Option Nat) : Env :=
  ⟨fun g => match src g with | some i => E'.β i | none => E.β g, fun g => match src g with | some i => E'.sz i | none => E.sz g, fun g => match src g with | some i => E'.cap i | none => E.cap g, fun g => match src g with | some i => E'.vr i | none => E.vr g,
    fun g => match src g with | some i => E'.kn i | none => E.kn g⟩
theorem join3_some {E E' : Env} {src : Nat → Option Nat} {g i : Nat} (h : src g = some i) : (E.join3 E' src).β g = E'.β i ∧ (E.join3 E' src).sz g = E'.sz i ∧ (E.join3 E' src).cap g = E'.cap i ∧ (E.join3 E' src).vr g = E'.vr i ∧ ((E.join3 E' src).kn g ↔ E'.kn i) := by
  unfold Env.join3; simp only [h]; simp
theorem join3_none {E E' : Env} {src : Nat → Option Nat} {g : Nat} (h : src g = none) : (E.join3 E' src).β g = E.β g ∧ (E.join3 E' src).sz g = E.sz g ∧ (E.join3 E' src).cap g = E.cap g ∧ (E.join3 E' src).vr g = E.vr g ∧ ((E.join3 E' src).kn g ↔ E.kn g) := by
  unfold Env.join3; simp only [h]; simp

theorem Hot_same {E E' : Env} {g g' : Nat} {b : Blk} (h : E'.vr g' = E.vr g) : Hot E' g' b ↔ Hot E g b := by cases b <;> simp [Hot, h]

theorem Back.join {B' : Nat → Blk} {E' : Env} {w' : World} {src : Nat → Option Nat} {B3 : Nat → Blk} (h : Hand B ρ N B2 ln pn) (hb : Back B ρ N B2 pn B' src B3) (hm : Mem c U B E w)
    (h2 : Mem (Cx.call w (Fof (E.re ρ N) B2) pn (E.re ρ N)) (Ucall (Fof E B) U c.heap.size (Fof (E.re ρ N) B2)) B' E' w') :
    Mem c U B3 (E.join3 E' src) w' ∧
    Trans (Cx.call w (Fof (E.re ρ N) B2) pn (E.re ρ N)) (Ucall (Fof E B) U c.heap.size (Fof (E.re ρ N) B2)) B' E' w' (E.join3 E' src) (Fof (E.join3 E' src) B3) U c.heap.size (fun i g => src g = some i) (fun o => o = false) (fun _ => False) (fun _ => False) ∧
    (∀ x v, VA E w (Fof E B) U c.heap.size x v → VA (E.join3 E' src) w' (Fof (E.join3 E' src) B3) U c.heap.size x v) := by
  have hpin : ∀ g i, E.kn g → src g = some i → E'.kn i ∧ E'.at_ i = E.at_ g := fun g i hk hs => by
    rcases hb.pin g i hs with ⟨h3, h4⟩ | h3
    · have h5 : (E.re ρ N).kn i := ⟨(h.pn i h3).1, by rw [h4]; exact hk⟩
      have h6 := h2.pins.2 i ((E.re ρ N).at_ i) ⟨h3, h5, rfl⟩
      refine ⟨h6.1, h6.2.trans ?_⟩
      show (E.β (ρ i), E.sz (ρ i), E.cap (ρ i), E.vr (ρ i)) = _
      rw [h4]; rfl
    · exact absurd hk (by have := hm.blk g; rw [h3] at this; exact this)
  have hE : ∀ g, E.kn g → (E.join3 E' src).kn g ∧ (E.join3 E' src).β g = E.β g ∧ (E.join3 E' src).sz g = E.sz g ∧ (E.join3 E' src).cap g = E.cap g ∧ (E.join3 E' src).vr g = E.vr g := fun g hk => by
    cases hs : src g with
    | none => obtain ⟨q1, q2, q3, q4, q5⟩ := join3_none (E := E) (E' := E') hs; exact ⟨q5.2 hk, q1, q2, q3, q4⟩
    | some i =>
      obtain ⟨q1, q2, q3, q4, q5⟩ := join3_some (E := E) (E' := E') hs
      obtain ⟨r1, r2⟩ := hpin g i hk hs
      unfold Env.at_ at r2
      simp only [Prod.mk.injEq] at r2
      exact ⟨q5.2 r1, q1.trans r2.1, q2.trans r2.2.1, q3.trans r2.2.2.1, q4.trans r2.2.2.2⟩
  have hsz := h2.below.size
  -- who is hot
  have key : ∀ g, Hot (E.join3 E' src) g (B3 g) → (src g = none ∧ B3 g = B g ∧ Hot E g (B g) ∧ (E.join3 E' src).β g = E.β g ∧ ∀ g', N g' → ρ g' = g → B2 g' = .dead) ∨ (∃ i, src g = some i ∧ Hot E' i (B' i) ∧ (E.join3 E' src).β g = E'.β i) := fun g hh => by
    cases hs : src g with
    | none =>
      obtain ⟨q1, q2, q3, q4, q5⟩ := join3_none (E := E) (E' := E') hs
      rcases hb.old g hs with ⟨h3, h4⟩ | ⟨h3, _⟩
      · rw [h3] at hh
        exact .inl ⟨rfl, h3, (Hot_same q4).1 hh, q1, h4⟩
      · rw [h3] at hh; cases hh
    | some i =>
      obtain ⟨q1, q2, q3, q4, q5⟩ := join3_some (E := E) (E' := E') hs
      have h3 := hb.new g i hs
      refine .inr ⟨i, rfl, ?_, q1⟩
      revert h3 hh
      generalize B3 g = b3
      generalize B' i = b'
      intro hh h3
      cases h3 with
      | row => exact (Hot_same q4).1 hh
      | var => exact trivial
      | mp => exact trivial
      | dead => cases hh
  have hold : ∀ g, Hot E g (B g) → (∀ g', N g' → ρ g' = g → B2 g' = .dead) → ¬ Fof (E.re ρ N) B2 (E.β g) := fun g hot hd hf => by
    obtain ⟨g', n1, q1, q2, q3⟩ := h.hot hf
    exact q2 (hd g' n1 (hm.inj _ _ q1 hot q3))
  have hF : ∀ b, b < w.heap.size → Fof (E.join3 E' src) B3 b → Fof E B b := fun b hlt ⟨g, hh, he⟩ => by
    rcases key g hh with ⟨_, _, h3, h4, _⟩ | ⟨i, _, h3, h4⟩
    · exact ⟨g, h3, h4.symm.trans he⟩
    · have := ((h2.blk i).lt h3).2.1
      rw [← h4, he] at this
      rcases this with h5 | h5
      · exact absurd hlt (Nat.not_lt.2 h5)
      · obtain ⟨g', _, q1, _, q2⟩ := h.hot h5
        exact ⟨_, q1, q2⟩
  have hbb : ∀ b, b < w.heap.size → ¬ Fof E B b → w'.heap[b]? = w.heap[b]? := fun b hlt hf => h2.below.keep b hlt fun hh => by
    obtain ⟨g', _, q1, _, q2⟩ := h.hot hh
    exact hf ⟨_, q1, q2⟩
  have tr : Trans (Cx.call w (Fof (E.re ρ N) B2) pn (E.re ρ N)) (Ucall (Fof E B) U c.heap.size (Fof (E.re ρ N) B2)) B' E' w' (E.join3 E' src) (Fof (E.join3 E' src) B3) U c.heap.size (fun i g => src g = some i) (fun o => o = false) (fun _ => False) (fun _ => False) := by
    refine ⟨h2, fun i g hs hk => ?_, rfl, fun o b ho ⟨h3, h4, h5⟩ => ?_, fun g hg => hg.elim, fun g hg => hg.elim⟩
    · obtain ⟨q1, q2, q3, q4, q5⟩ := join3_some (E := E) (E' := E') hs
      exact ⟨q5.2 hk, q1, q2, q3, q4⟩
    · refine ⟨h3, fun ⟨g, hh, he⟩ => ?_, fun _ => ?_⟩
      · rcases key g hh with ⟨_, _, q1, q2, q3⟩ | ⟨i, _, q1, q2⟩
        · have hlt := ((hm.blk g).lt q1).1
          have heb : E.β g = b := q2.symm.trans he
          rcases h5 ho with h6 | h6
          · rcases h6.1 with h7 | h7
            · exact h7 ⟨g, q1, heb⟩
            · rw [← heb] at h7; exact hold g q1 q3 h7
          · have : w.heap.size ≤ b := h6
            omega
        · exact h4 ⟨i, q1, q2.symm.trans he⟩
      · rcases h5 ho with h6 | h6
        · exact h6.2
        · exact .inr (Nat.le_trans hm.below.size h6)
  have hk : Kept c w' := ⟨hm.below.below.trans h2.below.below, fun b hlt hn => (h2.below.keep b (Nat.lt_of_lt_of_le hlt hm.below.size) fun hh => by
      obtain ⟨g', _, q1, _, q2⟩ := h.hot hh
      have := ((hm.blk _).lt q1).2.1
      rw [q2] at this
      rcases this with h3 | h3
      · omega
      · exact hn h3).trans (hm.below.keep b hlt hn), hm.below.pl, hm.below.tab, hm.below.tabh⟩
  refine ⟨⟨hk, ⟨hm.pins.1, fun g b hp => ⟨(hE g (hm.pins.2 g b hp).1).1, (Env.at_eq (hE g (hm.pins.2 g b hp).1).2).trans (hm.pins.2 g b hp).2⟩⟩, fun g => ?_, fun g g' h3 h4 h5 => ?_⟩, tr, fun x v hv => hv.keep hsz hbb hF hE⟩
  · cases hs : src g with
    | none =>
      obtain ⟨q1, q2, q3, q4, q5⟩ := join3_none (E := E) (E' := E') hs
      rcases hb.old g hs with ⟨h3, h4⟩ | ⟨h3, h4⟩
      · rw [h3]
        exact (hm.blk g).keep hsz hbb hF hE (fun hot => h2.below.keep _ ((hm.blk g).lt hot).1 (hold g hot h4)) fun he => by
          have := hm.blk g
          rw [he] at this
          exact fun hkk => this (q5.1 hkk)
      · rw [h3]
        refine q5.2 ?_
        have := hm.blk g
        revert this h4
        generalize B g = b
        intro h4 hbl
        cases b with
        | row => exact hbl.1
        | var => exact hbl.1
        | mp => exact hbl.1
        | dead => exact hbl
        | free => exact absurd rfl h4
    | some i =>
      obtain ⟨q1, q2, q3, q4, q5⟩ := join3_some (E := E) (E' := E') hs
      have h3 := hb.new g i hs
      have hbl := h2.blk i
      have hmine : Hot E' i (B' i) → c.Mine ((E.join3 E' src).β g) := fun hot => by
        rw [q1]
        rcases ((h2.blk i).lt hot).2.1 with h4 | h4
        · exact .inl (Nat.le_trans hm.below.size h4)
        · obtain ⟨g', _, r1, _, r2⟩ := h.hot h4
          rw [← r2]
          exact ((hm.blk _).lt r1).2.1
      revert h3 hbl hmine
      generalize B3 g = b3
      generalize B' i = b'
      intro h3 hbl hmine
      cases h3 with
      | row sz es hw =>
        obtain ⟨r1, r2, r4, r5, r6, r7', r7⟩ := hbl
        refine ⟨q5.2 r1, q2.trans r2, r4, by rw [q3]; exact r5, by rw [q3]; exact r6.wk hw, by rw [q3, q4]; exact r7', fun hv => ?_⟩
        rw [q4] at hv
        obtain ⟨s1, cur, s2, s3, s4⟩ := r7 hv
        refine ⟨hmine hv, cur, by rw [q1, ← hw.1]; exact s2, by rw [q3]; exact s3, fun i x hx => ⟨(s4 i x hx).1, fun j d hd => ?_⟩⟩
        obtain ⟨u, t1, t2⟩ := (s4 i x hx).2 j d hd
        exact ⟨u, t1, tr.vd t2⟩
      | var hl hlv hcv =>
        obtain ⟨r1, r3, cur, r7, r8, r9⟩ := hbl
        refine ⟨q5.2 r1, hmine trivial, cur, by rw [q1]; exact r7, r8.trans hl, fun j y hy => ?_⟩
        have hlt := (List.getElem?_eq_some_iff.1 hy).1
        obtain ⟨_, u, hu, hva⟩ := r9 j _ (List.getElem?_eq_getElem (by omega))
        exact ⟨leaves_at hlv hy, u, hu, tr.va (hcv j _ y (List.getElem?_eq_getElem (by omega)) hy) hva⟩
      | mp hl hcv =>
        obtain ⟨r1, r3, es, n, r7, r8, r9⟩ := hbl
        refine ⟨q5.2 r1, hmine trivial, es, n, by rw [q1]; exact r7, r8.trans hl, fun j y e hy he => ?_⟩
        have hlt := (List.getElem?_eq_some_iff.1 hy).1
        obtain ⟨t1, t2⟩ := hcv j _ y (List.getElem?_eq_getElem (by omega)) hy
        obtain ⟨t3, t4⟩ := r9 j _ e (List.getElem?_eq_getElem (by omega)) he
        exact ⟨t3.trans (by rw [t1]), tr.va t2 t4⟩
      | dead hne =>
        refine q5.2 ?_
        cases b' with
        | row => exact hbl.1
        | var => exact hbl.1
        | mp => exact hbl.1
        | dead => exact hbl
        | free => exact absurd rfl hne
  · rcases key g h3 with ⟨s1, b1, q1, q2, d1⟩ | ⟨i, s1, q1, q2⟩
    · rcases key g' h4 with ⟨s2, b2, r1, r2, d2⟩ | ⟨i', s2, r1, r2⟩
      · rw [q2, r2] at h5
        exact hm.inj g g' q1 r1 h5
      · rw [q2, r2] at h5
        have hlt := ((hm.blk g).lt q1).1
        rcases ((h2.blk i').lt r1).2.1 with h6 | h6
        · have : w.heap.size ≤ E'.β i' := h6
          omega
        · rw [← h5] at h6
          exact absurd h6 (hold g q1 d1)
    · rcases key g' h4 with ⟨s2, b2, r1, r2, d2⟩ | ⟨i', s2, r1, r2⟩
      · rw [q2, r2] at h5
        have hlt := ((hm.blk g').lt r1).1
        rcases ((h2.blk i).lt q1).2.1 with h6 | h6
        · have : w.heap.size ≤ E'.β i := h6
          omega
        · rw [h5] at h6
          exact absurd h6 (hold g' r1 d2)
      · rw [q2, r2] at h5
        have := h2.inj i i' q1 r1 h5
        subst this
        exact hb.inj g g' i s1 s2 (Hot_dead h3) (Hot_dead h4)
end
end Go.Proofs.Ytmkfpfnjimmmaaa
