/- A word used at worlds; a round of a loop over a function, or what follows it, walked in a state of its own with one array variable. Nothing of the dump stands here. -/
import Derived.Test.YtjkbkhjalimebaaDoorVZB
import Derived.RangeFuncNested
namespace Go.Proofs.YtjkbkhjalimebaaDoor
open Go.RowKit
set_option linter.unusedVariables false
set_option linter.unusedSimpArgs false

theorem SC.use {P : Program} {f : FuncId} {S : Spec} (h : SC P f S) (hnv : S.sig.nv = 0) (hfv : S.fin.nv = 0) (x : S.sig.V) (hx : S.pre x) (hbs : (S.inU x).bs = []) {w : World} (ht : TabIn w) (hb2 : (S.outU (S.fn x)).bs = []) {U : Nat → Prop} {vs : List Value} (hl : vs.length = (S.inU x).cs.length)
    (hv : ∀ (i : Nat) (y : TV) (v : Value), (S.inU x).cs[i]? = some y → vs[i]? = some v → VA E0 w NoF U w.heap.size (denV (fun _ => .free) y) v) :
    Calls P f vs.toArray w fun e w' => ∃ v, e = .returned v ∧ Below w.heap.size w w' ∧ ∃ E', VA E' w' NoF U w.heap.size (denV (fun _ => .free) ((S.outU (S.fn x)).cs.headD .und)) v := by
  have h1 := h (by rw [hnv, hfv]) x hx w U E0 vs
  have hB : bsOf (S.inU x).bs = fun _ => TB.free := by rw [hbs]; rfl
  have hB2 : bsOf (S.outU (S.fn x)).bs = fun _ => TB.free := by rw [hb2]; rfl
  have hF : Fof E0 (fun g => denB (bsOf (S.inU x).bs) (bsOf (S.inU x).bs g)) = NoF := by
    rw [hB]
    funext b
    exact propext ⟨fun ⟨g, q1, _⟩ => q1, False.elim⟩
  refine (h1 ?_ ?_ ?_ ?_).mono ?_
  · refine ⟨Cx.call_kept _ _ _ _ (fun g hg => by rw [hnv] at hg; exact absurd hg (Nat.not_lt_zero _)) ht (fun g x _ hf => by rw [hF] at hf; exact hf), ⟨fun b hb => by
      have hb' : Fof E0 (fun g => denB (bsOf (S.inU x).bs) (bsOf (S.inU x).bs g)) b := hb
      rw [hF] at hb'; exact hb'.elim, fun g b hp => hp.2.1.elim⟩, fun g => ?_, fun g g' hg => ?_⟩
    · rw [hB]; exact id
    · rw [hB] at hg; exact hg.elim
  · intro g hg
    rw [hnv] at hg
    exact absurd hg (Nat.not_lt_zero _)
  · rw [List.length_map, hl]
  · intro i y v hy hv'
    rw [List.getElem?_map] at hy
    obtain ⟨z, hz, rfl⟩ := Option.map_eq_some_iff.1 hy
    rw [hF, hB]
    exact hv i z v hz hv'
  · rintro e w' ⟨r, B', v, E', ⟨rfl, rfl⟩, rfl, hm, hva⟩
    have hk := hm.below
    refine ⟨v, rfl, ⟨hk.below.os, hk.below.tape, hk.below.output, hk.below.size, fun b hb => hk.keep b hb fun hh => ?_⟩, E', ?_⟩
    · have hh' : Fof E0 (fun g => denB (bsOf (S.inU x).bs) (bsOf (S.inU x).bs g)) b := hh
      rw [hF] at hh'
      exact hh'
    · have hF2 : Fof E' (fun g => denB (bsOf (S.outU (S.fn x)).bs) (bsOf (S.outU (S.fn x)).bs g)) = NoF := by
        rw [hB2]
        funext b
        exact propext ⟨fun ⟨g, q1, _⟩ => q1, False.elim⟩
      rw [hF2, hB2] at hva
      exact hva

theorem dS (k : IntKind) (l : List Int) : denS (T := .int k) l = l.map fun x => [D.int k x] := rfl
theorem dArr (k : IntKind) (B : Nat → TB) : ∀ (l : List Int), denV B (.arr (.int k) l) = .agg (l.map fun x => AV.d (.int k x)) := fun l => by
  simp only [denV]
  rw [dS]
  congr 1
  induction l with
  | nil => rfl
  | cons x l ih => exact congrArg (AV.d (.int k x) :: ·) ih

/-- Where a slice's numbers lie. -/
theorem view_cells {k : IntKind} {w : World} {F U : Nat → Prop} {base : Nat} {l : List Int} {v : Value} (h : VD w F U base (.view 1 (denS (T := .int k) l)) v) (hne : l ≠ []) :
    ∃ b off cap, v = .slice (some ⟨b, off, none⟩) l.length cap ∧ l.length ≤ cap ∧ cap ≤ maxLen ∧ (U b ∨ base ≤ b) ∧ ¬ F b ∧ b < w.heap.size ∧ ∀ i x, l[i]? = some x → w.cell? ⟨b, off + i, none⟩ = some (.int k x) := by
  cases h with
  | view u hl hc hm hz hsz hat hV =>
    cases l with
    | nil => exact absurd rfl hne
    | cons y l =>
      obtain ⟨b, off, rfl, ⟨h1, h2, h3⟩, _⟩ := hat 0 (flatD (.int k) y) rfl
      rw [dS, List.length_map] at hl
      subst hl
      refine ⟨b, off, _, rfl, hc, hm, h3 rfl, h2, h1, fun i x hx => ?_⟩
      have hx' : (denS (T := .int k) (y :: l))[i]? = some (flatD (.int k) x) := by
        have h6 : ((y :: l).map fun x => [D.int k x])[i]? = some [D.int k x] := by rw [List.getElem?_map, hx]; rfl
        exact h6
      obtain ⟨b', off', he, _, h5⟩ := hat i _ hx'
      cases he
      have h6 := h5 0 (by decide)
      have h7 := hV i _ 0 (.int k x) hx' rfl
      rw [Nat.mul_one, Nat.add_zero] at h6
      rw [h6]
      generalize u i 0 = q at h7
      cases h7
      rfl
theorem lent_cells {k : IntKind} {E : Env} {w : World} {F U : Nat → Prop} {base : Nat} {l : List Int} {b off cap : Nat} (hc : l.length ≤ cap) (hm : cap ≤ maxLen) (hF : ¬ F b) (hb : b < w.heap.size) (h : ∀ i x, l[i]? = some x → w.cell? ⟨b, off + i, none⟩ = some (.int k x)) :
    VA E w F U base (.lent 1 (denS (T := .int k) l)) (.slice (some ⟨b, off, none⟩) l.length cap) := by
  refine .lent (fun i _ => .int k (l.getD i 0)) (by rw [dS, List.length_map]) hc hm (fun h => by cases h) (fun i x hx => ?_) (fun i x hx => ?_) (fun i x j d hx hd => ?_)
  · obtain ⟨y, _, rfl⟩ := List.mem_map.1 (List.mem_of_getElem? hx); rfl
  · rw [dS, List.getElem?_map] at hx
    obtain ⟨y, hy, rfl⟩ := Option.map_eq_some_iff.1 hx
    refine ⟨b, off, rfl, ⟨hb, hF, fun h => by cases h⟩, fun j hj => ?_⟩
    obtain rfl : j = 0 := by omega
    rw [Nat.mul_one, Nat.add_zero, h i y hy, List.getD_eq_getElem?_getD, hy]
    rfl
  · rw [dS, List.getElem?_map] at hx
    obtain ⟨y, hy, rfl⟩ := Option.map_eq_some_iff.1 hx
    cases j with
    | zero =>
      obtain rfl : D.int k y = d := by simpa [flatD] using hd
      rw [List.getD_eq_getElem?_getD, hy]
      exact .int _ _
    | succ j => simp [flatD] at hd

/-- What may be read stays so where less is written, and more is one's own. -/
theorem VD.more {w : World} {F F' U U' : Nat → Prop} {base base' : Nat} (hF : ∀ b, b < w.heap.size → ¬ F b → ¬ F' b) (hU : ∀ b, b < w.heap.size → U b ∨ base ≤ b → U' b ∨ base' ≤ b) {x : D} {v : Value} (h : VD w F U base x v) : VD w F' U' base' x v := by
  induction h with
  | int => exact .int _ _
  | bool => exact .bool _
  | view u hl hc hm hz hsz hat hV ih =>
    refine .view u hl hc hm hz hsz (fun i x hx => ?_) ih
    obtain ⟨b, off, ha, ⟨h1, h2, h3⟩, h5⟩ := hat i x hx
    exact ⟨b, off, ha, ⟨h1, hF b h1 h2, fun h => hU b h1 (h3 h)⟩, h5⟩

/-- The array as a value. -/
theorem arr_val {k : IntKind} {E : Env} {w : World} {F U : Nat → Prop} {base : Nat} {B : Nat → TB} {l : List Int} {v : Value} (h : VA E w F U base (denV B (.arr (.int k) l)) v) : v = .agg (l.map (Value.int k)).toArray := by
  have e := dArr k B l
  rw [e] at h
  cases h with
  | @agg _ us hl h =>
    congr 2
    rw [List.length_map] at hl
    apply List.ext_getElem?
    intro i
    rw [List.getElem?_map]
    cases hx : l[i]? with
    | none =>
      rw [List.getElem?_eq_none_iff] at hx
      simp; omega
    | some x =>
      have hlt := (List.getElem?_eq_some_iff.1 hx).1
      have hu : us[i]? = some (us[i]'(by omega)) := List.getElem?_eq_getElem (by omega)
      have h1 := h i _ _ (by rw [List.getElem?_map, hx]; rfl) hu
      rw [hu]
      generalize (us[i]'(by omega)) = q at h1
      cases h1 with
      | d h2 => cases h2; rfl
theorem val_arr {k : IntKind} {E : Env} {w : World} {F U : Nat → Prop} {base : Nat} {B : Nat → TB} (l : List Int) : VA E w F U base (denV B (.arr (.int k) l)) (.agg (l.map (Value.int k)).toArray) := by
  have e := dArr k B l
  rw [e]
  refine .agg (by simp) fun i x u hx hu => ?_
  rw [List.getElem?_map] at hx hu
  obtain ⟨y, hy, rfl⟩ := Option.map_eq_some_iff.1 hx
  rw [hy] at hu
  cases hu
  exact .d (.int _ _)

def BB (k : IntKind) (e : TypeId) (hs : List Int) : Nat → TB := fun g => bif Nat.beq g 0 then .row (.int k) e hs else .free
def EB (b n : Nat) : Env := ⟨fun _ => b, fun _ => 1, fun _ => n, fun _ => false, fun g => g = 0⟩
def CB (W : World) (b n : Nat) (ds : List Nat) : Cx := ⟨W, fun k => k = b, fun g x => g = 0 ∧ x = (b, 1, n, false), ds⟩
theorem BB_F {k : IntKind} {e : TypeId} {hs : List Int} {b n : Nat} : Fof (EB b n) (fun g => denB (BB k e hs) (BB k e hs g)) = fun q => q = b := by
  funext q
  apply propext
  constructor
  · rintro ⟨g, _, rfl⟩
    rfl
  · rintro rfl
    exact ⟨0, rfl, rfl⟩
theorem TRel.box {k : IntKind} {W : World} (hT : TabIn W) {b nt : Nat} {e : TypeId} {hs : List Int} (he : Nat.blt e 1000 = true) (hb : W.heap[b]? = some (.cells (hs.map (Value.int k)).toArray e (0, 0))) (htb : ∀ g x, tabAt g = some x → g ≠ b) (hm : hs.length ≤ maxLen) {ds : List Nat} (hds : ∀ D ∈ ds, W.heap[D]? = some (.deferred (some [])))
    {a : Act} (hsz : a.tmps.size = nt) (hd : a.defers = ds.map (fun D => { target := .collected D, args := #[] })) {f : Nat → TV}
    (ht : ∀ t, VA (EB b hs.length) W (fun q => q = b) (fun q => q = b) W.heap.size (denV (BB k e hs) (f t)) (a.tmps.getD t undef)) :
    TRel (CB W b hs.length ds) (fun q => q = b) nt ⟨f, BB k e hs⟩ (EB b hs.length) a W := by
  refine ⟨⟨⟨Below.refl _ _, fun _ _ _ => rfl, fun g x hp => by rw [hp.1]; decide, hT, fun g x hg h => htb g x hg h⟩, ⟨fun q h => h, fun g x hp => ⟨hp.1, hp.2.symm⟩⟩, fun g => ?_, fun g g' h1 h2 _ => ?_⟩, hsz, ⟨hd, hds⟩, fun t => ?_⟩
  · show BlkOk _ _ _ _ _ g (denB (BB k e hs) (BB k e hs g))
    cases g with
    | zero =>
      show BlkOk _ _ _ _ _ 0 (.row 1 e (denS (T := .int k) hs))
      refine ⟨rfl, rfl, Nat.one_pos, hm, .of he (by rw [dS, List.length_map]; exact Nat.le_refl _), (fun h => by cases h), fun _ => ⟨.inr rfl, _, by rw [rty_of he]; exact hb, by rw [List.size_toArray, List.length_map, Nat.mul_one]; rfl, fun i x hx => ?_⟩⟩
      rw [dS, List.getElem?_map] at hx
      obtain ⟨y, hy, rfl⟩ := Option.map_eq_some_iff.1 hx
      refine ⟨rfl, fun j d hd => ?_⟩
      cases j with
      | zero =>
        obtain rfl : D.int k y = d := by simpa [flatD] using hd
        exact ⟨.int k y, by rw [Nat.mul_one, Nat.add_zero, List.getElem?_toArray, List.getElem?_map, hy]; rfl, .int _ _⟩
      | succ j => simp [flatD] at hd
    | succ g => exact fun h => by cases h
  · cases g with
    | zero =>
      cases g' with
      | zero => rfl
      | succ g' => exact h2.elim
    | succ g => exact h1.elim
  · show VA _ _ (Fof (EB b hs.length) (fun g => denB (BB k e hs) (BB k e hs g))) _ _ _ _
    rw [BB_F]
    exact ht t
/-- What the variable holds then. -/
theorem TRel.boxed {k : IntKind} {W W' : World} {b n nt : Nat} {ds : List Nat} {U : Nat → Prop} {σ : TS} {E : Env} {a : Act} (h : TRel (CB W b n ds) U nt σ E a W') {e : TypeId} {hs : List Int} (he : Nat.blt e 1000 = true) (hs0 : σ.blk 0 = .row (.int k) e hs) (hn : hs.length = n) :
    W'.heap[b]? = some (.cells (hs.map (Value.int k)).toArray e (0, 0)) := by
  have hp := (h.mem.pins.2 0 (b, 1, n, false) ⟨rfl, rfl⟩).2
  unfold Env.at_ at hp
  simp only [Prod.mk.injEq] at hp
  obtain ⟨p1, p2, p3, p4⟩ := hp
  have hbl := h.mem.blk 0
  rw [show σ.den.blk 0 = .row 1 e (denS (T := .int k) hs) by show denB _ (σ.blk 0) = _; rw [hs0]; rfl] at hbl
  obtain ⟨_, _, _, _, _, _, h7⟩ := hbl
  obtain ⟨_, cur, h8, h9, h10⟩ := h7 p4
  rw [p1, rty_of he] at h8
  rw [h8]
  congr 2
  rw [p3, Nat.mul_one, ← hn] at h9
  apply Array.ext'
  apply List.ext_getElem?
  intro i
  rw [List.toList_toArray, List.getElem?_map, Array.getElem?_toList]
  cases hx : hs[i]? with
  | none =>
    rw [List.getElem?_eq_none_iff] at hx
    simp; omega
  | some x =>
    obtain ⟨_, h11⟩ := h10 i (flatD (.int k) x) (by rw [dS, List.getElem?_map, hx]; rfl)
    obtain ⟨u, h12, h13⟩ := h11 0 (.int k x) rfl
    rw [Nat.mul_one, Nat.add_zero] at h12
    rw [h12]
    cases h13
    rfl
theorem TRel.rest {W W' : World} {b n nt : Nat} {ds : List Nat} {U : Nat → Prop} {σ : TS} {E : Env} {a : Act} (h : TRel (CB W b n ds) U nt σ E a W') : Below 0 W W' ∧ W.heap.size ≤ W'.heap.size ∧ ∀ k, k < W.heap.size → k ≠ b → W'.heap[k]? = W.heap[k]? :=
  ⟨h.mem.below.below, h.mem.below.size, fun k hk hn => h.mem.below.keep k hk hn⟩

/-- A word out of a contract that tells worlds: what comes back is a row of numbers of its own. -/
theorem SC.own {P : Program} {f : FuncId} {S : Spec} (k : IntKind) (e : TypeId) (he : Nat.blt e 1000 = true) (hnv : S.sig.nv = 0) (hbs : ∀ x, (S.inU x).bs = []) (g : S.sig.V → List Int) (ho1 : ∀ x, (S.outU (S.fn x)).cs = [.own 0]) (ho2 : ∀ x, (S.outU (S.fn x)).bs = [(0, .row (.int k) e (g x))])
    (h : ∀ x, S.pre x → ∀ (w : World) (U : Nat → Prop) (E : Env) (vs : List Value), TabIn w → vs.length = (S.inU x).cs.length → (∀ (i : Nat) (y : TV) (v : Value), (S.inU x).cs[i]? = some y → vs[i]? = some v → VA E w NoF U w.heap.size (denV (fun _ => .free) y) v) →
      Calls P f vs.toArray w fun en w' => ∃ a n cap, en = .returned (.slice a n cap) ∧ Below w.heap.size w w' ∧ w'.ownsRow w.heap.size e 1 (.slice a n cap) n ((g x).map (Value.int k))) : SC P f S := fun _ x hx w U E vs hm hkn hl hv => by
  have hB : bsOf (S.inU x).bs = fun _ => TB.free := by rw [hbs]; rfl
  have hF : Fof E (fun g => denB (bsOf (S.inU x).bs) (bsOf (S.inU x).bs g)) = NoF := by
    rw [hB]
    funext b
    exact propext ⟨fun ⟨g, q1, _⟩ => q1, False.elim⟩
  rw [List.length_map] at hl
  refine (h x hx w U E vs hm.below.tabIn hl fun i y v hy hv' => ?_).mono ?_
  · have := hv i (denV (bsOf (S.inU x).bs) y) v (by rw [List.getElem?_map, hy]; rfl) hv'
    rw [hF, hB] at this
    exact this
  · rintro en w' ⟨a, n, cap, rfl, hbl, hown⟩
    have hB2 : bsOf (S.outU (S.fn x)).bs = fun q => if q = 0 then TB.row (.int k) e (g x) else .free := by
      rw [ho2]
      funext q
      show upd (fun _ => TB.free) 0 _ q = _
      by_cases hq : q = 0
      · subst hq; rw [upd_same, if_pos rfl]
      · rw [upd_other _ _ _ hq, if_neg hq]
    have hn : (g x).length = n := by have := hown.1; rw [List.length_map] at this; omega
    have key : ∀ (b c : Nat) (vr : Bool), c ≤ maxLen → n ≤ c → (vr = true → c = 0) → (vr = false → w.heap.size ≤ b ∧ ∃ cur : Array Value, w'.heap[b]? = some (.cells cur e (0, 0)) ∧ cur.size = c * 1 ∧ ∀ (i : Nat) (y : Int), (g x)[i]? = some y → cur[i]? = some (.int k y)) →
        VA ⟨fun _ => b, fun _ => 1, fun _ => c, fun _ => vr, fun q => q = 0⟩ w' (Fof ⟨fun _ => b, fun _ => 1, fun _ => c, fun _ => vr, fun q => q = 0⟩ (fun q => denB (bsOf (S.outU (S.fn x)).bs) (bsOf (S.outU (S.fn x)).bs q))) U w.heap.size (.own 0 0 n) (.slice a n cap) →
        ∃ r B' v E', (r = denV (bsOf (S.outU (S.fn x)).bs) ((S.outU (S.fn x)).cs.headD .und) ∧ B' = fun g => denB (bsOf (S.outU (S.fn x)).bs) (bsOf (S.outU (S.fn x)).bs g)) ∧ Ending.returned (.slice a n cap) = .returned v ∧ Mem (Cx.call w (Fof E fun g => denB (bsOf (S.inU x).bs) (bsOf (S.inU x).bs g)) (· < S.sig.nv) E) U B' E' w' ∧ VA E' w' (Fof E' B') U w.heap.size r v := fun b c vr hc1 hc2 hc3 hc4 hva => by
      refine ⟨_, _, _, ⟨fun _ => b, fun _ => 1, fun _ => c, fun _ => vr, fun q => q = 0⟩, ⟨rfl, rfl⟩, rfl, ⟨⟨⟨hbl.os, hbl.tape, hbl.output, hbl.size, fun k hk => absurd hk (Nat.not_lt_zero _)⟩, fun b hb _ => hbl.block b hb, hm.below.pl, hm.below.tab, hm.below.tabh⟩, ⟨hm.pins.1, fun q z hp => ?_⟩, fun q => ?_, fun q q' h1 h2 _ => ?_⟩, ?_⟩
      · have hp' : q < S.sig.nv := hp.1
        rw [hnv] at hp'
        exact absurd hp' (Nat.not_lt_zero _)
      · rw [hB2]
        show BlkOk _ _ _ _ _ q (denB _ (if q = 0 then _ else _))
        by_cases hq : q = 0
        · subst hq
          rw [if_pos rfl]
          refine ⟨rfl, rfl, Nat.one_pos, hc1, .of he (by rw [dS, List.length_map, hn]; exact hc2), hc3, fun hvr => ?_⟩
          obtain ⟨r1, cur, r2, r3, r4⟩ := hc4 hvr
          refine ⟨.inl r1, cur, by rw [rty_of he]; exact r2, r3, fun i z hz => ?_⟩
          rw [dS, List.getElem?_map] at hz
          obtain ⟨y, hy, rfl⟩ := Option.map_eq_some_iff.1 hz
          refine ⟨rfl, fun j d hd => ?_⟩
          cases j with
          | zero =>
            obtain rfl : D.int k y = d := by simpa using hd
            exact ⟨_, by show cur[i * 1 + 0]? = _; rw [Nat.mul_one, Nat.add_zero]; exact r4 i y hy, .int _ _⟩
          | succ j => simp at hd
        · rw [if_neg hq]
          exact hq
      · rw [hB2] at h1 h2
        have z : ∀ q, Hot ⟨fun _ => b, fun _ => 1, fun _ => c, fun _ => vr, fun q => q = 0⟩ q (denB (fun q => if q = 0 then TB.row (.int k) e (g x) else .free) (if q = 0 then TB.row (.int k) e (g x) else .free)) → q = 0 := fun q hq => by
          by_cases e0 : q = 0
          · exact e0
          · rw [if_neg e0] at hq; exact hq.elim
        rw [z q h1, z q' h2]
      · rw [ho1]
        show VA _ _ _ _ _ (denO 0 (bsOf _ 0)) _
        rw [show bsOf (S.outU (S.fn x)).bs 0 = .row (.int k) e (g x) by rw [hB2]; rfl]
        show VA _ _ _ _ _ (.own 0 0 (g x).length) _
        rw [hn]
        exact hva
    rcases hown.2 with ⟨h1, rfl⟩ | ⟨b, cap', cur, h1, h2, h3, h4, h5, h6, h7⟩
    · cases h1
      exact key 0 0 true (Nat.zero_le _) (Nat.le_refl _) (fun _ => rfl) (fun h => by cases h) (.onil rfl rfl)
    · cases h1
      refine key b cap false h5 h4 (fun h => by cases h) (fun _ => ⟨h2, cur, h3, h6, fun i y hy => ?_⟩) (.own rfl rfl h4 h5 fun _ => ⟨by simp, by simp⟩)
      have h8 : (cur.toList.take (n * 1))[i]? = some (.int k y) := by rw [h7, List.getElem?_map, hy]; rfl
      rw [List.getElem?_take] at h8
      split at h8
      · simpa using h8
      · cases h8


/-- A row of the call's own, as a value. -/
theorem TRel.ownOut {k : IntKind} {c : Cx} {U : Nat → Prop} {nt : Nat} {σ : TS} {E : Env} {a : Act} {w : World} (h : TRel c U nt σ E a w) {t g base : Nat} {e : TypeId} {l : List Int} (ht : σ.tmp t = .own g) (hg : σ.blk g = .row (.int k) e l) (hM : ∀ q, c.Mine q → base ≤ q) :
    ∃ ad n cap, a.tmps.getD t undef = .slice ad n cap ∧ w.ownsRow base (rty e) 1 (.slice ad n cap) n (l.map (Value.int k)) := by
  have hv := h.tmp t
  rw [show σ.den.tmp t = .own g 0 l.length by show denV _ (σ.tmp t) = _; rw [ht]; simp only [denV, hg, denO]; rfl] at hv
  have hbl := h.mem.blk g
  rw [show σ.den.blk g = .row 1 e (denS (T := .int k) l) by show denB _ (σ.blk g) = _; rw [hg]; rfl] at hbl
  obtain ⟨h1, h2, h3, h4, h5, h6, h7⟩ := hbl
  have h51 := h5.1
  rw [dS, List.length_map] at h51
  generalize a.tmps.getD t undef = v at hv
  generalize hn : l.length = n at hv
  cases hv with
  | onil hk hvr =>
    have h0 := h6 hvr
    obtain rfl : l = [] := List.eq_nil_of_length_eq_zero hn
    exact ⟨_, _, _, rfl, World.ownsRow_nil _ _ _ _⟩
  | @own _ _ _ ad cap hk hvr hn' hm had =>
    obtain ⟨e1, e2⟩ := had (.inl rfl)
    obtain ⟨q1, cur, q2, q3, q4⟩ := h7 hvr
    rw [h2, Nat.zero_mul] at e1
    refine ⟨_, _, _, rfl, by rw [List.length_map, hn]; omega, .inr ⟨E.β g, cap, cur, by rw [e1], hM _ q1, q2, hn', hm, by rw [q3]; omega, ?_⟩⟩
    apply List.ext_getElem?
    intro i
    rw [List.getElem?_map, List.getElem?_take]
    cases hx : l[i]? with
    | none =>
      rw [List.getElem?_eq_none_iff] at hx
      rw [if_neg (by omega)]; rfl
    | some x =>
      have hlt := (List.getElem?_eq_some_iff.1 hx).1
      rw [if_pos (by omega)]
      obtain ⟨_, q5⟩ := q4 i [D.int k x] (by rw [dS, List.getElem?_map, hx]; rfl)
      obtain ⟨u, q6, q7⟩ := q5 0 (.int k x) rfl
      cases q7
      have q8 : cur[i * 1 + 0]? = some (.int k x) := q6
      rw [Nat.mul_one, Nat.add_zero] at q8
      simpa using q8
theorem SC.useOwn {P : Program} {f : FuncId} {S : Spec} (h : SC P f S) (k : IntKind) (e : TypeId) (l : List Int) (hnv : S.sig.nv = 0) (hfv : S.fin.nv = 0) (x : S.sig.V) (hx : S.pre x) (hbs : (S.inU x).bs = []) {w : World} (ht : TabIn w) (ho1 : (S.outU (S.fn x)).cs = [.own 0]) (ho2 : (S.outU (S.fn x)).bs = [(0, .row (.int k) e l)]) {U : Nat → Prop} {vs : List Value} (hl : vs.length = (S.inU x).cs.length)
    (hv : ∀ (i : Nat) (y : TV) (v : Value), (S.inU x).cs[i]? = some y → vs[i]? = some v → VA E0 w NoF U w.heap.size (denV (fun _ => .free) y) v) :
    Calls P f vs.toArray w fun en w' => ∃ ad n cap, en = .returned (.slice ad n cap) ∧ Below w.heap.size w w' ∧ w'.ownsRow w.heap.size (rty e) 1 (.slice ad n cap) n (l.map (Value.int k)) := by
  have h1 := h (by rw [hnv, hfv]) x hx w U E0 vs
  have hB : bsOf (S.inU x).bs = fun _ => TB.free := by rw [hbs]; rfl
  have hF : Fof E0 (fun g => denB (bsOf (S.inU x).bs) (bsOf (S.inU x).bs g)) = NoF := by
    rw [hB]
    funext b
    exact propext ⟨fun ⟨g, q1, _⟩ => q1, False.elim⟩
  refine (h1 ?_ ?_ ?_ ?_).mono ?_
  · refine ⟨Cx.call_kept _ _ _ _ (fun g hg => by rw [hnv] at hg; exact absurd hg (Nat.not_lt_zero _)) ht (fun g x _ hf => by rw [hF] at hf; exact hf), ⟨fun b hb => by
      have hb' : Fof E0 (fun g => denB (bsOf (S.inU x).bs) (bsOf (S.inU x).bs g)) b := hb
      rw [hF] at hb'; exact hb'.elim, fun g b hp => hp.2.1.elim⟩, fun g => ?_, fun g g' hg => ?_⟩
    · rw [hB]; exact id
    · rw [hB] at hg; exact hg.elim
  · intro g hg
    rw [hnv] at hg
    exact absurd hg (Nat.not_lt_zero _)
  · rw [List.length_map, hl]
  · intro i y v hy hv'
    rw [List.getElem?_map] at hy
    obtain ⟨z, hz, rfl⟩ := Option.map_eq_some_iff.1 hy
    rw [hF, hB]
    exact hv i z v hz hv'
  · rintro en w' ⟨r, B', v, E', ⟨rfl, rfl⟩, rfl, hm, hva⟩
    have hk := hm.below
    have hmine : ∀ q, (Cx.call w (Fof E0 fun g => denB (bsOf (S.inU x).bs) (bsOf (S.inU x).bs g)) (· < S.sig.nv) E0).Mine q → w.heap.size ≤ q := fun q hq => by
      rcases hq with hq | hq
      · exact hq
      · have hq' : Fof E0 (fun g => denB (bsOf (S.inU x).bs) (bsOf (S.inU x).bs g)) q := hq
        rw [hF] at hq'
        exact hq'.elim
    rw [ho1] at hva
    have hb0 : bsOf (S.outU (S.fn x)).bs 0 = .row (.int k) e l := by rw [ho2]; show upd (fun _ => TB.free) 0 _ 0 = _; exact upd_same _ _ _
    have hr : TRel (Cx.call w (Fof E0 fun g => denB (bsOf (S.inU x).bs) (bsOf (S.inU x).bs g)) (· < S.sig.nv) E0) U 1 ⟨fun t => bif Nat.beq t 0 then .own 0 else .und, bsOf (S.outU (S.fn x)).bs⟩ E' ⟨#[v], []⟩ w' := ⟨hm, rfl, ⟨rfl, fun D hD => by cases hD⟩, fun t => by
      cases t with
      | zero => exact hva
      | succ t => exact .und _⟩
    obtain ⟨ad, n, cap, q1, q2⟩ := hr.ownOut (t := 0) (g := 0) rfl hb0 hmine
    have q1' : v = .slice ad n cap := q1
    subst q1'
    refine ⟨ad, n, cap, rfl, ⟨hk.below.os, hk.below.tape, hk.below.output, hk.below.size, fun b hb => hk.keep b hb fun hh => ?_⟩, q2⟩
    have hh' : Fof E0 (fun g => denB (bsOf (S.inU x).bs) (bsOf (S.inU x).bs g)) b := hh
    rw [hF] at hh'
    exact hh'
/-- What is lent is one's own where all is. -/
theorem VA.mine {E E' : Env} {w : World} {U : Nat → Prop} {base base' sz : Nat} {es : List (List D)} {v : Value} (h : VA E w NoF U base (.lent sz es) v) : VA E' w NoF (fun _ => True) base' (.d (.view sz es)) v := by
  cases h with
  | lent u hl hc hm hz hsz hat hV =>
    refine .d (.view u hl hc hm hz hsz (fun i x hx => ?_) fun i x j d hx hd => (hV i x j d hx hd).more (fun _ _ h => h) fun _ _ _ => .inl trivial)
    obtain ⟨b, off, h1, ⟨h2, h3, _⟩, h5⟩ := hat i x hx
    exact ⟨b, off, h1, ⟨h2, h3, fun _ => .inl trivial⟩, h5⟩

/-- The first loop over a function in a piece of code. -/
def rangeOf : Code → Option (Operand × Array Tmp × Code × Code)
  | .seq a b => (rangeOf a).or (rangeOf b)
  | .cond _ a b => (rangeOf a).or (rangeOf b)
  | .block _ b => rangeOf b
  | .loop b => rangeOf b
  | .rangeFunc g ps x y => some (g, ps, x, y)
  | _ => none
def rangeBody (c : Code) : Code := match rangeOf c with | some (_, _, _, b) => b | none => .skip
/-- What follows it. -/
def rangeRest : Code → Option Code
  | .seq a b => match rangeRest a with
    | some .skip => some b
    | some r => some (.seq r b)
    | none => rangeRest b
  | .block _ b => rangeRest b
  | .rangeFunc .. => some .skip
  | _ => none
def rangeTail (c : Code) : Code := (rangeRest c).getD .skip
end Go.Proofs.YtjkbkhjalimebaaDoor
