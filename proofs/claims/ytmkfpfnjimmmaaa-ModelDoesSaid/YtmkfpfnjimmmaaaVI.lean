/- States told anew: names turn, rows are read from now on, what is not wanted is forgotten. Where a call begins and ends. Nothing of the dump stands here. -/
import Derived.Test.YtmkfpfnjimmmaaaVH
namespace Go.Proofs.Ytmkfpfnjimmmaaa
open Go.RowKit
set_option linter.unusedVariables false
set_option linter.unusedSimpArgs false

/-- How a value may be told anew: R old new; rows of fz are only read from now on, rows of ln are lent. -/
inductive Cv (B : Nat → Blk) (R : Nat → Nat → Prop) (al : Bool → Prop) (fz ln : Nat → Prop) : AV → AV → Prop where
  | d (x : D) : Cv B R al fz ln (.d x) (.d x)
  | lent (sz : Nat) (es : List (List D)) (h : al true) : Cv B R al fz ln (.lent sz es) (.lent sz es)
  | vl (sz : Nat) (es : List (List D)) : Cv B R al fz ln (.d (.view sz es)) (.lent sz es)
  | nsl : Cv B R al fz ln .nsl .nsl
  | nv (sz : Nat) : Cv B R al fz ln .nsl (.d (.view sz []))
  | nl (sz : Nat) : Cv B R al fz ln .nsl (.lent sz [])
  | nptr : Cv B R al fz ln .nptr .nptr
  | nmp : Cv B R al fz ln .nmp .nmp
  | vptr (o : Bool) (c : List D) (j : Nat) (h : al o) : Cv B R al fz ln (.vptr o c j) (.vptr o c j)
  | ptr {g g' : Nat} (i j : Nat) (h : R g g') : Cv B R al fz ln (.ptr g i j) (.ptr g' i j)
  | own {g g' : Nat} (i n : Nat) (h : R g g') : Cv B R al fz ln (.own g i n) (.own g' i n)
  | part {g g' : Nat} (i n : Nat) (h : R g g') : Cv B R al fz ln (.part g i n) (.part g' i n)
  | mp {g g' : Nat} (h : R g g') : Cv B R al fz ln (.mp g) (.mp g')
  | fz {g i n sz : Nat} {e : TypeId} {es : List (List D)} (hg : fz g) (hb : B g = .row sz e es) (hn : i + n ≤ es.length) : Cv B R al fz ln (.own g i n) (.d (.view sz ((es.drop i).take n)))
  | ln {g i n sz : Nat} {e : TypeId} {es : List (List D)} (hg : ln g) (hb : B g = .row sz e es) (hn : i + n ≤ es.length) : Cv B R al fz ln (.own g i n) (.lent sz ((es.drop i).take n))
  | und (x : AV) : Cv B R al fz ln x .und
  | agg {vs us : List AV} (hl : vs.length = us.length) (h : ∀ (i : Nat) (x y : AV), vs[i]? = some x → us[i]? = some y → Cv B R al fz ln x y) : Cv B R al fz ln (.agg vs) (.agg us)
  | tup {vs us : List AV} (hl : vs.length = us.length) (h : ∀ (i : Nat) (x y : AV), vs[i]? = some x → us[i]? = some y → Cv B R al fz ln x y) : Cv B R al fz ln (.tup vs) (.tup us)
  | fn {f : FuncId} {vs us : List AV} (hl : vs.length = us.length) (h : ∀ (i : Nat) (x y : AV), vs[i]? = some x → us[i]? = some y → Cv B R al fz ln x y) : Cv B R al fz ln (.fn f vs) (.fn f us)

/-- What holds of the two readings of one world. -/
structure Trans (c : Cx) (U : Nat → Prop) (B : Nat → Blk) (E : Env) (w : World) (E2 : Env) (F2 U2 : Nat → Prop) (base2 : Nat) (R : Nat → Nat → Prop) (al : Bool → Prop) (fz ln : Nat → Prop) : Prop where
  mem : Mem c U B E w
  env : ∀ g g', R g g' → E.kn g → E2.kn g' ∧ E2.β g' = E.β g ∧ E2.sz g' = E.sz g ∧ E2.cap g' = E.cap g ∧ E2.vr g' = E.vr g
  al0 : al false
  ok : ∀ o b, al o → Okb w (Fof E B) U c.heap.size o b → Okb w F2 U2 base2 o b
  frz : ∀ g, fz g → Hot E g (B g) → ¬ F2 (E.β g) ∧ (U2 (E.β g) ∨ base2 ≤ E.β g)
  lnd : ∀ g, ln g → Hot E g (B g) → ¬ F2 (E.β g)

section
variable {c : Cx} {U : Nat → Prop} {B : Nat → Blk} {E : Env} {w : World} {E2 : Env} {F2 U2 : Nat → Prop} {base2 : Nat} {R : Nat → Nat → Prop} {al : Bool → Prop} {fz ln : Nat → Prop}

theorem Trans.vd (h : Trans c U B E w E2 F2 U2 base2 R al fz ln) {x : D} {v : Value} (hv : VD w (Fof E B) U c.heap.size x v) : VD w F2 U2 base2 x v := by
  induction hv with
  | int => exact .int _ _
  | bool => exact .bool _
  | view u hl hc hm hz hsz hat hV ih =>
    refine .view u hl hc hm hz hsz (fun i x hx => ?_) ih
    obtain ⟨b, off, ha, h1, h5⟩ := hat i x hx
    exact ⟨b, off, ha, h.ok _ b h.al0 h1, h5⟩

/-- The cells of a row, as a slice that is only read. -/
theorem Trans.row (h : Trans c U B E w E2 F2 U2 base2 R al fz ln) {g i n sz : Nat} {e : TypeId} {es : List (List D)} {v : Value} (o : Bool) (hb : B g = .row sz e es) (hn : i + n ≤ es.length) (hv : VA E w (Fof E B) U c.heap.size (.own g i n) v)
    (hok : Hot E g (B g) → ¬ F2 (E.β g) ∧ (o = false → U2 (E.β g) ∨ base2 ≤ E.β g)) :
    ∃ (a : Option Addr) (cap : Nat) (u : Nat → Nat → Value), v = .slice a n cap ∧ ((es.drop i).take n).length = n ∧ n ≤ cap ∧ cap ≤ maxLen ∧ (a = none → cap = 0) ∧ (∀ (k : Nat) (x : List D), ((es.drop i).take n)[k]? = some x → x.length = sz) ∧
      (∀ (k : Nat) (x : List D), ((es.drop i).take n)[k]? = some x → ∃ b off, a = some ⟨b, off, none⟩ ∧ Okb w F2 U2 base2 o b ∧ ∀ j, j < sz → w.cell? ⟨b, off + (k * sz + j), none⟩ = some (u k j)) ∧
      ∀ (k : Nat) (x : List D) (j : Nat) (d : D), ((es.drop i).take n)[k]? = some x → x[j]? = some d → VD w F2 U2 base2 d (u k j) := by
  have hl : ((es.drop i).take n).length = n := by rw [List.length_take, List.length_drop]; omega
  have hbl := h.mem.blk g
  rw [hb] at hbl
  obtain ⟨hk, hsz, hpos, hcap, hle, hvz, hre⟩ := hbl
  have hle1 := hle.1
  cases hv with
  | onil hk' hvr =>
    have hnil : ∀ (k : Nat) (x : List D), ((es.drop 0).take 0)[k]? = some x → False := fun k x hx => by simp at hx
    exact ⟨none, 0, fun _ _ => undef, rfl, by simp, Nat.le_refl _, Nat.zero_le _, fun _ => rfl, fun k x hx => (hnil k x hx).elim, fun k x hx => (hnil k x hx).elim, fun k x j d hx => (hnil k x hx).elim⟩
  | @own _ _ _ ad cap _ hvr hnc hm ha =>
    have hot : Hot E g (B g) := by rw [hb]; exact hvr
    obtain ⟨hmine, cur, hg, hcs, hcc⟩ := hre hvr
    have hat : ∀ (k : Nat) (x : List D), ((es.drop i).take n)[k]? = some x → k < n ∧ es[i + k]? = some x := fun k x hx => by
      have hk : k < n := by rw [← hl]; exact (List.getElem?_eq_some_iff.1 hx).1
      rw [List.getElem?_take_of_lt hk, List.getElem?_drop] at hx
      exact ⟨hk, hx⟩
    refine ⟨some ad, cap, fun k j => cur.getD ((i + k) * sz + j) undef, rfl, hl, hnc, hm, (fun h => by cases h), fun k x hx => (hcc _ x (hat k x hx).2).1, fun k x hx => ?_, fun k x j d hx hd => ?_⟩
    · obtain ⟨h1, h2⟩ := hat k x hx
      rw [(ha (.inr (by omega))).1]
      refine ⟨E.β g, i * E.sz g, rfl, ⟨(Array.getElem?_eq_some_iff.1 hg).1, (hok hot).1, (hok hot).2⟩, fun j hj => ?_⟩
      rw [cell_of_row w _ _ cur _ (0, 0) hg, hsz, ← Nat.add_assoc, ← Nat.add_mul]
      have hlt : (i + k) * sz + j < cur.size := by
        rw [hcs]
        have := Nat.mul_le_mul_right sz (show i + k + 1 ≤ E.cap g by have := (List.getElem?_eq_some_iff.1 h2).1; omega)
        rw [Nat.add_mul (i + k)] at this
        omega
      show _ = some (cur.getD _ _)
      rw [Array.getD_eq_getD_getElem?, Array.getElem?_eq_getElem hlt]
      rfl
    · obtain ⟨h1, h2⟩ := hat k x hx
      obtain ⟨u, h3, h4⟩ := (hcc _ x h2).2 j d hd
      show VD w F2 U2 base2 d (cur.getD ((i + k) * sz + j) undef)
      rw [Array.getD_eq_getD_getElem?, h3]
      exact h.vd h4

theorem Trans.va (h : Trans c U B E w E2 F2 U2 base2 R al fz ln) {x y : AV} {v : Value} (hc : Cv B R al fz ln x y) (hv : VA E w (Fof E B) U c.heap.size x v) : VA E2 w F2 U2 base2 y v := by
  have lv : ∀ {sz : Nat} {es : List (List D)} {v : Value}, al true → VA E w (Fof E B) U c.heap.size (.lent sz es) v → VA E2 w F2 U2 base2 (.lent sz es) v := fun hal hv => by
    cases hv with
    | lent u h1 h2 h3 h4 h5 h6 h7 =>
      refine .lent u h1 h2 h3 h4 h5 (fun i x hx => ?_) (fun i x j d hx hd => h.vd (h7 i x j d hx hd))
      obtain ⟨b, off, q1, q2, q4⟩ := h6 i x hx
      exact ⟨b, off, q1, h.ok _ b hal q2, q4⟩
  induction hc generalizing v with
  | d x => cases hv with | d h1 => exact .d (h.vd h1)
  | lent sz es hal => exact lv hal hv
  | vl sz es =>
    cases hv with
    | d h1 =>
      cases h1 with
      | view u h1 h2 h3 h4 h5 h6 h7 =>
        refine .lent u h1 h2 h3 h4 h5 (fun i x hx => ?_) (fun i x j d hx hd => h.vd (h7 i x j d hx hd))
        obtain ⟨b, off, q1, q2, q4⟩ := h6 i x hx
        have q5 := h.ok _ b h.al0 q2
        exact ⟨b, off, q1, ⟨q5.1, q5.2.1, fun ho => by cases ho⟩, q4⟩
  | nsl => cases hv; exact .nsl
  | nv sz => cases hv; exact .d (.view (fun _ _ => .tuple #[]) rfl (Nat.le_refl _) (Nat.zero_le _) (fun _ => rfl) (fun i x hx => by simp at hx) (fun i x hx => by simp at hx) (fun i x j d hx => by simp at hx))
  | nl sz => cases hv; exact .lent (fun _ _ => .tuple #[]) rfl (Nat.le_refl _) (Nat.zero_le _) (fun _ => rfl) (fun i x hx => by simp at hx) (fun i x hx => by simp at hx) (fun i x j d hx => by simp at hx)
  | nptr => cases hv; exact .nptr
  | nmp => cases hv; exact .nmp
  | vptr o c j hal =>
    cases hv with
    | vptr u h1 h2 h3 => exact .vptr u (h.ok _ _ hal h1) h2 fun j d hd => h.vd (h3 j d hd)
  | ptr i j hr =>
    cases hv with
    | ptr hk =>
      obtain ⟨h1, h2, h3, _, _⟩ := h.env _ _ hr hk
      rw [← h2, ← h3]
      exact .ptr h1
  | own i n hr =>
    cases hv with
    | onil hk hv => exact .onil (h.env _ _ hr hk).1 ((h.env _ _ hr hk).2.2.2.2.trans hv)
    | own hk hvr hn hm ha =>
      obtain ⟨h1, h2, h3, h4, h5⟩ := h.env _ _ hr hk
      exact .own h1 (h5.trans hvr) hn hm (by rw [h2, h3, h4]; exact ha)
  | part i n hr =>
    cases hv with
    | part hk hvr hn hm ha =>
      obtain ⟨h1, h2, h3, h4, h5⟩ := h.env _ _ hr hk
      exact .part h1 (h5.trans hvr) hn hm (by rw [h2, h3, h4]; exact ha)
  | mp hr =>
    cases hv with
    | mp hk =>
      obtain ⟨h1, h2, _⟩ := h.env _ _ hr hk
      rw [← h2]
      exact .mp h1
  | fz hg hb hn =>
    obtain ⟨a, cap, u, rfl, h1, h2, h3, h4, h5, h6, h7⟩ := h.row false hb hn hv fun hot => ⟨(h.frz _ hg hot).1, fun _ => (h.frz _ hg hot).2⟩
    exact .d (.view u h1 h2 h3 h4 h5 h6 h7)
  | ln hg hb hn =>
    obtain ⟨a, cap, u, rfl, h1, h2, h3, h4, h5, h6, h7⟩ := h.row true hb hn hv fun hot => ⟨h.lnd _ hg hot, fun ho => by cases ho⟩
    exact .lent u h1 h2 h3 h4 h5 h6 h7
  | und x => exact .und _
  | agg hl _ ih =>
    cases hv with
    | agg hl' h' =>
      refine .agg (hl.symm.trans hl') fun i x u hx hu => ?_
      have hlt := (List.getElem?_eq_some_iff.1 hx).1
      exact ih i _ x (List.getElem?_eq_getElem (by omega)) hx (h' i _ u (List.getElem?_eq_getElem (by omega)) hu)
  | tup hl _ ih =>
    cases hv with
    | tup hl' h' =>
      refine .tup (hl.symm.trans hl') fun i x u hx hu => ?_
      have hlt := (List.getElem?_eq_some_iff.1 hx).1
      exact ih i _ x (List.getElem?_eq_getElem (by omega)) hx (h' i _ u (List.getElem?_eq_getElem (by omega)) hu)
  | fn hl _ ih =>
    cases hv with
    | fn hl' h' =>
      refine .fn (hl.symm.trans hl') fun i x u hx hu => ?_
      have hlt := (List.getElem?_eq_some_iff.1 hx).1
      exact ih i _ x (List.getElem?_eq_getElem (by omega)) hx (h' i _ u (List.getElem?_eq_getElem (by omega)) hu)

/-- How a block may be told anew. -/
inductive BCv (B : Nat → Blk) (R : Nat → Nat → Prop) (al : Bool → Prop) (fz ln : Nat → Prop) : Blk → Blk → Prop where
  | row (sz : Nat) {e e' : TypeId} (es : List (List D)) (he : Wk e e') : BCv B R al fz ln (.row sz e es) (.row sz e' es)
  | var {e : TypeId} {cs cs' : List AV} (hl : cs.length = cs'.length) (hv : leaves cs' = true) (h : ∀ (i : Nat) (x y : AV), cs[i]? = some x → cs'[i]? = some y → Cv B R al fz ln x y) : BCv B R al fz ln (.var e cs) (.var e cs')
  | mp {k : IntKind} {m m' : List (Int × AV)} (hl : m.length = m'.length) (h : ∀ (i : Nat) (x y : Int × AV), m[i]? = some x → m'[i]? = some y → x.1 = y.1 ∧ Cv B R al fz ln x.2 y.2) : BCv B R al fz ln (.mp k m) (.mp k m')
  | dead {b : Blk} (h : b ≠ .free) : BCv B R al fz ln b .dead

/-- The names' places, told anew. -/
def Env.re (E : Env) (ρ : Nat → Nat) (N : Nat → Prop) : Env := ⟨fun g => E.β (ρ g), fun g => E.sz (ρ g), fun g => E.cap (ρ g), fun g => E.vr (ρ g), fun g => N g ∧ E.kn (ρ g)⟩

theorem Hot_re {ρ : Nat → Nat} {N : Nat → Prop} {g : Nat} {b b' : Blk} (h : BCv B R al fz ln b b') (hh : Hot (E.re ρ N) g b') : Hot E (ρ g) b := by
  cases h with
  | row => exact hh
  | var => exact hh
  | mp => exact hh
  | dead => cases hh

structure Recast (c : Cx) (U : Nat → Prop) (B : Nat → Blk) (E : Env) (w : World) (ρ : Nat → Nat) (N : Nat → Prop) (B2 : Nat → Blk) (c2 : Cx) (U2 : Nat → Prop) (al : Bool → Prop) (fz ln : Nat → Prop) : Prop where
  tr : Trans c U B E w (E.re ρ N) (Fof (E.re ρ N) B2) U2 c2.heap.size (fun g g' => N g' ∧ ρ g' = g) al fz ln
  blk : ∀ g, N g → BCv B (fun g g' => N g' ∧ ρ g' = g) al fz ln (B (ρ g)) (B2 g)
  free : ∀ g, ¬ N g → B2 g = .free
  inj : ∀ g g', N g → N g' → Hot E (ρ g) (B (ρ g)) → B2 g ≠ .dead → B2 g' ≠ .dead → ρ g = ρ g' → g = g'
  mine : ∀ g, N g → Hot E (ρ g) (B (ρ g)) → B2 g ≠ .dead → c2.Mine (E.β (ρ g))

theorem Hot_dead {E : Env} {g : Nat} {b : Blk} (h : Hot E g b) : b ≠ .dead := by rintro rfl; cases h

theorem Recast.blkOk {ρ : Nat → Nat} {N : Nat → Prop} {B2 : Nat → Blk} {c2 : Cx} (h : Recast c U B E w ρ N B2 c2 U2 al fz ln) (g : Nat) : BlkOk (E.re ρ N) w (Fof (E.re ρ N) B2) U2 c2 g (B2 g) := by
  by_cases hN : N g
  · have hb := h.blk g hN
    have hbl := h.tr.mem.blk (ρ g)
    have hmine := h.mine g hN
    revert hb hbl hmine
    generalize B (ρ g) = b
    generalize B2 g = b'
    intro hb hbl hmine
    cases hb with
    | row sz es hw =>
      obtain ⟨h1, h2, h4, h5, h6, h7', h7⟩ := hbl
      refine ⟨⟨hN, h1⟩, h2, h4, h5, h6.wk hw, h7', fun hv => ?_⟩
      obtain ⟨h3, cur, h8, h9, h10⟩ := h7 hv
      refine ⟨hmine hv (by simp), cur, by rw [← hw.1]; exact h8, h9, fun i x hx => ⟨(h10 i x hx).1, fun j d hd => ?_⟩⟩
      obtain ⟨u, hu, hvd⟩ := (h10 i x hx).2 j d hd
      exact ⟨u, hu, h.tr.vd hvd⟩
    | var hl hlv hcv =>
      obtain ⟨h1, h3, cur, h7, h8, h9⟩ := hbl
      refine ⟨⟨hN, h1⟩, hmine trivial (by simp), cur, h7, h8.trans hl, fun j y hy => ?_⟩
      have hlt := (List.getElem?_eq_some_iff.1 hy).1
      obtain ⟨_, u, hu, hva⟩ := h9 j _ (List.getElem?_eq_getElem (by omega))
      exact ⟨leaves_at hlv hy, u, hu, h.tr.va (hcv j _ y (List.getElem?_eq_getElem (by omega)) hy) hva⟩
    | mp hl hcv =>
      obtain ⟨h1, h3, es, n, h7, h8, h9⟩ := hbl
      refine ⟨⟨hN, h1⟩, hmine trivial (by simp), es, n, h7, h8.trans hl, fun j y e hy he => ?_⟩
      have hlt := (List.getElem?_eq_some_iff.1 hy).1
      obtain ⟨r1, r2⟩ := hcv j _ y (List.getElem?_eq_getElem (by omega)) hy
      obtain ⟨r3, r4⟩ := h9 j _ e (List.getElem?_eq_getElem (by omega)) he
      exact ⟨r3.trans (by rw [r1]), h.tr.va r2 r4⟩
    | dead hne =>
      refine ⟨hN, ?_⟩
      cases b with
      | row => exact hbl.1
      | var => exact hbl.1
      | mp => exact hbl.1
      | dead => exact hbl
      | free => exact absurd rfl hne
  · rw [h.free g hN]
    exact fun hk => hN hk.1

theorem Recast.mem_ {ρ : Nat → Nat} {N : Nat → Prop} {B2 : Nat → Blk} {c2 : Cx} (h : Recast c U B E w ρ N B2 c2 U2 al fz ln) (hk : Kept c2 w) (hp : (∀ b, c2.hot b → U2 b) ∧ ∀ g b, c2.pin g b → (E.re ρ N).kn g ∧ (E.re ρ N).at_ g = b) : Mem c2 U2 B2 (E.re ρ N) w := by
  refine ⟨hk, hp, h.blkOk, fun g g' h1 h2 h3 => ?_⟩
  have n1 : N g := Classical.byContradiction fun hn => by rw [h.free g hn] at h1; cases h1
  have n2 : N g' := Classical.byContradiction fun hn => by rw [h.free g' hn] at h2; cases h2
  have q1 := Hot_re (h.blk g n1) h1
  have q2 := Hot_re (h.blk g' n2) h2
  have := h.tr.mem.inj (ρ g) (ρ g') q1 q2 h3
  exact h.inj g g' n1 n2 q1 (Hot_dead h1) (Hot_dead h2) this

/-- The same call, its state told anew. -/
theorem Recast.here {ρ : Nat → Nat} {N : Nat → Prop} {B2 : Nat → Blk} (hal : al false) (hm : Mem c U B E w) (hblk : ∀ g, N g → BCv B (fun g g' => N g' ∧ ρ g' = g) al fz (fun _ => False) (B (ρ g)) (B2 g)) (hfree : ∀ g, ¬ N g → B2 g = .free)
    (hinj : ∀ g g', N g → N g' → Hot E (ρ g) (B (ρ g)) → B2 g ≠ .dead → B2 g' ≠ .dead → ρ g = ρ g' → g = g') (hfz : ∀ g, fz g → ∀ g', N g' → ρ g' = g → B2 g' = .dead) : Recast c U B E w ρ N B2 c U al fz (fun _ => False) := by
  have hF : ∀ b, Fof (E.re ρ N) B2 b → ∃ g', N g' ∧ Hot E (ρ g') (B (ρ g')) ∧ B2 g' ≠ .dead ∧ E.β (ρ g') = b := fun b ⟨g', h1, h2⟩ => by
    have n1 : N g' := Classical.byContradiction fun hn => by rw [hfree g' hn] at h1; cases h1
    exact ⟨g', n1, Hot_re (hblk g' n1) h1, Hot_dead h1, h2⟩
  refine ⟨⟨hm, fun g g' ⟨h1, h2⟩ hk => by subst h2; exact ⟨⟨h1, hk⟩, rfl, rfl, rfl, rfl⟩, hal, fun o b _ ⟨h1, h2, h3⟩ => ⟨h1, fun hf => h2 ?_, h3⟩, fun g hg hot => ⟨fun hf => ?_, ?_⟩, fun g hg => hg.elim⟩, hblk, hfree, hinj, fun g hN hot _ => ((hm.blk _).lt hot).2.1⟩
  · obtain ⟨g', _, h1, _, h2⟩ := hF b hf
    exact ⟨_, h1, h2⟩
  · obtain ⟨g', n1, h1, h2, h3⟩ := hF _ hf
    have := hm.inj _ _ h1 hot h3
    exact h2 (hfz g hg g' n1 this)
  · exact (((hm.blk g).lt hot).2.1).elim .inr fun h => .inl (hm.pins.1 _ h)
end
end Go.Proofs.Ytmkfpfnjimmmaaa
