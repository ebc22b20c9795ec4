/- The walk, computed, is a walk: code, and its loops. Nothing of the dump stands here. -/
import Derived.Test.YtmkfpfnjimmmaaaVL
namespace Go.Proofs.Ytmkfpfnjimmmaaa
open Go.RowKit
set_option linter.unusedVariables false
set_option linter.unusedSimpArgs false

/-- One state may be told as another one. -/
def Ent (nt : Nat) (σ τ : TS) : Prop := ∀ (c : Cx) (U : Nat → Prop) (E : Env) (a : Act) (w : World), TRel c U nt σ E a w → ∃ E', TRel c U nt τ E' a w

mutual
theorem cv_self {B : Nat → TB} {D : Nat → Blk} {R : Nat → Nat → Prop} {al : Bool → Prop} {fz ln : Nat → Prop} (hal : ∀ o, al o) : ∀ (x : TV), (∀ g ∈ x.nm, R g g) → Cv D R al fz ln (denV B x) (denV B x)
  | .agg vs, h => by simp only [denV]; exact .agg rfl (cvs_self hal vs h)
  | .tup vs, h => by simp only [denV]; exact .tup rfl (cvs_self hal vs h)
  | .fn f vs, h => by simp only [denV]; exact .fn rfl (cvs_self hal vs h)
  | .own g, h => by
    have hg := h g (by simp [TV.nm])
    simp only [denV]
    cases B g <;> first | exact .own _ _ hg | exact .d _
  | .sub g i n, h => by
    have hg := h g (by simp [TV.nm])
    simp only [denV]
    cases B g <;> simp only [denU] <;> (repeat' split) <;> first | exact .own _ _ hg | exact .d _
  | .ptr g i j, h => .ptr _ _ (h g (by simp [TV.nm]))
  | .mp g, h => .mp (h g (by simp [TV.nm]))
  | .int _ _, _ => .d _
  | .bool _, _ => .d _
  | .view o T l, _ => by cases o; exact .d _; exact .lent _ _ (hal true)
  | .vptr o T x j, _ => .vptr _ _ _ (hal o)
  | .asl g i n, h => .part _ _ (h g (by simp [TV.nm]))
  | .arr T l, _ => by simp only [denV]; exact .agg rfl (fun i x y h1 h2 => by rw [h1] at h2; cases h2; rw [List.getElem?_map] at h1; obtain ⟨d, _, rfl⟩ := Option.map_eq_some_iff.1 h1; exact .d d)
  | .nsl, _ => .nsl
  | .nptr, _ => .nptr
  | .nmp, _ => .nmp
  | .und, _ => .und _
theorem cvs_self {B : Nat → TB} {D : Nat → Blk} {R : Nat → Nat → Prop} {al : Bool → Prop} {fz ln : Nat → Prop} (hal : ∀ o, al o) : ∀ (l : List TV), (∀ g ∈ TV.nms l, R g g) → ∀ (i : Nat) (x y : AV), (denVs B l)[i]? = some x → (denVs B l)[i]? = some y → Cv D R al fz ln x y
  | [], _, i, x, y, h, _ => by simp [denVs] at h
  | z :: zs, hn, 0, x, y, h1, h2 => by
    simp only [denVs, List.getElem?_cons_zero, Option.some.injEq] at h1 h2
    subst h1
    subst h2
    exact cv_self hal z fun g hg => hn g (by simp [TV.nms, hg])
  | z :: zs, hn, i + 1, x, y, h1, h2 => cvs_self hal zs (fun g hg => hn g (by simp [TV.nms, hg])) i x y (by simpa [denVs] using h1) (by simpa [denVs] using h2)
end

theorem cv_mono {D : Nat → Blk} {R : Nat → Nat → Prop} {al : Bool → Prop} {fz fz' ln ln' : Nat → Prop} {x y : AV} (h : Cv D R al fz ln x y) (hl : ∀ g, ln g → ln' g) (hf : ∀ g, fz g → fz' g := by exact fun _ h => h) : Cv D R al fz' ln' x y := by
  induction h with
  | d x => exact .d x
  | lent sz es h => exact .lent _ _ h
  | vl sz es => exact .vl _ _
  | nsl => exact .nsl
  | nv sz => exact .nv _
  | nl sz => exact .nl _
  | nptr => exact .nptr
  | nmp => exact .nmp
  | vptr o c j h => exact .vptr _ _ _ h
  | ptr i j h => exact .ptr _ _ h
  | own i n h => exact .own _ _ h
  | part i n h => exact .part _ _ h
  | mp h => exact .mp h
  | fz hg hb hn => exact .fz (hf _ hg) hb hn
  | ln hg hb hn => exact .ln (hl _ hg) hb hn
  | und x => exact .und _
  | agg hl' _ ih => exact .agg hl' ih
  | tup hl' _ ih => exact .tup hl' ih
  | fn hl' _ ih => exact .fn hl' ih

/-- Nothing is lent where nothing may be. -/
theorem parse_ln {B : Nat → TB} : ∀ {s : Sh} {cs : List TV} {p : PR s.V}, parse B false s cs = some p → p.ln = []
  | .int kk, cs, p, h => by
    simp only [parse] at h
    split at h
    · split at h
      · cases h; rfl
      · cases h
    · cases h
  | .bool, cs, p, h => by
    simp only [parse] at h
    split at h
    · cases h; rfl
    · cases h
  | .view o T, cs, p, h => by
    simp only [parse, Bool.and_false, cond_false] at h
    split at h
    · split at h
      · obtain ⟨q, h1, rfl⟩ := Option.map_eq_some_iff.1 h; rfl
      · obtain ⟨q, h1, rfl⟩ := Option.map_eq_some_iff.1 h; rfl
    · cases h
  | .own T e, cs, p, h => by
    simp only [parse] at h
    split at h
    · split at h
      · rename_i T' e' l hg
        cases he : wkB e' e with
        | false => rw [he] at h; cases h
        | true => rw [he] at h; obtain ⟨q, h1, rfl⟩ := Option.map_eq_some_iff.1 h; rfl
      · cases h
    · cases h
  | .pa T e, cs, p, h => by
    simp only [parse] at h
    split at h
    · split at h
      · rename_i T' e' l hg
        cases he : wkB e' e with
        | false => rw [he] at h; cases h
        | true => rw [he] at h; obtain ⟨q, h1, rfl⟩ := Option.map_eq_some_iff.1 h; rfl
      · cases h
    · cases h
  | .mpp a b, cs, p, h => by
    simp only [parse] at h
    split at h
    · split at h
      · split at h
        · split at h
          · cases h; rfl
          · cases h
        · cases h
      · cases h
    · cases h
  | .arr T, cs, p, h => by
    simp only [parse] at h
    split at h
    · obtain ⟨q, h1, rfl⟩ := Option.map_eq_some_iff.1 h; rfl
    · cases h
  | .atp d s, cs, p, h => by
    simp only [parse] at h
    split at h
    · split at h
      · rename_i q hq
        split at h
        · rename_i g' hg
          cases hgg : Nat.beq g' _ with
          | false => rw [hgg] at h; cases h
          | true =>
            rw [hgg] at h
            cases h
            exact (parse_ln (s := s) hq : q.ln = [])
        · cases h
      · cases h
    · cases h
  | .var e s, cs, p, h => by
    simp only [parse] at h
    split at h
    · split at h
      · rename_i e' cs' hg
        cases he : Nat.beq e' e with
        | false => rw [he] at h; cases h
        | true =>
          rw [he] at h
          simp only [cond_true] at h
          split at h
          · rename_i q hq
            cases hre : (q.rest.isEmpty && cs'.all tleaf) with
            | false => rw [hre] at h; cases h
            | true => rw [hre] at h; cases h; have hln := parse_ln (s := s) hq; exact hln
          · cases h
      · cases h
    · cases h
  | .unit, cs, p, h => by simp only [parse, Option.some.injEq] at h; subst h; rfl
  | .pair a b, cs, p, h => by
    simp only [parse] at h
    split at h
    · rename_i p1 hp1
      split at h
      · rename_i q1 hq1
        cases h
        show p1.ln ++ q1.ln = []
        rw [parse_ln hp1, parse_ln hq1]; rfl
      · cases h
    · cases h
  | .agg s, cs, p, h => by
    simp only [parse] at h
    split at h
    · split at h
      · rename_i q hq
        cases hre : q.rest.isEmpty with
        | false => rw [hre] at h; cases h
        | true => rw [hre] at h; cases h; have hln := parse_ln (s := s) hq; exact hln
      · cases h
    · cases h
  | .tup s, cs, p, h => by
    simp only [parse] at h
    split at h
    · split at h
      · rename_i q hq
        cases hre : q.rest.isEmpty with
        | false => rw [hre] at h; cases h
        | true => rw [hre] at h; cases h; have hln := parse_ln (s := s) hq; exact hln
      · cases h
    · cases h
  | .fn f s, cs, p, h => by
    simp only [parse] at h
    split at h
    · rename_i f' cs' r
      cases hf : Nat.beq f' f with
      | false => rw [hf] at h; cases h
      | true =>
        rw [hf] at h
        simp only [cond_true] at h
        split at h
        · rename_i q hq
          cases hre : q.rest.isEmpty with
          | false => rw [hre] at h; cases h
          | true => rw [hre] at h; cases h; have hln := parse_ln (s := s) hq; exact hln
        · cases h
    · cases h
  | .any, cs, p, h => by
    simp only [parse] at h
    split at h
    · cases h; rfl
    · cases h

theorem cellsAt_in {sl : List Nat} {cs : List TV} {f : Nat → TV} (hn : sl.Nodup) {i t : Nat} {x : TV} (h1 : sl[i]? = some t) (h2 : cs[i]? = some x) : cellsAt sl cs f t = x := by
  unfold cellsAt
  induction sl generalizing cs i with
  | nil => simp at h1
  | cons s sl ih =>
    cases cs with
    | nil => simp at h2
    | cons y cs =>
      simp only [List.zip_cons_cons, List.foldr_cons]
      cases i with
      | zero =>
        obtain rfl : s = t := by simpa using h1
        obtain rfl : y = x := by simpa using h2
        exact upd_same _ _ _
      | succ i =>
        have hne : t ≠ s := by
          rintro rfl
          exact (List.nodup_cons.1 hn).1 (List.mem_of_getElem? (by simpa using h1))
        rw [upd_other _ _ _ hne]
        exact ih (List.nodup_cons.1 hn).2 (by simpa using h1) (by simpa using h2)
theorem cellsAt_out {sl : List Nat} {cs : List TV} {f : Nat → TV} {t : Nat} (h : t ∉ sl) : cellsAt sl cs f t = f t := by
  unfold cellsAt
  induction sl generalizing cs with
  | nil => rfl
  | cons s sl ih =>
    simp only [List.mem_cons, not_or] at h
    cases cs with
    | nil => rfl
    | cons y cs =>
      simp only [List.zip_cons_cons, List.foldr_cons]
      rw [upd_other _ _ _ h.1]
      exact ih h.2

section
variable {nt : Nat}

/-- What must hold for a state to be told anew at a loop's head. -/
structure Tell (A : LA) (σ : TS) (p : PR A.sh.V) (k : Nat) (f0 : Nat → TV) (τ : TS) : Prop where
  hp : parse σ.blk false A.sh (A.sl.map σ.tmp) = some p
  ok : p.okB = true
  ps : ∀ q ∈ p.ps, q
  sok : A.sh.ok = true
  sl : A.sl.Nodup
  k64 : 64 ≤ k
  tmp : τ.tmp = cellsAt A.sl (unparse p.vs A.sh p.x 0 k).cs f0
  f0 : ∀ t, f0 t = .und ∨ (f0 t = σ.tmp t ∧ ∀ g ∈ (σ.tmp t).nm, g < k)
  vk : ∀ g ∈ p.vs, g < k
  b1 : ∀ q ∈ (unparse p.vs A.sh p.x 0 k).bs, τ.blk q.1 = q.2
  b2 : ∀ g, g ∉ p.vs → g < k → (τ.blk g = tupsOf σ.blk p.fz g ∧ g ∉ p.rs) ∨ (Rowy (tupsOf σ.blk p.fz g) ∧ τ.blk g = .dead (tupsOf σ.blk p.fz g).len)
  b3 : ∀ g, k + A.sh.nr ≤ g → τ.blk g = .free
  n2 : ∀ g, g ∉ p.vs → g < k → ∀ e cs, τ.blk g = .var e cs → ∀ n ∈ TV.nms cs, n < k

theorem Tell.entF {A : LA} {σ τ : TS} {p : PR A.sh.V} {k : Nat} {f0 : Nat → TV} (h : Tell A σ p k f0 τ) (c : Cx) (U : Nat → Prop) (E : Env) (a : Act) (w : World) (hr : TRel c U nt σ E a w) : ∃ E', TRel c U nt τ E' a w ∧ ∀ b, b < w.heap.size → Fof E' τ.den.blk b → Fof E σ.den.blk b := by
  have pk := parse_pk h.hp h.ps
  have hok' := h.ok
  simp only [PR.okB, Bool.and_eq_true] at hok'
  have hnd := nodupB_ok hok'.1.1.2
  obtain ⟨hf', hmid⟩ := mid_of h.ok pk.pk (B' := σ.blk) fun _ _ => rfl
  generalize hB1 : tupsOf σ.blk p.fz = B1 at hmid
  have hb2 := h.b2
  rw [hB1] at hb2
  have hr1 : TRel c U nt ⟨σ.tmp, B1⟩ E a w := by rw [← hB1]; exact hr.frzs hf'
  have hm1 : Mem c U (fun g => denB B1 (B1 g)) E w := hr1.mem
  have hwf := hr1.wf
  have hB1v : ∀ g ∈ p.vs, ∃ e cs, B1 g = .var e cs := fun g hg => by
    obtain ⟨e, cs, h1⟩ := pk.vs g hg
    exact ⟨e, cs, (hmid.keep g (List.mem_append.2 (.inl hg))).trans h1⟩
  have hvget : ∀ i, i < p.vs.length → p.vs[i]? = some (p.vs.getD i 0) := fun i hi => by
    rw [List.getD_eq_getElem?_getD, List.getElem?_eq_getElem hi]; rfl
  have hnames := fun g => unparse_names p.vs g A.sh p.x 0 k
  have hτv : ∀ g ∈ p.vs, ∃ e cs, τ.blk g = .var e cs := fun g hg => by
    obtain ⟨i, hi⟩ := List.getElem?_of_mem hg
    have hil : i < A.sh.nv := by have := (List.getElem?_eq_some_iff.1 hi).1; rw [pk.nv] at this; exact this
    have hmem := (hnames g).2 (.inl ⟨i, hil, by rw [Nat.zero_add, List.getD_eq_getElem?_getD, hi]; rfl⟩)
    obtain ⟨q, hq, rfl⟩ := List.mem_map.1 hmem
    rcases unparse_kind p.vs A.sh p.x 0 k q hq with ⟨e, cs, h3, _⟩ | ⟨_, h4, _⟩
    · exact ⟨e, cs, (h.b1 q hq).trans h3⟩
    · have := h.vk _ hg; omega
  -- reading is the same below k
  have hden0 : ∀ g, g < k → B1 g ≠ .free → τ.blk g ≠ .free ∧ (τ.blk g = B1 g ∨ denO g (τ.blk g) = denO g (B1 g) ∧ ∀ i n, denU g i n (τ.blk g) = denU g i n (B1 g)) := fun g hg hne => by
    by_cases hv : g ∈ p.vs
    · obtain ⟨e, cs, h1⟩ := hB1v g hv
      obtain ⟨e', cs', h2⟩ := hτv g hv
      rw [h1, h2]
      exact ⟨by simp, .inr ⟨rfl, fun _ _ => rfl⟩⟩
    · rcases hb2 g hv hg with ⟨h1, _⟩ | ⟨h1, h2⟩
      · rw [h1]; exact ⟨hne, .inl rfl⟩
      · rw [h2]; exact ⟨by simp, .inr (h1.turn.den hne)⟩
  have hden : ∀ x : TV, (∀ g ∈ x.nm, g < k ∧ B1 g ≠ .free) → denV τ.blk x = denV B1 x := fun x hx => denV_congr x fun g hg => (hden0 g (hx g hg).1 (hx g hg).2).2
  have hdens : ∀ l : List TV, (∀ g ∈ TV.nms l, g < k ∧ B1 g ≠ .free) → denVs τ.blk l = denVs B1 l := fun l hx => denVs_congr l fun g hg => (hden0 g (hx g hg).1 (hx g hg).2).2
  let ρ : Nat → Nat := fun g => if k ≤ g then p.rs.getD (g - k) 0 else g
  let N : Nat → Prop := fun g => g < k + A.sh.nr ∧ τ.blk g ≠ .free
  have ρlt : ∀ g, g < k → ρ g = g := fun g hg => if_neg (by omega)
  have ρge : ∀ g, k ≤ g → ρ g = p.rs.getD (g - k) 0 := fun g hg => if_pos hg
  have hself : ∀ g, g < k → B1 g ≠ .free → N g ∧ ρ g = g := fun g hg hne => ⟨⟨by omega, (hden0 g hg hne).1⟩, ρlt g hg⟩
  have hRv : ∀ (i g : Nat), p.vs[i]? = some g → (N (p.vs.getD (0 + i) 0) ∧ ρ (p.vs.getD (0 + i) 0) = g) := fun i g hi => by
    have e1 : p.vs.getD (0 + i) 0 = g := by rw [Nat.zero_add, List.getD_eq_getElem?_getD, hi]; rfl
    rw [e1]
    have hg := List.mem_of_getElem? hi
    obtain ⟨e, cs, h1⟩ := hB1v g hg
    exact hself g (h.vk g hg) (by rw [h1]; simp)
  have hrow : ∀ j, j < A.sh.nr → Rowy (τ.blk (k + j)) := fun j hj => by
    have hmem := (hnames (k + j)).2 (.inr (by omega))
    obtain ⟨q, hq, he⟩ := List.mem_map.1 hmem
    rcases unparse_kind p.vs A.sh p.x 0 k q hq with ⟨e, cs, h3, i, h6, h7⟩ | ⟨h4, _⟩
    · have := h.vk q.1 (by rw [h7, Nat.zero_add]; exact List.mem_of_getElem? (hvget i (by rw [pk.nv]; exact h6)))
      omega
    · rw [← he, h.b1 q hq]; exact h4
  have hRr : ∀ (j g : Nat), p.rs[j]? = some g → (N (k + j) ∧ ρ (k + j) = g) := fun j g hj => by
    have hjl : j < A.sh.nr := by have := (List.getElem?_eq_some_iff.1 hj).1; rw [pk.nr] at this; exact this
    refine ⟨⟨by omega, (hrow j hjl).ne⟩, ?_⟩
    rw [ρge _ (by omega), Nat.add_sub_cancel_left, List.getD_eq_getElem?_getD, hj]; rfl
  obtain ⟨_, _, _, pre, hxs, hcv, hbs⟩ := parse_ok (B := σ.blk) (B1 := B1) (B2 := τ.blk) (ld := false) (R := fun g g' => N g' ∧ ρ g' = g) (al := fun _ => True) (fz := fun _ => False) (ln := fun _ => False) trivial (fun _ => trivial)
    (vs := p.vs) (v := 0) (k := k) h.hp h.ps hmid hRv hRr (fun g hg => absurd hg (by rw [parse_ln h.hp]; simp)) h.b1
  have hxs' : A.sl.map σ.tmp = pre := by rw [hxs, isEmpty_nil hok'.1.1.1, List.append_nil]
  have hvkB : ∀ g ∈ p.rs, Rowy (B1 g) := fun g hg => by
    rw [hmid.keep g (List.mem_append.2 (.inr hg))]
    exact pk.rs g hg
  have hrsk : ∀ j, j < A.sh.nr → p.rs[j]? = some (p.rs.getD j 0) := fun j hj => by
    rw [List.getD_eq_getElem?_getD, List.getElem?_eq_getElem (by rw [pk.nr]; exact hj)]; rfl
  have hother : ∀ g, g < k → g ∉ p.vs → τ.blk g ≠ .free → B1 g ≠ .free := fun g hg hv hne => by
    rcases hb2 g hv hg with ⟨h1, _⟩ | ⟨h1, _⟩
    · rw [← h1]; exact hne
    · exact h1.ne
  have rc : Recast c U (fun g => denB B1 (B1 g)) E w ρ N (fun g => denB τ.blk (τ.blk g)) c U (fun _ => True) (fun _ => False) (fun _ => False) := by
    refine Recast.here trivial hm1 (fun g hN => ?_) (fun g hN => ?_) (fun g g' n1 n2 _ d1 d2 he => ?_) (fun g hg => hg.elim)
    · show BCv _ _ _ _ _ (denB B1 (B1 (ρ g))) (denB τ.blk (τ.blk g))
      by_cases hgk : g < k
      · by_cases hv : g ∈ p.vs
        · obtain ⟨i, hi⟩ := List.getElem?_of_mem hv
          have hil : i < A.sh.nv := by have := (List.getElem?_eq_some_iff.1 hi).1; rw [pk.nv] at this; exact this
          obtain ⟨q, hq, he⟩ := List.mem_map.1 ((hnames g).2 (.inl ⟨i, hil, by rw [Nat.zero_add, List.getD_eq_getElem?_getD, hi]; rfl⟩))
          obtain ⟨g0, ⟨h1, h2⟩, h3, h4⟩ := hbs q hq
          rw [he, ρlt g hgk] at h2
          subst h2
          rw [ρlt g hgk, ← he, h.b1 q hq, he]
          rcases h4 with ⟨h6, h7⟩ | ⟨e, cs1, cs2, h6, h7, h8, h9, h10⟩
          · obtain ⟨e', cs', h11⟩ := pk.vs g hv
            exact absurd h11 h7.rowy.nv
          · rw [(hmid.keep g (List.mem_append.2 (.inl hv))).trans h7, h8]
            refine .var h10.1 (by rw [leaves_den]; exact unparse_varleaf _ A.sh p.x 0 k h.sok q hq e cs2 h8) fun i x y hx hy => ?_
            have := h10.2 i x y hx hy
            exact cv_mono this (fun _ h => h.elim)
        · rw [ρlt g hgk]
          rcases hb2 g hv hgk with ⟨h1, _⟩ | ⟨h1, h2⟩
          · rw [h1]
            have hne : B1 g ≠ .free := by rw [← h1]; exact hN.2
            cases hq : B1 g with
            | row T e l => exact .row _ _ (.refl _)
            | frz T l => exact .dead (by simp [denB])
            | dead n => exact .dead (by simp [denB])
            | free => exact absurd hq hne
            | var e cs =>
              have hnm : ∀ n ∈ TV.nms cs, n < k ∧ B1 n ≠ .free := fun n hn => ⟨h.n2 g hv hgk e cs (h1.trans hq) n hn, hwf.var g e cs hq n hn⟩
              simp only [denB]
              rw [hdens cs hnm]
              refine .var rfl ?_ (cvs_self (fun _ => trivial) cs fun n hn => hself n (hnm n hn).1 (hnm n hn).2)
              have hbl := hm1.blk g
              rw [hq] at hbl
              obtain ⟨_, _, cur, _, _, hc⟩ := hbl
              refine List.all_eq_true.2 fun y hy => ?_
              obtain ⟨i, hi⟩ := List.getElem?_of_mem hy
              exact (hc i y hi).1
            | mp ik kv m => exact .same _
          · rw [h2]
            exact .dead (h1.den _).1
      · have hj : g - k < A.sh.nr := by have := hN.1; omega
        have hg : k + (g - k) = g := by omega
        have h1 := hrow (g - k) hj
        rw [hg] at h1
        obtain ⟨q, hq, he⟩ := List.mem_map.1 ((hnames g).2 (.inr (by omega)))
        obtain ⟨g0, ⟨h2, h3⟩, _, h4⟩ := hbs q hq
        rw [he] at h3
        rw [h3]
        have h5 := h.b1 q hq
        rw [he] at h5
        rcases h4 with ⟨h6, h7⟩ | ⟨e', cs1, cs2, h6, h7, h8, _⟩
        · rw [h5, hmid.keep g0 (List.mem_append.2 (.inr h6))]
          exact h7.bcv _ _
        · rw [h5, h8] at h1; exact absurd rfl h1.nv
    · have : τ.blk g = .free := Classical.byContradiction fun hne => by
        by_cases hlt : g < k + A.sh.nr
        · exact hN ⟨hlt, hne⟩
        · exact hne (h.b3 g (by omega))
      simp only [this]; rfl
    · have alive : ∀ q, N q → denB τ.blk (τ.blk q) ≠ .dead → q < k → q ∉ p.rs := fun q hq hd hlt hr => by
        by_cases hv : q ∈ p.vs
        · exact (List.nodup_append.1 hnd).2.2 q hv q hr rfl
        · rcases hb2 q hv hlt with ⟨_, h1⟩ | ⟨_, h2⟩
          · exact h1 hr
          · rw [h2] at hd; exact hd rfl
      by_cases h1 : g < k
      · by_cases h2 : g' < k
        · rwa [ρlt g h1, ρlt g' h2] at he
        · rw [ρlt g h1, ρge g' (by omega)] at he
          have := hrsk (g' - k) (by have := n2.1; omega)
          rw [← he] at this
          exact absurd (List.mem_of_getElem? this) (alive g n1 d1 h1)
      · by_cases h2 : g' < k
        · rw [ρlt g' h2, ρge g (by omega)] at he
          have := hrsk (g - k) (by have := n1.1; omega)
          rw [he] at this
          exact absurd (List.mem_of_getElem? this) (alive g' n2 d2 h2)
        · rw [ρge g (by omega), ρge g' (by omega)] at he
          have e1 := hrsk (g - k) (by have := n1.1; omega)
          have e2 := hrsk (g' - k) (by have := n2.1; omega)
          rw [he] at e1
          obtain ⟨l1, q1⟩ := List.getElem?_eq_some_iff.1 e1
          obtain ⟨l2, q2⟩ := List.getElem?_eq_some_iff.1 e2
          have := (List.getElem_inj (h₀ := l1) (h₁ := l2) (List.nodup_append.1 hnd).2.1).1 (q1.trans q2.symm)
          omega
  have hm2 := rc.mem_ hm1.below ⟨hm1.pins.1, fun g b hp => by
    have hk := hm1.pins.2 g b hp
    have hlt : g < k := Nat.lt_of_lt_of_le (hm1.below.pl g b hp) h.k64
    have hne : B1 g ≠ .free := fun hq => Mem.kn_free (B := B1) hm1 hq hk.1
    obtain ⟨h1, h2⟩ := hself g hlt hne
    refine ⟨⟨h1, by rw [h2]; exact hk.1⟩, ?_⟩
    show (E.β (ρ g), E.sz (ρ g), E.cap (ρ g), E.vr (ρ g)) = b
    rw [h2]; exact hk.2⟩
  have hF1 : ∀ b, Fof E (fun g => denB B1 (B1 g)) b → Fof E σ.den.blk b := fun b ⟨g, h1, h2⟩ => ⟨g, by
    by_cases hm : g ∈ p.fz.map (·.1)
    · obtain ⟨q, hq, rfl⟩ := List.mem_map.1 hm
      obtain ⟨T, e, l, h3, h4⟩ := hf' q hq
      have h5 := tups_frz hf' hq
      rw [hB1, h4] at h5
      have h6 : Hot E q.1 (denB B1 (B1 q.1)) := h1
      rw [h5] at h6
      exact h6.elim
    · have h5 : B1 g = σ.blk g := by rw [← hB1]; exact tupsOf_out _ _ _ hm
      have h6 : Hot E g (denB B1 (B1 g)) := h1
      rw [h5] at h6
      show Hot E g (denB σ.blk (σ.blk g))
      revert h6
      cases σ.blk g <;> exact id, h2⟩
  refine ⟨E.re ρ N, ⟨hm2, hr1.size, hr1.defers, fun t => ?_⟩, fun b hb hF => Classical.byContradiction fun hn => (rc.tr.ok true b trivial ⟨hb, fun hh => hn (hF1 b hh), fun h => by cases h⟩).2.1 hF⟩
  show VA _ _ _ _ _ (denV τ.blk (τ.tmp t)) _
  rw [h.tmp]
  by_cases ht : t ∈ A.sl
  · obtain ⟨i, hi⟩ := List.getElem?_of_mem ht
    have hl := hcv.1
    rw [denVs_map, denVs_map, List.length_map, List.length_map, ← hxs', List.length_map] at hl
    have hil := (List.getElem?_eq_some_iff.1 hi).1
    have hc : (unparse p.vs A.sh p.x 0 k).cs[i]? = some ((unparse p.vs A.sh p.x 0 k).cs[i]'(by omega)) := List.getElem?_eq_getElem (by omega)
    rw [cellsAt_in h.sl hi hc]
    have h1 := hcv.2 i (denV B1 (σ.tmp t)) (denV τ.blk ((unparse p.vs A.sh p.x 0 k).cs[i]'(by omega))) (by rw [denVs_map, List.getElem?_map, ← hxs', List.getElem?_map, hi]; rfl) (by rw [denVs_map, List.getElem?_map, hc]; rfl)
    exact rc.tr.va (cv_mono h1 fun _ h => h.elim) (hr1.tmp t)
  · rw [cellsAt_out ht]
    rcases h.f0 t with h1 | ⟨h1, h2⟩
    · rw [h1]; exact .und _
    · rw [h1]
      have hnm : ∀ n ∈ (σ.tmp t).nm, n < k ∧ B1 n ≠ .free := fun n hn => ⟨h2 n hn, hwf.tmp t n hn⟩
      rw [hden _ hnm]
      exact rc.tr.va (cv_self (fun _ => trivial) _ fun n hn => hself n (hnm n hn).1 (hnm n hn).2) (hr1.tmp t)
theorem Tell.ent {A : LA} {σ τ : TS} {p : PR A.sh.V} {k : Nat} {f0 : Nat → TV} (h : Tell A σ p k f0 τ) : Ent nt σ τ := fun c U E a w hr => let ⟨E', h1, _⟩ := h.entF c U E a w hr; ⟨E', h1⟩
end
end Go.Proofs.Ytmkfpfnjimmmaaa
