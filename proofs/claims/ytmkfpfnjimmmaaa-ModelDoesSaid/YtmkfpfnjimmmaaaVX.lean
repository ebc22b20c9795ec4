/- Calls, computed. Nothing of the dump stands here. -/
import Derived.Test.YtmkfpfnjimmmaaaVW
namespace Go.Proofs.Ytmkfpfnjimmmaaa
open Go.RowKit
set_option linter.unusedVariables false
set_option linter.unusedSimpArgs false

theorem unparse_leafy (vs : List Nat) : ∀ (s : Sh) (x : s.V) (v k : Nat), s.leafy = true → (unparse vs s x v k).cs.all tleaf = true
  | .int _, _, _, _, _ => rfl
  | .bool, _, _, _, _ => rfl
  | .view _ _, _, _, _, _ => rfl
  | .own _ _, _, _, _, _ => rfl
  | .pa _ _, _, _, _, _ => rfl
  | .mpp _ _, _, _, _, _ => rfl
  | .arr _, _, _, _, h => by cases h
  | .atp _ s, x, v, k, h => by
    show (tleaf _ && (unparse vs s x.2 v k).cs.all tleaf) = true
    rw [unparse_leafy vs s x.2 v k h]; rfl
  | .var _ _, _, _, _, _ => rfl
  | .unit, _, _, _, _ => rfl
  | .pair a b, x, v, k, h => by
    simp only [Sh.leafy, Bool.and_eq_true] at h
    simp only [unparse, List.all_append, unparse_leafy vs a x.1 v k h.1, unparse_leafy vs b x.2 _ _ h.2, Bool.and_self]
  | .agg _, _, _, _, h => by cases h
  | .tup _, _, _, _, h => by cases h
  | .fn _ _, _, _, _, _ => rfl
  | .any, _, _, _, h => by cases h

theorem unparse_names (vs : List Nat) (g : Nat) : ∀ (s : Sh) (x : s.V) (v k : Nat), g ∈ (unparse vs s x v k).bs.map (·.1) ↔ (∃ i, i < s.nv ∧ g = vs.getD (v + i) 0) ∨ (k ≤ g ∧ g < k + s.nr)
  | .int _, _, v, k => by simp [unparse, Sh.nv, Sh.nr]
  | .bool, _, v, k => by simp [unparse, Sh.nv, Sh.nr]
  | .view _ _, _, v, k => by simp [unparse, Sh.nv, Sh.nr]
  | .own _ _, _, v, k => by simp [unparse, Sh.nv, Sh.nr]; omega
  | .pa _ _, _, v, k => by simp [unparse, Sh.nv, Sh.nr]; omega
  | .mpp _ _, _, v, k => by simp [unparse, Sh.nv, Sh.nr]; omega
  | .arr _, _, v, k => by simp [unparse, Sh.nv, Sh.nr]
  | .atp _ s, x, v, k => unparse_names vs g s x.2 v k
  | .var _ s, x, v, k => by
    simp only [unparse, List.map_cons, List.mem_cons, unparse_names vs g s x, Sh.nv, Sh.nr]
    constructor
    · rintro (h | ⟨i, h1, h2⟩ | h)
      · exact .inl ⟨0, by omega, h⟩
      · exact .inl ⟨i + 1, by omega, by rw [h2, show v + 1 + i = v + (i + 1) by omega]⟩
      · exact .inr h
    · rintro (⟨i, h1, h2⟩ | h)
      · cases i with
        | zero => exact .inl h2
        | succ i => exact .inr (.inl ⟨i, by omega, by rw [h2, show v + (i + 1) = v + 1 + i by omega]⟩)
      · exact .inr (.inr h)
  | .unit, _, v, k => by simp [unparse, Sh.nv, Sh.nr]
  | .pair a b, x, v, k => by
    simp only [unparse, List.map_append, List.mem_append, unparse_names vs g a x.1, unparse_names vs g b x.2, Sh.nv, Sh.nr]
    constructor
    · rintro ((⟨i, h1, h2⟩ | h) | (⟨i, h1, h2⟩ | h))
      · exact .inl ⟨i, by omega, h2⟩
      · exact .inr (by omega)
      · exact .inl ⟨a.nv + i, by omega, by rw [h2, Nat.add_assoc]⟩
      · exact .inr (by omega)
    · rintro (⟨i, h1, h2⟩ | h)
      · by_cases hi : i < a.nv
        · exact .inl (.inl ⟨i, hi, h2⟩)
        · exact .inr (.inl ⟨i - a.nv, by omega, by rw [h2, show v + a.nv + (i - a.nv) = v + i by omega]⟩)
      · by_cases hg : g < k + a.nr
        · exact .inl (.inr ⟨h.1, hg⟩)
        · exact .inr (.inr (by omega))
  | .agg s, x, v, k => unparse_names vs g s x v k
  | .tup s, x, v, k => unparse_names vs g s x v k
  | .fn _ s, x, v, k => unparse_names vs g s x v k
  | .any, _, v, k => by simp [unparse, Sh.nv, Sh.nr]

/-- The names of variables, and of rows, are apart. -/
structure Apart (vs : List Nat) (n k m : Nat) : Prop where
  inj : ∀ i j, i < n → j < n → vs.getD i 0 = vs.getD j 0 → i = j
  far : ∀ i, i < n → vs.getD i 0 < k ∨ k + m ≤ vs.getD i 0

theorem unparse_nodup (vs : List Nat) : ∀ (s : Sh) (x : s.V) (v k n m : Nat), Apart vs n (k - m) (m + s.nr) → m ≤ k → v + s.nv ≤ n → ((unparse vs s x v k).bs.map (·.1)).Nodup
  | .int _, _, _, _, _, _, _, _, _ => by simp [unparse]
  | .bool, _, _, _, _, _, _, _, _ => by simp [unparse]
  | .view _ _, _, _, _, _, _, _, _, _ => by simp [unparse]
  | .own _ _, _, _, _, _, _, _, _, _ => by simp [unparse]
  | .pa _ _, _, _, _, _, _, _, _, _ => by simp [unparse]
  | .mpp _ _, _, _, _, _, _, _, _, _ => by simp [unparse]
  | .arr _, _, _, _, _, _, _, _, _ => by simp [unparse]
  | .atp _ s, x, v, k, n, m, h, hm, hn => unparse_nodup vs s x.2 v k n m h hm hn
  | .var e s, x, v, k, n, m, h, hm, hn => by
    simp only [Sh.nv, Sh.nr] at h hn
    simp only [unparse, List.map_cons, List.nodup_cons]
    refine ⟨fun hg => ?_, unparse_nodup vs s x (v + 1) k n m h hm (by omega)⟩
    rcases (unparse_names vs _ s x (v + 1) k).1 hg with ⟨i, h1, h2⟩ | h1
    · have := h.inj _ _ (by omega) (by omega) h2
      omega
    · have := h.far v (by omega)
      omega
  | .unit, _, _, _, _, _, _, _, _ => by simp [unparse]
  | .pair a b, x, v, k, n, m, h, hm, hn => by
    simp only [Sh.nv, Sh.nr] at h hn
    simp only [unparse, List.map_append]
    refine List.nodup_append.2 ⟨unparse_nodup vs a x.1 v k n m ⟨h.inj, fun i hi => by have := h.far i hi; omega⟩ hm (by omega), unparse_nodup vs b x.2 (v + a.nv) (k + a.nr) n (m + a.nr) ⟨h.inj, fun i hi => by have := h.far i hi; omega⟩ (by omega) (by omega), fun p hp q hq e => ?_⟩
    subst e
    rcases (unparse_names vs _ a x.1 v k).1 hp with ⟨i, h1, h2⟩ | h1
    · rcases (unparse_names vs _ b x.2 _ _).1 hq with ⟨j, h3, h4⟩ | h3
      · have := h.inj (v + i) (v + a.nv + j) (by omega) (by omega) (by rw [← h2, ← h4])
        omega
      · have := h.far (v + i) (by omega)
        omega
    · rcases (unparse_names vs _ b x.2 _ _).1 hq with ⟨j, h3, h4⟩ | h3
      · have := h.far (v + a.nv + j) (by omega)
        omega
      · omega
  | .agg s, x, v, k, n, m, h, hm, hn => unparse_nodup vs s x v k n m h hm hn
  | .tup s, x, v, k, n, m, h, hm, hn => unparse_nodup vs s x v k n m h hm hn
  | .fn _ s, x, v, k, n, m, h, hm, hn => unparse_nodup vs s x v k n m h hm hn
  | .any, _, _, _, _, _, _, _, _ => by simp [unparse]

theorem tups_in : ∀ (l : List (Nat × TB)) (B : Nat → TB), (l.map (·.1)).Nodup → ∀ p ∈ l, tupsOf B l p.1 = p.2
  | [], _, _, p, hp => by simp at hp
  | q :: l, B, hn, p, hp => by
    simp only [List.map_cons, List.nodup_cons] at hn
    show tupsOf (upd B q.1 q.2) l p.1 = p.2
    rcases List.mem_cons.1 hp with rfl | hp
    · rw [tupsOf_out _ _ _ hn.1, upd_same]
    · exact tups_in l _ hn.2 p hp

def bsOf (bs : List (Nat × TB)) : Nat → TB := tupsOf (fun _ => .free) bs
theorem bsOf_out {bs : List (Nat × TB)} {g : Nat} (h : g ∉ bs.map (·.1)) : bsOf bs g = .free := tupsOf_out _ _ _ h

/-- The same data written out by other names. -/
theorem unparse_cv {al : Bool → Prop} {B C : Nat → TB} {R : Nat → Nat → Prop} {D : Nat → Blk} {fz ln : Nat → Prop} (hal : al false) {vs1 vs2 : List Nat} : ∀ (s : Sh) (x : s.V) (v1 k1 v2 k2 : Nat), s.noLent = true → s.ok = true →
    (∀ i, i < s.nv → R (vs1.getD (v1 + i) 0) (vs2.getD (v2 + i) 0)) → (∀ j, j < s.nr → R (k1 + j) (k2 + j)) → (∀ p ∈ (unparse vs1 s x v1 k1).bs, B p.1 = p.2) → (∀ p ∈ (unparse vs2 s x v2 k2).bs, C p.1 = p.2) →
    Cvs D R al fz ln (denVs B (unparse vs1 s x v1 k1).cs) (denVs C (unparse vs2 s x v2 k2).cs) ∧
      ∀ g g', (∃ i, i < s.nv ∧ g = vs1.getD (v1 + i) 0 ∧ g' = vs2.getD (v2 + i) 0) ∨ (∃ j, j < s.nr ∧ g = k1 + j ∧ g' = k2 + j) → BCv D R al fz ln (denB B (B g)) (denB C (C g'))
  | .int _, _, _, _, _, _, _, _, _, _, _, _ => ⟨.one (.d _), fun g g' h => by simp [Sh.nv, Sh.nr] at h⟩
  | .bool, _, _, _, _, _, _, _, _, _, _, _ => ⟨.one (.d _), fun g g' h => by simp [Sh.nv, Sh.nr] at h⟩
  | .view o T, _, _, _, _, _, hl, _, _, _, _, _ => by
    cases o with
    | true => cases hl
    | false => exact ⟨.one (.d _), fun g g' h => by simp [Sh.nv, Sh.nr] at h⟩
  | .own T e, l, v1, k1, v2, k2, _, _, _, hr, h1, h2 => by
    have q1 : B k1 = .row T e l := h1 (k1, .row T e l) (by simp [unparse])
    have q2 : C k2 = .row T e l := h2 (k2, .row T e l) (by simp [unparse])
    have q3 : R k1 k2 := hr 0 (by simp [Sh.nr])
    refine ⟨.one ?_, fun g g' h => ?_⟩
    · simp only [denV, q1, q2, denO]
      exact .own _ _ q3
    · rcases h with ⟨i, hi, _⟩ | ⟨j, hj, rfl, rfl⟩
      · simp [Sh.nv] at hi
      · obtain rfl : j = 0 := by simp [Sh.nr] at hj; exact hj
        simp only [Nat.add_zero, q1, q2]
        exact .row _ _ (.refl _)
  | .pa T e, l, v1, k1, v2, k2, _, _, _, hr, h1, h2 => by
    have q1 : B k1 = .row T e l := h1 (k1, .row T e l) (by simp [unparse])
    have q2 : C k2 = .row T e l := h2 (k2, .row T e l) (by simp [unparse])
    have q3 : R k1 k2 := hr 0 (by simp [Sh.nr])
    refine ⟨.one ?_, fun g g' h => ?_⟩
    · simp only [denV]
      exact .ptr _ _ q3
    · rcases h with ⟨i, hi, _⟩ | ⟨j, hj, rfl, rfl⟩
      · simp [Sh.nv] at hi
      · obtain rfl : j = 0 := by simp [Sh.nr] at hj; exact hj
        simp only [Nat.add_zero, q1, q2]
        exact .row _ _ (.refl _)
  | .mpp a b, l, v1, k1, v2, k2, _, _, _, hr, h1, h2 => by
    have q1 : B k1 = .mp a b l := h1 (k1, .mp a b l) (by simp [unparse])
    have q2 : C k2 = .mp a b l := h2 (k2, .mp a b l) (by simp [unparse])
    have q3 : R k1 k2 := hr 0 (by simp [Sh.nr])
    refine ⟨.one ?_, fun g g' h => ?_⟩
    · simp only [denV]
      exact .mp q3
    · rcases h with ⟨i, hi, _⟩ | ⟨j, hj, rfl, rfl⟩
      · simp [Sh.nv] at hi
      · obtain rfl : j = 0 := by simp [Sh.nr] at hj; exact hj
        simp only [Nat.add_zero, q1, q2]
        exact .same _
  | .arr T, l, v1, k1, v2, k2, _, _, _, hr, h1, h2 => ⟨.one (Cv.arrd _), fun g g' h => by simp [Sh.nv, Sh.nr] at h⟩
  | .atp d s, x, v1, k1, v2, k2, hl, hok, hv, hr, h1, h2 => by
    simp only [Sh.ok, Bool.and_eq_true] at hok
    obtain ⟨c1, c2⟩ := unparse_cv (R := R) (D := D) (fz := fz) (ln := ln) hal s x.2 v1 k1 v2 k2 hl hok.2 hv hr h1 h2
    refine ⟨?_, c2⟩
    exact Cvs.app (a := [_]) (x := [_]) (.one (by simp only [denV]; exact .ptr _ _ (hr d (show d < s.nr by simpa [Nat.blt_eq] using hok.1)))) c1
  | .var e s, x, v1, k1, v2, k2, hl, hok, hv, hr, h1, h2 => by
    simp only [Sh.ok, Bool.and_eq_true] at hok
    simp only [Sh.nv, Sh.nr] at hv hr
    obtain ⟨c1, c2⟩ := unparse_cv (R := R) (D := D) (fz := fz) (ln := ln) hal s x (v1 + 1) k1 (v2 + 1) k2 hl hok.2 (fun i hi => by have := hv (i + 1) (by omega); rwa [show v1 + (i + 1) = v1 + 1 + i by omega, show v2 + (i + 1) = v2 + 1 + i by omega] at this) hr
      (fun p hp => h1 p (by simp only [unparse, List.mem_cons]; exact .inr hp)) (fun p hp => h2 p (by simp only [unparse, List.mem_cons]; exact .inr hp))
    have q1 := h1 (vs1.getD v1 0, .var e (unparse vs1 s x (v1 + 1) k1).cs) (by simp [unparse])
    have q2 := h2 (vs2.getD v2 0, .var e (unparse vs2 s x (v2 + 1) k2).cs) (by simp [unparse])
    have q3 := hv 0 (by omega)
    refine ⟨.one (.ptr _ _ q3), fun g g' h => ?_⟩
    rcases h with ⟨i, hi, rfl, rfl⟩ | ⟨j, hj, rfl, rfl⟩
    · cases i with
      | zero =>
        simp only [Nat.add_zero] at q1 q2 ⊢
        rw [q1, q2]
        exact .var c1.1 (by rw [leaves_den]; exact unparse_leafy _ _ _ _ _ hok.1) c1.2
      | succ i => exact c2 _ _ (.inl ⟨i, by simp [Sh.nv] at hi; exact hi, by rw [show v1 + (i + 1) = v1 + 1 + i by omega], by rw [show v2 + (i + 1) = v2 + 1 + i by omega]⟩)
    · exact c2 _ _ (.inr ⟨j, hj, rfl, rfl⟩)
  | .unit, _, _, _, _, _, _, _, _, _, _, _ => ⟨.nil, fun g g' h => by simp [Sh.nv, Sh.nr] at h⟩
  | .pair a b, x, v1, k1, v2, k2, hl, hok, hv, hr, h1, h2 => by
    simp only [Sh.ok, Bool.and_eq_true] at hok
    simp only [Sh.noLent, Bool.and_eq_true] at hl
    simp only [Sh.nv, Sh.nr] at hv hr
    simp only [unparse, List.mem_append] at h1 h2
    obtain ⟨a1, a2⟩ := unparse_cv (R := R) (D := D) (fz := fz) (ln := ln) hal a x.1 v1 k1 v2 k2 hl.1 hok.1 (fun i hi => hv i (by omega)) (fun j hj => hr j (by omega)) (fun p hp => h1 p (.inl hp)) (fun p hp => h2 p (.inl hp))
    obtain ⟨b1, b2⟩ := unparse_cv (R := R) (D := D) (fz := fz) (ln := ln) hal b x.2 (v1 + a.nv) (k1 + a.nr) (v2 + a.nv) (k2 + a.nr) hl.2 hok.2 (fun i hi => by have := hv (a.nv + i) (by omega); rwa [← Nat.add_assoc, ← Nat.add_assoc] at this)
      (fun j hj => by have := hr (a.nr + j) (by omega); rwa [← Nat.add_assoc, ← Nat.add_assoc] at this) (fun p hp => h1 p (.inr hp)) (fun p hp => h2 p (.inr hp))
    refine ⟨?_, fun g g' h => ?_⟩
    · have := a1.app b1
      simp only [denVs_map] at this ⊢
      simp only [unparse, List.map_append]
      exact this
    · rcases h with ⟨i, hi, rfl, rfl⟩ | ⟨j, hj, rfl, rfl⟩
      · by_cases hia : i < a.nv
        · exact a2 _ _ (.inl ⟨i, hia, rfl, rfl⟩)
        · exact b2 _ _ (.inl ⟨i - a.nv, by simp [Sh.nv] at hi; omega, by rw [show v1 + a.nv + (i - a.nv) = v1 + i by omega], by rw [show v2 + a.nv + (i - a.nv) = v2 + i by omega]⟩)
      · by_cases hja : j < a.nr
        · exact a2 _ _ (.inr ⟨j, hja, rfl, rfl⟩)
        · exact b2 _ _ (.inr ⟨j - a.nr, by simp [Sh.nr] at hj; omega, by omega, by omega⟩)
  | .agg s, x, v1, k1, v2, k2, hl, hok, hv, hr, h1, h2 => by
    obtain ⟨c1, c2⟩ := unparse_cv (R := R) (D := D) (fz := fz) (ln := ln) hal s x v1 k1 v2 k2 hl hok hv hr h1 h2
    exact ⟨.one (by simp only [denV]; exact .agg c1.1 c1.2), c2⟩
  | .tup s, x, v1, k1, v2, k2, hl, hok, hv, hr, h1, h2 => by
    obtain ⟨c1, c2⟩ := unparse_cv (R := R) (D := D) (fz := fz) (ln := ln) hal s x v1 k1 v2 k2 hl hok hv hr h1 h2
    exact ⟨.one (by simp only [denV]; exact .tup c1.1 c1.2), c2⟩
  | .fn _ s, x, v1, k1, v2, k2, hl, hok, hv, hr, h1, h2 => by
    obtain ⟨c1, c2⟩ := unparse_cv (R := R) (D := D) (fz := fz) (ln := ln) hal s x v1 k1 v2 k2 hl hok hv hr h1 h2
    exact ⟨.one (by simp only [denV]; exact .fn c1.1 c1.2), c2⟩
  | .any, _, _, _, _, _, _, _, _, _, _, _ => ⟨.one (.und _), fun g g' h => by simp [Sh.nv, Sh.nr] at h⟩

/-- What a function asks of its arguments, and what it makes of them. -/
structure Spec where
  sig : Sh
  fin : Sh
  pre : sig.V → Prop
  fn : sig.V → fin.V

def Spec.inU (S : Spec) (x : S.sig.V) : UP := unparse (List.range S.sig.nv) S.sig x 0 S.sig.nv
def Spec.outU (S : Spec) (y : S.fin.V) : UP := unparse (List.range S.sig.nv) S.fin y 0 S.sig.nv
def SC (P : Program) (f : FuncId) (S : Spec) : Prop := S.fin.nv = S.sig.nv → ∀ x, S.pre x →
  HC P f ((S.inU x).cs.map (denV (bsOf (S.inU x).bs))) (fun g => denB (bsOf (S.inU x).bs) (bsOf (S.inU x).bs g)) (· < S.sig.nv) fun r B' =>
    r = denV (bsOf (S.outU (S.fn x)).bs) ((S.outU (S.fn x)).cs.headD .und) ∧ B' = fun g => denB (bsOf (S.outU (S.fn x)).bs) (bsOf (S.outU (S.fn x)).bs g)

def nodupB : List Nat → Bool
  | [] => true
  | x :: xs => !xs.any (Nat.beq x) && nodupB xs
theorem nodupB_ok : ∀ {l : List Nat}, nodupB l = true → l.Nodup
  | [], _ => .nil
  | x :: xs, h => by
    simp only [nodupB, Bool.and_eq_true] at h
    exact List.nodup_cons.2 ⟨not_any h.1, nodupB_ok h.2⟩
/-- What must hold of the names that were read. -/
def PR.okB {α : Type} (p : PR α) : Bool := p.rest.isEmpty && nodupB (p.vs ++ p.rs) && apartL (p.vs ++ p.rs) (p.fz.map (·.1)) && apartL (p.vs ++ p.rs) p.ln

theorem unparse_kind (vs : List Nat) : ∀ (s : Sh) (x : s.V) (v k : Nat), ∀ q ∈ (unparse vs s x v k).bs, (∃ e cs, q.2 = .var e cs ∧ ∃ i, i < s.nv ∧ q.1 = vs.getD (v + i) 0) ∨ Rowy q.2 ∧ k ≤ q.1 ∧ q.1 < k + s.nr
  | .int _, _, _, _, q, hq => by simp [unparse] at hq
  | .bool, _, _, _, q, hq => by simp [unparse] at hq
  | .view _ _, _, _, _, q, hq => by simp [unparse] at hq
  | .own T e, l, _, k, q, hq => by
    simp only [unparse, List.mem_singleton] at hq
    subst hq
    exact .inr ⟨.inl ⟨T, e, l, rfl⟩, Nat.le_refl _, Nat.lt_succ_self _⟩
  | .pa T e, l, _, k, q, hq => by
    simp only [unparse, List.mem_singleton] at hq
    subst hq
    exact .inr ⟨.inl ⟨T, e, l, rfl⟩, Nat.le_refl _, Nat.lt_succ_self _⟩
  | .arr _, _, _, _, q, hq => by simp [unparse] at hq
  | .mpp a b, l, _, k, q, hq => by
    simp only [unparse, List.mem_singleton] at hq
    subst hq
    exact .inr ⟨.inr ⟨a, b, l, rfl⟩, Nat.le_refl _, Nat.lt_succ_self _⟩
  | .atp _ s, x, v, k, q, hq => unparse_kind vs s x.2 v k q hq
  | .var e s, x, v, k, q, hq => by
    simp only [unparse, List.mem_cons] at hq
    rcases hq with rfl | hq
    · exact .inl ⟨_, _, rfl, 0, by simp [Sh.nv], rfl⟩
    · rcases unparse_kind vs s x (v + 1) k q hq with ⟨e', cs, h, i, h1, h2⟩ | h
      · exact .inl ⟨e', cs, h, i + 1, by simp [Sh.nv]; exact h1, by rw [h2, show v + 1 + i = v + (i + 1) by omega]⟩
      · exact .inr h
  | .unit, _, _, _, q, hq => by simp [unparse] at hq
  | .pair a b, x, v, k, q, hq => by
    simp only [unparse, List.mem_append] at hq
    rcases hq with hq | hq
    · rcases unparse_kind vs a x.1 v k q hq with ⟨e', cs, h, i, h1, h2⟩ | ⟨h1, h2, h3⟩
      · exact .inl ⟨e', cs, h, i, by simp only [Sh.nv]; omega, h2⟩
      · exact .inr ⟨h1, h2, by simp only [Sh.nr]; omega⟩
    · rcases unparse_kind vs b x.2 _ _ q hq with ⟨e', cs, h, i, h1, h2⟩ | ⟨h1, h2, h3⟩
      · exact .inl ⟨e', cs, h, a.nv + i, by simp only [Sh.nv]; omega, by rw [h2, Nat.add_assoc]⟩
      · exact .inr ⟨h1, by omega, by simp only [Sh.nr]; omega⟩
  | .agg s, x, v, k, q, hq => unparse_kind vs s x v k q hq
  | .tup s, x, v, k, q, hq => unparse_kind vs s x v k q hq
  | .fn _ s, x, v, k, q, hq => unparse_kind vs s x v k q hq
  | .any, _, _, _, q, hq => by simp [unparse] at hq

/-- A block turns, and what is read of others stays. -/
theorem tups_den {B : Nat → TB} {ups : List (Nat × TB)} (ht : ∀ p ∈ ups, Turn (B p.1) p.2) (hn : (ups.map (·.1)).Nodup) (g : Nat) (hg : B g ≠ .free) : tupsOf B ups g = B g ∨ denO g (tupsOf B ups g) = denO g (B g) ∧ ∀ i n, denU g i n (tupsOf B ups g) = denU g i n (B g) := by
  by_cases hm : g ∈ ups.map (·.1)
  · obtain ⟨b, h1, h2⟩ := tupsOf_mem ups B g hm
    rw [h2]
    exact .inr ((ht _ h1).den hg)
  · exact .inl (tupsOf_out _ _ _ hm)

theorem unparse_varleaf (vs : List Nat) : ∀ (s : Sh) (x : s.V) (v k : Nat), s.ok = true → ∀ q ∈ (unparse vs s x v k).bs, ∀ e cs, q.2 = .var e cs → cs.all tleaf = true
  | .int _, _, _, _, _, q, hq, _, _, _ => by simp [unparse] at hq
  | .bool, _, _, _, _, q, hq, _, _, _ => by simp [unparse] at hq
  | .view _ _, _, _, _, _, q, hq, _, _, _ => by simp [unparse] at hq
  | .own _ _, _, _, _, _, q, hq, e, cs, h => by
    simp only [unparse, List.mem_singleton] at hq
    subst hq
    cases h
  | .pa _ _, _, _, _, _, q, hq, e, cs, h => by
    simp only [unparse, List.mem_singleton] at hq
    subst hq
    cases h
  | .arr _, _, _, _, _, q, hq, _, _, _ => by simp [unparse] at hq
  | .mpp _ _, _, _, _, _, q, hq, e, cs, h => by
    simp only [unparse, List.mem_singleton] at hq
    subst hq
    cases h
  | .atp _ s, x, v, k, hok, q, hq, e, cs, h => by
    simp only [Sh.ok, Bool.and_eq_true] at hok
    exact unparse_varleaf vs s x.2 v k hok.2 q hq e cs h
  | .var e' s, x, v, k, hok, q, hq, e, cs, h => by
    simp only [Sh.ok, Bool.and_eq_true] at hok
    simp only [unparse, List.mem_cons] at hq
    rcases hq with rfl | hq
    · cases h
      exact unparse_leafy _ _ _ _ _ hok.1
    · exact unparse_varleaf vs s x (v + 1) k hok.2 q hq e cs h
  | .unit, _, _, _, _, q, hq, _, _, _ => by simp [unparse] at hq
  | .pair a b, x, v, k, hok, q, hq, e, cs, h => by
    simp only [Sh.ok, Bool.and_eq_true] at hok
    simp only [unparse, List.mem_append] at hq
    rcases hq with hq | hq
    · exact unparse_varleaf vs a x.1 v k hok.1 q hq e cs h
    · exact unparse_varleaf vs b x.2 _ _ hok.2 q hq e cs h
  | .agg s, x, v, k, hok, q, hq, e, cs, h => unparse_varleaf vs s x v k hok q hq e cs h
  | .tup s, x, v, k, hok, q, hq, e, cs, h => unparse_varleaf vs s x v k hok q hq e cs h
  | .fn _ s, x, v, k, hok, q, hq, e, cs, h => unparse_varleaf vs s x v k hok q hq e cs h
  | .any, _, _, _, _, q, hq, _, _, _ => by simp [unparse] at hq

structure PRok (B : Nat → TB) {α : Type} (n m : Nat) (p : PR α) : Prop where
  nv : p.vs.length = n
  nr : p.rs.length = m
  vs : ∀ g ∈ p.vs, ∃ e cs, B g = .var e cs
  rs : ∀ g ∈ p.rs, Rowy (B g)
  pk : PkOk B p.rb p.fz

theorem parse_pk {B : Nat → TB} {ld : Bool} : ∀ {s : Sh} {cs : List TV} {p : PR s.V}, parse B ld s cs = some p → (∀ q ∈ p.ps, q) → PRok B s.nv s.nr p
  | .int kk, cs, p, h, hps => by
    simp only [parse] at h
    split at h
    · split at h
      · cases h; exact ⟨rfl, rfl, by simp, by simp, .nil⟩
      · cases h
    · cases h
  | .bool, cs, p, h, hps => by
    simp only [parse] at h
    split at h
    · cases h; exact ⟨rfl, rfl, by simp, by simp, .nil⟩
    · cases h
  | .view o T, cs, p, h, hps => by
    simp only [parse] at h
    split at h
    · cases ho : (o && ld) with
      | true =>
        rw [ho] at h
        simp only [cond_true] at h
        obtain ⟨q, h1, rfl⟩ := Option.map_eq_some_iff.1 h
        exact ⟨rfl, rfl, by simp, by simp, .nil⟩
      | false =>
        rw [ho] at h
        simp only [cond_false] at h
        split at h
        · obtain ⟨q, h1, rfl⟩ := Option.map_eq_some_iff.1 h
          exact ⟨rfl, rfl, by simp, by simp, .nil⟩
        · obtain ⟨q, h1, rfl⟩ := Option.map_eq_some_iff.1 h
          exact ⟨rfl, rfl, by simp, by simp, (asSl_ok h1 hps).1⟩
    · cases h
  | .own T e, cs, p, h, hps => by
    simp only [parse] at h
    split at h
    · rename_i g r
      split at h
      · rename_i T' e' l hg
        cases he : wkB e' e with
        | false => rw [he] at h; cases h
        | true =>
          rw [he] at h
          obtain ⟨q, h1, rfl⟩ := Option.map_eq_some_iff.1 h
          exact ⟨rfl, rfl, by simp, fun g' hg' => by obtain rfl := List.mem_singleton.1 hg'; exact .inl ⟨_, _, _, hg⟩, .nil⟩
      · cases h
    · cases h
  | .pa T e, cs, p, h, hps => by
    simp only [parse] at h
    split at h
    · rename_i g r
      split at h
      · rename_i T' e' l hg
        cases he : wkB e' e with
        | false => rw [he] at h; cases h
        | true =>
          rw [he] at h
          obtain ⟨q, h1, rfl⟩ := Option.map_eq_some_iff.1 h
          exact ⟨rfl, rfl, by simp, fun g' hg' => by obtain rfl := List.mem_singleton.1 hg'; exact .inl ⟨_, _, _, hg⟩, .nil⟩
      · cases h
    · cases h
  | .mpp a b, cs, p, h, hps => by
    simp only [parse] at h
    split at h
    · rename_i g r
      split at h
      · rename_i a' b' l hg
        split at h
        · split at h
          · cases h
            exact ⟨rfl, rfl, by simp, fun g' hg' => by obtain rfl := List.mem_singleton.1 hg'; exact .inr ⟨_, _, _, hg⟩, .nil⟩
          · cases h
        · cases h
      · cases h
    · cases h
  | .arr T, cs, p, h, hps => by
    simp only [parse] at h
    split at h
    · obtain ⟨q, h1, rfl⟩ := Option.map_eq_some_iff.1 h
      exact ⟨rfl, rfl, by simp, by simp, .nil⟩
    · cases h
  | .atp d s, cs, p, h, hps => by
    simp only [parse] at h
    split at h
    · split at h
      · rename_i q hq
        split at h
        · rename_i g' hg
          cases hgg : Nat.beq g' _ with
          | false => rw [hgg] at h; cases h
          | true =>
            rw [hgg] at h
            cases h
            have := parse_pk hq hps
            exact ⟨this.nv, this.nr, this.vs, this.rs, this.pk⟩
        · cases h
      · cases h
    · cases h
  | .var e s, cs, p, h, hps => by
    simp only [parse] at h
    split at h
    · rename_i g r
      split at h
      · rename_i e' cs' hg
        cases he : Nat.beq e' e with
        | false => rw [he] at h; cases h
        | true =>
          rw [he] at h
          simp only [cond_true] at h
          split at h
          · rename_i q hq
            cases hre : (q.rest.isEmpty && cs'.all tleaf) with
            | false => rw [hre] at h; cases h
            | true =>
              rw [hre] at h
              cases h
              have := parse_pk (s := s) hq hps
              exact ⟨by simp [this.nv, Sh.nv], this.nr, fun g' hg' => by
                rcases List.mem_cons.1 hg' with rfl | hg'
                · exact ⟨_, _, hg⟩
                · exact this.vs g' hg', this.rs, this.pk⟩
          · cases h
      · cases h
    · cases h
  | .unit, cs, p, h, hps => by
    simp only [parse, Option.some.injEq] at h
    subst h
    exact ⟨rfl, rfl, by simp, by simp, .nil⟩
  | .pair a b, cs, p, h, hps => by
    simp only [parse] at h
    split at h
    · rename_i p1 hp1
      split at h
      · rename_i q1 hq1
        cases h
        have h1 := parse_pk hp1 fun q hq => hps q (List.mem_append.2 (.inl hq))
        have h2 := parse_pk hq1 fun q hq => hps q (List.mem_append.2 (.inr hq))
        exact ⟨by simp [h1.nv, h2.nv, Sh.nv], by simp [h1.nr, h2.nr, Sh.nr], fun g hg => (List.mem_append.1 hg).elim (h1.vs g) (h2.vs g), fun g hg => (List.mem_append.1 hg).elim (h1.rs g) (h2.rs g), h1.pk.app h2.pk⟩
      · cases h
    · cases h
  | .agg s, cs, p, h, hps => by
    simp only [parse] at h
    split at h
    · split at h
      · rename_i q hq
        cases hre : q.rest.isEmpty with
        | false => rw [hre] at h; cases h
        | true =>
          rw [hre] at h
          cases h
          have := parse_pk (s := s) hq hps
          exact ⟨this.nv, this.nr, this.vs, this.rs, this.pk⟩
      · cases h
    · cases h
  | .tup s, cs, p, h, hps => by
    simp only [parse] at h
    split at h
    · split at h
      · rename_i q hq
        cases hre : q.rest.isEmpty with
        | false => rw [hre] at h; cases h
        | true =>
          rw [hre] at h
          cases h
          have := parse_pk (s := s) hq hps
          exact ⟨this.nv, this.nr, this.vs, this.rs, this.pk⟩
      · cases h
    · cases h
  | .fn f s, cs, p, h, hps => by
    simp only [parse] at h
    split at h
    · rename_i f' cs' r
      cases hf : Nat.beq f' f with
      | false => rw [hf] at h; cases h
      | true =>
        rw [hf] at h
        simp only [cond_true] at h
        split at h
        · rename_i q hq
          cases hre : q.rest.isEmpty with
          | false => rw [hre] at h; cases h
          | true =>
            rw [hre] at h
            cases h
            have := parse_pk (s := s) hq hps
            exact ⟨this.nv, this.nr, this.vs, this.rs, this.pk⟩
        · cases h
    · cases h
  | .any, cs, p, h, hps => by
    simp only [parse] at h
    split at h
    · cases h
      exact ⟨rfl, rfl, by simp, by simp, .nil⟩
    · cases h

theorem denB_free {B : Nat → TB} {b : TB} : denB B b = .free ↔ b = .free := by cases b <;> simp [denB]

/-- The names that a callee gives to what it is handed. -/
def rhoOf (n : Nat) (vs rs : List Nat) (g : Nat) : Nat := if g < n then vs.getD g 0 else rs.getD (g - n) 0
theorem rho_mem {n : Nat} {vs rs : List Nat} (hv : vs.length = n) {g : Nat} (hg : g < n + rs.length) : (g < n ∧ vs[g]? = some (rhoOf n vs rs g)) ∨ (n ≤ g ∧ rs[g - n]? = some (rhoOf n vs rs g)) := by
  unfold rhoOf
  by_cases h : g < n
  · have := List.getElem?_eq_getElem (l := vs) (i := g) (by omega)
    rw [if_pos h, List.getD_eq_getElem?_getD, this]
    exact .inl ⟨h, rfl⟩
  · have := List.getElem?_eq_getElem (l := rs) (i := g - n) (by omega)
    rw [if_neg h, List.getD_eq_getElem?_getD, this]
    exact .inr ⟨by omega, rfl⟩
theorem rho_inj {n : Nat} {vs rs : List Nat} (hv : vs.length = n) (hn : (vs ++ rs).Nodup) {g g' : Nat} (hg : g < n + rs.length) (hg' : g' < n + rs.length) (h : rhoOf n vs rs g = rhoOf n vs rs g') : g = g' := by
  have key : ∀ q, q < n + rs.length → (vs ++ rs)[q]? = some (rhoOf n vs rs q) := fun q hq => by
    rcases rho_mem hv hq with ⟨h1, h2⟩ | ⟨h1, h2⟩
    · rw [List.getElem?_append_left (by omega)]; exact h2
    · rw [List.getElem?_append_right (by omega), hv]; exact h2
  have h1 := key g hg
  have h2 := key g' hg'
  rw [← h] at h2
  obtain ⟨l1, e1⟩ := List.getElem?_eq_some_iff.1 h1
  obtain ⟨l2, e2⟩ := List.getElem?_eq_some_iff.1 h2
  exact (List.getElem_inj (h₀ := l1) (h₁ := l2) hn).1 (e1.trans e2.symm)
theorem rho_in {n : Nat} {vs rs : List Nat} (hv : vs.length = n) {g : Nat} (hg : g < n + rs.length) : rhoOf n vs rs g ∈ vs ++ rs := by
  rcases rho_mem hv hg with ⟨_, h2⟩ | ⟨_, h2⟩
  · exact List.mem_append.2 (.inl (List.mem_of_getElem? h2))
  · exact List.mem_append.2 (.inr (List.mem_of_getElem? h2))
theorem range_getD {n i : Nat} (h : i < n) : (List.range n).getD i 0 = i := by
  rw [List.getD_eq_getElem?_getD, List.getElem?_range h]; rfl

section
variable {P : Program} {nt : Nat} {o : Oper} {σ : TS}

def argsOf (o : Oper) (f : Operand) (as' : Array Operand) : List Operand := f :: as'.toList

/-- A parse, seen from a state that agrees with it, once all is frozen that is to be. -/
theorem mid_of {α : Type} {B B' : Nat → TB} {p : PR α} (hok : p.okB = true) (hpk : PkOk B p.rb p.fz) (ha : ∀ g ∈ p.vs ++ p.rs ++ p.rb ++ p.ln, B' g = B g) : FrzOk B' p.fz ∧ Mid B (tupsOf B' p.fz) p := by
  simp only [PR.okB, Bool.and_eq_true] at hok
  obtain ⟨hf', hfz⟩ := hpk.rd.fz hpk.fzo hpk.sub (B' := B') fun g hg => ha g (by simp [hg])
  refine ⟨hf', fun g hg => ?_, hfz, fun g hg => ?_⟩
  · rw [tupsOf_out _ _ _ (apartL_spec hok.1.2 g hg)]
    exact ha g (by simp only [List.mem_append] at hg ⊢; rcases hg with hg | hg <;> simp [hg])
  · by_cases hm : g ∈ p.fz.map (·.1)
    · obtain ⟨q, hq, rfl⟩ := List.mem_map.1 hm
      obtain ⟨T, e, l, h1, h2⟩ := hpk.fzo q hq
      exact .inr ⟨T, e, l, h1, (tups_frz hf' hq).trans h2⟩
    · rw [tupsOf_out _ _ _ hm]
      exact .inl (ha g (by simp [hg]))

theorem kn_of {c : Cx} {U : Nat → Prop} {B : Nat → TB} {E : Env} {w : World} (h : Mem c U (fun g => denB B (B g)) E w) {g : Nat} (hg : B g ≠ .free) : E.kn g := by
  have hb := h.blk g
  cases hq : B g with
  | row T e l => rw [hq] at hb; exact hb.1
  | frz T l => rw [hq] at hb; exact hb
  | var e cs => rw [hq] at hb; exact hb.1
  | mp k m => rw [hq] at hb; exact hb.1
  | dead n => rw [hq] at hb; exact hb
  | free => exact absurd hq hg

/-- Where a caller's names come from. -/
noncomputable def srcOf (vs : List Nat) (n k m : Nat) (g : Nat) : Option Nat :=
  open Classical in if h : ∃ i, vs[i]? = some g then some h.choose else if k ≤ g ∧ g < k + m then some (n + (g - k)) else none
theorem srcOf_vs {vs : List Nat} {n k m g i : Nat} (hn : vs.Nodup) (h : vs[i]? = some g) : srcOf vs n k m g = some i := by
  unfold srcOf
  have hex : ∃ i, vs[i]? = some g := ⟨i, h⟩
  rw [dif_pos hex]
  congr 1
  have h2 := hex.choose_spec
  obtain ⟨l1, e1⟩ := List.getElem?_eq_some_iff.1 h
  obtain ⟨l2, e2⟩ := List.getElem?_eq_some_iff.1 h2
  exact (List.getElem_inj (h₀ := l2) (h₁ := l1) hn).1 (e2.trans e1.symm)
theorem srcOf_new {vs : List Nat} {n k m j : Nat} (h : k + j ∉ vs) (hj : j < m) : srcOf vs n k m (k + j) = some (n + j) := by
  unfold srcOf
  rw [dif_neg (fun ⟨i, hi⟩ => h (List.mem_of_getElem? hi)), if_pos (by omega), Nat.add_sub_cancel_left]
theorem srcOf_some {vs : List Nat} {n k m g i : Nat} (h : srcOf vs n k m g = some i) : vs[i]? = some g ∨ (∃ j, j < m ∧ g = k + j ∧ i = n + j ∧ g ∉ vs) := by
  unfold srcOf at h
  split at h
  · rename_i hex
    cases h
    exact .inl hex.choose_spec
  · rename_i hex
    split at h
    · rename_i hk
      cases h
      exact .inr ⟨g - k, by omega, by omega, rfl, fun hg => by obtain ⟨i, hi⟩ := List.getElem?_of_mem hg; exact hex ⟨i, hi⟩⟩
    · cases h
theorem srcOf_none {vs : List Nat} {n k m g : Nat} (h : srcOf vs n k m g = none) : g ∉ vs ∧ ¬ (k ≤ g ∧ g < k + m) := by
  unfold srcOf at h
  split at h
  · cases h
  · rename_i hex
    split at h
    · cases h
    · rename_i hk
      exact ⟨fun hg => by obtain ⟨i, hi⟩ := List.getElem?_of_mem hg; exact hex ⟨i, hi⟩, hk⟩

theorem T.call {S : Spec} {p : PR S.sig.V} {f : FuncId} {xs : List TV} {rt : List Nat} {k : Nat} {r1 : TV} {rs1 : List TV} (hS : SC P f S)
    (hrun : ∀ (c : Cx) (U : Nat → Prop) (E : Env) (a : Act) (w : World) (σ' : TS), TRel c U nt σ' E a w → (∀ t ∈ rt, σ'.tmp t = σ.tmp t) → ∃ vals : List Value, (execOp a.eval o).run P w = .ok (.enter f vals.toArray) w ∧ vals.length = xs.length ∧ ∀ (i : Nat) (x : TV) (v : Value), xs[i]? = some x → vals[i]? = some v → VA E w (Fof E σ'.den.blk) U c.heap.size (denV σ'.blk x) v)
    (hp : parse σ.blk true S.sig xs = some p) (hok : p.okB = true) (hps : ∀ q ∈ p.ps, q) (hpre : S.pre p.x) (hnv : S.fin.nv = S.sig.nv) (hsok : S.sig.ok = true) (hfok : S.fin.ok = true) (hfl : S.fin.noLent = true)
    (hfree : ((List.range' k S.fin.nr).all fun g => (σ.blk g).isFree) = true) (hhd : (unparse p.vs S.fin (S.fn p.x) 0 k).cs = r1 :: rs1) (h64 : S.sig.nv ≤ 64) (hd : dstOk o nt = true) :
    TDoesB P nt o σ ⟨rt, p.vs ++ p.rs ++ p.rb ++ p.ln ++ List.range' k S.fin.nr, r1, p.fz ++ (p.rs.map (fun g => (g, .dead (σ.blk g).len)) ++ (unparse p.vs S.fin (S.fn p.x) 0 k).bs)⟩ := fun σ' ha c U E a w NN Q hr hN => by
  have pk := parse_pk hp hps
  have hok' := hok
  simp only [PR.okB, Bool.and_eq_true] at hok'
  have hnd := nodupB_ok hok'.1.1.2
  have hagree : ∀ g ∈ p.vs ++ p.rs ++ p.rb ++ p.ln, σ'.blk g = σ.blk g := fun g hg => ha.2 g (List.mem_append.2 (.inl hg))
  have hfr : ∀ j, j < S.fin.nr → σ.blk (k + j) = .free := fun j hj => TB.isFree_eq (List.all_eq_true.1 hfree (k + j) (by simp; omega))
  have hfr' : ∀ j, j < S.fin.nr → σ'.blk (k + j) = .free := fun j hj => (ha.2 (k + j) (List.mem_append.2 (.inr (by simp; omega)))).trans (hfr j hj)
  obtain ⟨hf', hmid⟩ := mid_of hok pk.pk hagree
  -- freeze
  generalize hB1 : tupsOf σ'.blk p.fz = B1 at hmid
  have hr1 : TRel c U nt ⟨σ'.tmp, B1⟩ E a w := by rw [← hB1]; exact hr.frzs hf'
  obtain ⟨vals, hexec, hvl, hva⟩ := hrun c U E a w ⟨σ'.tmp, B1⟩ hr1 (fun t ht => ha.1 t ht)
  have hm1 : Mem c U (fun g => denB B1 (B1 g)) E w := hr1.mem
  have hwf := hr1.wf
  have hB1v : ∀ g ∈ p.vs, ∃ e cs, B1 g = .var e cs := fun g hg => by
    obtain ⟨e, cs, h1⟩ := pk.vs g hg
    exact ⟨e, cs, (hmid.keep g (List.mem_append.2 (.inl hg))).trans h1⟩
  have hB1r : ∀ g ∈ p.rs, Rowy (σ.blk g) ∧ B1 g = σ.blk g := fun g hg => ⟨pk.rs g hg, hmid.keep g (List.mem_append.2 (.inr hg))⟩
  have hB1f : ∀ j, j < S.fin.nr → B1 (k + j) = .free := fun j hj => by
    rw [← hB1, tupsOf_out _ _ _ (fun hm => by
      obtain ⟨q, hq, he⟩ := List.mem_map.1 hm
      obtain ⟨T, e, l, h1, _⟩ := hf' q hq
      rw [he, hfr' j hj] at h1
      cases h1)]
    exact hfr' j hj
  -- the callee's state
  have hRv : ∀ (i g : Nat), p.vs[i]? = some g → (((List.range S.sig.nv).getD (0 + i) 0) < S.sig.nv + p.rs.length ∧ rhoOf S.sig.nv p.vs p.rs ((List.range S.sig.nv).getD (0 + i) 0) = g) := fun i g hi => by
    have hlt : i < S.sig.nv := by rw [← pk.nv]; exact (List.getElem?_eq_some_iff.1 hi).1
    rw [Nat.zero_add, range_getD hlt]
    refine ⟨by omega, ?_⟩
    unfold rhoOf
    rw [if_pos hlt, List.getD_eq_getElem?_getD, hi]; rfl
  have hRr : ∀ (j g : Nat), p.rs[j]? = some g → (S.sig.nv + j < S.sig.nv + p.rs.length ∧ rhoOf S.sig.nv p.vs p.rs (S.sig.nv + j) = g) := fun j g hj => by
    have hlt := (List.getElem?_eq_some_iff.1 hj).1
    refine ⟨by omega, ?_⟩
    unfold rhoOf
    rw [if_neg (by omega), Nat.add_sub_cancel_left, List.getD_eq_getElem?_getD, hj]; rfl
  have hinN : ((S.inU p.x).bs.map (·.1)).Nodup := unparse_nodup _ S.sig p.x 0 S.sig.nv S.sig.nv 0 ⟨fun i j hi hj h => by rwa [range_getD hi, range_getD hj] at h, fun i hi => by rw [range_getD hi]; omega⟩ (Nat.zero_le _) (by omega)
  obtain ⟨_, _, _, pre, hxs, hcv, hbs⟩ := parse_ok (B := σ.blk) (B1 := B1) (B2 := bsOf (S.inU p.x).bs) (ld := true) (R := fun g g' => g' < S.sig.nv + p.rs.length ∧ rhoOf S.sig.nv p.vs p.rs g' = g) (al := fun _ => True) (fz := fun _ => False) (ln := fun g => g ∈ p.ln) trivial (fun _ => trivial)
    (vs := List.range S.sig.nv) (v := 0) (k := S.sig.nv) hp hps hmid hRv hRr (fun g hg => hg) (fun q hq => tups_in _ _ hinN q hq)
  rw [isEmpty_nil hok'.1.1.1, List.append_nil] at hxs
  subst hxs
  have hand : Hand (fun g => denB B1 (B1 g)) (rhoOf S.sig.nv p.vs p.rs) (fun g => g < S.sig.nv + p.rs.length) (fun g => denB (bsOf (S.inU p.x).bs) (bsOf (S.inU p.x).bs g)) (fun g => g ∈ p.ln) (· < S.sig.nv) := by
    refine ⟨fun g hg => ?_, fun g hg => ?_, fun g g' hg hg' _ _ h => rho_inj pk.nv hnd hg hg' h, fun g hg g' hg' h => ?_, fun g hg => Nat.lt_of_lt_of_le hg h64, fun g hg => ⟨by omega, ?_⟩⟩
    · have hmem : g ∈ (S.inU p.x).bs.map (·.1) := (unparse_names _ g S.sig p.x 0 S.sig.nv).2 (by
        by_cases h : g < S.sig.nv
        · exact .inl ⟨g, h, by rw [Nat.zero_add, range_getD h]⟩
        · exact .inr ⟨by omega, by rw [← pk.nr]; exact hg⟩)
      obtain ⟨q, hq, rfl⟩ := List.mem_map.1 hmem
      obtain ⟨g0, ⟨h1, h2⟩, h3, h4⟩ := hbs q hq
      have h5 := tups_in _ (fun _ => .free) hinN q hq
      show BCv _ _ _ _ _ (denB B1 (B1 (rhoOf S.sig.nv p.vs p.rs q.1))) (denB _ (bsOf (S.inU p.x).bs q.1))
      rw [h2, show bsOf (S.inU p.x).bs q.1 = q.2 from h5]
      rcases h4 with ⟨h6, h7⟩ | ⟨e, cs1, cs2, h6, h7, h8, h9, h10⟩
      · rw [hmid.keep g0 (List.mem_append.2 (.inr h6))]
        exact h7.bcv _ _
      · rw [(hmid.keep g0 (List.mem_append.2 (.inl h6))).trans h7, h8]
        exact .var h10.1 (by rw [leaves_den]; exact unparse_varleaf _ S.sig p.x 0 S.sig.nv hsok q hq e cs2 h8) h10.2
    · rw [bsOf_out (fun hm => by
        rcases (unparse_names _ g S.sig p.x 0 S.sig.nv).1 hm with ⟨i, h1, h2⟩ | h1
        · rw [Nat.zero_add, range_getD h1] at h2; omega
        · have := pk.nr; omega)]
      rfl
    · have := rho_in pk.nv hg'
      rw [h] at this
      exact absurd hg (apartL_spec hok'.2 g this)
    · rcases rho_mem pk.nv (rs := p.rs) (show g < S.sig.nv + p.rs.length by omega) with ⟨_, h2⟩ | ⟨h1, _⟩
      · obtain ⟨e, cs, h3⟩ := hB1v _ (List.mem_of_getElem? h2)
        simp only [h3, denB]; simp
      · omega
  have hmem2 := hand.mem hm1
  have hcalls := hS hnv p.x hpre w _ _ vals hmem2 (fun g hg => by
    obtain ⟨h1, h2⟩ := hand.pn g hg
    exact ⟨h1, kn_of hm1 (fun h => h2 (by simp only [h]; rfl))⟩) (by
    have h1 := hcv.1
    rw [denVs_map, denVs_map, List.length_map, List.length_map] at h1
    rw [List.length_map, hvl]; exact h1) (fun i x v hx hv => by
    have hlt : i < xs.length := by rw [← hvl]; exact (List.getElem?_eq_some_iff.1 hv).1
    have h1 := hva i xs[i] v (List.getElem?_eq_getElem hlt) hv
    have h2 := hcv.2 i (denV B1 xs[i]) x (by rw [denVs_map, List.getElem?_map, List.getElem?_eq_getElem hlt]; rfl) (by rw [denVs_map]; exact hx)
    exact (hand.recast hm1).tr.va h2 h1)
  unfold Oper.wp
  rw [hexec]
  show Calls P f vals.toArray w _
  refine hcalls.mono fun e w' ⟨r, B', v, E', ⟨hrr, hB'⟩, he, hm', hvr⟩ => ?_
  subst hrr hB' he
  have hvsn : p.vs.Nodup := (List.nodup_append.1 hnd).1
  have hnew : ∀ j, j < S.fin.nr → k + j ∉ p.vs := fun j hj hg => by
    obtain ⟨e, cs, h1⟩ := hB1v _ hg
    rw [hB1f j hj] at h1; cases h1
  have hvget : ∀ i, i < p.vs.length → p.vs[i]? = some (p.vs.getD i 0) := fun i hi => by
    rw [List.getD_eq_getElem?_getD, List.getElem?_eq_getElem hi]; rfl
  have hu2 : ((unparse p.vs S.fin (S.fn p.x) 0 k).bs.map (·.1)).Nodup := unparse_nodup _ S.fin _ 0 k S.fin.nv 0 ⟨fun i j hi hj h => by
      have hl := pk.nv
      have h1 := hvget i (by omega)
      have h2 := hvget j (by omega)
      rw [h] at h1
      obtain ⟨l1, e1⟩ := List.getElem?_eq_some_iff.1 h1
      obtain ⟨l2, e2⟩ := List.getElem?_eq_some_iff.1 h2
      exact (List.getElem_inj (h₀ := l1) (h₁ := l2) hvsn).1 (e1.trans e2.symm), fun i hi => by
      have hl := pk.nv
      have hmv := List.mem_of_getElem? (hvget i (by omega))
      refine Classical.byContradiction fun hc => ?_
      refine hnew (p.vs.getD i 0 - k) (by omega) ?_
      rw [show k + (p.vs.getD i 0 - k) = p.vs.getD i 0 by omega]
      exact hmv⟩ (Nat.zero_le _) (by omega)
  have hu2n : ∀ g, g ∈ (unparse p.vs S.fin (S.fn p.x) 0 k).bs.map (·.1) ↔ g ∈ p.vs ∨ (k ≤ g ∧ g < k + S.fin.nr) := fun g => by
    rw [unparse_names]
    refine or_congr ⟨fun ⟨i, h1, h2⟩ => ?_, fun hg => ?_⟩ Iff.rfl
    · rw [h2, Nat.zero_add]; exact List.mem_of_getElem? (hvget i (by rw [pk.nv]; omega))
    · obtain ⟨i, hi⟩ := List.getElem?_of_mem hg
      refine ⟨i, by have := (List.getElem?_eq_some_iff.1 hi).1; rw [pk.nv] at this; omega, ?_⟩
      rw [Nat.zero_add, List.getD_eq_getElem?_getD, hi]; rfl
  generalize hups : p.rs.map (fun g => (g, TB.dead (σ.blk g).len)) ++ (unparse p.vs S.fin (S.fn p.x) 0 k).bs = ups at hN
  have hupn : (ups.map (·.1)).Nodup := by
    rw [← hups, List.map_append, List.map_map]
    refine List.nodup_append.2 ⟨by simpa [Function.comp_def] using (List.nodup_append.1 hnd).2.1, hu2, fun x hx y hy e => ?_⟩
    subst e
    have hx' : x ∈ p.rs := by simpa [Function.comp_def] using hx
    rcases (hu2n x).1 hy with h1 | h1
    · exact (List.nodup_append.1 hnd).2.2 x h1 x hx' rfl
    · obtain ⟨h1, h2⟩ := hB1r x hx'
      have := hB1f (x - k) (by omega)
      rw [show k + (x - k) = x by omega, h2] at this
      exact h1.ne this
  have hturn : ∀ q ∈ ups, Turn (B1 q.1) q.2 := fun q hq => by
    rw [← hups] at hq
    rcases List.mem_append.1 hq with hq | hq
    · obtain ⟨g, hg, rfl⟩ := List.mem_map.1 hq
      obtain ⟨h1, h2⟩ := hB1r g hg
      rw [h2]
      exact h1.turn
    · have hmem : q.1 ∈ (unparse p.vs S.fin (S.fn p.x) 0 k).bs.map (·.1) := List.mem_map.2 ⟨q, hq, rfl⟩
      rcases (hu2n q.1).1 hmem with h1 | h1
      · obtain ⟨e, cs, h2⟩ := hB1v _ h1
        rw [h2]
        rcases unparse_kind p.vs S.fin (S.fn p.x) 0 k q hq with ⟨e', cs', h3, _⟩ | ⟨_, h4, h5⟩
        · rw [h3]; exact .var
        · exact absurd (by rw [show k + (q.1 - k) = q.1 by omega]; exact h1) (hnew (q.1 - k) (by omega))
      · have := hB1f (q.1 - k) (by omega)
        rw [show k + (q.1 - k) = q.1 by omega] at this
        rw [this]
        exact .new
  have hden : ∀ x : TV, (∀ g ∈ x.nm, B1 g ≠ .free) → denV (tupsOf B1 ups) x = denV B1 x := fun x hx => denV_congr x fun g hg => tups_den hturn hupn g (hx g hg)
  have hdens : ∀ l : List TV, (∀ g ∈ TV.nms l, B1 g ≠ .free) → denVs (tupsOf B1 ups) l = denVs B1 l := fun l hx => denVs_congr l fun g hg => tups_den hturn hupn g (hx g hg)
  have hBn : ∀ g, g ∉ p.vs → ¬ (k ≤ g ∧ g < k + S.fin.nr) → g ∉ p.rs → tupsOf B1 ups g = B1 g := fun g h1 h2 h3 => tupsOf_out _ _ _ (by
    rw [← hups, List.map_append, List.map_map, List.mem_append, hu2n]
    rintro (h | h | h)
    · exact h3 (by simpa [Function.comp_def] using h)
    · exact h1 h
    · exact h2 h)
  have hBu : ∀ q ∈ (unparse p.vs S.fin (S.fn p.x) 0 k).bs, tupsOf B1 ups q.1 = q.2 := fun q hq => tups_in _ _ hupn q (by rw [← hups]; exact List.mem_append.2 (.inr hq))
  have hoN : ((S.outU (S.fn p.x)).bs.map (·.1)).Nodup := unparse_nodup _ S.fin _ 0 S.sig.nv S.fin.nv 0 ⟨fun i j hi hj h => by rwa [range_getD (by omega), range_getD (by omega)] at h, fun i hi => by rw [range_getD (by omega)]; omega⟩ (Nat.zero_le _) (by omega)
  have hsrcv : ∀ i, i < S.fin.nv → srcOf p.vs S.sig.nv k S.fin.nr (p.vs.getD (0 + i) 0) = some ((List.range S.sig.nv).getD (0 + i) 0) := fun i hi => by
    rw [Nat.zero_add, range_getD (by omega)]
    exact srcOf_vs hvsn (hvget i (by rw [pk.nv]; omega))
  have hsrcr : ∀ j, j < S.fin.nr → srcOf p.vs S.sig.nv k S.fin.nr (k + j) = some (S.sig.nv + j) := fun j hj => srcOf_new (hnew j hj) hj
  obtain ⟨cv1, cv2⟩ := unparse_cv (al := fun o => o = false) (B := bsOf (S.outU (S.fn p.x)).bs) (C := tupsOf B1 ups) (R := fun i g => srcOf p.vs S.sig.nv k S.fin.nr g = some i) (D := fun g => denB (bsOf (S.outU (S.fn p.x)).bs) (bsOf (S.outU (S.fn p.x)).bs g)) (fz := fun _ => False) (ln := fun _ => False) rfl
    S.fin (S.fn p.x) 0 S.sig.nv 0 k hfl hfok hsrcv hsrcr (fun q hq => tups_in _ _ hoN q hq) hBu
  have back : Back (fun g => denB B1 (B1 g)) (rhoOf S.sig.nv p.vs p.rs) (fun g => g < S.sig.nv + p.rs.length) (fun g => denB (bsOf (S.inU p.x).bs) (bsOf (S.inU p.x).bs g)) (· < S.sig.nv)
      (fun g => denB (bsOf (S.outU (S.fn p.x)).bs) (bsOf (S.outU (S.fn p.x)).bs g)) (srcOf p.vs S.sig.nv k S.fin.nr) (fun g => denB (tupsOf B1 ups) (tupsOf B1 ups g)) := by
    refine ⟨fun g hs => ?_, fun g i hs => ?_, fun g g' i h1 h2 _ _ => ?_, fun g i hs => ?_⟩
    · obtain ⟨h1, h2⟩ := srcOf_none hs
      by_cases h3 : g ∈ p.rs
      · refine .inr ⟨?_, ?_⟩
        · have : tupsOf B1 ups g = .dead (σ.blk g).len := tups_in _ _ hupn (g, .dead (σ.blk g).len) (by rw [← hups]; exact List.mem_append.2 (.inl (List.mem_map.2 ⟨g, h3, rfl⟩)))
          simp only [this]; rfl
        · obtain ⟨h4, h5⟩ := hB1r g h3
          show denB B1 (B1 g) ≠ _
          rw [h5]
          exact (h4.den _).1
      · refine .inl ⟨?_, fun g' hg' hg2 => ?_⟩
        · rw [hBn g h1 h2 h3]
          cases hq : B1 g with
          | row | frz | dead | free | mp => rfl
          | var e cs => simp only [denB]; rw [hdens cs fun q hq' => hwf.var g e cs hq q hq']
        · have := rho_in pk.nv hg'
          rw [hg2] at this
          exact absurd this (by simp [h1, h3])
    · refine cv2 i g ?_
      rcases srcOf_some hs with h1 | ⟨j, h1, h2, h3, _⟩
      · have hil : i < S.fin.nv := by have := (List.getElem?_eq_some_iff.1 h1).1; rw [pk.nv] at this; omega
        exact .inl ⟨i, hil, by rw [Nat.zero_add, range_getD (by omega)], by rw [Nat.zero_add, List.getD_eq_getElem?_getD, h1]; rfl⟩
      · exact .inr ⟨j, h1, h3, h2⟩
    · rcases srcOf_some h1 with h3 | ⟨j, q1, q2, q3, _⟩
      · rcases srcOf_some h2 with h4 | ⟨j', r1, r2, r3, _⟩
        · rw [h3] at h4; exact Option.some.inj h4
        · have := (List.getElem?_eq_some_iff.1 h3).1
          rw [pk.nv] at this
          omega
      · rcases srcOf_some h2 with h4 | ⟨j', r1, r2, r3, _⟩
        · have := (List.getElem?_eq_some_iff.1 h4).1
          rw [pk.nv] at this
          omega
        · omega
    · rcases srcOf_some hs with h1 | ⟨j, h1, h2, h3, _⟩
      · have hil := (List.getElem?_eq_some_iff.1 h1).1
        rw [pk.nv] at hil
        refine .inl ⟨hil, ?_⟩
        unfold rhoOf
        rw [if_pos hil, List.getD_eq_getElem?_getD, h1]; rfl
      · refine .inr ?_
        simp only [h2, hB1f j h1]; rfl
  obtain ⟨hm3, tr, hold⟩ := back.join hand hm1 hm'
  have hcvh : Cv (fun g => denB (bsOf (S.outU (S.fn p.x)).bs) (bsOf (S.outU (S.fn p.x)).bs g)) (fun i g => srcOf p.vs S.sig.nv k S.fin.nr g = some i) (fun o => o = false) (fun _ => False) (fun _ => False) (denV (bsOf (S.outU (S.fn p.x)).bs) ((S.outU (S.fn p.x)).cs.headD .und)) (denV (tupsOf B1 ups) r1) := by
    have hl := cv1.1
    rw [hhd, denVs_map, denVs_map, List.length_map, List.length_map] at hl
    cases ho : (S.outU (S.fn p.x)).cs with
    | nil => rw [show (unparse (List.range S.sig.nv) S.fin (S.fn p.x) 0 S.sig.nv).cs = [] from ho] at hl; simp at hl
    | cons q qs =>
      refine cv1.2 0 _ _ ?_ (by rw [hhd]; rfl)
      rw [show (unparse (List.range S.sig.nv) S.fin (S.fn p.x) 0 S.sig.nv).cs = q :: qs from ho]
      rfl
  have hres := tr.va hcvh hvr
  have hrel : TRel c U nt ⟨σ'.tmp, tupsOf B1 ups⟩ (E.join3 E' (srcOf p.vs S.sig.nv k S.fin.nr)) a w' := ⟨hm3, hr1.size, hr1.mem.dfr hr1.defers (fun b hb hnf => hm'.below.keep b hb fun hh => by
    obtain ⟨g', _, q1, _, q2⟩ := hand.hot hh
    exact hnf ⟨_, q1, q2⟩), fun t => by
    have h1 := hold _ _ (hr1.tmp t)
    show VA _ _ _ _ _ (denV (tupsOf B1 ups) (σ'.tmp t)) _
    rw [hden _ fun g hg => hwf.tmp t g hg]
    exact h1⟩
  have hfin := TRel.put hrel (dstOk_lt hd) hres
  have e2 : σ'.step o.dst ⟨r1, p.fz ++ ups⟩ = (TS.mk σ'.tmp (tupsOf B1 ups)).step o.dst ⟨r1, []⟩ := by
    unfold TS.step
    rw [tupsOf_app, hB1]
    rfl
  rw [← e2] at hfin
  exact hN _ _ _ hfin
end
end Go.Proofs.Ytmkfpfnjimmmaaa
