/- The walk, computed, is a walk: code as a whole. Nothing of the dump stands here. -/
import Derived.Test.YtmkfpfnjimmmaaaVM
namespace Go.Proofs.Ytmkfpfnjimmmaaa
open Go.RowKit
set_option linter.unusedVariables false
set_option linter.unusedSimpArgs false

section
variable {P : Program} {Δ : List (FuncId × Spec)} {nt : Nat} {ann : Nat → Option LA}

theorem TAw.tell {c : Code} {AQ AQ' : Exit → TS → Prop} {σ : TS} (h : TAw P nt c AQ σ) (ht : ∀ e σ', AQ e σ' → ∃ σ'', Ent nt σ' σ'' ∧ AQ' e σ'') : TAw P nt c AQ' σ := fun r n w0 U E a w hr =>
  wpIn_mono (h r n w0 U E a w hr) fun e a' w' ⟨σ', E', h1, h2⟩ => by
    obtain ⟨σ'', h3, h4⟩ := ht e σ' h2
    obtain ⟨E'', h5⟩ := h3 _ _ _ _ _ h1
    exact ⟨σ'', E'', h5, h4⟩
theorem Ent.refl (σ : TS) : Ent nt σ σ := fun c U E a w h => ⟨E, h⟩
theorem Ent.trans {σ σ1 σ2 : TS} (h1 : Ent nt σ σ1) (h2 : Ent nt σ1 σ2) : Ent nt σ σ2 := fun c U E a w h => by
  obtain ⟨E1, q1⟩ := h1 c U E a w h
  exact h2 c U E1 a w q1

theorem ent_adopt {σ : TS} {t k : Nat} {T : Ty} {e : TypeId} (ht : σ.tmp t = .nsl) (hk : σ.blk k = .free) (hpos : 0 < T.size) (hnt : t < nt) : Ent nt σ ⟨upd σ.tmp t (.own k), upd σ.blk k (.row T e [])⟩ := fun c U E a w hr => by
  have hwf := hr.wf
  have h1 := Rel.addNil (e := e) hr (g := k) (sz := T.size) (by show denB _ (σ.blk k) = _; rw [hk]; rfl) hpos
  have hden : ∀ x : TV, (∀ g ∈ x.nm, σ.blk g ≠ .free) → denV (upd σ.blk k (.row T e [])) x = denV σ.blk x := fun x hx => denV_turn (by rw [hk]; exact .new) fun hf hm => hx k hm hk
  have hdens : ∀ l : List TV, (∀ g ∈ TV.nms l, σ.blk g ≠ .free) → denVs (upd σ.blk k (.row T e [])) l = denVs σ.blk l := fun l hx => denVs_turn (by rw [hk]; exact .new) fun hf hm => hx k hm hk
  have hblk : (TS.mk (upd σ.tmp t (.own k)) (upd σ.blk k (.row T e []))).den.blk = upd σ.den.blk k (.row T.size e []) := by
    funext g
    show denB (upd σ.blk k _) (upd σ.blk k _ g) = _
    by_cases hg : g = k
    · subst hg; rw [upd_same, upd_same]; rfl
    · rw [upd_other _ _ _ hg, upd_other _ _ _ hg]
      show _ = denB σ.blk (σ.blk g)
      cases hq : σ.blk g with
      | row | frz | dead | free | mp => rfl
      | var e' cs => simp only [denB]; rw [hdens cs fun q hq' => hwf.var g e' cs hq q hq']
  refine ⟨E.addNil k T.size, ?_⟩
  refine ⟨by rw [hblk]; exact h1.mem, h1.size, h1.defers, fun q => ?_⟩
  rw [hblk]
  show VA _ _ _ _ _ (denV (upd σ.blk k _) (upd σ.tmp t _ q)) _
  by_cases hq : q = t
  · subst hq
    rw [upd_same]
    have := hr.tmp q
    rw [show σ.den.tmp q = .nsl by show denV _ (σ.tmp q) = _; rw [ht]; rfl] at this
    generalize a.tmps.getD q undef = v at this
    cases this
    simp only [denV, upd_same, denO]
    exact .onil (.inl rfl) (upd_same _ _ _)
  · rw [upd_other _ _ _ hq, hden _ fun g hg => hwf.tmp q g hg]
    exact h1.tmp q

theorem nms_at : ∀ {cs : List TV} {i : Nat} {y : TV} {n : Nat}, cs[i]? = some y → n ∈ y.nm → n ∈ TV.nms cs
  | [], i, y, n, hy, _ => by simp at hy
  | z :: zs, 0, y, n, hy, hn => by
    obtain rfl : z = y := by simpa using hy
    exact List.mem_append.2 (.inl hn)
  | z :: zs, i + 1, y, n, hy, hn => List.mem_append.2 (.inr (nms_at (cs := zs) (i := i) (by simpa using hy) hn))
theorem ent_adoptV {σ : TS} {g k j : Nat} {T : Ty} {e ev : TypeId} {cs : List TV} (hg : σ.blk g = .var ev cs) (hj : cs[j]? = some .nsl) (hk : σ.blk k = .free) (hpos : 0 < T.size) (hne : g ≠ k) : Ent nt σ ⟨σ.tmp, upd (upd σ.blk k (.row T e [])) g (.var ev (cs.set j (.own k)))⟩ := fun c U E a w hr => by
  have hwf := hr.wf
  have h1 := Rel.addNil (e := e) hr (g := k) (sz := T.size) (by show denB _ (σ.blk k) = _; rw [hk]; rfl) hpos
  have hone : ∀ (q : Nat), σ.blk q ≠ .free → upd (upd σ.blk k (.row T e [])) g (.var ev (cs.set j (.own k))) q = σ.blk q ∨ denO q (upd (upd σ.blk k (.row T e [])) g (.var ev (cs.set j (.own k))) q) = denO q (σ.blk q) ∧ ∀ i n, denU q i n (upd (upd σ.blk k (.row T e [])) g (.var ev (cs.set j (.own k))) q) = denU q i n (σ.blk q) := fun q hq => by
    by_cases e1 : q = g
    · subst e1
      rw [upd_same, hg]
      exact .inr ⟨rfl, fun _ _ => rfl⟩
    · rw [upd_other _ _ _ e1]
      by_cases e2 : q = k
      · subst e2; exact absurd hk hq
      · rw [upd_other _ _ _ e2]; exact .inl rfl
  have hden : ∀ x : TV, (∀ q ∈ x.nm, σ.blk q ≠ .free) → denV (upd (upd σ.blk k (.row T e [])) g (.var ev (cs.set j (.own k)))) x = denV σ.blk x := fun x hx => denV_congr x fun q hq => hone q (hx q hq)
  have hdens : ∀ l : List TV, (∀ q ∈ TV.nms l, σ.blk q ≠ .free) → denVs (upd (upd σ.blk k (.row T e [])) g (.var ev (cs.set j (.own k)))) l = denVs σ.blk l := fun l hx => denVs_congr l fun q hq => hone q (hx q hq)
  have hblk : ∀ q, q ≠ g → (TS.mk σ.tmp (upd (upd σ.blk k (.row T e [])) g (.var ev (cs.set j (.own k))))).den.blk q = upd σ.den.blk k (.row T.size e []) q := fun q hq => by
    show denB _ (upd _ g _ q) = _
    rw [upd_other _ _ _ hq]
    by_cases hqk : q = k
    · subst hqk; rw [upd_same, upd_same]; rfl
    · rw [upd_other _ _ _ hqk, upd_other _ _ _ hqk]
      show _ = denB σ.blk (σ.blk q)
      cases hq' : σ.blk q with
      | row | frz | dead | free | mp => rfl
      | var e' cs' => simp only [denB]; rw [hdens cs' fun n hn => hwf.var q e' cs' hq' n hn]
  have hbg : (TS.mk σ.tmp (upd (upd σ.blk k (.row T e [])) g (.var ev (cs.set j (.own k))))).den.blk g = .var ev (denVs (upd (upd σ.blk k (.row T e [])) g (.var ev (cs.set j (.own k)))) (cs.set j (.own k))) := by
    show denB _ (upd _ g _ g) = _
    rw [upd_same]; rfl
  have hbg0 : upd σ.den.blk k (.row T.size e []) g = .var ev (denVs σ.blk cs) := by
    rw [upd_other _ _ _ hne]
    show denB σ.blk (σ.blk g) = _
    rw [hg]; rfl
  have hhot : ∀ q, Hot (E.addNil k T.size) q ((TS.mk σ.tmp (upd (upd σ.blk k (.row T e [])) g (.var ev (cs.set j (.own k))))).den.blk q) ↔ Hot (E.addNil k T.size) q (upd σ.den.blk k (.row T.size e []) q) := fun q => by
    by_cases hq : q = g
    · subst hq; rw [hbg, hbg0]; exact Iff.rfl
    · rw [hblk q hq]
  have hF : Fof (E.addNil k T.size) (TS.mk σ.tmp (upd (upd σ.blk k (.row T e [])) g (.var ev (cs.set j (.own k))))).den.blk = Fof (E.addNil k T.size) (upd σ.den.blk k (.row T.size e [])) := by
    funext b
    exact propext ⟨fun ⟨q, h2, h3⟩ => ⟨q, (hhot q).1 h2, h3⟩, fun ⟨q, h2, h3⟩ => ⟨q, (hhot q).2 h2, h3⟩⟩
  refine ⟨E.addNil k T.size, ⟨h1.mem.below, h1.mem.pins, fun q => ?_, fun q q' h2 h3 h4 => h1.mem.inj q q' ((hhot q).1 h2) ((hhot q').1 h3) h4⟩, h1.size, h1.defers, fun q => ?_⟩
  · rw [hF]
    by_cases hq : q = g
    · subst hq
      rw [hbg]
      have hb := h1.mem.blk q
      rw [show (St.blk {σ.den with blk := upd σ.den.blk k (.row T.size e [])}) q = _ from hbg0] at hb
      obtain ⟨q1, q2, cur, q3, q4, q5⟩ := hb
      refine ⟨q1, q2, cur, q3, by rw [q4, denVs_map, denVs_map, List.length_map, List.length_map, List.length_set], fun i x hx => ?_⟩
      rw [denVs_map, List.getElem?_map, List.getElem?_set] at hx
      by_cases hij : j = i
      · subst hij
        have hlt := (List.getElem?_eq_some_iff.1 hj).1
        rw [if_pos rfl, if_pos hlt] at hx
        obtain rfl : denV _ (.own k) = x := by simpa using hx
        obtain ⟨_, u, r1, r2⟩ := q5 j .nsl (by rw [denVs_map, List.getElem?_map, hj]; rfl)
        cases r2
        have : denV (upd (upd σ.blk k (.row T e [])) q (.var ev (cs.set j (.own k)))) (.own k) = .own k 0 0 := by
          simp only [denV]
          rw [upd_other _ _ _ (Ne.symm hne), upd_same]; rfl
        rw [this]
        exact ⟨rfl, _, r1, .onil (.inl rfl) (upd_same _ _ _)⟩
      · rw [if_neg hij] at hx
        obtain ⟨y, hy, rfl⟩ := Option.map_eq_some_iff.1 hx
        rw [hden y fun n hn => hwf.var q ev cs hg n (nms_at hy hn)]
        exact q5 i _ (by rw [denVs_map, List.getElem?_map, hy]; rfl)
    · rw [hblk q hq]
      exact h1.mem.blk q
  · rw [hF]
    show VA _ _ _ _ _ (denV _ (σ.tmp q)) _
    rw [hden _ fun n hn => hwf.tmp q n hn]
    exact h1.tmp q

theorem adoptK_ok {lk : Nat → Bool} : ∀ (ad : List (Nat × Ty × TypeId)) (σ : TS) (k : Nat) (K : TS → Nat → Prop), Fresh σ k → adoptK nt ad lk σ k K → ∃ σ1 k1, Ent nt σ σ1 ∧ k ≤ k1 ∧ Fresh σ1 k1 ∧ Fr lk (ad.map (·.1)) σ σ1 ∧ K σ1 k1
  | [], σ, k, K, hf, h => ⟨σ, k, .refl _, Nat.le_refl _, hf, .refl _ _ _, h⟩
  | (t, T, e) :: r, σ, k, K, hf, h => by
    have skip : adoptK nt r lk σ k K → ∃ σ1 k1, Ent nt σ σ1 ∧ k ≤ k1 ∧ Fresh σ1 k1 ∧ Fr lk (((t, T, e) :: r).map (·.1)) σ σ1 ∧ K σ1 k1 := fun h => by
      obtain ⟨σ1, k1, r1, r2, r3, r4, r5⟩ := adoptK_ok r σ k K hf h
      exact ⟨σ1, k1, r1, r2, r3, ⟨fun q hq => r4.tmp q (by simp only [List.map_cons, List.mem_cons, not_or] at hq; exact hq.2), r4.blk⟩, r5⟩
    simp only [adoptK] at h
    cases h1000 : Nat.blt t 1000 with
    | true =>
      rw [h1000, cond_true] at h
      split at h
      · rename_i ht
        obtain ⟨h1, h2⟩ := bif_t h
        simp only [Bool.and_eq_true, Bool.not_eq_true'] at h1
        obtain ⟨⟨⟨q1, q2⟩, q3⟩, q4⟩ := h1
        have hf1 : Fresh ⟨upd σ.tmp t (.own k), upd σ.blk k (.row T e [])⟩ (k + 1) := fun g hg => by
          show upd σ.blk k _ g = _
          rw [upd_other _ _ _ (by omega)]
          exact hf g (by omega)
        obtain ⟨σ1, k1, r1, r2, r3, r4, r5⟩ := adoptK_ok r _ (k + 1) K hf1 h2
        refine ⟨σ1, k1, (ent_adopt ht (TB.isFree_eq q2) (Nat.le_of_ble_eq_true q3) (Nat.le_of_ble_eq_true q1)).trans r1, by omega, r3, ⟨fun q hq => ?_, fun g hg => ?_⟩, r5⟩
        · simp only [List.map_cons, List.mem_cons, not_or] at hq
          rw [r4.tmp q hq.2]
          exact upd_other _ _ _ hq.1
        · rw [r4.blk g hg]
          exact upd_other _ _ _ (by rintro rfl; rw [q4] at hg; cases hg)
      · exact skip h
    | false =>
      rw [h1000, cond_false] at h
      split at h
      · rename_i g hp
        split at h
        · rename_i ev cs hg
          split at h
          · rename_i hj
            obtain ⟨h1, h2⟩ := bif_t h
            simp only [Bool.and_eq_true, Bool.not_eq_true'] at h1
            obtain ⟨⟨⟨⟨q2, q3⟩, q4⟩, q5⟩, q6⟩ := h1
            have hne : g ≠ k := by rintro rfl; simp at q6
            have hf1 : Fresh ⟨σ.tmp, upd (upd σ.blk k (.row T e [])) g (.var ev (cs.set (t / 1000 - 1) (.own k)))⟩ (k + 1) := fun q hq => by
              have hqg : q ≠ g := by
                rintro rfl
                have := hf q (by omega)
                rw [hg] at this; cases this
              show upd (upd σ.blk k _) g _ q = _
              rw [upd_other _ _ _ hqg, upd_other _ _ _ (by omega)]
              exact hf q (by omega)
            obtain ⟨σ1, k1, r1, r2, r3, r4, r5⟩ := adoptK_ok r _ (k + 1) K hf1 h2
            refine ⟨σ1, k1, (ent_adoptV hg hj (TB.isFree_eq q2) (Nat.le_of_ble_eq_true q3) hne).trans r1, by omega, r3, ⟨fun q hq => ?_, fun q hq => ?_⟩, r5⟩
            · simp only [List.map_cons, List.mem_cons, not_or] at hq
              exact r4.tmp q hq.2
            · rw [r4.blk q hq]
              show upd (upd σ.blk k _) g _ q = _
              rw [upd_other _ _ _ (by rintro rfl; rw [q5] at hq; cases hq), upd_other _ _ _ (by rintro rfl; rw [q4] at hq; cases hq)]
          · exact skip h
        · exact skip h
      · exact skip h

theorem Aft.to {lk : Nat → Bool} {D D1 D2 : List Nat} {σ σ1 σ2 : TS} {k k1 : Nat} {K : TS → Nat → Prop} (h : Aft lk D2 σ1 k1 K σ2) (hk : k ≤ k1) (hf : Fr lk D1 σ σ1) (hs1 : ∀ t ∈ D1, t ∈ D) (hs2 : ∀ t ∈ D2, t ∈ D) : Aft lk D σ k K σ2 := by
  obtain ⟨k', h1, h2, h3, h4⟩ := h
  exact ⟨k', Nat.le_trans hk h1, h2, hf.trans h3 hs1 hs2, h4⟩

theorem all_not {l : List Nat} {f : Nat → Bool} (h : l.all (fun g => !f g) = true) {g : Nat} (hg : g ∈ l) : f g = false := by
  have := List.all_eq_true.1 h g hg
  simpa using this

theorem any_mem {l : List Nat} {g : Nat} : l.any (Nat.beq g) = true ↔ g ∈ l := ⟨mem_beq, fun h => List.any_eq_true.2 ⟨g, h, by simp⟩⟩

/-- What stays the same through all rounds of a loop. -/
structure HeadOk (A : LA) (D : List Nat) (σ : TS) (p : PR A.sh.V) (k : Nat) : Prop where
  hp : parse σ.blk false A.sh (A.sl.map σ.tmp) = some p
  ok : p.okB = true
  ps : ∀ q ∈ p.ps, q
  sok : A.sh.ok = true
  sl : A.sl.Nodup
  k64 : 64 ≤ k
  fresh : Fresh σ k
  w1 : ∀ t, ∀ g ∈ (σ.tmp t).nm, g < k
  w2 : ∀ g e cs, σ.blk g = .var e cs → ∀ n ∈ TV.nms cs, n < k

theorem HeadOk.vk {A : LA} {D : List Nat} {σ : TS} {p : PR A.sh.V} {k : Nat} (h : HeadOk A D σ p k) : (∀ g ∈ p.vs, g < k) ∧ (∀ g ∈ p.rs, g < k) := by
  have pk := parse_pk h.hp h.ps
  refine ⟨fun g hg => ?_, fun g hg => ?_⟩
  · obtain ⟨e, cs, h1⟩ := pk.vs g hg
    exact Classical.byContradiction fun hc => by rw [h.fresh g (by omega)] at h1; cases h1
  · have h1 := pk.rs g hg
    exact Classical.byContradiction fun hc => h1.ne (h.fresh g (by omega))

theorem HeadOk.names {A : LA} {D : List Nat} {σ : TS} {p : PR A.sh.V} {k : Nat} (h : HeadOk A D σ p k) (v : A.sh.V) (g : Nat) : g ∈ (unparse p.vs A.sh v 0 k).bs.map (·.1) ↔ g ∈ p.vs ∨ (k ≤ g ∧ g < k + A.sh.nr) := by
  have pk := parse_pk h.hp h.ps
  rw [unparse_names]
  refine or_congr ⟨fun ⟨i, h1, h2⟩ => ?_, fun hg => ?_⟩ Iff.rfl
  · rw [h2, Nat.zero_add, List.getD_eq_getElem?_getD, List.getElem?_eq_getElem (by rw [pk.nv]; exact h1)]
    exact List.getElem_mem _
  · obtain ⟨i, hi⟩ := List.getElem?_of_mem hg
    refine ⟨i, by have := (List.getElem?_eq_some_iff.1 hi).1; rw [pk.nv] at this; omega, ?_⟩
    rw [Nat.zero_add, List.getD_eq_getElem?_getD, hi]; rfl

theorem HeadOk.head {A : LA} {D : List Nat} {σ : TS} {p : PR A.sh.V} {k : Nat} (h : HeadOk A D σ p k) (v : A.sh.V) :
    (∀ q ∈ (unparse p.vs A.sh v 0 k).bs, (headS A D σ p.vs p.rs (tupsOf σ.blk p.fz) k v).blk q.1 = q.2) ∧
    (∀ g, g ∉ p.vs → g < k → ((headS A D σ p.vs p.rs (tupsOf σ.blk p.fz) k v).blk g = tupsOf σ.blk p.fz g ∧ g ∉ p.rs) ∨ (g ∈ p.rs ∧ Rowy (tupsOf σ.blk p.fz g) ∧ (headS A D σ p.vs p.rs (tupsOf σ.blk p.fz) k v).blk g = .dead (tupsOf σ.blk p.fz g).len)) ∧
    Fresh (headS A D σ p.vs p.rs (tupsOf σ.blk p.fz) k v) (k + A.sh.nr) ∧
    (∀ g, g ∉ p.vs → g < k → ∀ e cs, (headS A D σ p.vs p.rs (tupsOf σ.blk p.fz) k v).blk g = .var e cs → ∀ n ∈ TV.nms cs, n < k) := by
  have pk := parse_pk h.hp h.ps
  have hok' := h.ok
  simp only [PR.okB, Bool.and_eq_true] at hok'
  have hnd := nodupB_ok hok'.1.1.2
  obtain ⟨hf', hmid⟩ := mid_of h.ok pk.pk (B' := σ.blk) fun _ _ => rfl
  have hB1f : ∀ g, k ≤ g → tupsOf σ.blk p.fz g = .free := fun g hg => by
    rw [tupsOf_out _ _ _ (fun hm => by
      obtain ⟨q, hq, rfl⟩ := List.mem_map.1 hm
      obtain ⟨T, e, l, h1, _⟩ := hf' q hq
      rw [h.fresh _ hg] at h1; cases h1)]
    exact h.fresh g hg
  have hB1o : ∀ g b, tupsOf σ.blk p.fz g = b → (∀ (T : Ty) (l : List (Val T)), b ≠ .frz T l) → σ.blk g = b := fun g b hb hne => by
    by_cases hm : g ∈ p.fz.map (·.1)
    · obtain ⟨q, hq, rfl⟩ := List.mem_map.1 hm
      obtain ⟨T, e, l, h1, h2⟩ := hf' q hq
      rw [tups_frz hf' hq, h2] at hb
      exact absurd hb.symm (hne T l)
    · rwa [tupsOf_out _ _ _ hm] at hb
  obtain ⟨hvk, hrk⟩ := h.vk
  have hun : ((unparse p.vs A.sh v 0 k).bs.map (·.1)).Nodup := unparse_nodup _ A.sh v 0 k A.sh.nv 0 ⟨fun i j hi hj he => by
      have hvsn := (List.nodup_append.1 hnd).1
      have e1 := List.getElem?_eq_getElem (l := p.vs) (i := i) (by rw [pk.nv]; exact hi)
      have e2 := List.getElem?_eq_getElem (l := p.vs) (i := j) (by rw [pk.nv]; exact hj)
      rw [List.getD_eq_getElem?_getD, List.getD_eq_getElem?_getD, e1, e2] at he
      exact (List.getElem_inj hvsn).1 he, fun i hi => by
      have := hvk (p.vs.getD i 0) (by rw [List.getD_eq_getElem?_getD, List.getElem?_eq_getElem (by rw [pk.nv]; exact hi)]; exact List.getElem_mem _)
      omega⟩ (Nat.zero_le _) (by omega)
  have hnames := h.names v
  have hall : ((p.rs.map (fun g => (g, TB.dead ((tupsOf σ.blk p.fz) g).len)) ++ (unparse p.vs A.sh v 0 k).bs).map (·.1)).Nodup := by
    rw [List.map_append, List.map_map]
    refine List.nodup_append.2 ⟨by simpa [Function.comp_def] using (List.nodup_append.1 hnd).2.1, hun, fun x hx y hy e => ?_⟩
    subst e
    have hx' : x ∈ p.rs := by simpa [Function.comp_def] using hx
    rcases (hnames x).1 hy with h1 | h1
    · exact (List.nodup_append.1 hnd).2.2 x h1 x hx' rfl
    · have := hrk x hx'; omega
  have hout : ∀ g, g ∉ p.vs → ¬ (k ≤ g ∧ g < k + A.sh.nr) → g ∉ p.rs → (headS A D σ p.vs p.rs (tupsOf σ.blk p.fz) k v).blk g = tupsOf σ.blk p.fz g := fun g h1 h2 h3 => tupsOf_out _ _ _ (by
    rw [List.map_append, List.map_map, List.mem_append, hnames]
    rintro (hh | hh | hh)
    · exact h3 (by simpa [Function.comp_def] using hh)
    · exact h1 hh
    · exact h2 hh)
  have b2 : ∀ g, g ∉ p.vs → g < k → ((headS A D σ p.vs p.rs (tupsOf σ.blk p.fz) k v).blk g = tupsOf σ.blk p.fz g ∧ g ∉ p.rs) ∨ (g ∈ p.rs ∧ Rowy (tupsOf σ.blk p.fz g) ∧ (headS A D σ p.vs p.rs (tupsOf σ.blk p.fz) k v).blk g = .dead (tupsOf σ.blk p.fz g).len) := fun g hv hg => by
    by_cases hr : g ∈ p.rs
    · have h2 : Rowy (tupsOf σ.blk p.fz g) := by rw [hmid.keep g (List.mem_append.2 (.inr hr))]; exact pk.rs g hr
      refine .inr ⟨hr, h2, ?_⟩
      have := tups_in _ (tupsOf σ.blk p.fz) hall (g, .dead ((tupsOf σ.blk p.fz) g).len) (List.mem_append.2 (.inl (List.mem_map.2 ⟨g, hr, rfl⟩)))
      exact this
    · exact .inl ⟨hout g hv (by omega) hr, hr⟩
  refine ⟨fun q hq => tups_in _ _ hall q (List.mem_append.2 (.inr hq)), b2, fun g hg => ?_, fun g hv hg e cs hc n hn => ?_⟩
  · rw [hout g (fun hh => by have := hvk g hh; omega) (by omega) (fun hh => by have := hrk g hh; omega)]
    exact hB1f g (by omega)
  · rcases b2 g hv hg with ⟨h1, _⟩ | ⟨_, h1, h2⟩
    · exact h.w2 g e cs (hB1o g _ (h1.symm.trans hc) (by simp)) n hn
    · rw [h2] at hc; cases hc

theorem evC_ok (hΔ : DOk P Δ) : ∀ (c : Code) (lk : Nat → Bool) (n : Nat) (K : Exit → TS → Nat → Prop) (σ : TS) (k : Nat), Fresh σ k → evC P Δ nt ann c lk n K σ k → TAw P nt c (fun e σ' => Aft lk (wr ann c n) σ k (K e) σ') σ
  | .skip, lk, n, K, σ, k, hf, h => TAw.skip ⟨k, Nat.le_refl _, hf, .refl _ _ _, h⟩
  | .region id ops draw, lk, n, K, σ, k, hf, h => by
    simp only [evC] at h
    cases draw with
    | false => exact TAw.region (evL_ok hΔ _ σ k _ hf h fun σ' ha => ha)
    | true =>
      simp only [cond_true] at h
      obtain ⟨hm, h⟩ := bif_t h
      obtain ⟨fs, σ', k', h1, h2, h3, h4, h5⟩ := evD_ok hΔ _ σ k [] _ hf h
      obtain ⟨h6, h7⟩ := bif_t h5
      rw [List.nil_append] at h6
      exact TAw.draw hm (by simp) h1 h6 ⟨k', h2, h3, h4, h7⟩
  | .seq a b, lk, n, K, σ, k, hf, h => by
    simp only [evC] at h
    refine TAw.seq ((evC_ok hΔ a lk n _ σ k hf h).mono fun e σ1 ha => ?_)
    have hs1 : ∀ t ∈ wr ann a n, t ∈ wr ann (.seq a b) n := fun t ht => List.mem_append.2 (.inl ht)
    have hs2 : ∀ t ∈ wr ann b (n + nloops a), t ∈ wr ann (.seq a b) n := fun t ht => List.mem_append.2 (.inr ht)
    obtain ⟨k1, q1, q2, q3, q4⟩ := ha
    cases e with
    | normal => exact (evC_ok hΔ b lk _ K σ1 k1 q2 q4).mono fun e σ2 ha2 => ha2.to q1 q3 hs1 hs2
    | exit id => exact ⟨k1, q1, q2, ⟨fun t ht => q3.tmp t fun hh => ht (hs1 t hh), q3.blk⟩, q4⟩
    | goto l => exact ⟨k1, q1, q2, ⟨fun t ht => q3.tmp t fun hh => ht (hs1 t hh), q3.blk⟩, q4⟩
    | ret => exact ⟨k1, q1, q2, ⟨fun t ht => q3.tmp t fun hh => ht (hs1 t hh), q3.blk⟩, q4⟩
    | panic ch => exact ⟨k1, q1, q2, ⟨fun t ht => q3.tmp t fun hh => ht (hs1 t hh), q3.blk⟩, q4⟩
    | outgrown => exact ⟨k1, q1, q2, ⟨fun t ht => q3.tmp t fun hh => ht (hs1 t hh), q3.blk⟩, q4⟩
  | .cond x a b, lk, n, K, σ, k, hf, h => by
    simp only [evC] at h
    split at h
    · rename_i v hv
      refine TAw.cond hv (fun hb => ?_) (fun hb => ?_)
      · subst hb
        rw [setC_eq hv] at h
        exact (evC_ok hΔ a lk n K σ k hf h).mono fun e σ1 ha => ha.to (Nat.le_refl _) (.refl _ [] _) (by simp) fun t ht => List.mem_append.2 (.inl ht)
      · subst hb
        rw [setC_eq hv] at h
        exact (evC_ok hΔ b lk _ K σ k hf h).mono fun e σ1 ha => ha.to (Nat.le_refl _) (.refl _ [] _) (by simp) fun t ht => List.mem_append.2 (.inr ht)
    · exact h.elim
  | .block id b, lk, n, K, σ, k, hf, h => by
    simp only [evC] at h
    refine TAw.block ((evC_ok hΔ b lk n _ σ k hf h).mono fun e σ1 ha => ?_)
    obtain ⟨k1, q1, q2, q3, q4⟩ := ha
    cases e with
    | exit i =>
      show if i = id then _ else _
      by_cases hi : i = id
      · rw [if_pos hi]
        subst hi
        have hb : Nat.beq i i = true := by simp
        simp only [hb, cond_true] at q4
        exact ⟨k1, q1, q2, q3, q4⟩
      · rw [if_neg hi]
        have hb : Nat.beq i id = false := by
          cases hq : Nat.beq i id with
          | false => rfl
          | true => exact absurd (Nat.eq_of_beq_eq_true hq) hi
        simp only [hb, cond_false] at q4
        exact ⟨k1, q1, q2, q3, q4⟩
    | normal => exact ⟨k1, q1, q2, q3, q4⟩
    | goto l => exact ⟨k1, q1, q2, q3, q4⟩
    | ret => exact ⟨k1, q1, q2, q3, q4⟩
    | panic ch => exact ⟨k1, q1, q2, q3, q4⟩
    | outgrown => exact ⟨k1, q1, q2, q3, q4⟩
  | .exit id, lk, n, K, σ, k, hf, h => TAw.exit ⟨k, Nat.le_refl _, hf, .refl _ _ _, h⟩
  | .ret, lk, n, K, σ, k, hf, h => TAw.ret ⟨k, Nat.le_refl _, hf, .refl _ _ _, h⟩
  | .loop b, lk, n, K, σ0, k0, hf0, h => by
    simp only [evC] at h
    split at h
    · rename_i A hA
      obtain ⟨σ, k, hent, hk0, hf, hfr, h⟩ := adoptK_ok A.ad σ0 k0 _ hf0 h
      split at h
      · rename_i p hp
        obtain ⟨h1, h2⟩ := bif_t h
        simp only [Bool.and_eq_true] at h1
        obtain ⟨⟨⟨⟨⟨q1, q2⟩, q3⟩, q4⟩, q5⟩, q6⟩ := h1
        obtain ⟨hps, hinv, hbody⟩ := conj_of h2
        intro rr nn c U E a w hr0
        obtain ⟨E1, hr⟩ := hent c U E a w hr0
        have hwf := hr.wf
        have lt_of : ∀ g, σ.blk g ≠ .free → g < k := fun g hg => Classical.byContradiction fun hc => hg (hf g (by omega))
        let D := (A.sl ++ A.ad.map (·.1)) ++ wr ann b (n + 1)
        have hD : wr ann (.loop b) n = D := by simp only [wr, hA]; rfl
        have ho : HeadOk A D σ p k := ⟨hp, q1, hps, q2, nodupB_ok q3, Nat.le_of_ble_eq_true q5, hf, fun t g hg => lt_of g (hwf.tmp t g hg), fun g e cs hc m hm => lt_of m (hwf.var g e cs hc m hm)⟩
        obtain ⟨hvk, hrk⟩ := ho.vk
        have pk := parse_pk hp hps
        have hok' := q1
        simp only [PR.okB, Bool.and_eq_true] at hok'
        obtain ⟨hfz', hmid⟩ := mid_of q1 pk.pk (B' := σ.blk) fun _ _ => rfl
        let head := fun v => headS A D σ p.vs p.rs (tupsOf σ.blk p.fz) k v
        have hf0D : ∀ t, (bif D.any (Nat.beq t) then TV.und else σ.tmp t) = .und ∨ ((bif D.any (Nat.beq t) then TV.und else σ.tmp t) = σ.tmp t ∧ ∀ g ∈ (σ.tmp t).nm, g < k) := fun t => by
          cases D.any (Nat.beq t) with
          | true => exact .inl rfl
          | false => exact .inr ⟨rfl, ho.w1 t⟩
        obtain ⟨b1, b2, b3, n2⟩ := ho.head p.x
        have entry : Ent nt σ (head p.x) := Tell.ent (f0 := fun t => bif D.any (Nat.beq t) then .und else σ.tmp t) ⟨hp, q1, hps, q2, ho.sl, ho.k64, rfl, hf0D, hvk, b1, fun g hv hg => by
          rcases b2 g hv hg with h1 | ⟨_, h1⟩
          · exact .inl h1
          · exact .inr h1, b3, n2⟩
        obtain ⟨E2, hr2⟩ := entry c U E1 a w hr
        have hheadtmp : ∀ v t, t ∉ D → (head v).tmp t = σ.tmp t := fun v t ht => by
          have hsl : t ∉ A.sl := fun hh => ht (List.mem_append.2 (.inl (List.mem_append.2 (.inl hh))))
          show cellsAt _ _ _ t = _
          rw [cellsAt_out hsl]
          cases hd : D.any (Nat.beq t) with
          | true => exact absurd (any_mem.1 hd) ht
          | false => rfl
        refine TAw.loop (P := P) (AQ := fun e σ' => Aft lk (wr ann (.loop b) n) σ0 k0 (K e) σ') (fun m τ => ∃ v, A.inv v ∧ A.ms v = m ∧ τ = head v) (A.ms p.x) ⟨p.x, hinv, rfl, rfl⟩ (fun m τ ⟨v, hv, hm, hτ⟩ => ?_) rr nn c U E2 a w hr2
        subst hτ hm
        obtain ⟨c1, c2, c3, c4⟩ := ho.head v
        refine (evC_ok hΔ b _ (n + 1) _ (head v) (k + A.sh.nr) c3 (hbody v hv)).tell fun e σ' ha => ?_
        obtain ⟨k', r1, r2, r3, r4⟩ := ha
        have out : K e σ' k' → Aft lk (wr ann (.loop b) n) σ0 k0 (K e) σ' := fun hk => by
          refine ⟨k', by omega, r2, ⟨fun t ht => ?_, fun g hg => ?_⟩, hk⟩
          · rw [hD] at ht
            rw [r3.tmp t fun hh => ht (List.mem_append.2 (.inr hh)), hheadtmp v t ht]
            exact hfr.tmp t fun hh => ht (List.mem_append.2 (.inl (List.mem_append.2 (.inr hh))))
          · rw [r3.blk g (by simp [hg]), ← hfr.blk g hg]
            have hnv : g ∉ p.vs := fun hh => by rw [all_not q6 (List.mem_append.2 (.inl (List.mem_append.2 (.inl (List.mem_append.2 (.inl hh)))))) ] at hg; cases hg
            have hnr : g ∉ p.rs := fun hh => by rw [all_not q6 (List.mem_append.2 (.inl (List.mem_append.2 (.inl (List.mem_append.2 (.inr hh)))))) ] at hg; cases hg
            have hnf : g ∉ p.fz.map (·.1) := fun hh => by rw [all_not q6 (List.mem_append.2 (.inl (List.mem_append.2 (.inr hh)))) ] at hg; cases hg
            by_cases hgk : g < k
            · rcases c2 g hnv hgk with ⟨h1, _⟩ | ⟨h1, _⟩
              · rw [show (head v).blk g = _ from h1, tupsOf_out _ _ _ hnf]
              · exact absurd h1 hnr
            · by_cases hgn : g < k + A.sh.nr
              · rw [all_not q6 (List.mem_append.2 (.inr (by simp; omega)))] at hg; cases hg
              · rw [c3 g (by omega), hf g (by omega)]
        cases e with
        | normal =>
          simp only at r4
          split at r4
          · rename_i q hq
            obtain ⟨h1, h3⟩ := bif_t r4
            simp only [Bool.and_eq_true] at h1
            obtain ⟨⟨s1, s2⟩, s3⟩ := h1
            have hvs : q.vs = p.vs := of_decide_eq_true s2
            obtain ⟨hqps, hqi, hqm⟩ := conj_of h3
            obtain ⟨d1, d2, d3, d4⟩ := ho.head q.x
            have lock : ∀ g, g ∉ p.vs → g < k → (lk g || (Nat.blt g k && !p.vs.any (Nat.beq g))) = true := fun g hv hg => by
              have h1 : Nat.blt g k = true := Nat.ble_eq_true_of_le hg
              have h2 : p.vs.any (Nat.beq g) = false := by
                cases hb : p.vs.any (Nat.beq g) with
                | false => rfl
                | true => exact absurd (any_mem.1 hb) hv
              simp [h1, h2]
            have same : ∀ g, g ∉ p.vs → g < k → (head v).blk g = (head q.x).blk g := fun g hv hg => by
              rcases c2 g hv hg with ⟨e1, f1⟩ | ⟨f1, e1, e2⟩
              · rcases d2 g hv hg with ⟨e3, _⟩ | ⟨f2, _⟩
                · exact e1.trans e3.symm
                · exact absurd f2 f1
              · rcases d2 g hv hg with ⟨_, f2⟩ | ⟨_, e3, e4⟩
                · exact absurd f1 f2
                · exact e2.trans e4.symm
            refine ⟨head q.x, Tell.ent (f0 := fun t => bif D.any (Nat.beq t) then .und else σ.tmp t) (p := q) (k := k) ⟨hq, s1, hqps, q2, ho.sl, ho.k64, by rw [hvs]; rfl, fun t => ?_, by rw [hvs]; exact hvk, by rw [hvs]; exact d1, fun g hv hg => ?_, d3, by rw [hvs]; exact d4⟩, A.ms q.x, hqm, q.x, hqi, rfl, rfl⟩
            · cases hd : D.any (Nat.beq t) with
              | true => exact .inl rfl
              | false =>
                have ht : t ∉ D := fun hh => by rw [any_mem.2 hh] at hd; cases hd
                have : σ'.tmp t = σ.tmp t := (r3.tmp t fun hh => ht (List.mem_append.2 (.inr hh))).trans (hheadtmp v t ht)
                rw [this]
                exact .inr ⟨rfl, ho.w1 t⟩
            · rw [hvs] at hv
              have hl := lock g hv hg
              refine .inl ⟨?_, fun hh => by rw [all_not s3 (List.mem_append.2 (.inl (List.mem_append.2 (.inr hh))))] at hl; cases hl⟩
              rw [tupsOf_out _ _ _ (fun hh => by rw [all_not s3 (List.mem_append.2 (.inr hh))] at hl; cases hl), r3.blk g hl]
              exact (same g hv hg).symm
          · exact r4.elim
        | exit id => exact ⟨σ', .refl _, out r4⟩
        | goto l => exact ⟨σ', .refl _, out r4⟩
        | ret => exact ⟨σ', .refl _, out r4⟩
        | panic ch => exact ⟨σ', .refl _, out r4⟩
        | outgrown => exact ⟨σ', .refl _, out r4⟩
      · exact h.elim
    · exact h.elim
  | .rangeFunc _ _ _ _, lk, n, K, σ, k, hf, h => h.elim
  | .scope b, lk, n, K, σ, k, hf, h => by
    simp only [evC] at h
    refine TAw.scope ((evC_ok hΔ b lk n _ σ k hf h).mono fun e σ1 ha => ?_)
    obtain ⟨k1, q1, q2, q3, q4⟩ := ha
    cases e with
    | goto l => exact q4.elim
    | _ => exact ⟨k1, q1, q2, q3, q4⟩
  | .label _, lk, n, K, σ, k, hf, h => TAw.label ⟨k, Nat.le_refl _, hf, .refl _ _ _, h⟩
  | .goto _, lk, n, K, σ, k, hf, h => h.elim
  | .refuse _, lk, n, K, σ, k, hf, h => h.elim
end
end Go.Proofs.Ytmkfpfnjimmmaaa
