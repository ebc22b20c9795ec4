/- append, copy as operations; calls; where a function begins and ends. Nothing of the dump stands here. -/
import Derived.Test.YtmkfpfnjimmmaaaVG
import Derived.WalkKit
namespace Go.Proofs.Ytmkfpfnjimmmaaa
open Go.RowKit
set_option linter.unusedVariables false
set_option linter.unusedSimpArgs false

section
variable {P : Program} {nt : Nat} {o : Oper} {σ : St}

theorem append_cells {w : World} {F U : Nat → Prop} {base sz : Nat} {es ys : List (List D)} {xs news : List Value} (hx : xs.length = es.length * sz)
    (h1 : ∀ (i : Nat) (x : List D), es[i]? = some x → x.length = sz ∧ ∀ (j : Nat) (d : D), x[j]? = some d → ∃ u, xs[i * sz + j]? = some u ∧ VD w F U base d u)
    (h2 : ∀ (i : Nat) (x : List D), ys[i]? = some x → x.length = sz ∧ ∀ (j : Nat) (d : D), x[j]? = some d → ∃ u, news[i * sz + j]? = some u ∧ VD w F U base d u) :
    ∀ (i : Nat) (x : List D), (es ++ ys)[i]? = some x → x.length = sz ∧ ∀ (j : Nat) (d : D), x[j]? = some d → ∃ u, (xs ++ news)[i * sz + j]? = some u ∧ VD w F U base d u := fun i x hi => by
  by_cases hlt : i < es.length
  · rw [List.getElem?_append_left hlt] at hi
    refine ⟨(h1 i x hi).1, fun j d hd => ?_⟩
    obtain ⟨u, h3, h4⟩ := (h1 i x hi).2 j d hd
    exact ⟨u, by rw [List.getElem?_append_left (List.getElem?_eq_some_iff.1 h3).1]; exact h3, h4⟩
  · rw [List.getElem?_append_right (by omega)] at hi
    refine ⟨(h2 _ x hi).1, fun j d hd => ?_⟩
    obtain ⟨u, h3, h4⟩ := (h2 _ x hi).2 j d hd
    have hge : es.length * sz ≤ i * sz := Nat.mul_le_mul_right _ (by omega)
    refine ⟨u, ?_, h4⟩
    rw [List.getElem?_append_right (by omega), hx]
    rw [Nat.sub_mul] at h3
    rw [show i * sz + j - es.length * sz = i * sz - es.length * sz + j by omega]
    exact h3

/-- 'append' onto a row of the call's own. -/
theorem B.append {t e : TypeId} {sz by' g g' n : Nat} {s x : Operand} {rb : List Nat} {es ys : List (List D)} (ho : o.op = .call { callee := .builtin .append, args := #[s, x], argTypes := #[t, t] }) (ht : elOf P t = some (e, sz)) (hz : (zeroAV P e).map (·.length) = some sz) (hb : P.bytesOf e = by') (hpos : 0 < sz)
    {e' : TypeId} (he' : rty e' = e) (he : Nat.blt e 1000 = true) (hs : σ.eval s = .own g 0 n) (hrow : σ.blk g = .row sz e' es) (hn : n = es.length) (hx : Src σ sz (σ.eval x) rb ys) (h63 : n + ys.length ≤ maxLen) (hbytes : (n + ys.length) * by' ≤ 140737488355328) (hg' : σ.blk g' = .free) (hne : g' ≠ g) (hd : dstOk o nt = true) :
    DoesB P nt o σ ⟨tmpsIn [s, x], g :: g' :: rb, .own g' 0 (n + ys.length), [(g, .dead), (g', .row sz e (es ++ ys))]⟩ := fun σ' ha w0 U E a w N Q hr hN => by
  have hrow' : σ'.blk g = .row sz e' es := (ha.2 g (by simp)).trans hrow
  have hf' : σ'.blk g' = .free := (ha.2 g' (by simp)).trans hg'
  have es' : σ'.eval s = .own g 0 n := (ha.eval (by simp)).trans hs
  have ex' : σ'.eval x = σ.eval x := ha.eval (by simp)
  have hx' : Src σ' sz (σ'.eval x) rb ys := by rw [ex']; exact Src.agree (rb' := g :: g' :: rb) ha (fun q hq => by simp [hq]) hx
  have hsv := hr.eval s
  rw [es'] at hsv
  obtain ⟨xs, hown, hxs, hob, _⟩ := owns_of hr hrow' hn hsv
  rw [he'] at hown
  have hel := hx'.elems hr (hr.eval x)
  obtain ⟨v', w', news, q1, q2, q3, q4, q5⟩ := run_append (P := P) (ty := o.type) hr ht hz hb hpos hown hel h63 hbytes
  have hkn : E.kn g := by have := hr.mem.blk g; rw [hrow'] at this; exact this.1
  obtain ⟨E', hr', hva⟩ := Rel.grown (B1 := upd σ'.blk g .dead) (g' := g') (e := e) (es := es ++ ys) hr hf' (fun k => by
      by_cases hk : k = g
      · subst hk; rw [upd_same]; exact .inr ⟨rfl, hkn⟩
      · rw [upd_other _ _ _ hk]; exact .inl rfl) hpos (n := n + ys.length) (by rw [List.length_append, hn]) he q2 q3 q4 (fun b hb' => by
      rcases hob with h1 | ⟨h1, h2⟩
      · rw [h1] at hb'; cases hb'
      · rw [h1] at hb'
        cases hb'
        have hot : Hot E g (σ'.blk g) := by rw [hrow']; exact h2
        have hlt := (hr.mem.blk g).lt hot
        refine ⟨hlt.1, hlt.2.1, ⟨g, hot, rfl⟩, fun k hk he => ?_⟩
        by_cases hkg : k = g
        · subst hkg; rw [upd_same] at hk; cases hk
        · rw [upd_other _ _ _ hkg] at hk
          exact hkg (hr.mem.inj k g hk hot he)) (append_cells (by rw [hown.1, hn]) hxs q5)
  have hrun : (execOp a.eval o).run P w = .ok (.value v') w' := by
    rw [execOp, ho]
    simp [resolve, invoke, builtin, q1]
  unfold Oper.wp
  rw [hrun]
  exact hN E' _ _ (hr'.undef (dstOk_lt hd) hva)

/-- 'append' onto nil. -/
theorem B.append0 {t e : TypeId} {sz by' g' : Nat} {s x : Operand} {rb : List Nat} {ys : List (List D)} (ho : o.op = .call { callee := .builtin .append, args := #[s, x], argTypes := #[t, t] }) (ht : elOf P t = some (e, sz)) (hz : (zeroAV P e).map (·.length) = some sz) (hb : P.bytesOf e = by') (hpos : 0 < sz) (he : Nat.blt e 1000 = true)
    (hs : σ.eval s = .nsl) (hx : Src σ sz (σ.eval x) rb ys) (h63 : ys.length ≤ maxLen) (hbytes : ys.length * by' ≤ 140737488355328) (hg' : σ.blk g' = .free) (hd : dstOk o nt = true) :
    DoesB P nt o σ ⟨tmpsIn [s, x], g' :: rb, .own g' 0 ys.length, [(g', .row sz e ys)]⟩ := fun σ' ha w0 U E a w N Q hr hN => by
  have hf' : σ'.blk g' = .free := (ha.2 g' (by simp)).trans hg'
  have es' : σ'.eval s = .nsl := (ha.eval (by simp)).trans hs
  have ex' : σ'.eval x = σ.eval x := ha.eval (by simp)
  have hx' : Src σ' sz (σ'.eval x) rb ys := by rw [ex']; exact Src.agree (rb' := g' :: rb) ha (fun q hq => by simp [hq]) hx
  have hsv := hr.eval s
  rw [es'] at hsv
  have hv : a.eval s = .slice none 0 0 := by
    generalize a.eval s = q at hsv
    cases hsv
    rfl
  have hown : w.ownsRow 0 e sz (.slice none 0 0) 0 [] := World.ownsRow_nil _ _ _ _
  have hel := hx'.elems hr (hr.eval x)
  obtain ⟨v', w', news, q1, q2, q3, q4, q5⟩ := run_append (P := P) (ty := o.type) hr ht hz hb hpos hown hel (by omega) (by rw [Nat.zero_add]; exact hbytes)
  rw [Nat.zero_add, List.nil_append] at q2
  obtain ⟨E', hr', hva⟩ := Rel.grown (B1 := σ'.blk) (g' := g') (e := e) (es := ys) hr hf' (fun k => .inl rfl) hpos rfl he q2 q3 q4 (fun b hb' => by cases hb') q5
  have hrun : (execOp a.eval o).run P w = .ok (.value v') w' := by
    rw [execOp, ho]
    simp [resolve, invoke, builtin, hv, q1]
  unfold Oper.wp
  rw [hrun]
  exact hN E' _ _ (hr'.undef (dstOk_lt hd) hva)

/-- Cells that lie in a block that is no longer written. -/
theorem view_of_elems {w : World} {F U : Nat → Prop} {base sz : Nat} {v : Value} {es : List (List D)} (hs : 0 < sz) (h : Elems w F U base sz v es) (hF : ∀ b off a n cap, v = .slice a n cap → a = some ⟨b, off, none⟩ → n ≠ 0 → ¬ F b ∧ (U b ∨ base ≤ b)) : VD w F U base (.view sz es) v := by
  obtain ⟨a, cap, news, rfl, h2, h3, h4, h5, h6, h7, h8⟩ := h.sl
  refine .view (fun i j => news.getD (i * sz + j) undef) rfl h2 h3 h4 (fun i x hx => (h8 i x hx).1) (fun i x hx => ?_) (fun i x j d hx hd => ?_)
  · have hi : i < es.length := (List.getElem?_eq_some_iff.1 hx).1
    have hcell : ∀ j, j < sz → i * sz + j < news.length := fun j hj => by
      have := Nat.mul_le_mul_right sz (show i + 1 ≤ es.length from hi)
      rw [Nat.add_mul] at this
      omega
    obtain ⟨b, off, hab, hb, _⟩ := h6 (i * sz) _ (List.getElem?_eq_getElem (hcell 0 (by omega)))
    subst hab
    obtain ⟨q1, q2⟩ := hF b off _ _ _ rfl rfl (by omega)
    refine ⟨b, off, rfl, ⟨hb, q1, fun _ => q2⟩, fun j hj => ?_⟩
    obtain ⟨b', off', hab', _, hc⟩ := h6 (i * sz + j) _ (List.getElem?_eq_getElem (hcell j hj))
    cases hab'
    rw [hc, List.getD_eq_getElem?_getD, List.getElem?_eq_getElem (hcell j hj)]
    rfl
  · obtain ⟨u, h9, h10⟩ := (h8 i x hx).2 j d hd
    rw [List.getD_eq_getElem?_getD, h9]
    exact h10

theorem mem_beq {l : List Nat} {i : Nat} (h : l.any (Nat.beq i) = true) : i ∈ l := by
  obtain ⟨x, hx, he⟩ := List.any_eq_true.1 h
  rw [Nat.eq_of_beq_eq_true he]
  exact hx

/-- What of a state is forgotten: a slot's value; a row of which it is known how it reads becomes a slice that is read. -/
inductive Weak (B : Nat → Blk) (fz : Nat → Prop) : AV → AV → Prop where
  | refl (x : AV) : Weak B fz x x
  | und (x : AV) : Weak B fz x .und
  | fz {g i n sz : Nat} {e : TypeId} {es : List (List D)} (hg : fz g) (hb : B g = .row sz e es) (hn : i + n ≤ es.length) : Weak B fz (.own g i n) (.d (.view sz ((es.drop i).take n)))
  | fz0 {g n sz : Nat} {e : TypeId} {es : List (List D)} (hg : fz g) (hb : B g = .row sz e es) (hn : n = es.length) : Weak B fz (.own g 0 n) (.d (.view sz es))
  | nsl (sz : Nat) : Weak B fz .nsl (.d (.view sz []))
  | agg {vs us : List AV} (hl : vs.length = us.length) (h : ∀ (i : Nat) (x y : AV), vs[i]? = some x → us[i]? = some y → Weak B fz x y) : Weak B fz (.agg vs) (.agg us)
  | tup {vs us : List AV} (hl : vs.length = us.length) (h : ∀ (i : Nat) (x y : AV), vs[i]? = some x → us[i]? = some y → Weak B fz x y) : Weak B fz (.tup vs) (.tup us)
  | fn {f : FuncId} {vs us : List AV} (hl : vs.length = us.length) (h : ∀ (i : Nat) (x y : AV), vs[i]? = some x → us[i]? = some y → Weak B fz x y) : Weak B fz (.fn f vs) (.fn f us)

def killed (B : Nat → Blk) (gs : List Nat) : Nat → Blk := fun g => bif gs.any (Nat.beq g) then .dead else B g
theorem killed_in {B : Nat → Blk} {gs : List Nat} {g : Nat} (h : g ∈ gs) : killed B gs g = .dead := by
  have : gs.any (Nat.beq g) = true := List.any_eq_true.2 ⟨g, h, by simp⟩
  simp [killed, this]
theorem killed_out {B : Nat → Blk} {gs : List Nat} {g : Nat} (h : g ∉ gs) : killed B gs g = B g := by
  have : gs.any (Nat.beq g) = false := by
    cases hb : gs.any (Nat.beq g) with
    | false => rfl
    | true => exact absurd (mem_beq hb) h
  simp [killed, this]

theorem Fof_killed {B : Nat → Blk} {E : Env} {gs : List Nat} {k : Nat} (h : Fof E (killed B gs) k) : Fof E B k := by
  obtain ⟨g, h1, h2⟩ := h
  by_cases hg : g ∈ gs
  · rw [killed_in hg] at h1; cases h1
  · rw [killed_out hg] at h1; exact ⟨g, h1, h2⟩

theorem VA.weak {w0 : Cx} {U : Nat → Prop} {E : Env} {a : Act} {w : World} (hr : Rel w0 U nt σ E a w) {gs : List Nat} {x x' : AV} {v : Value} (hw : Weak σ.blk (· ∈ gs) x x') (h : VA E w (Fof E σ.blk) U w0.heap.size x v) : VA E w (Fof E (killed σ.blk gs)) U w0.heap.size x' v := by
  have hE : ∀ k, E.kn k → E.kn k ∧ E.β k = E.β k ∧ E.sz k = E.sz k ∧ E.cap k = E.cap k ∧ E.vr k = E.vr k := fun _ hk => ⟨hk, rfl, rfl, rfl, rfl⟩
  have hF : ∀ k, k < w.heap.size → Fof E (killed σ.blk gs) k → Fof E σ.blk k := fun k _ hf => Fof_killed hf
  have frozen : ∀ {g i n sz : Nat} {e : TypeId} {es : List (List D)} {v : Value}, g ∈ gs → σ.blk g = .row sz e es → i + n ≤ es.length → VA E w (Fof E σ.blk) U w0.heap.size (.own g i n) v → VA E w (Fof E (killed σ.blk gs)) U w0.heap.size (.d (.view sz ((es.drop i).take n))) v := by
    intro g i n sz e es v hg hb hn hv
    have hel := (Src.part (σ := σ) (sz := sz) (p := .own g i n) rfl hb hn).elems hr hv
    have hpos : 0 < sz := by have := hr.mem.blk g; rw [hb] at this; exact this.2.2.1
    have hel' : Elems w (Fof E (killed σ.blk gs)) U w0.heap.size sz v ((es.drop i).take n) := by
      obtain ⟨q1, q2, q3, q4, q5, q6, q7, q8, q9, q10, q11⟩ := hel.sl
      exact ⟨q1, q2, q3, q4, q5, q6, q7, q8, q9, q10, fun i x hx => ⟨(q11 i x hx).1, fun j d hd => by
        obtain ⟨u, r1, r2⟩ := (q11 i x hx).2 j d hd
        exact ⟨u, r1, r2.keep (Nat.le_refl _) (fun _ _ _ => rfl) hF⟩⟩⟩
    refine .d (view_of_elems hpos hel' fun b off a' n' cap hva hab hn0 => ?_)
    subst hva hab
    cases hv with
    | own hk hvr h1 h2 h3 =>
      obtain ⟨h4, _⟩ := h3 (.inr hn0)
      cases h4
      have hot : Hot E g (σ.blk g) := by rw [hb]; exact hvr
      refine ⟨fun ⟨q, q1, q2⟩ => ?_, (((hr.mem.blk g).lt hot).2.1).elim .inr fun h => .inl (hr.mem.pins.1 _ h)⟩
      by_cases hq : q ∈ gs
      · rw [killed_in hq] at q1; cases q1
      · rw [killed_out hq] at q1
        have := hr.mem.inj q g q1 hot q2
        subst this
        exact hq hg
  induction hw generalizing v with
  | refl x => exact h.keep (Nat.le_refl _) (fun _ _ _ => rfl) hF hE
  | und x => exact .und _
  | fz hg hb hn => exact frozen hg hb hn h
  | fz0 hg hb hn =>
    have := frozen (i := 0) hg hb (by omega) h
    rw [List.drop_zero, List.take_of_length_le (by omega)] at this
    exact this
  | nsl sz =>
    cases h
    exact .d (.view (fun _ _ => .tuple #[]) rfl (Nat.le_refl _) (Nat.zero_le _) (fun _ => rfl) (fun i x hx => by simp at hx) (fun i x hx => by simp at hx) (fun i x j d hx => by simp at hx))
  | agg hl _ ih =>
    cases h with
    | @agg vs us hl' h' =>
      refine .agg (hl.symm.trans hl') fun i x u hx hu => ?_
      have hlt := (List.getElem?_eq_some_iff.1 hx).1
      exact ih i _ x (List.getElem?_eq_getElem (by omega)) hx (h' i _ u (List.getElem?_eq_getElem (by omega)) hu)
  | tup hl _ ih =>
    cases h with
    | @tup vs us hl' h' =>
      refine .tup (hl.symm.trans hl') fun i x u hx hu => ?_
      have hlt := (List.getElem?_eq_some_iff.1 hx).1
      exact ih i _ x (List.getElem?_eq_getElem (by omega)) hx (h' i _ u (List.getElem?_eq_getElem (by omega)) hu)
  | fn hl _ ih =>
    cases h with
    | @fn _ vs us hl' h' =>
      refine .fn (hl.symm.trans hl') fun i x u hx hu => ?_
      have hlt := (List.getElem?_eq_some_iff.1 hx).1
      exact ih i _ x (List.getElem?_eq_getElem (by omega)) hx (h' i _ u (List.getElem?_eq_getElem (by omega)) hu)

/-- Some rows are no longer written; what slots, and variables, hold is read so. -/
theorem Rel.weaken {w0 : Cx} {U : Nat → Prop} {E : Env} {a : Act} {w : World} (hr : Rel w0 U nt σ E a w) (gs : List Nat) (hgs : ∀ g ∈ gs, ∃ sz e es, σ.blk g = .row sz e es) (σ' : St) (ht : ∀ t, Weak σ.blk (· ∈ gs) (σ.tmp t) (σ'.tmp t))
    (hb : ∀ g, σ'.blk g = killed σ.blk gs g ∨ (∃ e cs cs', σ.blk g = .var e cs ∧ σ'.blk g = .var e cs' ∧ cs.length = cs'.length ∧ leaves cs' = true ∧ ∀ (i : Nat) (x y : AV), cs[i]? = some x → cs'[i]? = some y → Weak σ.blk (· ∈ gs) x y) ∨
      (∃ k m m', σ.blk g = .mp k m ∧ σ'.blk g = .mp k m' ∧ m.length = m'.length ∧ ∀ (i : Nat) (x y : Int × AV), m[i]? = some x → m'[i]? = some y → x.1 = y.1 ∧ Weak σ.blk (· ∈ gs) x.2 y.2)) : Rel w0 U nt σ' E a w := by
  have hE : ∀ k, E.kn k → E.kn k ∧ E.β k = E.β k ∧ E.sz k = E.sz k ∧ E.cap k = E.cap k ∧ E.vr k = E.vr k := fun _ hk => ⟨hk, rfl, rfl, rfl, rfl⟩
  have hot : ∀ g, Hot E g (σ'.blk g) ↔ Hot E g (killed σ.blk gs g) := fun g => by
    rcases hb g with h | ⟨e, cs, cs', h1, h2, _⟩ | ⟨k, m, m', h1, h2, _⟩
    · rw [h]
    · have hng : g ∉ gs := fun hg => by obtain ⟨_, _, _, h3⟩ := hgs g hg; rw [h1] at h3; cases h3
      rw [h2, killed_out hng, h1]
      exact Iff.rfl
    · have hng : g ∉ gs := fun hg => by obtain ⟨_, _, _, h3⟩ := hgs g hg; rw [h1] at h3; cases h3
      rw [h2, killed_out hng, h1]
      exact Iff.rfl
  have hFe : Fof E σ'.blk = Fof E (killed σ.blk gs) := by
    funext k
    exact propext ⟨fun ⟨g, h1, h2⟩ => ⟨g, (hot g).1 h1, h2⟩, fun ⟨g, h1, h2⟩ => ⟨g, (hot g).2 h1, h2⟩⟩
  have hot0 : ∀ g, Hot E g (σ'.blk g) → Hot E g (σ.blk g) := fun g h => by
    have h := (hot g).1 h
    by_cases hg : g ∈ gs
    · rw [killed_in hg] at h; cases h
    · rw [killed_out hg] at h; exact h
  refine ⟨⟨hr.mem.below, hr.mem.pins, fun g => ?_, fun g g' h1 h2 h3 => hr.mem.inj g g' (hot0 g h1) (hot0 g' h2) h3⟩, hr.size, hr.defers, fun t => by rw [hFe]; exact (hr.tmp t).weak hr (ht t)⟩
  rw [hFe]
  have hF : ∀ k, k < w.heap.size → Fof E (killed σ.blk gs) k → Fof E σ.blk k := fun k _ hf => Fof_killed hf
  rcases hb g with h | ⟨e, cs, cs', h1, h2, h3, h4, h5⟩ | ⟨k, m, m', h1, h2, h3, h4⟩
  · rw [h]
    by_cases hg : g ∈ gs
    · rw [killed_in hg]
      obtain ⟨_, _, _, h3⟩ := hgs g hg
      have := hr.mem.blk g
      rw [h3] at this
      exact this.1
    · rw [killed_out hg]
      refine (hr.mem.blk g).keep (Nat.le_refl _) (fun _ _ _ => rfl) hF hE (fun _ => rfl) fun he => ?_
      have h4 := hr.mem.blk g
      rw [he] at h4
      exact h4
  · rw [h2]
    have hbl := hr.mem.blk g
    rw [h1] at hbl
    obtain ⟨q1, q2, cur, q3, q4, q5⟩ := hbl
    refine ⟨q1, q2, cur, q3, q4.trans h3, fun j y hy => ⟨leaves_at h4 hy, ?_⟩⟩
    have hlt := (List.getElem?_eq_some_iff.1 hy).1
    obtain ⟨_, u, r1, r2⟩ := q5 j _ (List.getElem?_eq_getElem (by omega))
    exact ⟨u, r1, r2.weak hr (h5 j _ y (List.getElem?_eq_getElem (by omega)) hy)⟩
  · rw [h2]
    have hbl := hr.mem.blk g
    rw [h1] at hbl
    obtain ⟨q1, q2, es, n, q3, q4, q5⟩ := hbl
    refine ⟨q1, q2, es, n, q3, q4.trans h3, fun j y e hy he => ?_⟩
    have hlt := (List.getElem?_eq_some_iff.1 hy).1
    obtain ⟨r1, r2⟩ := h4 j _ y (List.getElem?_eq_getElem (by omega)) hy
    obtain ⟨r3, r4⟩ := q5 j _ e (List.getElem?_eq_getElem (by omega)) he
    exact ⟨r3.trans (by rw [r1]), r4.weak hr r2⟩

end
end Go.Proofs.Ytmkfpfnjimmmaaa
