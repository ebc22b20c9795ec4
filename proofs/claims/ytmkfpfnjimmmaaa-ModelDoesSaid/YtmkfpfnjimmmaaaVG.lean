/- append, copy; what stands in for a nil slice; a row that is no longer written. Nothing of the dump stands here. -/
import Derived.Test.YtmkfpfnjimmmaaaVF
import Derived.Maps.AppendAt
import Derived.Laws.AppendOwnNone
namespace Go.Proofs.Ytmkfpfnjimmmaaa
open Go.RowKit
set_option linter.unusedVariables false
set_option linter.unusedSimpArgs false

section
variable {P : Program} {nt : Nat} {o : Oper} {σ : St}

/-- The elements of a slice. -/
inductive Src (σ : St) (sz : Nat) (p : AV) : List Nat → List (List D) → Prop where
  | view {f : Bool} {es : List (List D)} (h : SlV p f sz es) : Src σ sz p [] es
  | own {g n : Nat} {e : TypeId} {es : List (List D)} (h : p = .own g 0 n) (hb : σ.blk g = .row sz e es) (hn : n = es.length) : Src σ sz p [g] es
  | part {g i n : Nat} {e : TypeId} {es : List (List D)} (h : p = .own g i n) (hb : σ.blk g = .row sz e es) (hn : i + n ≤ es.length) : Src σ sz p [g] ((es.drop i).take n)
  | nil (h : p = .nsl) : Src σ sz p [] []

theorem Src.agree {l : List Operand} {s : Step} {σ' : St} {p : AV} {sz : Nat} {rb rb' : List Nat} {es : List (List D)} (ha : Agree ⟨tmpsIn l, rb', s⟩ σ' σ) (hs : ∀ g ∈ rb, g ∈ rb') (h : Src σ sz p rb es) : Src σ' sz p rb es := by
  cases h with
  | view h => exact .view h
  | own h hb hn => exact .own h ((ha.2 _ (hs _ (by simp))).trans hb) hn
  | part h hb hn => exact .part h ((ha.2 _ (hs _ (by simp))).trans hb) hn
  | nil h => exact .nil h

theorem flat_length {α : Type} {sz : Nat} : ∀ (l : List (List α)), (∀ x ∈ l, x.length = sz) → l.flatten.length = l.length * sz
  | [], _ => by simp
  | x :: l, h => by
    rw [List.flatten_cons, List.length_append, h x (by simp), flat_length l fun y hy => h y (List.mem_cons_of_mem _ hy), List.length_cons, Nat.succ_mul]
    omega
theorem flat_at {α : Type} {sz : Nat} : ∀ (l : List (List α)) (i j : Nat), (∀ x ∈ l, x.length = sz) → j < sz → l.flatten[i * sz + j]? = (l[i]?).bind fun x => x[j]?
  | [], i, j, _, _ => by simp
  | x :: l, i, j, h, hj => by
    have hx : x.length = sz := h x (by simp)
    cases i with
    | zero => rw [Nat.zero_mul, Nat.zero_add, List.flatten_cons, List.getElem?_append_left (by omega)]; rfl
    | succ i =>
      rw [List.flatten_cons, List.getElem?_append_right (by rw [Nat.succ_mul]; omega), hx, show (i + 1) * sz + j - sz = i * sz + j by rw [Nat.succ_mul]; omega, flat_at l i j (fun y hy => h y (List.mem_cons_of_mem _ hy)) hj]
      rfl

/-- The cells of a slice's elements, one behind the other. -/
structure Elems (w : World) (F U : Nat → Prop) (base sz : Nat) (v : Value) (es : List (List D)) : Prop where
  sl : ∃ (a : Option Addr) (cap : Nat) (news : List Value), v = .slice a es.length cap ∧ es.length ≤ cap ∧ cap ≤ maxLen ∧ (a = none → cap = 0) ∧ news.length = es.length * sz ∧ (∀ (j : Nat) (u : Value), news[j]? = some u → ∃ b off, a = some ⟨b, off, none⟩ ∧ b < w.heap.size ∧ w.cell? ⟨b, off + j, none⟩ = some u) ∧ (∀ u ∈ news, u.oneCell' = true) ∧
    ∀ (i : Nat) (x : List D), es[i]? = some x → x.length = sz ∧ ∀ (j : Nat) (d : D), x[j]? = some d → ∃ u, news[i * sz + j]? = some u ∧ VD w F U base d u

theorem elems_of {w : World} {F U : Nat → Prop} {base sz : Nat} {es : List (List D)} {a : Option Addr} {cap : Nat} (u : Nat → Nat → Value) (hn : es.length ≤ cap) (hm : cap ≤ maxLen) (hz : a = none → cap = 0) (hsz : ∀ (i : Nat) (x : List D), es[i]? = some x → x.length = sz)
    (hat : ∀ (i : Nat) (x : List D), es[i]? = some x → ∃ b off, a = some ⟨b, off, none⟩ ∧ b < w.heap.size ∧ ∀ j, j < sz → w.cell? ⟨b, off + (i * sz + j), none⟩ = some (u i j)) (hV : ∀ (i : Nat) (x : List D) (j : Nat) (d : D), es[i]? = some x → x[j]? = some d → VD w F U base d (u i j)) :
    Elems w F U base sz (.slice a es.length cap) es := by
  let rows : List (List Value) := (List.range es.length).map fun i => (List.range sz).map fun j => u i j
  have hrl : ∀ x ∈ rows, x.length = sz := fun x hx => by
    obtain ⟨i, _, rfl⟩ := List.mem_map.1 hx
    simp
  have hrows : ∀ i, i < es.length → rows[i]? = some ((List.range sz).map fun j => u i j) := fun i hi => by
    simp only [rows, List.getElem?_map, List.getElem?_range hi]
    rfl
  have hget : ∀ i j, i < es.length → j < sz → rows.flatten[i * sz + j]? = some (u i j) := fun i j hi hj => by
    rw [flat_at rows i j hrl hj, hrows i hi]
    simp [hj]
  have hsplit : ∀ k, k < es.length * sz → ∃ i j, i < es.length ∧ j < sz ∧ k = i * sz + j := fun k hk => by
    have hp : 0 < sz := by
      rcases Nat.eq_zero_or_pos sz with h | h
      · rw [h, Nat.mul_zero] at hk; omega
      · exact h
    exact ⟨k / sz, k % sz, (Nat.div_lt_iff_lt_mul hp).2 hk, Nat.mod_lt _ hp, by rw [Nat.mul_comm]; exact (Nat.div_add_mod k sz).symm⟩
  have hlen : rows.flatten.length = es.length * sz := by rw [flat_length rows hrl]; simp [rows]
  refine ⟨a, cap, rows.flatten, rfl, hn, hm, hz, hlen, fun k v hv => ?_, fun v hv => ?_, fun i x hx => ⟨hsz i x hx, fun j d hd => ?_⟩⟩
  · have hk : k < es.length * sz := by rw [← hlen]; exact (List.getElem?_eq_some_iff.1 hv).1
    obtain ⟨i, j, hi, hj, rfl⟩ := hsplit k hk
    rw [hget i j hi hj] at hv
    cases hv
    obtain ⟨b, off, ha, hb, hc⟩ := hat i _ (List.getElem?_eq_getElem hi)
    exact ⟨b, off, ha, hb, hc j hj⟩
  · obtain ⟨k, hk⟩ := List.getElem?_of_mem hv
    have hlt : k < es.length * sz := by rw [← hlen]; exact (List.getElem?_eq_some_iff.1 hk).1
    obtain ⟨i, j, hi, hj, rfl⟩ := hsplit k hlt
    rw [hget i j hi hj] at hk
    cases hk
    have hxl : j < es[i].length := by rw [hsz i _ (List.getElem?_eq_getElem hi)]; exact hj
    exact (hV i es[i] j _ (List.getElem?_eq_getElem hi) (List.getElem?_eq_getElem hxl)).one
  · have hi : i < es.length := (List.getElem?_eq_some_iff.1 hx).1
    have hj : j < sz := by rw [← hsz i x hx]; exact (List.getElem?_eq_some_iff.1 hd).1
    exact ⟨u i j, hget i j hi hj, hV i x j d hx hd⟩

/-- The row of a block that is there. -/
theorem row_elems {w0 : Cx} {U : Nat → Prop} {E : Env} {a : Act} {w : World} (hr : Rel w0 U nt σ E a w) {g sz i n : Nat} {e : TypeId} {es : List (List D)} (hb : σ.blk g = .row sz e es) (hv : E.vr g = false) (hin : i + n ≤ es.length) {ad : Addr} {cap : Nat} (hn : n ≤ cap) (hm : cap ≤ maxLen) (ha : n ≠ 0 → ad = ⟨E.β g, i * E.sz g, none⟩) :
    Elems w (Fof E σ.blk) U w0.heap.size sz (.slice (some ad) n cap) ((es.drop i).take n) := by
  have hbl := hr.mem.blk g
  rw [hb] at hbl
  obtain ⟨hk, hsz, hpos, hcap, hle, hvz, hre⟩ := hbl
  have hle1 := hle.1
  obtain ⟨hbase, cur, hg, hcs, hcc⟩ := hre hv
  have hl : ((es.drop i).take n).length = n := by rw [List.length_take, List.length_drop]; omega
  have hat : ∀ (k : Nat) (x : List D), ((es.drop i).take n)[k]? = some x → k < n ∧ es[i + k]? = some x := fun k x hx => by
    have hk : k < n := by rw [← hl]; exact (List.getElem?_eq_some_iff.1 hx).1
    rw [List.getElem?_take_of_lt hk, List.getElem?_drop] at hx
    exact ⟨hk, hx⟩
  have := elems_of (w := w) (F := Fof E σ.blk) (U := U) (base := w0.heap.size) (es := (es.drop i).take n) (a := some ad) (cap := cap) (sz := sz) (fun k j => cur.getD ((i + k) * sz + j) undef) (by rw [hl]; exact hn) hm (fun h => by cases h)
    (fun k x hx => (hcc _ x (hat k x hx).2).1) (fun k x hx => ?_) (fun k x j d hx hd => ?_)
  · rw [hl] at this
    exact this
  · obtain ⟨h1, h2⟩ := hat k x hx
    rw [ha (by omega)]
    refine ⟨E.β g, i * E.sz g, rfl, (Array.getElem?_eq_some_iff.1 hg).1 |> fun h => h, fun j hj => ?_⟩
    rw [cell_of_row w _ _ cur _ (0, 0) hg, hsz, ← Nat.add_assoc, ← Nat.add_mul]
    have hlt : (i + k) * sz + j < cur.size := by
      rw [hcs]
      have := Nat.mul_le_mul_right sz (show i + k + 1 ≤ E.cap g by have := (List.getElem?_eq_some_iff.1 h2).1; omega)
      rw [Nat.add_mul (i + k)] at this
      omega
    rw [Array.getD_eq_getD_getElem?, Array.getElem?_eq_getElem hlt]
    rfl
  · obtain ⟨h1, h2⟩ := hat k x hx
    obtain ⟨u, h3, h4⟩ := (hcc _ x h2).2 j d hd
    rw [Array.getD_eq_getD_getElem?, h3]
    exact h4

theorem Src.elems {w0 : Cx} {U : Nat → Prop} {E : Env} {a : Act} {w : World} (hr : Rel w0 U nt σ E a w) {p : AV} {v : Value} {sz : Nat} {rb : List Nat} {es : List (List D)} (h : Src σ sz p rb es) (hv : VA E w (Fof E σ.blk) U w0.heap.size p v) : Elems w (Fof E σ.blk) U w0.heap.size sz v es := by
  cases h with
  | view h =>
    obtain ⟨a, n, cap, u, rfl, rfl, h5, h6, h7, h8, h9, h10⟩ := view_of h hv
    exact elems_of u h5 h6 h7 h8 (fun i x hx => by obtain ⟨b, off, q1, q2, q3⟩ := h9 i x hx; exact ⟨b, off, q1, q2.1, q3⟩) h10
  | @own g n e es h hb hn =>
    subst h
    cases hv with
    | onil hk hvr =>
      obtain rfl : es = [] := List.eq_nil_of_length_eq_zero hn.symm
      exact elems_of (es := ([] : List (List D))) (fun _ _ => undef) (Nat.le_refl _) (Nat.zero_le _) (fun _ => rfl) (fun i x hx => by simp at hx) (fun i x hx => by simp at hx) (fun i x j d hx => by simp at hx)
    | own hk hvr hn' hm ha =>
      have := row_elems hr hb hvr (i := 0) (n := n) (by omega) hn' hm fun _ => (ha (.inl rfl)).1
      rw [List.drop_zero, List.take_of_length_le (by omega)] at this
      exact this
  | @part g i n e es h hb hn =>
    subst h
    cases hv with
    | onil hk hvr => exact elems_of (es := (es.drop 0).take 0) (fun _ _ => undef) (Nat.le_refl _) (Nat.zero_le _) (fun _ => rfl) (fun i x hx => by simp at hx) (fun i x hx => by simp at hx) (fun i x j d hx => by simp at hx)
    | own hk hvr hn' hm ha => exact row_elems hr hb hvr hn hn' hm fun h0 => (ha (.inr h0)).1
  | nil h =>
    subst h
    cases hv
    exact elems_of (es := ([] : List (List D))) (fun _ _ => undef) (Nat.le_refl _) (Nat.zero_le _) (fun _ => rfl) (fun i x hx => by simp at hx) (fun i x hx => by simp at hx) (fun i x j d hx => by simp at hx)

/-- The environment with one more row that is no block. -/
def Env.addNil (E : Env) (g sz : Nat) : Env := ⟨E.β, upd E.sz g sz, upd E.cap g 0, upd E.vr g true, fun k => k = g ∨ E.kn k⟩

theorem Env.addNil_old {E : Env} {g sz : Nat} (hg : ¬ E.kn g) : ∀ k, E.kn k → (E.addNil g sz).kn k ∧ (E.addNil g sz).β k = E.β k ∧ (E.addNil g sz).sz k = E.sz k ∧ (E.addNil g sz).cap k = E.cap k ∧ (E.addNil g sz).vr k = E.vr k := fun k hk => by
  have hne : k ≠ g := by rintro rfl; exact hg hk
  exact ⟨.inr hk, rfl, upd_other _ _ _ hne, upd_other _ _ _ hne, upd_other _ _ _ hne⟩

theorem Hot_nil {E : Env} {B : Nat → Blk} {g sz : Nat} {x : Blk} {e : TypeId} {es : List (List D)} {q : Nat} (hx : x = .row sz e es) (h : Hot (E.addNil g sz) q (upd B g x q)) : q ≠ g ∧ Hot E q (B q) := by
  by_cases hq : q = g
  · subst hq
    rw [upd_same, hx] at h
    have h2 : (E.addNil q sz).vr q = true := upd_same _ _ _
    have h1 : (E.addNil q sz).vr q = false := h
    rw [h2] at h1
    cases h1
  · rw [upd_other _ _ _ hq] at h
    have h2 : (E.addNil g sz).vr q = E.vr q := upd_other _ _ _ hq
    refine ⟨hq, ?_⟩
    unfold Hot at h ⊢
    rw [h2] at h
    exact h

/-- A row that is no block comes to the others. -/
theorem Rel.addNil {w0 : Cx} {U : Nat → Prop} {E : Env} {a : Act} {w : World} (h : Rel w0 U nt σ E a w) {g sz : Nat} {e : TypeId} (hg : σ.blk g = .free) (hpos : 0 < sz) : Rel w0 U nt {σ with blk := upd σ.blk g (.row sz e [])} (E.addNil g sz) a w := by
  have hk : ¬ E.kn g := by have := h.mem.blk g; rw [hg] at this; exact this
  have hF : ∀ k, Fof (E.addNil g sz) (upd σ.blk g (.row sz e [])) k → Fof E σ.blk k := fun k ⟨q, h1, h2⟩ => ⟨q, (Hot_nil rfl h1).2, h2⟩
  have hold := Env.addNil_old (sz := sz) hk
  refine ⟨⟨h.mem.below, ⟨h.mem.pins.1, fun g b hp => ⟨(hold g (h.mem.pins.2 g b hp).1).1, (Env.at_eq (hold g (h.mem.pins.2 g b hp).1).2).trans (h.mem.pins.2 g b hp).2⟩⟩, fun k => ?_, fun k k' h1 h2 h3 => h.mem.inj k k' (Hot_nil rfl h1).2 (Hot_nil rfl h2).2 h3⟩, h.size, h.defers, fun t => (h.tmp t).keep (Nat.le_refl _) (fun _ _ _ => rfl) (fun k _ hf => hF k hf) hold⟩
  show BlkOk _ _ _ _ _ k (upd σ.blk g _ k)
  by_cases e1 : k = g
  · subst e1
    rw [upd_same]
    refine ⟨.inl rfl, upd_same _ _ _, hpos, by rw [show (E.addNil k sz).cap k = 0 from upd_same _ _ _]; exact Nat.zero_le _, by rw [show (E.addNil k sz).cap k = 0 from upd_same _ _ _]; exact .self, fun _ => upd_same _ _ _, fun hv => ?_⟩
    rw [show (E.addNil k sz).vr k = true from upd_same _ _ _] at hv
    cases hv
  · rw [upd_other _ _ _ e1]
    refine (h.mem.blk k).keep (Nat.le_refl _) (fun _ _ _ => rfl) (fun k _ hf => hF k hf) hold (fun _ => rfl) fun he => ?_
    have h4 := h.mem.blk k
    rw [he] at h4
    rintro (h5 | h5)
    · exact e1 h5
    · exact h4 h5

/-- Blocks that are no longer written. -/
theorem Rel.kill {w0 : Cx} {U : Nat → Prop} {E : Env} {a : Act} {w : World} (h : Rel w0 U nt σ E a w) {g : Nat} (hg : E.kn g) : Rel w0 U nt {σ with blk := upd σ.blk g .dead} E a w := by
  have hF : ∀ k, Fof E (upd σ.blk g .dead) k → Fof E σ.blk k := fun k ⟨q, h1, h2⟩ => by
    by_cases e : q = g
    · subst e; rw [upd_same] at h1; cases h1
    · rw [upd_other _ _ _ e] at h1; exact ⟨q, h1, h2⟩
  have key : ∀ q, Hot E q (upd σ.blk g .dead q) → Hot E q (σ.blk q) := fun q hq => by
    by_cases e : q = g
    · subst e; rw [upd_same] at hq; cases hq
    · rw [upd_other _ _ _ e] at hq; exact hq
  have hE : ∀ k, E.kn k → E.kn k ∧ E.β k = E.β k ∧ E.sz k = E.sz k ∧ E.cap k = E.cap k ∧ E.vr k = E.vr k := fun _ hk => ⟨hk, rfl, rfl, rfl, rfl⟩
  refine ⟨⟨h.mem.below, h.mem.pins, fun k => ?_, fun k k' h1 h2 h3 => h.mem.inj k k' (key k h1) (key k' h2) h3⟩, h.size, h.defers, fun t => (h.tmp t).keep (Nat.le_refl _) (fun _ _ _ => rfl) (fun k _ hf => hF k hf) hE⟩
  show BlkOk _ _ _ _ _ k (upd σ.blk g _ k)
  by_cases e1 : k = g
  · subst e1; rw [upd_same]; exact hg
  · rw [upd_other _ _ _ e1]
    refine (h.mem.blk k).keep (Nat.le_refl _) (fun _ _ _ => rfl) (fun k _ hf => hF k hf) hE (fun _ => rfl) fun he => ?_
    have h4 := h.mem.blk k
    rw [he] at h4
    exact h4

/-- A row of the call's own as the kit's append has it. -/
theorem owns_of {w0 : Cx} {U : Nat → Prop} {E : Env} {a : Act} {w : World} (hr : Rel w0 U nt σ E a w) {g sz n : Nat} {e : TypeId} {es : List (List D)} (hb : σ.blk g = .row sz e es) (hn : n = es.length) {v : Value} (hv : VA E w (Fof E σ.blk) U w0.heap.size (.own g 0 n) v) :
    ∃ xs, w.ownsRow 0 (rty e) sz v n xs ∧ (∀ (i : Nat) (x : List D), es[i]? = some x → x.length = sz ∧ ∀ (j : Nat) (d : D), x[j]? = some d → ∃ u, xs[i * sz + j]? = some u ∧ VD w (Fof E σ.blk) U w0.heap.size d u) ∧ (v.ownBlock = none ∨ v.ownBlock = some (E.β g) ∧ E.vr g = false) ∧ 0 < sz := by
  have hbl := hr.mem.blk g
  rw [hb] at hbl
  obtain ⟨hk, hsz, hpos, hcap, hle, hvz, hre⟩ := hbl
  have hle1 := hle.1
  cases hv with
  | onil _ hvr =>
    obtain rfl : es = [] := List.eq_nil_of_length_eq_zero hn.symm
    exact ⟨[], World.ownsRow_nil _ _ _ _, fun i x hx => by simp at hx, .inl rfl, hpos⟩
  | @own _ _ _ ad cap _ hvr hnc hm ha =>
    obtain ⟨rfl, hcap'⟩ := ha (.inl rfl)
    obtain ⟨hbase, cur, hg, hcs, hcc⟩ := hre hvr
    have hcl : n * sz ≤ cur.size := by rw [hcs]; exact Nat.mul_le_mul_right _ (by omega)
    refine ⟨cur.toList.take (n * sz), ⟨by rw [List.length_take, Array.length_toList]; omega, .inr ⟨E.β g, cap, cur, by rw [Nat.zero_mul], Nat.zero_le _, hg, hnc, hm, by rw [hcs]; congr 1; omega, rfl⟩⟩, fun i x hx => ⟨(hcc i x hx).1, fun j d hd => ?_⟩, .inr ⟨by rfl, hvr⟩, hpos⟩
    obtain ⟨u, h1, h2⟩ := (hcc i x hx).2 j d hd
    have hj : j < sz := by rw [← (hcc i x hx).1]; exact (List.getElem?_eq_some_iff.1 hd).1
    have hi : i < n := by rw [hn]; exact (List.getElem?_eq_some_iff.1 hx).1
    have hlt : i * sz + j < n * sz := by
      have := Nat.mul_le_mul_right sz (show i + 1 ≤ n by omega)
      rw [Nat.add_mul] at this
      omega
    exact ⟨u, by rw [List.getElem?_take_of_lt hlt]; simpa using h1, h2⟩

/-- A row that has grown: whether in place or not. -/
theorem Rel.grown {w0 : Cx} {U : Nat → Prop} {E : Env} {a : Act} {w w' : World} (hr : Rel w0 U nt σ E a w) {B1 : Nat → Blk} {g' sz n : Nat} {e : TypeId} {es : List (List D)} {v v' : Value} {xs : List Value} (hg' : σ.blk g' = .free) (hB1 : ∀ k, B1 k = σ.blk k ∨ B1 k = .dead ∧ E.kn k) (hpos : 0 < sz) (hn : n = es.length) (he : Nat.blt e 1000 = true)
    (hown : w'.ownsRow 0 e sz v' n xs) (hgr : w.grownBy w' v.ownBlock) (hpl : v'.ownBlock = v.ownBlock ∨ v'.ownBlock = some w.heap.size) (hvb : ∀ b, v.ownBlock = some b → b < w.heap.size ∧ w0.Mine b ∧ Fof E σ.blk b ∧ ∀ k, Hot E k (B1 k) → E.β k ≠ b)
    (hcells : ∀ (i : Nat) (x : List D), es[i]? = some x → x.length = sz ∧ ∀ (j : Nat) (d : D), x[j]? = some d → ∃ u, xs[i * sz + j]? = some u ∧ VD w (Fof E σ.blk) U w0.heap.size d u) :
    ∃ E', Rel w0 U nt {σ with blk := upd B1 g' (.row sz e es)} E' a w' ∧ VA E' w' (Fof E' (upd B1 g' (.row sz e es))) U w0.heap.size (.own g' 0 n) v' := by
  have hk : ¬ E.kn g' := by have := hr.mem.blk g'; rw [hg'] at this; exact this
  have hbel : Kept w0 w' := hr.mem.below.grown hgr fun k hk' => (hvb k hk').2.1
  have hsub : ∀ k, Hot E k (B1 k) → Hot E k (σ.blk k) := fun k hh => by
    rcases hB1 k with h1 | ⟨h1, _⟩
    · rw [h1] at hh; exact hh
    · rw [h1] at hh; cases hh
  have hbb : ∀ b, b < w.heap.size → ¬ Fof E σ.blk b → w'.heap[b]? = w.heap[b]? := fun b hb hf => hgr.block b hb fun e1 => hf (hvb b e1.symm).2.2.1
  have hblk : ∀ (F' : Nat → Prop), (∀ b, b < w.heap.size → F' b → Fof E σ.blk b) → ∀ E' : Env, (∀ g, E.kn g → E'.kn g ∧ E'.β g = E.β g ∧ E'.sz g = E.sz g ∧ E'.cap g = E.cap g ∧ E'.vr g = E.vr g) → (∀ k, ¬ E.kn k → k ≠ g' → ¬ E'.kn k) → ∀ k, k ≠ g' → BlkOk E' w' F' U w0 k (B1 k) := fun F' hF E' hE hfr k hne => by
    rcases hB1 k with h1 | ⟨h1, h2⟩
    · rw [h1]
      refine (hr.mem.blk k).keep hgr.size hbb hF hE (fun hh => hgr.block _ ((hr.mem.blk k).lt hh).1 fun e1 => ?_) fun he => ?_
      · exact (hvb _ e1.symm).2.2.2 k (by rw [h1]; exact hh) rfl
      · have h4 := hr.mem.blk k
        rw [he] at h4
        exact hfr k h4 hne
    · rw [h1]
      exact (hE k h2).1
  rcases hown.2 with ⟨rfl, rfl⟩ | ⟨b, cap, cur, rfl, hbase, hb, hnc, hcm, hcs, htk⟩
  · -- nil
    obtain rfl : es = [] := List.eq_nil_of_length_eq_zero hn.symm
    have hF : ∀ k, k < w.heap.size → Fof (E.addNil g' sz) (upd B1 g' (.row sz e [])) k → Fof E σ.blk k := fun k _ ⟨q, h1, h2⟩ => ⟨q, hsub q (Hot_nil rfl h1).2, h2⟩
    have hold := Env.addNil_old (sz := sz) hk
    refine ⟨E.addNil g' sz, ⟨⟨hbel, ⟨hr.mem.pins.1, fun g b hp => ⟨(hold g (hr.mem.pins.2 g b hp).1).1, (Env.at_eq (hold g (hr.mem.pins.2 g b hp).1).2).trans (hr.mem.pins.2 g b hp).2⟩⟩, fun k => ?_, fun k k' h1 h2 h3 => hr.mem.inj k k' (hsub k (Hot_nil rfl h1).2) (hsub k' (Hot_nil rfl h2).2) h3⟩, hr.size, hr.mem.dfr hr.defers hbb, fun t => (hr.tmp t).keep hgr.size hbb hF hold⟩, .onil (.inl rfl) (upd_same _ _ _)⟩
    show BlkOk _ _ _ _ _ k (upd B1 g' _ k)
    by_cases e1 : k = g'
    · subst e1
      rw [upd_same]
      refine ⟨.inl rfl, upd_same _ _ _, hpos, by rw [show (E.addNil k sz).cap k = 0 from upd_same _ _ _]; exact Nat.zero_le _, by rw [show (E.addNil k sz).cap k = 0 from upd_same _ _ _]; exact .self, fun _ => upd_same _ _ _, fun hv => ?_⟩
      rw [show (E.addNil k sz).vr k = true from upd_same _ _ _] at hv
      cases hv
    · rw [upd_other _ _ _ e1]
      exact hblk _ hF _ hold (fun k h1 h2 h3 => h3.elim h2 h1) k e1
  · have hold := Env.add_old (b := b) (sz := sz) (cap := cap) hk
    have hob : (Value.slice (some ⟨b, 0, none⟩) n cap).ownBlock = some b := rfl
    rw [hob] at hpl
    have hF : ∀ k, k < w.heap.size → Fof (E.add g' b sz cap) (upd B1 g' (.row sz e es)) k → Fof E σ.blk k := fun k hlt hf => by
      rcases Fof_add hf with ⟨q, h1, h2⟩ | h1
      · exact ⟨q, hsub q h1, h2⟩
      · subst h1
        rcases hpl with h2 | h2
        · exact (hvb k h2.symm).2.2.1
        · cases h2; omega
    have hnew : ∀ k, Hot E k (B1 k) → E.β k ≠ b := fun k hk' hbk => by
      rcases hpl with h2 | h2
      · exact (hvb b h2.symm).2.2.2 k hk' hbk
      · have h3 := ((hr.mem.blk k).lt (hsub k hk')).1
        cases h2
        omega
    have hot_old : ∀ q, q ≠ g' → Hot (E.add g' b sz cap) q (upd B1 g' (.row sz e es) q) → Hot E q (B1 q) ∧ (E.add g' b sz cap).β q = E.β q := fun q hne hq => by
      rw [upd_other _ _ _ hne] at hq
      have h4 : (E.add g' b sz cap).vr q = E.vr q := upd_other _ _ _ hne
      refine ⟨?_, upd_other _ _ _ hne⟩
      unfold Hot at hq ⊢
      rw [h4] at hq
      exact hq
    refine ⟨E.add g' b sz cap, ⟨⟨hbel, ⟨hr.mem.pins.1, fun g b hp => ⟨(hold g (hr.mem.pins.2 g b hp).1).1, (Env.at_eq (hold g (hr.mem.pins.2 g b hp).1).2).trans (hr.mem.pins.2 g b hp).2⟩⟩, fun k => ?_, fun k k' h1 h2 h3 => ?_⟩, hr.size, hr.mem.dfr hr.defers hbb, fun t => (hr.tmp t).keep hgr.size hbb hF hold⟩, own_new hnc hcm⟩
    · show BlkOk _ _ _ _ _ k (upd B1 g' _ k)
      by_cases e1 : k = g'
      · subst e1
        rw [upd_same]
        have hbb' : (E.add k b sz cap).β k = b := upd_same _ _ _
        have hcc : (E.add k b sz cap).cap k = cap := upd_same _ _ _
        refine ⟨.inl rfl, upd_same _ _ _, hpos, by rw [hcc]; exact hcm, by rw [hcc]; exact .of he (by omega), (fun hv => by rw [show (E.add k b sz cap).vr k = false from upd_same _ _ _] at hv; cases hv), fun _ => ⟨by
          rw [hbb']
          rcases hpl with h2 | h2
          · exact (hvb b h2.symm).2.1
          · cases h2; exact hr.mem.below.mine (Nat.le_refl _), cur, by rw [hbb', rty_of he]; exact hb, by rw [hcc]; exact hcs, fun i x hx => ⟨(hcells i x hx).1, fun j d hd => ?_⟩⟩⟩
        obtain ⟨u, h5, h6⟩ := (hcells i x hx).2 j d hd
        rw [← htk] at h5
        have hlt : i * sz + j < n * sz := by
          have := (List.getElem?_eq_some_iff.1 h5).1
          rw [List.length_take] at this
          omega
        rw [List.getElem?_take_of_lt hlt] at h5
        exact ⟨u, by simpa using h5, h6.keep hgr.size hbb hF⟩
      · rw [upd_other _ _ _ e1]
        exact hblk _ hF _ hold (fun k h1 h2 h3 => h3.elim h2 h1) k e1
    · have hbg : (E.add g' b sz cap).β g' = b := upd_same _ _ _
      by_cases q1 : k = g'
      · by_cases q2 : k' = g'
        · rw [q1, q2]
        · obtain ⟨r1, r2⟩ := hot_old k' q2 h2
          rw [q1, hbg, r2] at h3
          exact absurd h3.symm (hnew k' r1)
      · obtain ⟨r1, r2⟩ := hot_old k q1 h1
        by_cases q2 : k' = g'
        · rw [q2, hbg, r2] at h3
          exact absurd h3 (hnew k r1)
        · obtain ⟨r3, r4⟩ := hot_old k' q2 h2
          rw [r2, r4] at h3
          exact hr.mem.inj k k' (hsub k r1) (hsub k' r3) h3

/-- What 'append' does, whatever it is given. -/
theorem run_append {w0 : Cx} {U : Nat → Prop} {E : Env} {a : Act} {w : World} (hr : Rel w0 U nt σ E a w) {t ty e : TypeId} {sz by' : Nat} {F : Nat → Prop} (ht : elOf P t = some (e, sz)) (hz : (zeroAV P e).map (·.length) = some sz) (hb : P.bytesOf e = by') (hpos : 0 < sz) {v x : Value} {n : Nat} {xs : List Value} {ys : List (List D)}
    (hown : w.ownsRow 0 e sz v n xs) (hel : Elems w F U w0.heap.size sz x ys) (h63 : n + ys.length ≤ maxLen) (hbytes : (n + ys.length) * by' ≤ 140737488355328) :
    ∃ v' w' news, (Builtin.append_ #[t, t] ty #[v, x]).run P w = .ok v' w' ∧ w'.ownsRow 0 e sz v' (n + ys.length) (xs ++ news) ∧ w.grownBy w' v.ownBlock ∧ (v'.ownBlock = v.ownBlock ∨ v'.ownBlock = some w.heap.size) ∧
      ∀ (i : Nat) (y : List D), ys[i]? = some y → y.length = sz ∧ ∀ (j : Nat) (d : D), y[j]? = some d → ∃ u, news[i * sz + j]? = some u ∧ VD w F U w0.heap.size d u := by
  obtain ⟨hu, inf, hinf, hs⟩ := elOf_run ht
  obtain ⟨zc, hzc, hzl⟩ := Option.map_eq_some_iff.1 hz
  obtain ⟨i', z, h1, h2, h3⟩ := zeroAV_run hzc
  rw [hinf] at h1
  cases h1
  have hby : inf.bytes = by' := by rw [← hb]; simp [Program.bytesOf, hinf]
  have hzs : z.cells.size = sz := by rw [← hzl, ← h3]; simp
  obtain ⟨ad, cap, news, rfl, h4, h5, h6, h7, h8, h9, h10⟩ := hel.sl
  cases ad with
  | some ad =>
    obtain ⟨v', w', q1, q2, q3, _, q5⟩ := run_append_own_at (P := P) w 0 t ty e inf z sz by' hu hinf h2 hs hby hzs hpos v n xs hown ad ys.length cap news h7 (fun j u hu' => by
      obtain ⟨b, off, hab, _, hc⟩ := h8 j u hu'
      cases hab
      rw [addr_add]
      exact hc) h9 h63 hbytes (Nat.zero_le _)
    exact ⟨v', w', news, q1, q2, q3, q5, h10⟩
  | none =>
    have hc0 := h6 rfl
    subst hc0
    have hy0 : ys = [] := List.eq_nil_of_length_eq_zero (by omega)
    subst hy0
    have hrun := run_append_owned_none (P := P) (w := w) 0 t ty e inf sz hu hinf v n xs hown
    exact ⟨v, w, [], hrun, by simpa using hown, World.grownBy.refl _ _, .inl rfl, fun i y hy => by simp at hy⟩
end
end Go.Proofs.Ytmkfpfnjimmmaaa
