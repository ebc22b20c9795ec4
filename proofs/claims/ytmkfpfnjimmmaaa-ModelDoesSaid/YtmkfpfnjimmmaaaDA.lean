/- Plain data as a kind of data that lies in cells; a row of rows that are all the call's own. Nothing of the dump stands here. -/
import Derived.Test.YtmkfpfnjimmmaaaVZB
namespace Go.Proofs.Ytmkfpfnjimmmaaa
open Go.RowKit
set_option linter.unusedVariables false

theorem VD.same {w w' : World} {U : Nat → Prop} (hs : Same U w w') {d : D} {v : Value} (h : VD w NoF U w.heap.size d v) : VD w' NoF U w'.heap.size d v := by
  induction h with
  | int => exact .int _ _
  | bool => exact .bool _
  | view u hl hc hm hz hsz hat hV ih =>
    refine .view u hl hc hm hz hsz (fun i x hx => ?_) ih
    obtain ⟨b, off, ha, ⟨h1, h2, h3⟩, h5⟩ := hat i x hx
    have hu : U b := (h3 rfl).resolve_right (by omega)
    have hlt : b < w'.heap.size := by
      have e := hs b hu h1
      rw [Array.getElem?_eq_getElem h1] at e
      exact (Array.getElem?_eq_some_iff.1 e).1
    exact ⟨b, off, ha, ⟨hlt, id, fun _ => .inl hu⟩, fun j hj => hs.cell hu (h5 j hj)⟩

theorem VD.chg {w : World} {F F' U U' : Nat → Prop} {base base' : Nat} (hF : ∀ b, b < w.heap.size → ¬ F b → ¬ F' b) (hU : ∀ b, b < w.heap.size → (U b ∨ base ≤ b) → (U' b ∨ base' ≤ b)) {d : D} {v : Value} (h : VD w F U base d v) : VD w F' U' base' d v := by
  induction h with
  | int => exact .int _ _
  | bool => exact .bool _
  | view u hl hc hm hz hsz hat hV ih =>
    refine .view u hl hc hm hz hsz (fun i x hx => ?_) ih
    obtain ⟨b, off, ha, ⟨h1, h2, h3⟩, h5⟩ := hat i x hx
    exact ⟨b, off, ha, ⟨h1, hF b h1 h2, fun h => hU b h1 (h3 h)⟩, h5⟩

def rD (sz bytes : Nat) (p1 : 0 < sz) (p2 : 0 < bytes) : Rep (List D) where
  sz := sz
  bytes := bytes
  R := fun U w cs x => x.length = sz ∧ cs.length = sz ∧ ∀ j d v, x[j]? = some d → cs[j]? = some v → VD w NoF U w.heap.size d v
  pos := p1
  pos' := p2
  len := fun h => h.2.1
  one := fun {U w cs x} h v hv => by
    obtain ⟨j, hj⟩ := List.getElem?_of_mem hv
    obtain ⟨d, hd⟩ : ∃ d, x[j]? = some d := ⟨_, List.getElem?_eq_getElem (by have := (List.getElem?_eq_some_iff.1 hj).1; rw [h.1, ← h.2.1]; exact this)⟩
    exact (h.2.2 j d v hd hj).one
  mono := fun hu h => ⟨h.1, h.2.1, fun j d v hd hv => (h.2.2 j d v hd hv).chg (fun _ _ h => h) fun b _ h => h.imp (hu b) id⟩
  keep := fun hs h => ⟨h.1, h.2.1, fun j d v hd hv => (h.2.2 j d v hd hv).same hs⟩
  lt := fun h => ⟨h.1, h.2.1, fun j d v hd hv => (h.2.2 j d v hd hv).chg (fun _ _ h => h) fun b hb h => .inl ⟨h.resolve_right (by omega), hb⟩⟩

theorem sl_of_view {w : World} {U : Nat → Prop} {sz bytes : Nat} {p1 : 0 < sz} {p2 : 0 < bytes} {es : List (List D)} {v : Value} (h : VD w NoF U w.heap.size (.view sz es) v) : ∃ a n cap, v = .slice a n cap ∧ Sl (rD sz bytes p1 p2) U w a n cap es := by
  cases h with
  | view u hl hc hm hz hsz hat hV =>
    refine ⟨_, _, _, rfl, hl, hc, hm, hz, fun hn x hx => ?_, fun i x hx => ?_⟩
    · obtain ⟨y, hy⟩ : ∃ y, es[0]? = some y := ⟨_, List.getElem?_eq_getElem (by rw [hl]; omega)⟩
      obtain ⟨b, off, ha, ⟨h1, _, h3⟩, _⟩ := hat 0 y hy
      rw [ha] at hx
      cases hx
      exact (h3 rfl).resolve_right (by omega)
    · obtain ⟨b, off, ha, _, h5⟩ := hat i x hx
      refine ⟨b, off, ha, (List.range sz).map (u i), ⟨hsz i x hx, by simp, fun j d v hd hv => ?_⟩, fun j v hv => ?_⟩
      · rw [List.getElem?_map] at hv
        cases hr : (List.range sz)[j]? with
        | none => rw [hr] at hv; cases hv
        | some k =>
          rw [hr] at hv
          obtain rfl : u i k = v := by simpa using hv
          have hk := List.getElem?_eq_some_iff.1 hr
          obtain rfl : j = k := by simpa using hk.2
          exact hV i x j d hx hd
      · rw [List.getElem?_map] at hv
        cases hr : (List.range sz)[j]? with
        | none => rw [hr] at hv; cases hv
        | some k =>
          rw [hr] at hv
          obtain rfl : u i k = v := by simpa using hv
          have hk := List.getElem?_eq_some_iff.1 hr
          obtain rfl : j = k := by simpa using hk.2
          exact h5 j (by simpa using hk.1)

theorem view_of_sl {w : World} {U : Nat → Prop} {sz bytes : Nat} {p1 : 0 < sz} {p2 : 0 < bytes} {es : List (List D)} {a : Option Addr} {n cap : Nat} (h : Sl (rD sz bytes p1 p2) U w a n cap es) : VD w NoF U w.heap.size (.view sz es) (.slice a n cap) := by
  have key : ∀ i x, es[i]? = some x → ∃ b off, a = some ⟨b, off, none⟩ ∧ U b ∧ b < w.heap.size ∧ x.length = sz ∧ ∀ j d, x[j]? = some d → ∃ v, w.cell? ⟨b, off + (i * sz + j), none⟩ = some v ∧ VD w NoF U w.heap.size d v := fun i x hx => by
    obtain ⟨b, off, ha, cs, ⟨h1, h2, h3⟩, h4⟩ := h.part i x hx
    have hn : n ≠ 0 := by
      rintro rfl
      rw [List.eq_nil_of_length_eq_zero h.len] at hx
      simp at hx
    have hc0 := h4 0 _ (List.getElem?_eq_getElem (by rw [h2]; exact p1))
    refine ⟨b, off, ha, h.isIn hn _ ha, World.block_lt_of_cell? _ _ hc0, h1, fun j d hd => ?_⟩
    have hj : j < cs.length := by have := (List.getElem?_eq_some_iff.1 hd).1; rw [h2, ← h1]; exact this
    exact ⟨_, h4 j _ (List.getElem?_eq_getElem hj), h3 j d _ hd (List.getElem?_eq_getElem hj)⟩
  refine .view (fun i j => ((a.bind fun x => w.cell? ⟨x.block, x.off + (i * sz + j), none⟩).getD undef)) h.len h.le h.max h.zero (fun i x hx => ?_) (fun i x hx => ?_) (fun i x j d hx hd => ?_)
  · obtain ⟨b, off, ha, hu, hlt, hl, hp⟩ := key i x hx
    exact hl
  · obtain ⟨b, off, ha, hu, hlt, hl, hp⟩ := key i x hx
    refine ⟨b, off, ha, ⟨hlt, id, fun _ => .inl hu⟩, fun j hj => ?_⟩
    obtain ⟨v, hv, _⟩ := hp j _ (List.getElem?_eq_getElem (by rw [hl]; exact hj))
    subst ha
    show _ = some ((w.cell? ⟨b, off + (i * sz + j), none⟩).getD undef)
    rw [hv]
    rfl
  · obtain ⟨b, off, ha, hu, hlt, hl, hp⟩ := key i x hx
    obtain ⟨v, hv, hd'⟩ := hp j d hd
    subst ha
    show VD _ _ _ _ d ((w.cell? ⟨b, off + (i * sz + j), none⟩).getD undef)
    rw [hv]
    exact hd'

/-- An append onto a row of the call's own: the row stays where it is, or goes to a block that was not there. -/
theorem wp_append_row3 {P : Program} {w : World} {o : Oper} {a : Act} {K : Act → World → Prop} {Q : Exit → Act → World → Prop} (s x : Operand) (t : TypeId)
    (ho : o.op = .call { callee := .builtin .append, args := #[s, x], argTypes := #[t, t] })
    (base : Nat) (e : TypeId) (i : TypeInfo) (z : Value) (size bytes : Nat) (ht : P.underlying t = some (.slice e)) (hi : P.info? e = some i) (hz : i.zero = some z)
    (hsize : i.size = size) (hby : i.bytes = bytes) (hzs : z.cells.size = size) (hsz : 0 < size)
    (sa : Option Addr) (n scap : Nat) (xs : List Value) (hs : a.eval s = .slice sa n scap) (hown : w.ownsRow base e size (.slice sa n scap) n xs)
    (ao : Option Addr) (m c : Nat) (news : List Value) (hx : a.eval x = .slice ao m c) (hc : Cells w ao m c size news) (h1 : ∀ u ∈ news, u.oneCell' = true)
    (h63 : n + m ≤ maxLen) (hbytes : (n + m) * bytes ≤ 140737488355328) (hbs : base ≤ w.heap.size)
    (h : ∀ a' cap' w', w'.ownsRow base e size (.slice a' (n + m) cap') (n + m) (xs ++ news) → w.grownBy w' (Value.slice sa n scap).ownBlock →
      ((Value.slice a' (n + m) cap').ownBlock = (Value.slice sa n scap).ownBlock ∨ (Value.slice a' (n + m) cap').ownBlock = some w.heap.size) → K (a.put o.dst (.slice a' (n + m) cap')) w') :
    o.wp P a w K Q := by
  cases ao with
  | some ad =>
    obtain ⟨v', w', hr, h2, h3, _, h5⟩ := run_append_own_at (P := P) w base t o.type e i z size bytes ht hi hz hsize hby hzs hsz _ n xs hown ad m c news hc.len (fun j u hu => by
      obtain ⟨b, off, hab, hcell⟩ := hc.row.cell j u hu
      cases hab
      rw [Addr.add_lit]
      exact hcell) h1 h63 hbytes hbs
    obtain ⟨a', cap', rfl, _, _⟩ := cells_of_owns h2
    have hk := h a' cap' w' h2 h3 h5
    unfold Oper.wp execOp
    simp only [ho, resolve, invoke, builtin, Sem.run_bind, Sem.run_pure, Result.andThen_ok, List.map_toArray, List.map_cons, List.map_nil, hs, hx, hr]
    exact hk
  | none =>
    have hc0 := hc.zero rfl
    have hm0 : m = 0 := by have := hc.le; omega
    subst hm0
    subst hc0
    obtain rfl : news = [] := List.eq_nil_of_length_eq_zero (by simpa using hc.len)
    have hrun := run_append_owned_none (P := P) w base t o.type e i size ht hi _ n xs hown
    have := h sa scap w (by simpa using hown) (World.grownBy.refl _ _) (.inl rfl)
    simp only [Nat.add_zero] at this
    unfold Oper.wp
    simp [execOp, ho, resolve, invoke, builtin, hs, hx, hrun, Result.andThen]
    exact this

theorem cell_lastAt (w : World) (cs : Array Value) (e : TypeId) {k j : Nat} {v : Value} (hk : k = w.heap.size) (hv : cs[j]? = some v) : (w.alloc (.cells cs e)).cell? ⟨k, j, none⟩ = some v := by
  subst hk
  simp only [World.cell?, heap_alloc_new]
  simpa using hv

/-- The first cells of a block: what they hold; they may be written. -/
def CellsAt (w : World) (g : Nat) (vs : List Value) : Prop := ∀ i v, vs[i]? = some v → w.cell? ⟨g, i, none⟩ = some v ∧ w.frozen? ⟨g, i, none⟩ = false

theorem CellsAt.new (w : World) (vs : List Value) (e : TypeId) {g : Nat} (hg : g = w.heap.size) : CellsAt (w.alloc (.cells vs.toArray e)) g vs := by
  subst hg
  intro i v hv
  refine ⟨cell_lastAt _ _ _ rfl (by simpa using hv), ?_⟩
  simp only [World.frozen?]
  rw [heap_alloc_new]
  simp
theorem CellsAt.keep {w w' : World} {g : Nat} {vs : List Value} (h : CellsAt w g vs) (hb : w'.heap[g]? = w.heap[g]?) : CellsAt w' g vs := fun i v hv =>
  ⟨(World.cell?_of_block (a := ⟨g, i, none⟩) hb).trans (h i v hv).1, (World.frozen?_of_block (a := ⟨g, i, none⟩) hb).trans (h i v hv).2⟩
theorem CellsAt.lt {w : World} {g : Nat} {v : Value} {vs : List Value} (h : CellsAt w g (v :: vs)) : g < w.heap.size := World.block_lt_of_cell? _ ⟨g, 0, none⟩ (h 0 v rfl).1
theorem CellsAt.far {w : World} {g : Nat} {vs : List Value} (h : CellsAt w g vs) (p : Addr) (v : Value) (hp : p.block ≠ g) : CellsAt (w.setCell p v) g vs :=
  h.keep (Below.heap_setCell w p v g (fun e => hp e.symm))
theorem CellsAt.set {w : World} {g : Nat} {vs : List Value} (h : CellsAt w g vs) {k : Nat} (hk : k < vs.length) (v : Value) : CellsAt (w.setCell ⟨g, k, none⟩ v) g (vs.set k v) := by
  intro i u hu
  rw [World.frozen?_setCell]
  have hi : i < vs.length := by have := (List.getElem?_eq_some_iff.1 hu).1; simpa using this
  have hc := h i _ (List.getElem?_eq_getElem hi)
  refine ⟨?_, hc.2⟩
  by_cases e : k = i
  · subst e
    rw [World.cell?_setCell_same _ _ _ hc.1]
    rw [List.getElem?_set_self hk] at hu
    exact hu
  · rw [World.cell?_setCell_other _ _ _ _ (by intro h; injection h with _ h _; exact e h), hc.1]
    rw [List.getElem?_set_ne e, List.getElem?_eq_getElem hi] at hu
    exact hu
theorem CellsAt.below {w w' : World} {g : Nat} {vs : List Value} (h : CellsAt w g vs) (hb : Below w.heap.size w w') : CellsAt w' g vs := by
  intro i v hv
  have hc := h i v hv
  exact ⟨(hb.cell (World.block_lt_of_cell? _ _ hc.1)).trans hc.1, (hb.frozen (World.block_lt_of_cell? _ _ hc.1)).trans hc.2⟩

theorem Same.setCell {U : Nat → Prop} (w : World) {p : Addr} (v : Value) (h : ¬ U p.block) : Same U w (w.setCell p v) := fun b hb _ => Below.heap_setCell w p v b (by rintro rfl; exact h hb)

/-- All but what row names is as it was. -/
def But1 (row : Option Nat) (w w' : World) : Prop := ∀ b, b < w.heap.size → some b ≠ row → w'.heap[b]? = w.heap[b]?
theorem But1.of_grown {row : Option Nat} {w w' : World} (h : w.grownBy w' row) : But1 row w w' := h.block
theorem But1.setCell (w : World) (g k : Nat) (v : Value) : But1 (some g) w (w.setCell ⟨g, k, none⟩ v) := fun b _ hb => Below.heap_setCell _ _ _ _ (fun e => hb (by rw [e]))

theorem owns_but {w w' : World} {row : Option Nat} {base e sz n : Nat} {v : Value} {xs : List Value} (h : w.ownsRow base e sz v n xs) (hb : But1 row w w') (hr : ∀ g, v.ownBlock = some g → row ≠ some g) : w'.ownsRow base e sz v n xs := by
  refine ⟨h.1, h.2.imp id ?_⟩
  rintro ⟨g, cap, cur, rfl, hg, hc, hr'⟩
  exact ⟨g, cap, cur, rfl, hg, (hb g (Array.getElem?_eq_some_iff.1 hc).1 (fun e => hr g rfl e.symm)).trans hc, hr'⟩

theorem Own.but {α : Type} {r : Rep α} {base : Nat} {e : TypeId} {U : Nat → Prop} {w w' : World} {row : Option Nat} {a : Option Addr} {n cap : Nat} {xs : List α} (h : Own r base e U w a n cap xs) (hb : But1 row w w') (hr : ∀ g, (Value.slice a n cap).ownBlock = some g → row ≠ some g) (hU : ∀ b, U b → row ≠ some b) : Own r base e U w' a n cap xs := by
  obtain ⟨vs, h1, h2, h3, h4⟩ := h
  exact ⟨vs, owns_but h1 hb hr, h2, h3, fun i x hx => r.keep (fun b hb' hlt => hb b hlt (fun e => hU b hb'.1 e.symm)) (h4 i x hx)⟩

theorem Own.heq {α : Type} {r : Rep α} {base : Nat} {e : TypeId} {U : Nat → Prop} {w w' : World} {a : Option Addr} {n cap : Nat} {xs : List α} (h : Own r base e U w a n cap xs) (hk : ∀ b, b < w.heap.size → ((Value.slice a n cap).ownBlock = some b ∨ U b) → w'.heap[b]? = w.heap[b]?) : Own r base e U w' a n cap xs := by
  obtain ⟨vs, h1, h2, h3, h4⟩ := h
  refine ⟨vs, ⟨h1.1, h1.2.imp id ?_⟩, h2, h3, fun i x hx => r.keep (fun b hb hlt => hk b hlt (.inr hb.1)) (h4 i x hx)⟩
  rintro ⟨g, cp, cur, hv, hg, hc, hr⟩
  exact ⟨g, cp, cur, hv, hg, (hk g (Array.getElem?_eq_some_iff.1 hc).1 (.inl (by rw [hv]; rfl))).trans hc, hr⟩

/-- A row of the call's own whose elements are rows of the call's own, all apart; their blocks are below B. -/
def Rows {α : Type} (r : Rep α) (base : Nat) (e1 e2 : TypeId) (U : Nat → Prop) (B : Nat) (w : World) (a : Option Addr) (n cap : Nat) (ess : List (List α)) : Prop :=
  ∃ vs : List Value, w.ownsRow base e1 1 (.slice a n cap) n vs ∧ ess.length = n ∧ (∀ g, (Value.slice a n cap).ownBlock = some g → g < B) ∧
    ∀ (i : Nat) (es : List α), ess[i]? = some es → ∃ a' n' c', vs[i]? = some (Value.slice a' n' c') ∧ Own r base e2 U w a' n' c' es ∧
      ∀ g, (Value.slice a' n' c').ownBlock = some g → g < B ∧ (Value.slice a n cap).ownBlock ≠ some g ∧ ∀ (j : Nat) (v : Value), vs[j]? = some v → v.ownBlock = some g → j = i

theorem Rows.nil {α : Type} (r : Rep α) (base : Nat) (e1 e2 : TypeId) (U : Nat → Prop) (B : Nat) (w : World) : Rows r base e1 e2 U B w none 0 0 [] :=
  ⟨[], World.ownsRow_nil _ _ _ _, rfl, fun g h => (by cases h), fun i es h => by simp at h⟩

theorem Rows.keep {α : Type} {r : Rep α} {base : Nat} {e1 e2 : TypeId} {U : Nat → Prop} {B : Nat} {w w' : World} {a : Option Addr} {n cap : Nat} {ess : List (List α)} (h : Rows r base e1 e2 U B w a n cap ess) (hb : Below w.heap.size w w') : Rows r base e1 e2 U B w' a n cap ess := by
  obtain ⟨vs, h1, h2, h3, h4⟩ := h
  refine ⟨vs, owns_keep h1 hb, h2, h3, fun i es he => ?_⟩
  obtain ⟨a', n', c', k1, k2, k3⟩ := h4 i es he
  exact ⟨a', n', c', k1, k2.keep hb, k3⟩

theorem Rows.but {α : Type} {r : Rep α} {base : Nat} {e1 e2 : TypeId} {U : Nat → Prop} {B : Nat} {w w' : World} {row : Option Nat} {a : Option Addr} {n cap : Nat} {ess : List (List α)} (h : Rows r base e1 e2 U B w a n cap ess) (hb : But1 row w w') (hU : ∀ b, U b → row ≠ some b) (hr : ∀ g, base ≤ g → g < B → row ≠ some g) : Rows r base e1 e2 U B w' a n cap ess := by
  obtain ⟨vs, h1, h2, h3, h4⟩ := h
  refine ⟨vs, owns_but h1 hb fun g hg => hr g (h1.lt g hg).1 (h3 g hg), h2, h3, fun i es he => ?_⟩
  obtain ⟨a', n', c', k1, k2, k3⟩ := h4 i es he
  exact ⟨a', n', c', k1, k2.but hb (fun g hg => hr g (k2.lt hg).2 (k3 g hg).1) hU, k3⟩

theorem Rows.len {α : Type} {r : Rep α} {base : Nat} {e1 e2 : TypeId} {U : Nat → Prop} {B : Nat} {w : World} {a : Option Addr} {n cap : Nat} {ess : List (List α)} (h : Rows r base e1 e2 U B w a n cap ess) : ess.length = n := by obtain ⟨_, _, h2, _⟩ := h; exact h2

theorem Rows.tight {α : Type} {r : Rep α} {base : Nat} {e1 e2 : TypeId} {U : Nat → Prop} {B : Nat} {w : World} {a : Option Addr} {n cap : Nat} {ess : List (List α)} (h : Rows r base e1 e2 U B w a n cap ess) : Rows r base e1 e2 U w.heap.size w a n cap ess := by
  obtain ⟨vs, h1, h2, h3, h4⟩ := h
  refine ⟨vs, h1, h2, fun g e => (h1.lt g e).2, fun i es he => ?_⟩
  obtain ⟨a', n', c', k1, k2, k3⟩ := h4 i es he
  exact ⟨a', n', c', k1, k2, fun g e => ⟨(k2.lt e).1, (k3 g e).2⟩⟩

/-- One more row, made since, is put behind the others. -/
theorem Rows.push {α : Type} {r : Rep α} {base : Nat} {e1 e2 : TypeId} {U : Nat → Prop} {B B' : Nat} {w w' : World} {a a1 a' : Option Addr} {n cap n1 c1 cap' : Nat} {ess : List (List α)} {es : List α} {vs : List Value}
    (hU : ∀ b, U b → b < base) (hBB : B ≤ B') (hB : B' ≤ w.heap.size)
    (h1 : w.ownsRow base e1 1 (.slice a n cap) n vs) (h2 : ess.length = n) (h3 : ∀ g, (Value.slice a n cap).ownBlock = some g → g < B)
    (h4 : ∀ (i : Nat) (es : List α), ess[i]? = some es → ∃ a' n' c', vs[i]? = some (Value.slice a' n' c') ∧ Own r base e2 U w a' n' c' es ∧
      ∀ g, (Value.slice a' n' c').ownBlock = some g → g < B ∧ (Value.slice a n cap).ownBlock ≠ some g ∧ ∀ (j : Nat) (v : Value), vs[j]? = some v → v.ownBlock = some g → j = i)
    (ho : Own r base e2 U w a1 n1 c1 es) (hf : ∀ g, (Value.slice a1 n1 c1).ownBlock = some g → B ≤ g ∧ g < B')
    (hw : w'.ownsRow base e1 1 (.slice a' (n + 1) cap') (n + 1) (vs ++ [.slice a1 n1 c1])) (hg : w.grownBy w' (Value.slice a n cap).ownBlock)
    (hs : (Value.slice a' (n + 1) cap').ownBlock = (Value.slice a n cap).ownBlock ∨ (Value.slice a' (n + 1) cap').ownBlock = some w.heap.size) :
    Rows r base e1 e2 U (w.heap.size + 1) w' a' (n + 1) cap' (ess ++ [es]) := by
  have hvl : vs.length = n := by have := h1.1; omega
  have hU' : ∀ b, U b → (Value.slice a n cap).ownBlock ≠ some b := fun b hb e => by have := (h1.lt b e).1; have := hU b hb; omega
  have hne : ∀ g, g < B' → (Value.slice a n cap).ownBlock ≠ some g → (Value.slice a' (n + 1) cap').ownBlock ≠ some g := fun g hg1 hg2 e => by
    rcases hs with hs | hs
    · exact hg2 (hs.symm.trans e)
    · rw [hs] at e; cases e; omega
  refine ⟨vs ++ [.slice a1 n1 c1], hw, by rw [List.length_append, h2]; rfl, fun g e => ?_, fun i es' he => ?_⟩
  · rcases hs with hs | hs
    · have := h3 g (hs.symm.trans e); omega
    · rw [hs] at e; cases e; omega
  · by_cases hi : i < ess.length
    · rw [List.getElem?_append_left hi] at he
      obtain ⟨a2, n2, c2, k1, k2, k3⟩ := h4 i es' he
      refine ⟨a2, n2, c2, by rw [List.getElem?_append_left (by omega)]; exact k1, k2.but (But1.of_grown hg) (fun g e => (k3 g e).2.1) hU', fun g e => ?_⟩
      obtain ⟨q1, q2, q3⟩ := k3 g e
      refine ⟨by omega, hne g (by omega) q2, fun j v hj hv => ?_⟩
      by_cases hj' : j < vs.length
      · rw [List.getElem?_append_left hj'] at hj
        exact q3 j v hj hv
      · rw [List.getElem?_append_right (by omega)] at hj
        obtain rfl : Value.slice a1 n1 c1 = v := by
          cases hk : j - vs.length with
          | zero => rw [hk] at hj; simpa using hj
          | succ m => rw [hk] at hj; simp at hj
        have := (hf g hv).1
        omega
    · rw [List.getElem?_append_right (by omega)] at he
      obtain ⟨hk, rfl⟩ : i = n ∧ es = es' := by
        cases hk : i - ess.length with
        | zero => rw [hk] at he; exact ⟨by omega, by simpa using he⟩
        | succ m => rw [hk] at he; simp at he
      subst hk
      refine ⟨a1, n1, c1, by rw [List.getElem?_append_right (by omega), hvl, Nat.sub_self]; rfl, ho.but (But1.of_grown hg) (fun g e q => ?_) hU', fun g e => ?_⟩
      · have := h3 g q; have := (hf g e).1; omega
      · obtain ⟨q1, q2⟩ := hf g e
        refine ⟨by omega, hne g q2 (fun q => by have := h3 g q; omega), fun j v hj hv => ?_⟩
        by_cases hj' : j < vs.length
        · rw [List.getElem?_append_left hj'] at hj
          obtain ⟨es2, he2⟩ : ∃ es2, ess[j]? = some es2 := ⟨_, List.getElem?_eq_getElem (by omega)⟩
          obtain ⟨a2, n2, c2, k1, k2, k3⟩ := h4 j es2 he2
          obtain rfl : Value.slice a2 n2 c2 = v := Option.some.inj (k1.symm.trans hj)
          have := (k3 g hv).1
          omega
        · have := (List.getElem?_eq_some_iff.1 hj).1
          rw [List.length_append, List.length_singleton] at this
          omega

/-- One of the rows is read, something is put behind it, and it is set again. -/
theorem Rows.core {α : Type} {r : Rep α} {base : Nat} {e1 e2 : TypeId} {U : Nat → Prop} {B : Nat} {w : World} {g n cap i : Nat} {ess : List (List α)} {vs : List Value} {a' : Option Addr} {n' c' : Nat} (hU : ∀ b, U b → b < base) (hg : base ≤ g)
    (h1 : w.ownsRow base e1 1 (.slice (some ⟨g, 0, none⟩) n cap) n vs) (h2 : ess.length = n) (h3 : ∀ g', (Value.slice (some ⟨g, 0, none⟩) n cap).ownBlock = some g' → g' < B)
    (h4 : ∀ (i : Nat) (es : List α), ess[i]? = some es → ∃ a' n' c', vs[i]? = some (Value.slice a' n' c') ∧ Own r base e2 U w a' n' c' es ∧
      ∀ g', (Value.slice a' n' c').ownBlock = some g' → g' < B ∧ (Value.slice (some ⟨g, 0, none⟩) n cap).ownBlock ≠ some g' ∧ ∀ (j : Nat) (v : Value), vs[j]? = some v → v.ownBlock = some g' → j = i)
    (hvl : vs.length = n) (hi : i < n) (hgB : g < B) (k1 : vs[i]? = some (Value.slice a' n' c')) {es : List α} (k2 : Own r base e2 U w a' n' c' es)
    (k3 : ∀ g', (Value.slice a' n' c').ownBlock = some g' → g' < B ∧ (Value.slice (some ⟨g, 0, none⟩) n cap).ownBlock ≠ some g' ∧ ∀ (j : Nat) (v : Value), vs[j]? = some v → v.ownBlock = some g' → j = i)
    (w2 : World) (a2 : Option Addr) (n2 c2 : Nat) (es2 : List α) (o2 : Own r base e2 U w2 a2 n2 c2 es2) (hb : But1 (Value.slice a' n' c').ownBlock w w2) (hs : (Value.slice a2 n2 c2).ownBlock = (Value.slice a' n' c').ownBlock ∨ (Value.slice a2 n2 c2).ownBlock = some w.heap.size) (hB : B ≤ w.heap.size) :
    (w2.cell? ⟨g, i, none⟩ = some (.slice a' n' c') ∧ w2.frozen? ⟨g, i, none⟩ = false) ∧ Rows r base e1 e2 U (w.heap.size + 1) (w2.setCell ⟨g, i, none⟩ (.slice a2 n2 c2)) (some ⟨g, 0, none⟩) n cap (ess.set i es2) := by
  have hcell : ∀ w : World, w.ownsRow base e1 1 (.slice (some ⟨g, 0, none⟩) n cap) n vs → w.cell? ⟨g, i, none⟩ = some (.slice a' n' c') ∧ w.frozen? ⟨g, i, none⟩ = false := fun w h1 => ⟨(h1.cellAt i (by omega)).trans k1, h1.frozenAt _⟩
  have hrow : ∀ g', (Value.slice (some ⟨g, 0, none⟩) n cap).ownBlock = some g' → (Value.slice a' n' c').ownBlock ≠ some g' := fun g' e q => (k3 g' q).2.1 e
  have h1' := owns_but h1 hb hrow
  have hne2 : (Value.slice a2 n2 c2).ownBlock ≠ some g := fun e => by
    rcases hs with hs | hs
    · exact (k3 g (hs.symm.trans e)).2.1 rfl
    · rw [hs] at e; cases e; omega
  have hUg : ∀ b, U b → some g ≠ some b := fun b hb e => by cases e; have := hU g hb; omega
  refine ⟨hcell w2 h1', vs.set i (.slice a2 n2 c2), (h1'.stored i _).1, by rw [List.length_set]; exact h2, fun g' e => by have := h3 g' e; omega, fun j es' hj => ?_⟩
  by_cases hji : j = i
  · subst hji
    rw [List.getElem?_set_self (by omega)] at hj
    cases hj
    refine ⟨a2, n2, c2, List.getElem?_set_self (by omega), o2.but (But1.setCell _ _ _ _) (fun g' e q => hne2 (by rw [e, ← q])) hUg, fun g' e => ⟨?_, fun q => hne2 (by rw [e]; exact q.symm), fun j' v hj' hv => ?_⟩⟩
    · rcases hs with hs | hs
      · have := (k3 g' (hs.symm.trans e)).1; omega
      · rw [hs] at e; cases e; omega
    · by_cases hjj : j' = j
      · exact hjj
      · rw [List.getElem?_set_ne (fun e => hjj e.symm)] at hj'
        rcases hs with hs | hs
        · exact (k3 g' (hs.symm.trans e)).2.2 j' v hj' hv
        · rw [hs] at e
          cases e
          have hlt := (List.getElem?_eq_some_iff.1 hj').1
          obtain ⟨es3, he3⟩ : ∃ es3, ess[j']? = some es3 := ⟨_, List.getElem?_eq_getElem (by omega)⟩
          obtain ⟨a3, n3, c3, q1, q2, q3⟩ := h4 j' es3 he3
          obtain rfl : Value.slice a3 n3 c3 = v := Option.some.inj (q1.symm.trans hj')
          have := (q3 _ hv).1
          omega
  · rw [List.getElem?_set_ne (fun e => hji e.symm)] at hj
    obtain ⟨a3, n3, c3, q1, q2, q3⟩ := h4 j es' hj
    have hne3 : ∀ g', (Value.slice a3 n3 c3).ownBlock = some g' → (Value.slice a' n' c').ownBlock ≠ some g' := fun g' e q => hji ((k3 g' q).2.2 j _ q1 e)
    have hU3 : ∀ b, U b → (Value.slice a' n' c').ownBlock ≠ some b := fun b hb e => by have := (k2.lt e).2; have := hU b hb; omega
    refine ⟨a3, n3, c3, by rw [List.getElem?_set_ne (fun e => hji e.symm)]; exact q1, (q2.but hb hne3 hU3).but (But1.setCell _ _ _ _) (fun g' e q => (q3 g' e).2.1 (by rw [← q]; rfl)) hUg, fun g' e => ?_⟩
    obtain ⟨r1, r2, r3⟩ := q3 g' e
    refine ⟨by omega, r2, fun j' v hj' hv => ?_⟩
    by_cases hjj : j' = i
    · subst hjj
      rw [List.getElem?_set_self (by omega)] at hj'
      cases hj'
      rcases hs with hs | hs
      · exact absurd (hs.symm.trans hv) (hne3 g' e)
      · rw [hs] at hv; cases hv; omega
    · rw [List.getElem?_set_ne (fun e => hjj e.symm)] at hj'
      exact r3 j' v hj' hv

theorem Rows.at {α : Type} {r : Rep α} {base : Nat} {e1 e2 : TypeId} {U : Nat → Prop} {B : Nat} {w : World} {a : Option Addr} {n cap : Nat} {ess : List (List α)} (h : Rows r base e1 e2 U B w a n cap ess) (hU : ∀ b, U b → b < base) {i : Nat} {es : List α} (he : ess[i]? = some es) :
    ∃ g a' n' c' vs, a = some ⟨g, 0, none⟩ ∧ base ≤ g ∧ g < B ∧ i < n ∧ w.ownsRow base e2 r.sz (.slice a' n' c') n' vs ∧ es.length = n' ∧ (∀ v ∈ vs, v.oneCell' = true) ∧ (∀ i x, es[i]? = some x → r.R (fun b => U b ∧ (Value.slice a' n' c').ownBlock ≠ some b) w ((vs.drop (i * r.sz)).take r.sz) x) ∧
      (∀ k, (Value.slice a' n' c').ownBlock = some k → base ≤ k ∧ k < B ∧ k ≠ g) ∧ ∀ W, Below w.heap.size w W → B ≤ W.heap.size → (W.cell? ⟨g, i, none⟩ = some (.slice a' n' c') ∧ W.frozen? ⟨g, i, none⟩ = false) ∧
        ∀ w2 a2 n2 c2 es2, Own r base e2 U w2 a2 n2 c2 es2 → But1 (Value.slice a' n' c').ownBlock W w2 → ((Value.slice a2 n2 c2).ownBlock = (Value.slice a' n' c').ownBlock ∨ (Value.slice a2 n2 c2).ownBlock = some W.heap.size) →
          (w2.cell? ⟨g, i, none⟩ = some (.slice a' n' c') ∧ w2.frozen? ⟨g, i, none⟩ = false) ∧ Rows r base e1 e2 U (W.heap.size + 1) (w2.setCell ⟨g, i, none⟩ (.slice a2 n2 c2)) a n cap (ess.set i es2) := by
  obtain ⟨vs, h1, h2, h3, h4⟩ := h
  obtain ⟨a', n', c', k1, k2, k3⟩ := h4 i es he
  have hvl : vs.length = n := by have := h1.1; omega
  have hi : i < n := by rw [← h2]; exact (List.getElem?_eq_some_iff.1 he).1
  obtain ⟨g, rfl, hg⟩ := owns_shape h1 (by omega)
  have hgB : g < B := h3 g rfl
  have k2' := k2
  obtain ⟨us, q1, q2, q3, q4⟩ := k2'
  refine ⟨g, a', n', c', us, rfl, hg, hgB, hi, q1, q2, q3, q4, fun k hk => ⟨(k2.lt hk).2, (k3 k hk).1, fun e => (k3 k hk).2.1 (by rw [e]; rfl)⟩, fun W hW hB => ?_⟩
  have h1' := owns_keep h1 hW
  refine ⟨⟨(h1'.cellAt i (by omega)).trans k1, h1'.frozenAt _⟩, fun w2 a2 n2 c2 es2 o2 hb hs => Rows.core hU hg h1' h2 h3 (fun i es he => ?_) hvl hi hgB k1 (k2.keep hW) k3 w2 a2 n2 c2 es2 o2 hb hs hB⟩
  obtain ⟨a3, n3, c3, r1, r2, r3⟩ := h4 i es he
  exact ⟨a3, n3, c3, r1, r2.keep hW, r3⟩

/-- A row to which something has been put behind. -/
theorem own_push_of {α : Type} {r : Rep α} {base : Nat} {e : TypeId} {U : Nat → Prop} {W w' : World} {a a5 : Option Addr} {n c c5 : Nat} {es : List α} {y : α} {vs ls : List Value} (hU : ∀ b, U b → b < base)
    (ho1 : W.ownsRow base e r.sz (.slice a n c) n vs) (ho2 : es.length = n) (ho3 : ∀ v ∈ vs, v.oneCell' = true) (ho4 : ∀ i x, es[i]? = some x → r.R U W ((vs.drop (i * r.sz)).take r.sz) x) (hy : r.R U W ls y)
    (ow : w'.ownsRow base e r.sz (.slice a5 (n + 1) c5) (n + 1) (vs ++ ls)) (gr : W.grownBy w' (Value.slice a n c).ownBlock) : Own r base e U w' a5 (n + 1) c5 (es ++ [y]) := by
  have hvl : vs.length = n * r.sz := ho1.1
  have hll := r.len hy
  have hsame : Same U W w' := fun b hb hlt => gr.block b hlt fun e => by have := (ho1.lt b e.symm).1; have := hU b hb; omega
  refine ⟨vs ++ ls, ow, by rw [List.length_append, ho2]; rfl, fun v hv => (List.mem_append.1 hv).elim (ho3 v) (r.one hy v), fun i x hx => ?_⟩
  have key : r.R U W (((vs ++ ls).drop (i * r.sz)).take r.sz) x := by
    by_cases hi : i < es.length
    · rw [List.getElem?_append_left hi] at hx
      have hle : i * r.sz + r.sz ≤ n * r.sz := by rw [← Nat.succ_mul]; exact Nat.mul_le_mul_right _ (by rw [← ho2]; exact hi)
      rw [List.drop_append_of_le_length (by omega), List.take_append_of_le_length (by rw [List.length_drop]; omega)]
      exact ho4 i x hx
    · rw [List.getElem?_append_right (by omega)] at hx
      obtain ⟨hk, rfl⟩ : i = n ∧ y = x := by
        cases hk : i - es.length with
        | zero => rw [hk] at hx; exact ⟨by omega, by simpa using hx⟩
        | succ m => rw [hk] at hx; simp at hx
      subst hk
      rw [List.drop_append, List.drop_eq_nil_of_le (by omega), hvl, Nat.sub_self, List.nil_append, List.drop_zero, List.take_of_length_le (by omega)]
      exact hy
  exact r.mono (fun b hb => ⟨hb, fun e => by have := (ow.lt b e).1; have := hU b hb; omega⟩) (r.keep hsame key)

/-- One cell of a row of single cells is set. -/
theorem own_set1 {α : Type} {r : Rep α} (h1 : r.sz = 1) {base : Nat} {e : TypeId} {U : Nat → Prop} {w : World} {g n cap : Nat} {xs : List α} (h : Own r base e U w (some ⟨g, 0, none⟩) n cap xs) (hU : ∀ b, U b → b ≠ g) {i : Nat} (hi : i < n) {v : Value} {y : α} (hy : r.R U w [v] y) :
    (∃ u, w.cell? ⟨g, i, none⟩ = some u) ∧ w.frozen? ⟨g, i, none⟩ = false ∧ Own r base e U (w.setCell ⟨g, i, none⟩ v) (some ⟨g, 0, none⟩) n cap (xs.set i y) := by
  obtain ⟨vs, q1, q2, q3, q4⟩ := h
  have hvl : vs.length = n := by have := q1.1; rw [h1] at this; omega
  have hne : ∀ b, U b → (Value.slice (some ⟨g, 0, none⟩) n cap).ownBlock ≠ some b := fun b hb e => by cases e; exact hU g hb rfl
  have hsame : Same U w (w.setCell ⟨g, i, none⟩ v) := fun b hb _ => Below.heap_setCell _ _ _ _ (hU b hb)
  refine ⟨⟨_, (q1.cellAt i (by rw [h1, Nat.mul_one]; exact hi)).trans (List.getElem?_eq_getElem (by omega))⟩, q1.frozenAt _, vs.set i v, (q1.stored i v).1, by rw [List.length_set]; exact q2, fun u hu => ?_, fun j x hx => r.mono (fun b hb => ⟨hb, hne b hb⟩) (r.keep hsame ?_)⟩
  · rcases List.mem_or_eq_of_mem_set hu with h | rfl
    · exact q3 u h
    · exact r.one hy u (List.mem_singleton.2 rfl)
  · have e1 : ∀ ws : List Value, (ws.drop (j * r.sz)).take r.sz = ws[j]?.toList := fun ws => by rw [h1, Nat.mul_one, List.take_one, List.head?_drop]
    rw [e1]
    by_cases hj : j = i
    · subst hj
      rw [List.getElem?_set_self (by omega)] at hx ⊢
      cases hx
      exact hy
    · rw [List.getElem?_set_ne (fun e => hj e.symm)] at hx ⊢
      have := q4 j x hx
      rw [e1] at this
      exact r.mono (fun b hb => hb.1) this

/-- As plain data: a list of lists. -/
theorem Rows.sl {sz bytes M2 : Nat} {p1 : 0 < sz} {p2 : 0 < bytes} {base : Nat} {e1 e2 : TypeId} {U : Nat → Prop} {B : Nat} {w : World} {a : Option Addr} {n cap : Nat} {ess : List (List (List D))} (h : Rows (rD sz bytes p1 p2) base e1 e2 U B w a n cap ess) {V : Nat → Prop} (hV : ∀ b, U b ∨ base ≤ b → V b) :
    Sl (rD 1 24 (by decide) (by decide)) V w a n cap (ess.map fun es => [.view sz es]) := by
  obtain ⟨vs, h1, h2, h3, h4⟩ := h
  obtain ⟨a', cap', hv, hc, hg⟩ := cells_of_owns h1
  cases hv
  refine Sl.of_cells (by rw [List.length_map]; exact h2) (fun _ x hx => ?_) hc fun i x hx => ?_
  · rcases hg with rfl | ⟨g, rfl, hg⟩
    · cases hx
    · cases hx
      exact hV _ (.inr hg)
  · rw [List.getElem?_map] at hx
    cases he : ess[i]? with
    | none => rw [he] at hx; cases hx
    | some es =>
      rw [he] at hx
      cases hx
      obtain ⟨a', n', c', k1, k2, k3⟩ := h4 i es he
      have hi := (List.getElem?_eq_some_iff.1 he).1
      have e : (vs.drop (i * 1)).take 1 = [.slice a' n' c'] := by
        rw [Nat.mul_one, List.take_one, List.head?_drop, k1]; rfl
      have e' : (vs.drop (i * (rD 1 24 (by decide) (by decide)).sz)).take (rD 1 24 (by decide) (by decide)).sz = [.slice a' n' c'] := e
      rw [e']
      refine ⟨rfl, rfl, fun j d v hd hv => ?_⟩
      cases j with
      | zero =>
        cases hd; cases hv
        exact view_of_sl ((k2.mono (Nat.le_refl _) (V := V) (fun b hb => hV b (.inl hb))).sl fun b hb => hV b (.inr hb))
      | succ j => simp at hd
end Go.Proofs.Ytmkfpfnjimmmaaa
