/- A row of such data that the call has made itself: it grows by append. Nothing of the dump stands here. -/
import Derived.Test.YtmkfpfnjimmmaaaRep
import Derived.Maps.AppendAt
import Derived.BigFrame
namespace Go.Proofs.Ytmkfpfnjimmmaaa
open Go.RowKit

/-- A row of the call's own reads as this list; what is read behind its cells lies in U, and apart from the row. -/
def Own {α : Type} (r : Rep α) (base : Nat) (e : TypeId) (U : Nat → Prop) (w : World) (a : Option Addr) (n cap : Nat) (xs : List α) : Prop :=
  ∃ vs, w.ownsRow base e r.sz (.slice a n cap) n vs ∧ xs.length = n ∧ (∀ v ∈ vs, v.oneCell' = true) ∧
    ∀ i x, xs[i]? = some x → r.R (fun b => U b ∧ (Value.slice a n cap).ownBlock ≠ some b) w ((vs.drop (i * r.sz)).take r.sz) x

theorem Own.nil {α : Type} (r : Rep α) (base : Nat) (e : TypeId) (U : Nat → Prop) (w : World) : Own r base e U w none 0 0 [] :=
  ⟨[], World.ownsRow_nil _ _ _ _, rfl, fun v hv => by simp at hv, fun i x hx => by simp at hx⟩

theorem Own.keep {α : Type} {r : Rep α} {base : Nat} {e : TypeId} {U : Nat → Prop} {w w' : World} {a : Option Addr} {n cap : Nat} {xs : List α} (h : Own r base e U w a n cap xs) (hb : Below w.heap.size w w') : Own r base e U w' a n cap xs := by
  obtain ⟨vs, h1, h2, h3, h4⟩ := h
  exact ⟨vs, owns_keep h1 hb, h2, h3, fun i x hx => r.below hb (h4 i x hx)⟩

theorem Own.mono {α : Type} {r : Rep α} {base base' : Nat} {e : TypeId} {U V : Nat → Prop} {w : World} {a : Option Addr} {n cap : Nat} {xs : List α} (h : Own r base e U w a n cap xs) (hb : base' ≤ base) (hu : ∀ b, U b → V b) : Own r base' e V w a n cap xs := by
  obtain ⟨vs, h1, h2, h3, h4⟩ := h
  exact ⟨vs, owns_mono h1 hb, h2, h3, fun i x hx => r.mono (fun b hb => ⟨hu b hb.1, hb.2⟩) (h4 i x hx)⟩

theorem Own.len {α : Type} {r : Rep α} {base : Nat} {e : TypeId} {U : Nat → Prop} {w : World} {a : Option Addr} {n cap : Nat} {xs : List α} (h : Own r base e U w a n cap xs) : xs.length = n := by
  obtain ⟨vs, h1, h2, h3, h4⟩ := h
  exact h2

/-- The row's block is there, and none of those to come. -/
theorem Own.lt {α : Type} {r : Rep α} {base : Nat} {e : TypeId} {U : Nat → Prop} {w : World} {a : Option Addr} {n cap : Nat} {xs : List α} (h : Own r base e U w a n cap xs) {g : Nat} (hg : (Value.slice a n cap).ownBlock = some g) : g < w.heap.size ∧ base ≤ g := by
  obtain ⟨vs, h1, _⟩ := h
  exact (h1.lt g hg).symm

theorem Own.sl {α : Type} {r : Rep α} {base : Nat} {e : TypeId} {U : Nat → Prop} {w : World} {a : Option Addr} {n cap : Nat} {xs : List α} (h : Own r base e U w a n cap xs) (hu : ∀ b, base ≤ b → U b) : Sl r U w a n cap xs := by
  obtain ⟨vs, h1, h2, h3, h4⟩ := h
  obtain ⟨a', cap', hv, hc, hg⟩ := cells_of_owns h1
  cases hv
  refine Sl.of_cells h2 (fun _ x hx => ?_) hc fun i x hx => r.mono (fun b hb => hb.1) (h4 i x hx)
  rcases hg with rfl | ⟨g, rfl, hg⟩
  · cases hx
  · cases hx
    exact hu _ hg

/-- 'append' onto such a row. -/
theorem wp_own_push {α : Type} {r : Rep α} {P : Program} {w : World} {o : Oper} {a : Act} {K : Act → World → Prop} {Q : Exit → Act → World → Prop} (s x : Operand) (t : TypeId)
    (ho : o.op = .call { callee := .builtin .append, args := #[s, x], argTypes := #[t, t] })
    (base : Nat) (e : TypeId) (i : TypeInfo) (z : Value) (ht : P.underlying t = some (.slice e)) (hi : P.info? e = some i) (hz : i.zero = some z)
    (hsize : i.size = r.sz) (hby : i.bytes = r.bytes) (hzs : z.cells.size = r.sz) {U : Nat → Prop}
    (sa : Option Addr) (n scap : Nat) (xs : List α) (hs : a.eval s = .slice sa n scap) (hown : Own r base e U w sa n scap xs)
    (ao : Option Addr) (m c : Nat) (news : List Value) (ys : List α) (hx : a.eval x = .slice ao m c) (hc : Cells w ao m c r.sz news) (hm : ys.length = m) (h1 : ∀ u ∈ news, u.oneCell' = true)
    (hy : ∀ i y, ys[i]? = some y → r.R (fun b => U b ∧ (Value.slice sa n scap).ownBlock ≠ some b) w ((news.drop (i * r.sz)).take r.sz) y)
    (h63 : n + m ≤ maxLen) (hbytes : (n + m) * r.bytes ≤ 140737488355328) (w0 : World) (hbase : Below base w0 w) (hbs : base ≤ w.heap.size)
    (h : ∀ a' cap' w', Own r base e U w' a' (n + m) cap' (xs ++ ys) → Below base w0 w' → w.grownBy w' (Value.slice sa n scap).ownBlock → K (a.put o.dst (.slice a' (n + m) cap')) w') :
    o.wp P a w K Q := by
  obtain ⟨vs, ho1, ho2, ho3, ho4⟩ := hown
  have hbl : ∀ w', w.grownBy w' (Value.slice sa n scap).ownBlock → Below base w0 w' := fun w' hg =>
    hbase.grown hg hbs (fun k hk => (ho1.lt k hk).1)
  cases ao with
  | some ad =>
    obtain ⟨v', w', hr, h2, h3, _, h5⟩ := run_append_own_at (P := P) w base t o.type e i z r.sz r.bytes ht hi hz hsize hby hzs r.pos _ n vs ho1 ad m c news hc.len (fun j u hu => by
      obtain ⟨b, off, hab, hcell⟩ := hc.row.cell j u hu
      cases hab
      rw [Addr.add_lit]
      exact hcell) h1 h63 hbytes hbs
    obtain ⟨a', cap', rfl, _, _⟩ := cells_of_owns h2
    have hsame : Same (fun b => U b ∧ (Value.slice sa n scap).ownBlock ≠ some b) w w' := fun b hb hlt => h3.block b hlt (fun e => hb.2 e.symm)
    have hk := h a' cap' w' ⟨vs ++ news, h2, by rw [List.length_append, ho2, hm], fun v hv => (List.mem_append.1 hv).elim (ho3 v) (h1 v), fun i y hy' => ?_⟩ (hbl w' h3) h3
    · unfold Oper.wp execOp
      simp only [ho, resolve, invoke, builtin, Sem.run_bind, Sem.run_pure, Result.andThen_ok, List.map_toArray, List.map_cons, List.map_nil, hs, hx, hr]
      exact hk
    · have hvl : vs.length = n * r.sz := ho1.1
      have key : r.R (fun b => U b ∧ (Value.slice sa n scap).ownBlock ≠ some b) w (((vs ++ news).drop (i * r.sz)).take r.sz) y := by
        by_cases hin : i < xs.length
        · rw [List.getElem?_append_left hin] at hy'
          have h6 := ho4 i y hy'
          rw [ho2] at hin
          have hle : i * r.sz + r.sz ≤ vs.length := by rw [hvl, ← Nat.succ_mul]; exact Nat.mul_le_mul_right _ hin
          rw [List.drop_append_of_le_length (by omega), List.take_append_of_le_length (by rw [List.length_drop]; omega)]
          exact h6
        · rw [List.getElem?_append_right (by omega)] at hy'
          have h6 := hy _ y hy'
          rw [ho2] at h6 hin
          have e1 : (vs ++ news).drop (i * r.sz) = news.drop ((i - n) * r.sz) := by
            rw [List.drop_append, List.drop_eq_nil_of_le (by rw [hvl]; exact Nat.mul_le_mul_right _ (by omega)), hvl, List.nil_append, Nat.sub_mul]
          rw [e1]
          exact h6
      have key3 : r.R (fun b => (U b ∧ (Value.slice sa n scap).ownBlock ≠ some b) ∧ b < w.heap.size) w' (((vs ++ news).drop (i * r.sz)).take r.sz) y := r.keep (hsame.mono (fun b hb => hb.1)) (r.lt key)
      refine r.mono (fun b hb => ⟨hb.1.1, ?_⟩) key3
      rcases h5 with h5 | h5
      · rw [h5]; exact hb.1.2
      · rw [h5]
        intro e
        have := hb.2
        injection e with e
        omega
  | none =>
    have hc0 := hc.zero rfl
    have hm0 : m = 0 := by have := hc.le; omega
    subst hm0
    subst hc0
    obtain rfl : news = [] := List.eq_nil_of_length_eq_zero (by simpa using hc.len)
    obtain rfl : ys = [] := List.eq_nil_of_length_eq_zero hm
    have hrun := run_append_owned_none (P := P) w base t o.type e i r.sz ht hi _ n vs ho1
    have := h sa scap w (by rw [List.append_nil]; exact ⟨vs, ho1, ho2, ho3, ho4⟩) hbase (World.grownBy.refl _ _)
    simp only [Nat.add_zero] at this
    unfold Oper.wp
    simp [execOp, ho, resolve, invoke, builtin, hs, hx, hrun, Result.andThen]
    exact this

theorem wpList_own_push {α : Type} {r : Rep α} {P : Program} {w : World} {ops : Array Oper} {rest : List Oper} {o : Oper} {a : Act} {Q : Exit → Act → World → Prop} (hgd : o.guard = none) (s x : Operand) (t : TypeId)
    (ho : o.op = .call { callee := .builtin .append, args := #[s, x], argTypes := #[t, t] })
    (base : Nat) (e : TypeId) (i : TypeInfo) (z : Value) (ht : P.underlying t = some (.slice e)) (hi : P.info? e = some i) (hz : i.zero = some z)
    (hsize : i.size = r.sz) (hby : i.bytes = r.bytes) (hzs : z.cells.size = r.sz) {U : Nat → Prop}
    (sa : Option Addr) (n scap : Nat) (xs : List α) (hs : a.eval s = .slice sa n scap) (hown : Own r base e U w sa n scap xs)
    (ao : Option Addr) (m c : Nat) (news : List Value) (ys : List α) (hx : a.eval x = .slice ao m c) (hc : Cells w ao m c r.sz news) (hm : ys.length = m) (h1 : ∀ u ∈ news, u.oneCell' = true)
    (hy : ∀ i y, ys[i]? = some y → r.R (fun b => U b ∧ (Value.slice sa n scap).ownBlock ≠ some b) w ((news.drop (i * r.sz)).take r.sz) y)
    (h63 : n + m ≤ maxLen) (hbytes : (n + m) * r.bytes ≤ 140737488355328) (w0 : World) (hbase : Below base w0 w) (hbs : base ≤ w.heap.size)
    (h : ∀ a' cap' w', Own r base e U w' a' (n + m) cap' (xs ++ ys) → Below base w0 w' → w.grownBy w' (Value.slice sa n scap).ownBlock → wpList P ops Q rest (a.put o.dst (.slice a' (n + m) cap')) w') :
    wpList P ops Q (o :: rest) a w :=
  wpList_plain hgd fun _ hK => wp_own_push s x t ho base e i z ht hi hz hsize hby hzs sa n scap xs hs hown ao m c news ys hx hc hm h1 hy h63 hbytes w0 hbase hbs fun a' cap' w' h2 h3 h4 => hK _ _ (h a' cap' w' h2 h3 h4)

theorem take_all_one {α : Type} {r : Rep α} {U : Nat → Prop} {w : World} {es : List Value} {y : α} (h : r.R U w es y) : ∀ i y', [y][i]? = some y' → r.R U w ((es.drop (i * r.sz)).take r.sz) y' := by
  intro i y' hy
  match i, hy with
  | 0, hy =>
    obtain rfl : y = y' := by simpa using hy
    rw [Nat.zero_mul, List.drop_zero, List.take_of_length_le (by rw [r.len h]; exact Nat.le_refl _)]
    exact h
/-- 'append' onto a slice of the call's own, of whatever row. -/
theorem wp_append_row2 {P : Program} {w : World} {o : Oper} {a : Act} {K : Act → World → Prop} {Q : Exit → Act → World → Prop} (s x : Operand) (t : TypeId)
    (ho : o.op = .call { callee := .builtin .append, args := #[s, x], argTypes := #[t, t] })
    (base : Nat) (e : TypeId) (i : TypeInfo) (z : Value) (size bytes : Nat) (ht : P.underlying t = some (.slice e)) (hi : P.info? e = some i) (hz : i.zero = some z)
    (hsize : i.size = size) (hby : i.bytes = bytes) (hzs : z.cells.size = size) (hsz : 0 < size)
    (sa : Option Addr) (n scap : Nat) (xs : List Value) (hs : a.eval s = .slice sa n scap) (hown : w.ownsRow base e size (.slice sa n scap) n xs)
    (ao : Option Addr) (m c : Nat) (news : List Value) (hx : a.eval x = .slice ao m c) (hc : Cells w ao m c size news) (h1 : ∀ u ∈ news, u.oneCell' = true)
    (h63 : n + m ≤ maxLen) (hbytes : (n + m) * bytes ≤ 140737488355328) (w0 : World) (hbase : Below base w0 w) (hbs : base ≤ w.heap.size)
    (h : ∀ a' cap' w', w'.ownsRow base e size (.slice a' (n + m) cap') (n + m) (xs ++ news) → Below base w0 w' → w.grownBy w' (Value.slice sa n scap).ownBlock → K (a.put o.dst (.slice a' (n + m) cap')) w') :
    o.wp P a w K Q := by
  have hbl : ∀ w', w.grownBy w' (Value.slice sa n scap).ownBlock → Below base w0 w' := fun w' hg =>
    hbase.grown hg hbs (fun k hk => (hown.lt k hk).1)
  cases ao with
  | some ad =>
    refine wp_append_own w s x t ho base e i z size bytes ht hi hz hsize hby hzs hsz _ n xs hs hown ad m c news hx hc.len (fun j u hu => ?_) h1 h63 hbytes hbs ?_
    · obtain ⟨b, off, hab, hcell⟩ := hc.row.cell j u hu
      cases hab
      rw [Addr.add_lit]
      exact hcell
    · intro v' w' ho' hg _
      obtain ⟨a', cap', rfl, _, _⟩ := cells_of_owns ho'
      exact h a' cap' w' ho' (hbl w' hg) hg
  | none =>
    have hc0 := hc.zero rfl
    have hm0 : m = 0 := by have := hc.le; omega
    subst hm0
    subst hc0
    obtain rfl : news = [] := List.eq_nil_of_length_eq_zero (by simpa using hc.len)
    have hrun := run_append_owned_none (P := P) w base t o.type e i size ht hi _ n xs hown
    have := h sa scap w (by simpa using hown) hbase (World.grownBy.refl _ _)
    simp only [Nat.add_zero] at this
    unfold Oper.wp
    simp [execOp, ho, resolve, invoke, builtin, hs, hx, hrun, Result.andThen]
    exact this

theorem wpList_append_row2 {P : Program} {w : World} {ops : Array Oper} {rest : List Oper} {o : Oper} {a : Act} {Q : Exit → Act → World → Prop} (hgd : o.guard = none) (s x : Operand) (t : TypeId)
    (ho : o.op = .call { callee := .builtin .append, args := #[s, x], argTypes := #[t, t] })
    (base : Nat) (e : TypeId) (i : TypeInfo) (z : Value) (size bytes : Nat) (ht : P.underlying t = some (.slice e)) (hi : P.info? e = some i) (hz : i.zero = some z)
    (hsize : i.size = size) (hby : i.bytes = bytes) (hzs : z.cells.size = size) (hsz : 0 < size)
    (sa : Option Addr) (n scap : Nat) (xs : List Value) (hs : a.eval s = .slice sa n scap) (hown : w.ownsRow base e size (.slice sa n scap) n xs)
    (ao : Option Addr) (m c : Nat) (news : List Value) (hx : a.eval x = .slice ao m c) (hc : Cells w ao m c size news) (h1 : ∀ u ∈ news, u.oneCell' = true)
    (h63 : n + m ≤ maxLen) (hbytes : (n + m) * bytes ≤ 140737488355328) (w0 : World) (hbase : Below base w0 w) (hbs : base ≤ w.heap.size)
    (h : ∀ a' cap' w', w'.ownsRow base e size (.slice a' (n + m) cap') (n + m) (xs ++ news) → Below base w0 w' → w.grownBy w' (Value.slice sa n scap).ownBlock → wpList P ops Q rest (a.put o.dst (.slice a' (n + m) cap')) w') :
    wpList P ops Q (o :: rest) a w :=
  wpList_plain hgd fun _ hK => wp_append_row2 s x t ho base e i z size bytes ht hi hz hsize hby hzs hsz sa n scap xs hs hown ao m c news hx hc h1 h63 hbytes w0 hbase hbs fun a' cap' w' h2 h3 h4 => hK _ _ (h a' cap' w' h2 h3 h4)


/-- What is fresh stays as it is where an older row grows. -/
theorem FreshB.grown {e : TypeId} {w0 w w' : World} {a : Option Addr} {n cap : Nat} {l : List UInt8} (h : FreshB e w0 w a n cap l) {row : Option Nat} (hg : w.grownBy w' row) (hr : ∀ g, row = some g → g < w0.heap.size) : Bytes w' a n cap l := by
  refine h.bytes.same (U := From w0.heap.size) (fun hn x hx => ?_) fun b hb hlt => hg.block b hlt fun e => ?_
  · obtain ⟨g, hg', hge⟩ := owns_shape h.owns hn
    rw [hg'] at hx
    cases hx
    exact hge
  · have h1 := hr b e.symm
    have h2 : w0.heap.size ≤ b := hb
    omega
end Go.Proofs.Ytmkfpfnjimmmaaa
