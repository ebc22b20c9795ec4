/- Words that all contracts of this seat use: bytes and rows in memory, what is fresh. Nothing of the dump stands here. -/
import Derived.WalkKit
import Derived.WalkLawsBesides
import Derived.WalkSpells
import Derived.Lib.Hide
import Derived.Laws.AppendOwnNone
import Derived.Laws.CopyOwn
import Derived.Lib.SlBytesConst
namespace Go.Proofs.Ytmkfpfnjimmmaaa
open Go.RowKit

theorem int_beq_nat (n m : Nat) : ((n : Int) == (m : Int)) = decide (n = m) := by
  rw [Bool.eq_iff_iff]; simp; omega

/-- One step behind the other. -/
theorem below_then {w w0 w1 : World} (b0 : Below w.heap.size w w0) (h : Below w0.heap.size w0 w1) : Below w.heap.size w w1 := b0.trans (h.mono b0.size)

/-- A byte's cell. -/
def B (u : UInt8) : Value := .int .u8 (u.toNat : Int)

/-- From the address on stand these cells. -/
structure Row (w : World) (a : Option Addr) (vs : List Value) : Prop where
  cell : ∀ i v, vs[i]? = some v → ∃ b off, a = some ⟨b, off, none⟩ ∧ w.cell? ⟨b, off + i, none⟩ = some v

theorem Row.nil (w : World) (a : Option Addr) : Row w a [] := ⟨fun i v h => by simp at h⟩

theorem Row.keep {w w' : World} {a : Option Addr} {vs : List Value} (h : Row w a vs) (hb : Below w.heap.size w w') : Row w' a vs := by
  refine ⟨fun i v hv => ?_⟩
  obtain ⟨b, off, ha, hc⟩ := h.cell i v hv
  exact ⟨b, off, ha, (hb.cell (World.block_lt_of_cell? _ _ hc)).trans hc⟩

theorem Row.keepAt {B0 : Nat} {w w' : World} {a : Option Addr} {vs : List Value} (h : Row w a vs) (hb : Below B0 w w') (hlt : ∀ x, a = some x → x.block < B0) : Row w' a vs := by
  refine ⟨fun i v hv => ?_⟩
  obtain ⟨b, off, ha, hc⟩ := h.cell i v hv
  exact ⟨b, off, ha, (hb.cell (p := ⟨b, off + i, none⟩) (show b < B0 from hlt _ ha)).trans hc⟩

/-- Where a row has a cell its address is plain, and all its cells stand there. -/
theorem Row.at {w : World} {a : Option Addr} {vs : List Value} (h : Row w a vs) (hne : vs ≠ []) :
    ∃ b off, a = some ⟨b, off, none⟩ ∧ ∀ i v, vs[i]? = some v → w.cell? ⟨b, off + i, none⟩ = some v := by
  obtain ⟨v, l, rfl⟩ := List.exists_cons_of_ne_nil hne
  obtain ⟨b, off, ha, _⟩ := h.cell 0 v rfl
  refine ⟨b, off, ha, fun i u hu => ?_⟩
  obtain ⟨b', off', ha', hc⟩ := h.cell i u hu
  rw [ha] at ha'
  cases ha'
  exact hc

theorem Row.of {w : World} {b off : Nat} {vs : List Value} (h : ∀ i v, vs[i]? = some v → w.cell? ⟨b, off + i, none⟩ = some v) : Row w (some ⟨b, off, none⟩) vs :=
  ⟨fun i v hv => ⟨b, off, rfl, h i v hv⟩⟩

/-- A slice of elements of so many cells reads as these cells. -/
structure Cells (w : World) (a : Option Addr) (n cap size : Nat) (vs : List Value) : Prop where
  len : vs.length = n * size
  le : n ≤ cap
  max : cap ≤ maxLen
  zero : a = none → cap = 0
  row : Row w a vs

theorem Cells.keep {w w' : World} {a : Option Addr} {n cap size : Nat} {vs : List Value} (h : Cells w a n cap size vs) (hb : Below w.heap.size w w') : Cells w' a n cap size vs :=
  ⟨h.len, h.le, h.max, h.zero, h.row.keep hb⟩

theorem Cells.le_i64 {w : World} {a : Option Addr} {n cap size : Nat} {vs : List Value} (h : Cells w a n cap size vs) : n ≤ 9223372036854775807 ∧ cap ≤ 9223372036854775807 := by
  have h1 := h.max; have h2 := h.le
  unfold maxLen at h1
  omega

/-- A slice of bytes reads as this list. -/
structure Bytes (w : World) (a : Option Addr) (n cap : Nat) (l : List UInt8) : Prop where
  len : l.length = n
  le : n ≤ cap
  max : cap ≤ maxLen
  zero : a = none → cap = 0
  row : Row w a (l.map B)

theorem Bytes.keep {w w' : World} {a : Option Addr} {n cap : Nat} {l : List UInt8} (h : Bytes w a n cap l) (hb : Below w.heap.size w w') : Bytes w' a n cap l :=
  ⟨h.len, h.le, h.max, h.zero, h.row.keep hb⟩

theorem Bytes.nil (w : World) : Bytes w none 0 0 [] := ⟨rfl, Nat.le_refl _, Nat.zero_le _, fun _ => rfl, Row.nil _ _⟩

theorem Bytes.le_i64 {w : World} {a : Option Addr} {n cap : Nat} {l : List UInt8} (h : Bytes w a n cap l) : n ≤ 9223372036854775807 ∧ cap ≤ 9223372036854775807 := by
  have h1 := h.max; have h2 := h.le
  unfold maxLen at h1
  omega

/-- Where there is a byte the address is plain, and each cell stands there. -/
theorem Bytes.at {w : World} {a : Option Addr} {n cap : Nat} {l : List UInt8} (h : Bytes w a n cap l) (hne : l ≠ []) :
    ∃ b off, a = some ⟨b, off, none⟩ ∧ ∀ i (hi : i < l.length), w.cell? ⟨b, off + i, none⟩ = some (B l[i]) := by
  obtain ⟨b, off, ha, hc⟩ := h.row.at (by simpa using hne)
  exact ⟨b, off, ha, fun i hi => hc i _ (by simp [hi])⟩

/-- The byte at a place, and its cell in the walk's spelling. -/
theorem cell_get {w : World} {b off : Nat} {l : List UInt8} (hc : ∀ i (hi : i < l.length), w.cell? ⟨b, off + i, none⟩ = some (B l[i])) (k : Nat) (hk : k < l.length) :
    ∃ u : UInt8, l[k]? = some u ∧ w.cell? ⟨b, off + k, none⟩ = some (.int .u8 (u.toNat : Int)) ∧ (u.toNat : Int) < 256 ∧ (0 : Int) ≤ u.toNat := by
  refine ⟨l[k], by simp [hk], hc k hk, ?_, by omega⟩
  have := l[k].toNat_lt
  omega

theorem take_snoc {α : Type} {l : List α} {k : Nat} {u : α} (h : l[k]? = some u) : l.take (k + 1) = l.take k ++ [u] := by
  rw [List.take_add_one, h]; rfl

/-- What is owned reads as a row. -/
theorem cells_of_owns {w : World} {base e size n : Nat} {v : Value} {xs : List Value} (h : w.ownsRow base e size v n xs) :
    ∃ a cap, v = .slice a n cap ∧ Cells w a n cap size xs ∧ (a = none ∨ ∃ g, a = some ⟨g, 0, none⟩ ∧ base ≤ g) := by
  have hl : xs.length = n * size := h.1
  rcases h.2 with ⟨rfl, rfl⟩ | ⟨g, cap, cur, rfl, hb, hg, hn, hm, hs, ht⟩
  · obtain rfl : xs = [] := List.eq_nil_of_length_eq_zero (by simpa using hl)
    exact ⟨none, 0, rfl, ⟨hl, Nat.le_refl _, Nat.zero_le _, fun _ => rfl, Row.nil _ _⟩, .inl rfl⟩
  · refine ⟨_, cap, rfl, ⟨hl, hn, hm, fun h => by simp at h, Row.of fun i v hv => ?_⟩, .inr ⟨g, rfl, hb⟩⟩
    have := h.cells (g := g) rfl i v hv
    simpa [Addr.add_lit] using this

theorem cells_lit (w : World) (cs : Array Value) (e n size : Nat) (hm : n ≤ maxLen) (hs : cs.size = n * size) : Cells (w.alloc (.cells cs e)) (some ⟨w.heap.size, 0, none⟩) n n size cs.toList := by
  obtain ⟨a, cap, hv, hc, _⟩ := cells_of_owns (World.ownsRow_lit (base := w.heap.size) (e := e) w cs n (Nat.le_refl _) hm hs)
  cases hv
  exact hc

theorem Bytes.cells {w : World} {a : Option Addr} {n cap : Nat} {l : List UInt8} (h : Bytes w a n cap l) : Cells w a n cap 1 (l.map B) :=
  ⟨by simpa using h.len, h.le, h.max, h.zero, h.row⟩
theorem Cells.bytes {w : World} {a : Option Addr} {n cap : Nat} {l : List UInt8} (h : Cells w a n cap 1 (l.map B)) : Bytes w a n cap l :=
  ⟨by simpa using h.len, h.le, h.max, h.zero, h.row⟩

/-- A slice of bytes that has just been written out. -/
theorem bytes_lit (w : World) (l : List UInt8) (e n : Nat) {k : Nat} (hk : k = w.heap.size) (hm : n ≤ maxLen) (hs : l.length = n) : Bytes (w.alloc (.cells (l.map B).toArray e)) (some ⟨k, 0, none⟩) n n l := by
  subst hk
  exact (cells_lit w (l.map B).toArray e n 1 hm (by simp [hs])).bytes

/-- Likewise, of a constant text. -/
theorem bytes_mark (w : World) (l : List UInt8) (e n lo hi : Nat) {k : Nat} (hk : k = w.heap.size) (hm : n ≤ maxLen) (hs : l.length = n) : Bytes (w.alloc (.cells (l.map B).toArray e (lo, hi))) (some ⟨k, 0, none⟩) n n l := by
  subst hk
  refine ⟨hs, Nat.le_refl _, hm, fun h => (by cases h), Row.of fun i v hv => ?_⟩
  rw [Nat.zero_add, World.cell?_alloc_mark]
  simpa using hv

/-- Fresh: a slice of the call's own reads as these cells; of what was there nothing has turned. -/
structure FreshC (e size : Nat) (w w' : World) (a : Option Addr) (n cap : Nat) (vs : List Value) : Prop where
  cells : Cells w' a n cap size vs
  owns : w'.ownsRow w.heap.size e size (.slice a n cap) n vs
  below : Below w.heap.size w w'

theorem FreshC.of {e size : Nat} {w w' : World} {v : Value} {n : Nat} {vs : List Value} (h : w'.ownsRow w.heap.size e size v n vs) (hb : Below w.heap.size w w') :
    ∃ a cap, v = .slice a n cap ∧ FreshC e size w w' a n cap vs := by
  obtain ⟨a, cap, rfl, hc, _⟩ := cells_of_owns h
  exact ⟨a, cap, rfl, hc, h, hb⟩

theorem FreshC.nil (e size : Nat) (w : World) : FreshC e size w w none 0 0 [] :=
  ⟨⟨by simp, Nat.le_refl _, Nat.zero_le _, fun _ => rfl, Row.nil _ _⟩, World.ownsRow_nil _ _ _ _, Below.refl _ _⟩

theorem oneCell_bytes (l : List UInt8) : ∀ u ∈ l.map B, u.oneCell' = true := by
  intro u hu
  obtain ⟨_, _, rfl⟩ := List.mem_map.1 hu
  rfl

theorem owns_full {w : World} {base e size n g : Nat} {xs : List Value} (h : w.ownsRow base e size (.slice (some ⟨g, 0, none⟩) n n) n xs) :
    base ≤ g ∧ w.heap[g]? = some (.cells xs.toArray e (0, 0)) := by
  rcases h.2 with ⟨hv, _⟩ | ⟨g', cap, cur, hv, hb, hg, hn, hm, hs, ht⟩
  · cases hv
  · cases hv
    refine ⟨hb, ?_⟩
    rw [hg, ← ht, List.take_of_length_le (by rw [Array.length_toList, hs]; exact Nat.le_refl _)]

theorem owns_of_full {w : World} {base e size n g : Nat} {xs : List Value} (hg : w.heap[g]? = some (.cells xs.toArray e (0, 0))) (hb : base ≤ g) (hn : n ≤ maxLen) (hl : xs.length = n * size) :
    w.ownsRow base e size (.slice (some ⟨g, 0, none⟩) n n) n xs :=
  ⟨hl, .inr ⟨g, n, xs.toArray, rfl, hb, hg, Nat.le_refl _, hn, by simpa using hl, List.take_of_length_le (by rw [hl]; exact Nat.le_refl _)⟩⟩

theorem owns_keep {w w' : World} {base e size n : Nat} {v : Value} {xs : List Value} (h : w.ownsRow base e size v n xs) (hb : Below w.heap.size w w') : w'.ownsRow base e size v n xs := by
  refine ⟨h.1, ?_⟩
  rcases h.2 with h2 | ⟨g, cap, cur, hv, hg, hh, r⟩
  · exact .inl h2
  · exact .inr ⟨g, cap, cur, hv, hg, by rw [hb.block g (Array.getElem?_eq_some_iff.1 hh).1]; exact hh, r⟩

theorem owns_mono {w : World} {base base' e size n : Nat} {v : Value} {xs : List Value} (h : w.ownsRow base e size v n xs) (hb : base' ≤ base) : w.ownsRow base' e size v n xs := by
  refine ⟨h.1, ?_⟩
  rcases h.2 with h2 | ⟨g, cap, cur, hv, hg, r⟩
  · exact .inl h2
  · exact .inr ⟨g, cap, cur, hv, Nat.le_trans hb hg, r⟩

theorem owns_shape {w : World} {base e size n cap : Nat} {a : Option Addr} {xs : List Value} (h : w.ownsRow base e size (.slice a n cap) n xs) (hn : n ≠ 0) : ∃ g, a = some ⟨g, 0, none⟩ ∧ base ≤ g := by
  rcases h.2 with ⟨_, h2⟩ | ⟨g, cap, cur, hv, hg, _⟩
  · exact absurd h2 hn
  · cases hv
    exact ⟨g, rfl, hg⟩

theorem Bytes.keepAt {B0 : Nat} {w w' : World} {a : Option Addr} {n cap : Nat} {l : List UInt8} (h : Bytes w a n cap l) (hb : Below B0 w w') (h0 : B0 = w.heap.size) : Bytes w' a n cap l := by
  subst h0
  exact h.keep hb

/-- 'append' onto a slice of the call's own, of whatever row. -/
theorem wp_append_row {P : Program} {w : World} {o : Oper} {a : Act} {K : Act → World → Prop} {Q : Exit → Act → World → Prop} (s x : Operand) (t : TypeId)
    (ho : o.op = .call { callee := .builtin .append, args := #[s, x], argTypes := #[t, t] })
    (base : Nat) (e : TypeId) (i : TypeInfo) (z : Value) (size bytes : Nat) (ht : P.underlying t = some (.slice e)) (hi : P.info? e = some i) (hz : i.zero = some z)
    (hsize : i.size = size) (hby : i.bytes = bytes) (hzs : z.cells.size = size) (hsz : 0 < size)
    (sa : Option Addr) (n scap : Nat) (xs : List Value) (hs : a.eval s = .slice sa n scap) (hown : w.ownsRow base e size (.slice sa n scap) n xs)
    (ao : Option Addr) (m c : Nat) (news : List Value) (hx : a.eval x = .slice ao m c) (hc : Cells w ao m c size news) (h1 : ∀ u ∈ news, u.oneCell' = true)
    (h63 : n + m ≤ maxLen) (hbytes : (n + m) * bytes ≤ 140737488355328) (w0 : World) (hbase : Below base w0 w) (hbs : base ≤ w.heap.size)
    (h : ∀ a' cap' w', w'.ownsRow base e size (.slice a' (n + m) cap') (n + m) (xs ++ news) → Below base w0 w' → K (a.put o.dst (.slice a' (n + m) cap')) w') :
    o.wp P a w K Q := by
  have hbl : ∀ w', w.grownBy w' (Value.slice sa n scap).ownBlock → Below base w0 w' := fun w' hg =>
    hbase.grown hg hbs (fun k hk => (hown.lt k hk).1)
  cases ao with
  | some ad =>
    refine wp_append_own w s x t ho base e i z size bytes ht hi hz hsize hby hzs hsz _ n xs hs hown ad m c news hx hc.len (fun j u hu => ?_) h1 h63 hbytes hbs ?_
    · obtain ⟨b, off, hab, hcell⟩ := hc.row.cell j u hu
      cases hab
      rw [Addr.add_lit]
      exact hcell
    · intro v' w' ho' hg _
      obtain ⟨a', cap', rfl, _, _⟩ := cells_of_owns ho'
      exact h a' cap' w' ho' (hbl w' hg)
  | none =>
    have hc0 := hc.zero rfl
    have hm0 : m = 0 := by have := hc.le; omega
    subst hm0
    subst hc0
    obtain rfl : news = [] := List.eq_nil_of_length_eq_zero (by simpa using hc.len)
    have hrun := run_append_owned_none (P := P) w base t o.type e i size ht hi _ n xs hown
    have := h sa scap w (by simpa using hown) hbase
    simp only [Nat.add_zero] at this
    unfold Oper.wp
    simp [execOp, ho, resolve, invoke, builtin, hs, hx, hrun, Result.andThen]
    exact this

theorem wpList_append_row {P : Program} {w : World} {ops : Array Oper} {rest : List Oper} {o : Oper} {a : Act} {Q : Exit → Act → World → Prop} (hgd : o.guard = none) (s x : Operand) (t : TypeId)
    (ho : o.op = .call { callee := .builtin .append, args := #[s, x], argTypes := #[t, t] })
    (base : Nat) (e : TypeId) (i : TypeInfo) (z : Value) (size bytes : Nat) (ht : P.underlying t = some (.slice e)) (hi : P.info? e = some i) (hz : i.zero = some z)
    (hsize : i.size = size) (hby : i.bytes = bytes) (hzs : z.cells.size = size) (hsz : 0 < size)
    (sa : Option Addr) (n scap : Nat) (xs : List Value) (hs : a.eval s = .slice sa n scap) (hown : w.ownsRow base e size (.slice sa n scap) n xs)
    (ao : Option Addr) (m c : Nat) (news : List Value) (hx : a.eval x = .slice ao m c) (hc : Cells w ao m c size news) (h1 : ∀ u ∈ news, u.oneCell' = true)
    (h63 : n + m ≤ maxLen) (hbytes : (n + m) * bytes ≤ 140737488355328) (w0 : World) (hbase : Below base w0 w) (hbs : base ≤ w.heap.size)
    (h : ∀ a' cap' w', w'.ownsRow base e size (.slice a' (n + m) cap') (n + m) (xs ++ news) → Below base w0 w' → wpList P ops Q rest (a.put o.dst (.slice a' (n + m) cap')) w') :
    wpList P ops Q (o :: rest) a w :=
  wpList_plain hgd fun _ hK => wp_append_row s x t ho base e i z size bytes ht hi hz hsize hby hzs hsz sa n scap xs hs hown ao m c news hx hc h1 h63 hbytes w0 hbase hbs fun a' cap' w' h2 h3 => hK _ _ (h a' cap' w' h2 h3)

/-- The same behind a guard that says yes. -/
theorem wpList_append_row_g {P : Program} {w : World} {ops : Array Oper} {rest : List Oper} {o : Oper} {a : Act} {Q : Exit → Act → World → Prop} (hgd : Region.wanted o (yielded ops a.tmps) = true) (s x : Operand) (t : TypeId)
    (ho : o.op = .call { callee := .builtin .append, args := #[s, x], argTypes := #[t, t] })
    (base : Nat) (e : TypeId) (i : TypeInfo) (z : Value) (size bytes : Nat) (ht : P.underlying t = some (.slice e)) (hi : P.info? e = some i) (hz : i.zero = some z)
    (hsize : i.size = size) (hby : i.bytes = bytes) (hzs : z.cells.size = size) (hsz : 0 < size)
    (sa : Option Addr) (n scap : Nat) (xs : List Value) (hs : a.eval s = .slice sa n scap) (hown : w.ownsRow base e size (.slice sa n scap) n xs)
    (ao : Option Addr) (m c : Nat) (news : List Value) (hx : a.eval x = .slice ao m c) (hc : Cells w ao m c size news) (h1 : ∀ u ∈ news, u.oneCell' = true)
    (h63 : n + m ≤ maxLen) (hbytes : (n + m) * bytes ≤ 140737488355328) (w0 : World) (hbase : Below base w0 w) (hbs : base ≤ w.heap.size)
    (h : ∀ a' cap' w', w'.ownsRow base e size (.slice a' (n + m) cap') (n + m) (xs ++ news) → Below base w0 w' → wpList P ops Q rest (a.put o.dst (.slice a' (n + m) cap')) w') :
    wpList P ops Q (o :: rest) a w :=
  Go.BigFrame.wpList_want hgd fun _ hK => wp_append_row s x t ho base e i z size bytes ht hi hz hsize hby hzs hsz sa n scap xs hs hown ao m c news hx hc h1 h63 hbytes w0 hbase hbs fun a' cap' w' h2 h3 => hK _ _ (h a' cap' w' h2 h3)

/-- The same as one step of a region that draws its order. -/
theorem step_append_row {P : Program} {w : World} {ops : Array Oper} {o : Oper} {a : Act} {K : Act → World → Prop} {Q : Exit → Act → World → Prop} {E : Prop} (hgd : o.guard = none) (s x : Operand) (t : TypeId)
    (ho : o.op = .call { callee := .builtin .append, args := #[s, x], argTypes := #[t, t] })
    (base : Nat) (e : TypeId) (i : TypeInfo) (z : Value) (size bytes : Nat) (ht : P.underlying t = some (.slice e)) (hi : P.info? e = some i) (hz : i.zero = some z)
    (hsize : i.size = size) (hby : i.bytes = bytes) (hzs : z.cells.size = size) (hsz : 0 < size)
    (sa : Option Addr) (n scap : Nat) (xs : List Value) (hs : a.eval s = .slice sa n scap) (hown : w.ownsRow base e size (.slice sa n scap) n xs)
    (ao : Option Addr) (m c : Nat) (news : List Value) (hx : a.eval x = .slice ao m c) (hc : Cells w ao m c size news) (h1 : ∀ u ∈ news, u.oneCell' = true)
    (h63 : n + m ≤ maxLen) (hbytes : (n + m) * bytes ≤ 140737488355328) (w0 : World) (hbase : Below base w0 w) (hbs : base ≤ w.heap.size)
    (h : ∀ a' cap' w', w'.ownsRow base e size (.slice a' (n + m) cap') (n + m) (xs ++ news) → Below base w0 w' → K (a.put o.dst (.slice a' (n + m) cap')) w') :
    if Region.wanted o (yielded ops a.tmps) = true then Oper.wp P o a w K Q else E := by
  have hw : Region.wanted o (yielded ops a.tmps) = true := by simp [Region.wanted, hgd]
  rw [if_pos hw]
  exact wp_append_row s x t ho base e i z size bytes ht hi hz hsize hby hzs hsz sa n scap xs hs hown ao m c news hx hc h1 h63 hbytes w0 hbase hbs h

/-- A call of a Go function as one step of a region that draws its order. -/
theorem step_call {P : Program} {w : World} {ops : Array Oper} {o : Oper} {a : Act} {K : Act → World → Prop} {Q : Exit → Act → World → Prop} {E : Prop} (hgd : o.guard = none) (f : FuncId) (xs : Array Operand) (ts : Array TypeId)
    (ho : o.op = .call { callee := .value (.func f), args := xs, argTypes := ts }) (hf : ∀ (us : Array Value) (u : World), (callFunc f us).run P u = .ok (.enter f us) u)
    (vs : Array Value) (hvs : xs.map a.eval = vs) (R : Ending → World → Prop) (hc : Calls P f vs w R)
    (h : ∀ e w', R e w' → ∃ v, e = .returned v ∧ K (a.put o.dst v) w') :
    if Region.wanted o (yielded ops a.tmps) = true then Oper.wp P o a w K Q else E := by
  have hw : Region.wanted o (yielded ops a.tmps) = true := by simp [Region.wanted, hgd]
  rw [if_pos hw]
  unfold Oper.wp
  subst hvs
  obtain ⟨dst, op, ty, pos, after, guard⟩ := o
  simp only at ho
  subst ho
  rw [execOp_call_go, hf]
  simp only [Array.empty_append, Array.append_empty, Oper.upon]
  refine hc.mono fun e w' hr => ?_
  obtain ⟨v, rfl, hk⟩ := h e w' hr
  exact hk

/-- Fresh bytes: a slice of the call's own reads as the list; of what was there nothing has turned. -/
structure FreshB (e : TypeId) (w w' : World) (a : Option Addr) (n cap : Nat) (l : List UInt8) : Prop where
  bytes : Bytes w' a n cap l
  owns : w'.ownsRow w.heap.size e 1 (.slice a n cap) n (l.map B)
  below : Below w.heap.size w w'

theorem FreshB.nil (e : TypeId) (w : World) : FreshB e w w none 0 0 [] := ⟨Bytes.nil w, World.ownsRow_nil _ _ _ _, Below.refl _ _⟩

theorem FreshB.of {e : TypeId} {w w' : World} {v : Value} {n : Nat} {l : List UInt8} (h : w'.ownsRow w.heap.size e 1 v n (l.map B)) (hb : Below w.heap.size w w') :
    ∃ a cap, v = .slice a n cap ∧ FreshB e w w' a n cap l := by
  obtain ⟨a, cap, rfl, hc, _⟩ := cells_of_owns h
  exact ⟨a, cap, rfl, hc.bytes, h, hb⟩

/-- The cells of a byte slice, read by 'string(b)'. -/
theorem Bytes.toStr {P : Program} {w : World} {a : Option Addr} {n cap : Nat} {l : List UInt8} (h : Bytes w a n cap l) (src dst e : TypeId)
    (hs : P.underlying src = some (.slice e)) (he : P.underlying e = some (.int .u8)) (hd : P.underlying dst = some .string) :
    (convert src dst (.slice a n cap)).run P w = .ok (.string ⟨l.toArray⟩) w := by
  by_cases hl : l = []
  · subst hl
    have hn : n = 0 := by simpa using h.len.symm
    subst hn
    cases a with
    | none => exact run_convert_bytes_nil w src e hs he _ _ dst hd
    | some x =>
      rw [run_convert_bytes_string w src dst e _ _ cap hs he hd, run_bytesToString w x 0 cap [] (by simp [loadCells, loadCellsFrom])]
      rfl
  · obtain ⟨b, off, rfl, hc⟩ := h.at hl
    rw [run_convert_bytes_arg w src e hs he b off n cap (l.map fun u => (u.toNat : Int)) (by simpa using h.len) (fun i hi => ?_) dst hd]
    · congr 2
      simp only [strOfNums]
      congr 2
      rw [List.map_map]
      conv => rhs; rw [← List.map_id l]
      apply List.map_congr_left
      intro u _
      simp
    · rw [hc i (by rw [h.len]; exact hi)]
      simp [B, List.getD, h.len, hi]

/-- A slice of slices of bytes reads as this list of lists. -/
structure Parts (w : World) (a : Option Addr) (n cap : Nat) (pp : List (List UInt8)) : Prop where
  len : pp.length = n
  le : n ≤ cap
  max : cap ≤ maxLen
  zero : a = none → cap = 0
  part : ∀ i l, pp[i]? = some l → ∃ b off, a = some ⟨b, off, none⟩ ∧ ∃ a' c', w.cell? ⟨b, off + i, none⟩ = some (.slice a' l.length c') ∧ Bytes w a' l.length c' l

theorem Parts.keep {w w' : World} {a : Option Addr} {n cap : Nat} {pp : List (List UInt8)} (h : Parts w a n cap pp) (hb : Below w.heap.size w w') : Parts w' a n cap pp := by
  refine ⟨h.len, h.le, h.max, h.zero, fun i l hl => ?_⟩
  obtain ⟨b, off, ha, a', c', hc, hby⟩ := h.part i l hl
  exact ⟨b, off, ha, a', c', (hb.cell (World.block_lt_of_cell? _ _ hc)).trans hc, hby.keep hb⟩

theorem Parts.le_i64 {w : World} {a : Option Addr} {n cap : Nat} {pp : List (List UInt8)} (h : Parts w a n cap pp) : n ≤ 9223372036854775807 ∧ cap ≤ 9223372036854775807 := by
  have h1 := h.max; have h2 := h.le
  unfold maxLen at h1
  omega

theorem Parts.nil (w : World) : Parts w none 0 0 [] := ⟨rfl, Nat.le_refl _, Nat.zero_le _, fun _ => rfl, fun i l h => by simp at h⟩

end Go.Proofs.Ytmkfpfnjimmmaaa
