/- How a kind of data is read out of cells: words for all types, and how an argument of such a type is opened. Nothing of the dump stands here. -/
import Derived.Test.YtmkfpfnjimmmaaaFrame
namespace Go.Proofs.Ytmkfpfnjimmmaaa
open Go.ChangeShapes Go.WideShapes Go.ChangeAt Go.RowKit

theorem Bytes.take {w : World} {a : Option Addr} {n cap : Nat} {l : List UInt8} (h : Bytes w a n cap l) {m : Nat} (hm : m ≤ n) : Bytes w a m cap (l.take m) := by
  refine ⟨by rw [List.length_take, h.len]; omega, Nat.le_trans hm h.le, h.max, h.zero, ⟨fun i v hv => ?_⟩⟩
  rw [List.map_take] at hv
  have hi : i < m := by have := (List.getElem?_eq_some_iff.1 hv).1; rw [List.length_take] at this; omega
  rw [List.getElem?_take_of_lt hi] at hv
  exact h.row.cell i v hv

/-- In the blocks that are in U nothing has turned. -/
def Same (U : Nat → Prop) (w w' : World) : Prop := ∀ b, U b → b < w.heap.size → w'.heap[b]? = w.heap[b]?

theorem Same.of_below {U : Nat → Prop} {w w' : World} (h : Below w.heap.size w w') : Same U w w' := fun b _ hb => h.block b hb
theorem Same.mono {U V : Nat → Prop} {w w' : World} (hs : ∀ b, V b → U b) (h : Same U w w') : Same V w w' := fun b hv hb => h b (hs b hv) hb
theorem Same.cell {U : Nat → Prop} {w w' : World} (h : Same U w w') {b off : Nat} {v : Value} (hu : U b) (hc : w.cell? ⟨b, off, none⟩ = some v) : w'.cell? ⟨b, off, none⟩ = some v :=
  (World.cell?_of_block (a := ⟨b, off, none⟩) (h b hu (World.block_lt_of_cell? _ _ hc))).trans hc

/-- A kind of data: how many cells, how many bytes, and which cells read as which datum; what is read behind them lies in blocks of U. -/
structure Rep (α : Type) where
  sz : Nat
  bytes : Nat
  R : (Nat → Prop) → World → List Value → α → Prop
  pos : 0 < sz
  pos' : 0 < bytes
  len : ∀ {U w cs x}, R U w cs x → cs.length = sz
  one : ∀ {U w cs x}, R U w cs x → ∀ v ∈ cs, v.oneCell' = true
  mono : ∀ {U V w cs x}, (∀ b, U b → V b) → R U w cs x → R V w cs x
  keep : ∀ {U w w' cs x}, Same U w w' → R U w cs x → R U w' cs x
  lt : ∀ {U w cs x}, R U w cs x → R (fun b => U b ∧ b < w.heap.size) w cs x

def Any : Nat → Prop := fun _ => True
def From (base : Nat) : Nat → Prop := fun b => base ≤ b

theorem Rep.any {α : Type} (r : Rep α) {U : Nat → Prop} {w : World} {cs : List Value} {x : α} (h : r.R U w cs x) : r.R Any w cs x := r.mono (fun _ _ => trivial) h
theorem Rep.below {α : Type} (r : Rep α) {U : Nat → Prop} {w w' : World} {cs : List Value} {x : α} (hb : Below w.heap.size w w') (h : r.R U w cs x) : r.R U w' cs x := r.keep (Same.of_below hb) h

def rI : Rep Int where
  sz := 1
  bytes := 8
  R := fun _ _ cs x => cs = [.int .i64 x] ∧ -9223372036854775808 ≤ x ∧ x ≤ 9223372036854775807
  pos := by decide
  pos' := by decide
  len := fun h => by rw [h.1]; rfl
  one := fun h v hv => by rw [h.1, List.mem_singleton] at hv; subst hv; rfl
  mono := fun _ h => h
  keep := fun _ h => h
  lt := fun h => h

def rU : Rep Nat where
  sz := 1
  bytes := 8
  R := fun _ _ cs x => cs = [.int .u64 x] ∧ x < 18446744073709551616
  pos := by decide
  pos' := by decide
  len := fun h => by rw [h.1]; rfl
  one := fun h v hv => by rw [h.1, List.mem_singleton] at hv; subst hv; rfl
  mono := fun _ h => h
  keep := fun _ h => h
  lt := fun h => h

def rB : Rep Bool where
  sz := 1
  bytes := 1
  R := fun _ _ cs x => cs = [.bool x]
  pos := by decide
  pos' := by decide
  len := fun h => by rw [h]; rfl
  one := fun h v hv => by rw [h, List.mem_singleton] at hv; subst hv; rfl
  mono := fun _ h => h
  keep := fun _ h => h
  lt := fun h => h

/-- A slice's cells lie in a block of U. -/
def In (U : Nat → Prop) (a : Option Addr) (n : Nat) : Prop := n ≠ 0 → ∀ x, a = some x → U x.block

theorem Bytes.in_lt {U : Nat → Prop} {w : World} {a : Option Addr} {n cap : Nat} {l : List UInt8} (h : Bytes w a n cap l) (hi : In U a n) : In (fun b => U b ∧ b < w.heap.size) a n := fun hn x hx => by
  refine ⟨hi hn x hx, ?_⟩
  obtain ⟨b, off, ha, hc⟩ := h.at (by intro e; have := h.len; rw [e] at this; exact hn this.symm)
  rw [ha] at hx
  cases hx
  exact World.block_lt_of_cell? _ _ (hc 0 (by rw [h.len]; omega))

theorem Bytes.same {U : Nat → Prop} {w w' : World} {a : Option Addr} {n cap : Nat} {l : List UInt8} (h : Bytes w a n cap l) (hi : In U a n) (hs : Same U w w') : Bytes w' a n cap l := by
  refine ⟨h.len, h.le, h.max, h.zero, ⟨fun i v hv => ?_⟩⟩
  obtain ⟨b, off, ha, hc⟩ := h.row.cell i v hv
  have hn : n ≠ 0 := by
    rintro rfl
    rw [List.eq_nil_of_length_eq_zero h.len] at hv
    simp at hv
  exact ⟨b, off, ha, hs.cell (hi hn _ ha) hc⟩

/-- Bytes, by their slice. -/
def rY : Rep (List UInt8) where
  sz := 1
  bytes := 24
  R := fun U w cs x => ∃ a n cap, cs = [.slice a n cap] ∧ Bytes w a n cap x ∧ n ≤ 140737488351232 ∧ In U a n
  pos := by decide
  pos' := by decide
  len := fun ⟨_, _, _, h, _⟩ => by rw [h]; rfl
  one := fun ⟨_, _, _, h, _⟩ v hv => by rw [h, List.mem_singleton] at hv; subst hv; rfl
  mono := fun hu ⟨a, n, cap, h, hy, hr, hi⟩ => ⟨a, n, cap, h, hy, hr, fun hn x hx => hu _ (hi hn x hx)⟩
  keep := fun hs ⟨a, n, cap, h, hy, hr, hi⟩ => ⟨a, n, cap, h, hy.same hi hs, hr, hi⟩
  lt := fun ⟨a, n, cap, h, hy, hr, hi⟩ => ⟨a, n, cap, h, hy, hr, hy.in_lt hi⟩

/-- A slice of such data reads as this list. -/
structure Sl {α : Type} (r : Rep α) (U : Nat → Prop) (w : World) (a : Option Addr) (n cap : Nat) (xs : List α) : Prop where
  len : xs.length = n
  le : n ≤ cap
  max : cap ≤ maxLen
  zero : a = none → cap = 0
  isIn : In U a n
  part : ∀ i x, xs[i]? = some x → ∃ b off, a = some ⟨b, off, none⟩ ∧ ∃ es : List Value, r.R U w es x ∧ ∀ j v, es[j]? = some v → w.cell? ⟨b, off + (i * r.sz + j), none⟩ = some v

theorem Sl.le_i64 {α : Type} {r : Rep α} {U : Nat → Prop} {w : World} {a : Option Addr} {n cap : Nat} {xs : List α} (h : Sl r U w a n cap xs) : n ≤ 9223372036854775807 ∧ cap ≤ 9223372036854775807 := by
  have h1 := h.max; have h2 := h.le
  unfold maxLen at h1
  omega

theorem Sl.mono {α : Type} {r : Rep α} {U V : Nat → Prop} {w : World} {a : Option Addr} {n cap : Nat} {xs : List α} (hu : ∀ b, U b → V b) (h : Sl r U w a n cap xs) : Sl r V w a n cap xs := by
  refine ⟨h.len, h.le, h.max, h.zero, fun hn x hx => hu _ (h.isIn hn x hx), fun i x hx => ?_⟩
  obtain ⟨b, off, ha, es, hr, hc⟩ := h.part i x hx
  exact ⟨b, off, ha, es, r.mono hu hr, hc⟩

theorem Sl.same {α : Type} {r : Rep α} {U : Nat → Prop} {w w' : World} {a : Option Addr} {n cap : Nat} {xs : List α} (h : Sl r U w a n cap xs) (hs : Same U w w') : Sl r U w' a n cap xs := by
  refine ⟨h.len, h.le, h.max, h.zero, h.isIn, fun i x hx => ?_⟩
  obtain ⟨b, off, ha, es, hr, hc⟩ := h.part i x hx
  have hn : n ≠ 0 := by
    rintro rfl
    rw [List.eq_nil_of_length_eq_zero h.len] at hx
    simp at hx
  exact ⟨b, off, ha, es, r.keep hs hr, fun j v hv => hs.cell (h.isIn hn _ ha) (hc j v hv)⟩

theorem Sl.lt {α : Type} {r : Rep α} {U : Nat → Prop} {w : World} {a : Option Addr} {n cap : Nat} {xs : List α} (h : Sl r U w a n cap xs) : Sl r (fun b => U b ∧ b < w.heap.size) w a n cap xs := by
  refine ⟨h.len, h.le, h.max, h.zero, fun hn x hx => ?_, fun i x hx => ?_⟩
  · refine ⟨h.isIn hn x hx, ?_⟩
    obtain ⟨y, hy⟩ : ∃ y, xs[0]? = some y := ⟨_, List.getElem?_eq_getElem (by rw [h.len]; omega)⟩
    obtain ⟨b, off, ha, es, hr, hc⟩ := h.part 0 y hy
    rw [ha] at hx
    cases hx
    have hl := r.len hr
    have hp := r.pos
    have hce := hc 0 _ (List.getElem?_eq_getElem (by omega))
    have hlt := World.block_lt_of_cell? _ _ hce
    exact hlt
  · obtain ⟨b, off, ha, es, hr, hc⟩ := h.part i x hx
    exact ⟨b, off, ha, es, r.lt hr, hc⟩

theorem Sl.keep {α : Type} {r : Rep α} {U : Nat → Prop} {w w' : World} {a : Option Addr} {n cap : Nat} {xs : List α} (h : Sl r U w a n cap xs) (hb : Below w.heap.size w w') : Sl r U w' a n cap xs := h.same (Same.of_below hb)

theorem Sl.nil {α : Type} (r : Rep α) (U : Nat → Prop) (w : World) : Sl r U w none 0 0 [] := ⟨rfl, Nat.le_refl _, Nat.zero_le _, fun _ => rfl, fun h => absurd rfl h, fun i x h => by simp at h⟩

/-- So many bytes a slice of an argument has at most. -/
def M0 : Nat := 140737488351232
/-- So many bytes a slice that has grown has at most. -/
def M1 : Nat := 140737488355328

def rL {α : Type} (M : Nat) (r : Rep α) : Rep (List α) where
  sz := 1
  bytes := 24
  R := fun U w cs xs => ∃ a n cap, cs = [.slice a n cap] ∧ Sl r U w a n cap xs ∧ n * r.bytes ≤ M
  pos := by decide
  pos' := by decide
  len := fun ⟨_, _, _, h, _⟩ => by rw [h]; rfl
  one := fun ⟨_, _, _, h, _⟩ v hv => by rw [h, List.mem_singleton] at hv; subst hv; rfl
  mono := fun hu ⟨a, n, cap, h, hy, hr⟩ => ⟨a, n, cap, h, hy.mono hu, hr⟩
  keep := fun hs ⟨a, n, cap, h, hy, hr⟩ => ⟨a, n, cap, h, hy.same hs, hr⟩
  lt := fun ⟨a, n, cap, h, hy, hr⟩ => ⟨a, n, cap, h, hy.lt, hr⟩

theorem Sl.map {α : Type} {r r' : Rep α} {U : Nat → Prop} {w : World} {a : Option Addr} {n cap : Nat} {xs : List α} (h : Sl r U w a n cap xs) (hsz : r'.sz = r.sz) (hR : ∀ {cs x}, r.R U w cs x → r'.R U w cs x) : Sl r' U w a n cap xs := by
  refine ⟨h.len, h.le, h.max, h.zero, h.isIn, fun i x hx => ?_⟩
  obtain ⟨b, off, ha, es, hr, hc⟩ := h.part i x hx
  exact ⟨b, off, ha, es, hR hr, fun j v hv => by rw [hsz]; exact hc j v hv⟩

/-- All cells of the elements, in a row. -/
theorem Sl.cells {α : Type} {r : Rep α} {U : Nat → Prop} {w : World} {a : Option Addr} {n cap : Nat} {xs : List α} (h : Sl r U w a n cap xs) :
    ∃ vs, Cells w a n cap r.sz vs ∧ (∀ v ∈ vs, v.oneCell' = true) ∧ ∀ i x, xs[i]? = some x → r.R U w ((vs.drop (i * r.sz)).take r.sz) x := by
  have hl := h.len
  have key : ∀ ys : List α, ∀ k, (∀ i x, ys[i]? = some x → ∃ b off, a = some ⟨b, off, none⟩ ∧ ∃ es : List Value, r.R U w es x ∧ ∀ j v, es[j]? = some v → w.cell? ⟨b, off + ((k + i) * r.sz + j), none⟩ = some v) →
      ∃ vs : List Value, vs.length = ys.length * r.sz ∧ (∀ v ∈ vs, v.oneCell' = true) ∧ (∀ j v, vs[j]? = some v → ∃ b off, a = some ⟨b, off, none⟩ ∧ w.cell? ⟨b, off + (k * r.sz + j), none⟩ = some v) ∧
        ∀ i x, ys[i]? = some x → r.R U w ((vs.drop (i * r.sz)).take r.sz) x := by
    intro ys
    induction ys with
    | nil => intro k _; exact ⟨[], by simp, fun v hv => by simp at hv, fun j v hv => by simp at hv, fun i x hx => by simp at hx⟩
    | cons y ys ih =>
      intro k hk
      obtain ⟨b, off, ha, es, hr, hc⟩ := hk 0 y rfl
      obtain ⟨vs, h1, h2, h3, h4⟩ := ih (k + 1) fun i x hx => by
        have := hk (i + 1) x (by simpa using hx)
        rwa [show k + (i + 1) = k + 1 + i by omega] at this
      have hlen := r.len hr
      refine ⟨es ++ vs, by rw [List.length_append, h1, hlen, List.length_cons, Nat.succ_mul]; omega, ?_, ?_, ?_⟩
      · intro v hv
        rcases List.mem_append.1 hv with hv | hv
        · exact r.one hr v hv
        · exact h2 v hv
      · intro j v hv
        by_cases hj : j < es.length
        · rw [List.getElem?_append_left hj] at hv
          exact ⟨b, off, ha, hc j v hv⟩
        · rw [List.getElem?_append_right (by omega)] at hv
          obtain ⟨b', off', ha', hc'⟩ := h3 _ v hv
          refine ⟨b', off', ha', ?_⟩
          rw [hlen] at hc'
          rw [show k * r.sz + j = (k + 1) * r.sz + (j - r.sz) by rw [Nat.succ_mul]; omega]
          exact hc'
      · intro i x hx
        cases i with
        | zero =>
          obtain rfl : y = x := by simpa using hx
          rw [Nat.zero_mul, List.drop_zero, List.take_left' hlen]
          exact hr
        | succ i =>
          have := h4 i x (by simpa using hx)
          rw [Nat.succ_mul, Nat.add_comm, ← List.drop_drop, List.drop_left' hlen]
          exact this
  obtain ⟨vs, h1, h2, h3, h4⟩ := key xs 0 fun i x hx => by
    have := h.part i x hx
    rwa [Nat.zero_add]
  refine ⟨vs, ⟨by rw [h1, hl], h.le, h.max, h.zero, ⟨fun i v hv => ?_⟩⟩, h2, h4⟩
  obtain ⟨b, off, ha, hc⟩ := h3 i v hv
  exact ⟨b, off, ha, by rwa [Nat.zero_mul, Nat.zero_add] at hc⟩

/-- Cells that read as such data, element by element, are a slice of it. -/
theorem Sl.of_cells {α : Type} {r : Rep α} {U : Nat → Prop} {w' : World} {a : Option Addr} {n cap : Nat} {vs : List Value} {xs : List α} (hl : xs.length = n) (hi : In U a n) (hc : Cells w' a n cap r.sz vs) (hR : ∀ i x, xs[i]? = some x → r.R U w' ((vs.drop (i * r.sz)).take r.sz) x) : Sl r U w' a n cap xs := by
  refine ⟨hl, hc.le, hc.max, hc.zero, hi, fun i x hx => ?_⟩
  have hi : i < n := by rw [← hl]; exact (List.getElem?_eq_some_iff.1 hx).1
  have hne : vs ≠ [] := by
    intro h
    have h1 := hc.len
    rw [h] at h1
    have := Nat.mul_pos (show 0 < n by omega) r.pos
    simp at h1
    omega
  obtain ⟨b, off, ha, hcell⟩ := hc.row.at hne
  refine ⟨b, off, ha, _, hR i x hx, fun j v hv => ?_⟩
  have hj := (List.getElem?_eq_some_iff.1 hv).1
  rw [List.length_take] at hj
  rw [List.getElem?_take_of_lt (by omega), List.getElem?_drop] at hv
  exact hcell _ v hv

/-- What comes in at a type can be read as such a kind of data. -/
def Opens {α : Type} (P : Program) (t : TypeId) (r : Rep α) : Prop :=
  P.cellsOf t = r.sz ∧ P.bytesOf t = r.bytes ∧ ∀ (H : Type) (enc : TypeId × Value → H) (w : World) (base : Nat) (spare : Nat → Bool) (held : Bool) (n : Nat) (cs : List Value) (y : DataW H × List MemPlace),
    DataW.trod enc P w base spare held n t cs = some y → (∀ k ∈ y.1.weights P t, k ≤ reachBytes) → ∃ x, r.R Any w cs x

section
variable {H : Type} {enc : TypeId × Value → H} {P : Program} {w : World} {base : Nat} {spare : Nat → Bool} {held : Bool}

theorem opens_int {t : TypeId} (ht : P.underlying t = some (.int .i64)) (h1 : P.cellsOf t = 1) (h2 : P.bytesOf t = 8) : Opens P t rI := by
  refine ⟨h1, h2, fun H enc w base spare held n cs y h _ => ?_⟩
  obtain ⟨k, rfl, _, hw⟩ := DataW.trod_int ht h
  refine ⟨k, rfl, ?_⟩
  simp [Lit.wf, IntKind.min, IntKind.max, IntKind.signed, IntKind.bits] at hw
  omega

theorem opens_u64 {t : TypeId} (ht : P.underlying t = some (.int .u64)) (h1 : P.cellsOf t = 1) (h2 : P.bytesOf t = 8) : Opens P t rU := by
  refine ⟨h1, h2, fun H enc w base spare held n cs y h _ => ?_⟩
  obtain ⟨k, rfl, _, hw⟩ := DataW.trod_int ht h
  obtain ⟨m, rfl, hm⟩ := nat_of_u64 hw
  exact ⟨m, rfl, hm⟩

theorem opens_bool {t : TypeId} (ht : P.underlying t = some .bool) (h1 : P.cellsOf t = 1) (h2 : P.bytesOf t = 1) : Opens P t rB := by
  refine ⟨h1, h2, fun H enc w base spare held n cs y h _ => ?_⟩
  obtain ⟨k, rfl, _⟩ := DataW.trod_bool ht h
  exact ⟨k, rfl⟩

theorem reach_le' {k : Nat} (h : k ≤ reachBytes) : k ≤ 140737488351232 := by
  unfold reachBytes at h
  omega

theorem trod_len1 {t e : TypeId} {n : Nat} {cs : List Value} {y : DataW H × List MemPlace} (ht : P.underlying t = some (.slice e)) (h : DataW.trod enc P w base spare held n t cs = some y) : ∃ c, cs = [c] := by
  rcases Go.Deep.open_slice ht h with ⟨hcs, _⟩ | ⟨a, len, cap, m, n, D, Pl, hcs, _⟩
  · exact ⟨_, hcs⟩
  · exact ⟨_, hcs⟩

theorem opens_bytes {t e : TypeId} (ht : P.underlying t = some (.slice e)) (he : P.underlying e = some (.int .u8)) (hc : P.cellsOf e = 1) (hb : P.bytesOf e = 1) (h1 : P.cellsOf t = 1) (h2 : P.bytesOf t = 24) : Opens P t rY := by
  refine ⟨h1, h2, fun H enc w base spare held n cs y h hz => ?_⟩
  obtain ⟨c, rfl⟩ := trod_len1 ht h
  obtain ⟨a, m, cap, l, rfl, hby, hR⟩ := open_bytes_cell ht he hc h
  have := hR reachBytes hz
  rw [hb, Nat.mul_one] at this
  exact ⟨l, a, m, cap, rfl, hby, reach_le' this, fun _ _ _ => trivial⟩

theorem opens_slice {α : Type} [Inhabited α] {r : Rep α} {t e : TypeId} (ht : P.underlying t = some (.slice e)) (he : Opens P e r) (h1 : P.cellsOf t = 1) (h2 : P.bytesOf t = 24) : Opens P t (rL M0 r) := by
  obtain ⟨hc, hbe, hel⟩ := he
  refine ⟨h1, h2, fun H enc w base spare held n cs y h hz => ?_⟩
  rcases Go.Deep.open_slice ht h with ⟨hcs, hx⟩ | ⟨a, len, cap, m, n, D, Pl, hcs, _, hl, hm, hmm, hx, hi⟩
  · exact ⟨[], none, 0, 0, hcs, Sl.nil _ _ _, by rw [Nat.zero_mul]; exact Nat.zero_le _⟩
  · have hlm : len ≤ m := by rw [hmm]; split <;> omega
    have hpos := r.pos
    obtain ⟨C, hC⟩ := Go.Deep.choose_lt (n := m) (p := fun i (q : List Value × α) => w.cells? base (a.add (i * P.cellsOf e)) (P.cellsOf e) = some q.1 ∧ r.R Any w q.1 q.2) fun i him => by
      obtain ⟨cs', hc', ht'⟩ := hi i him
      have hw : ∀ k ∈ (D i).weights P e, k ≤ reachBytes := fun k hk => hz k (by
        rw [hx]
        simp only [DataW.weights, ht, List.mem_cons, List.mem_append]
        by_cases hil : i < len
        · exact .inr (.inl (weights_all_mem (List.mem_map.2 ⟨i, List.mem_range.2 hil, rfl⟩) k hk))
        · exact .inr (.inr (weights_all_mem (List.mem_map.2 ⟨i - len, List.mem_range.2 (by omega), by rw [show len + (i - len) = i by omega]⟩) k hk)))
      obtain ⟨x, hx'⟩ := hel H enc w base spare held n cs' _ ht' hw
      exact ⟨(cs', x), hc', hx'⟩
    have hbytes : len * r.bytes ≤ 140737488351232 := by
      refine reach_le' (Nat.le_trans ?_ (hz ((((List.range len).map D).length + ((List.range (m - len)).map fun j => D (len + j)).length) * P.bytesOf e) ?_))
      · rw [hbe]; exact Nat.mul_le_mul_right _ (by simp)
      · rw [hx]; simp [DataW.weights, ht]
    refine ⟨(List.range len).map fun i => (C i).2, some a, len, cap, hcs, ⟨by simp, hl, hm, fun h => (by cases h), fun _ _ _ => trivial, fun i x hix => ?_⟩, hbytes⟩
    have hil : i < len := by have := (List.getElem?_eq_some_iff.1 hix).1; simpa using this
    obtain rfl : (C i).2 = x := by rw [List.getElem?_map, List.getElem?_range hil] at hix; simpa using hix
    obtain ⟨hcell, hR⟩ := hC i (by omega)
    obtain ⟨_, hlen, hat⟩ := World.cells?_some hcell
    rw [hc] at hlen hat
    obtain ⟨hcell0, hR0⟩ := hC 0 (by omega)
    obtain ⟨_, hlen0, hat0⟩ := World.cells?_some hcell0
    rw [hc] at hlen0 hat0
    obtain ⟨b, off, spot⟩ := a
    have h00 := hat0 0 hpos
    have hs0 := World.cell?_spot (h00.trans (List.getElem?_eq_getElem (by omega)))
    have hspot : spot = none := by simpa [Addr.add] using hs0
    subst hspot
    refine ⟨b, off, rfl, _, hR, fun j v hv => ?_⟩
    have hj : j < r.sz := by have := (List.getElem?_eq_some_iff.1 hv).1; omega
    have := hat j hj
    rw [hv, Addr.add_lit, Addr.add_lit] at this
    rw [← Nat.add_assoc]
    exact this

/-- A struct's fields, each by its own cells. -/
theorem opens_fields {t : TypeId} {fs : Array Field} {n : Nat} {cs : List Value} {y : DataW H × List MemPlace} (ht : P.underlying t = some (.struct fs)) (h : DataW.trod enc P w base spare held n t cs = some y) (hz : ∀ k ∈ y.1.weights P t, k ≤ reachBytes) :
    cs.length = P.cellsOf t ∧ ∀ (i : Nat) (f : Field) (α : Type) (r : Rep α), fs[i]? = some f → Opens P f.type r → ∃ x, r.R Any w ((cs.drop f.offset).take r.sz) x := by
  obtain ⟨xs, m, _, rfl, hl, hlen, hf⟩ := DataW.trod_struct ht h
  refine ⟨hl, fun i f α r hi ho => ?_⟩
  have hlt : i < fs.size := (Array.getElem?_eq_some_iff.1 hi).1
  have h1 := hf i f hi
  have hxi : xs[i]? = some (xs[i]'(by omega)) := List.getElem?_eq_getElem (by omega)
  rw [hxi] at h1
  obtain ⟨hc, _, hel⟩ := ho
  rw [hc] at h1
  refine hel H enc w base spare held m _ _ h1 fun k hk => hz k ?_
  simp only [DataW.weights, ht]
  exact DataW.weights_mem_each (j := i) (t := f.type) (by rw [List.getElem?_map, Array.getElem?_toList, hi]; rfl) (by rw [List.getElem?_map, hxi]; rfl) k hk

/-- A struct by value reads as such a datum. -/
def AsAgg {α : Type} (r : Rep α) (w : World) (v : Value) (x : α) : Prop := ∃ cs : List Value, v = .agg cs.toArray ∧ r.R Any w cs x

theorem open_agg {α : Type} {r : Rep α} {re : Reach} {b0 : Nat} {t : TypeId} {fs : Array Field} {v : Value} {d : DataW H} {p : List MemPlace} (hs : P.underlying t = some (.struct fs)) (ho : Opens P t r)
    (hv : Value.okWide P w re b0 t v) (h : DataW.Trod enc P w base spare held t v d p) (hz : ∀ k ∈ d.weights P t, k ≤ reachBytes) : ∃ x, AsAgg r w v x := by
  obtain ⟨cs, rfl, _⟩ := okWide_struct hs hv
  obtain ⟨fuel, hf⟩ := h
  obtain ⟨x, hx⟩ := ho.2.2 H enc w base spare held fuel _ _ hf hz
  exact ⟨x, cs.toList, by simp, by simpa [Value.cells] using hx⟩

/-- A slice of such data reads as a list. -/
theorem open_list {α : Type} {r : Rep α} {re : Reach} {b0 : Nat} {t e : TypeId} {v : Value} {d : DataW H} {p : List MemPlace} (hs : P.underlying t = some (.slice e)) (ho : Opens P t (rL M0 r))
    (hv : Value.okWide P w re b0 t v) (h : DataW.Trod enc P w base spare held t v d p) (hz : ∀ k ∈ d.weights P t, k ≤ reachBytes) : ∃ xs a n cap, v = .slice a n cap ∧ Sl r Any w a n cap xs ∧ n * r.bytes ≤ M0 := by
  obtain ⟨a0, len0, cap0, rfl⟩ := okWide_slice hs hv
  obtain ⟨fuel, hf⟩ := h
  obtain ⟨x, a, n, cap, hx, h1, h2⟩ := ho.2.2 H enc w base spare held fuel _ _ hf hz
  simp [Value.cells] at hx
  obtain ⟨rfl, rfl, rfl⟩ := hx
  exact ⟨x, _, _, _, rfl, h1, h2⟩
end
end Go.Proofs.Ytmkfpfnjimmmaaa
