/- What comes in at a type, read as cells of the calculus. Nothing of the dump stands here. -/
import Derived.Test.YtmkfpfnjimmmaaaSepM
import Derived.Test.YtmkfpfnjimmmaaaRep
namespace Go.Proofs.Ytmkfpfnjimmmaaa
open Go.ChangeShapes Go.WideShapes Go.ChangeAt Go.RowKit
set_option linter.unusedVariables false
set_option linter.unusedSimpArgs false

def CellsV (w : World) (cs : List Value) (ds : List D) : Prop := cs.length = ds.length ∧ ∀ (b0 j : Nat) (d : D) (v : Value), ds[j]? = some d → cs[j]? = some v → VD w (fun _ => False) (fun _ => True) b0 d v
theorem CellsV.app {w : World} {a a' : List Value} {b b' : List D} (h : CellsV w a b) (h' : CellsV w a' b') : CellsV w (a ++ a') (b ++ b') := by
  refine ⟨by rw [List.length_append, List.length_append, h.1, h'.1], fun b0 j d v h1 h2 => ?_⟩
  by_cases hj : j < b.length
  · rw [List.getElem?_append_left hj] at h1
    rw [List.getElem?_append_left (by rw [h.1]; exact hj)] at h2
    exact h.2 b0 j d v h1 h2
  · rw [List.getElem?_append_right (by omega)] at h1
    rw [List.getElem?_append_right (by rw [h.1]; omega), h.1] at h2
    exact h'.2 b0 _ d v h1 h2
theorem CellsV.one {w : World} {v : Value} {d : D} (h : ∀ b0, VD w (fun _ => False) (fun _ => True) b0 d v) : CellsV w [v] [d] := by
  refine ⟨rfl, fun b0 j d' v' h1 h2 => ?_⟩
  cases j with
  | zero => simp at h1 h2; subst h1 h2; exact h b0
  | succ j => simp at h1

/-- What comes in at a type reads as such cells. -/
structure OpV {α : Type} (P : Program) (t : TypeId) (f : α → List D) (ok : α → Prop) (sz by' : Nat) : Prop where
  cells : P.cellsOf t = sz
  bytes : P.bytesOf t = by'
  pos : 0 < sz
  len : ∀ x, (f x).length = sz
  rd : ∀ (H : Type) (enc : TypeId × Value → H) (w : World) (base : Nat) (spare : Nat → Bool) (held : Bool) (n : Nat) (cs : List Value) (y : DataW H × List MemPlace), DataW.trod enc P w base spare held n t cs = some y → (∀ k ∈ y.1.weights P t, k ≤ reachBytes) → ∃ x, ok x ∧ CellsV w cs (f x)

def okI (x : Int) : Prop := -9223372036854775808 ≤ x ∧ x ≤ 9223372036854775807
def okU (x : Nat) : Prop := x < 18446744073709551616
def okLst {α : Type} (ok : α → Prop) (by' : Nat) (l : List α) : Prop := l.length * by' ≤ 140737488351232 ∧ ∀ x ∈ l, ok x

section
variable {H : Type} {enc : TypeId × Value → H} {P : Program} {w : World} {base : Nat} {spare : Nat → Bool} {held : Bool}
theorem opv_int {t : TypeId} (ht : P.underlying t = some (.int .i64)) (h1 : P.cellsOf t = 1) (h2 : P.bytesOf t = 8) : OpV P t eInt okI 1 8 := by
  refine ⟨h1, h2, by decide, fun _ => rfl, fun H enc w base spare held n cs y h _ => ?_⟩
  obtain ⟨k, rfl, _, hw⟩ := DataW.trod_int ht h
  refine ⟨k, ?_, .one fun b0 => .int _ _⟩
  unfold okI
  simp [Lit.wf, IntKind.min, IntKind.max, IntKind.signed, IntKind.bits] at hw
  omega
theorem opv_u64 {t : TypeId} (ht : P.underlying t = some (.int .u64)) (h1 : P.cellsOf t = 1) (h2 : P.bytesOf t = 8) : OpV P t eU64 okU 1 8 := by
  refine ⟨h1, h2, by decide, fun _ => rfl, fun H enc w base spare held n cs y h _ => ?_⟩
  obtain ⟨k, rfl, _, hw⟩ := DataW.trod_int ht h
  obtain ⟨m, rfl, hm⟩ := nat_of_u64 hw
  exact ⟨m, hm, .one fun b0 => .int _ _⟩
theorem opv_bool {t : TypeId} (ht : P.underlying t = some .bool) (h1 : P.cellsOf t = 1) (h2 : P.bytesOf t = 1) : OpV P t eBool (fun _ => True) 1 1 := by
  refine ⟨h1, h2, by decide, fun _ => rfl, fun H enc w base spare held n cs y h _ => ?_⟩
  obtain ⟨k, rfl, _⟩ := DataW.trod_bool ht h
  exact ⟨k, trivial, .one fun b0 => .bool _⟩
theorem view_of_bytes {a : Option Addr} {n cap : Nat} {l : List UInt8} (h : Bytes w a n cap l) (b0 : Nat) : VD w (fun _ => False) (fun _ => True) b0 (.view 1 (l.map eByte)) (.slice a n cap) := by
  refine .view (fun i j => B (l.getD i 0)) (by rw [List.length_map]; exact h.len) h.le h.max h.zero (fun i x hx => ?_) (fun i x hx => ?_) (fun i x j d hx hd => ?_)
  · obtain ⟨y, _, rfl⟩ := List.mem_map.1 (List.mem_of_getElem? hx); rfl
  · rw [List.getElem?_map] at hx
    cases hy : l[i]? with
    | none => rw [hy] at hx; cases hx
    | some y =>
      obtain ⟨b, off, ha, hc⟩ := h.row.cell i (B y) (by rw [List.getElem?_map, hy]; rfl)
      refine ⟨b, off, ha, ⟨World.block_lt_of_cell? _ _ hc, fun h => h, fun _ => .inl trivial⟩, fun j hj => ?_⟩
      obtain rfl : j = 0 := by omega
      rw [Nat.mul_one, Nat.add_zero, hc, List.getD_eq_getElem?_getD, hy]
      rfl
  · rw [List.getElem?_map] at hx
    cases hy : l[i]? with
    | none => rw [hy] at hx; cases hx
    | some y =>
      rw [hy] at hx
      obtain rfl : eByte y = x := by simpa using hx
      cases j with
      | zero =>
        obtain rfl : D.int .u8 (y.toNat : Int) = d := by simpa [eByte] using hd
        show VD _ _ _ _ _ (B (l.getD i 0))
        rw [List.getD_eq_getElem?_getD, hy]
        exact .int _ _
      | succ j => simp [eByte] at hd
theorem opv_bytes {t e : TypeId} (ht : P.underlying t = some (.slice e)) (he : P.underlying e = some (.int .u8)) (hc : P.cellsOf e = 1) (hb : P.bytesOf e = 1) (h1 : P.cellsOf t = 1) (h2 : P.bytesOf t = 24) : OpV P t eBytes (fun l => l.length ≤ 140737488351232) 1 24 := by
  refine ⟨h1, h2, by decide, fun _ => rfl, fun H enc w base spare held n cs y h hz => ?_⟩
  obtain ⟨x, a, m, cap, rfl, hy, hm, _⟩ := (opens_bytes ht he hc hb h1 h2).2.2 H enc w base spare held n cs y h hz
  exact ⟨x, by rw [hy.len]; exact hm, .one fun b0 => view_of_bytes hy b0⟩

theorem opv_slice {α : Type} [Inhabited α] {f : α → List D} {ok : α → Prop} {sz by' : Nat} {t e : TypeId} (ht : P.underlying t = some (.slice e)) (he : OpV P e f ok sz by') (h1 : P.cellsOf t = 1) (h2 : P.bytesOf t = 24) : OpV P t (fun l : List α => [.view sz (l.map f)]) (okLst ok by') 1 24 := by
  obtain ⟨hc, hbe, hpos, hfl, hel⟩ := he
  refine ⟨h1, h2, by decide, fun _ => rfl, fun H enc w base spare held n cs y h hz => ?_⟩
  rcases Go.Deep.open_slice ht h with ⟨hcs, hx⟩ | ⟨a, len, cap, m, n, D, Pl, hcs, _, hl, hm, hmm, hx, hi⟩
  · subst hcs
    exact ⟨[], ⟨by simp, fun x hx => by simp at hx⟩, .one fun b0 => .view (fun _ _ => undef) rfl (Nat.le_refl _) (Nat.zero_le _) (fun _ => rfl) (fun i x hx => by simp at hx) (fun i x hx => by simp at hx) (fun i x j d hx => by simp at hx)⟩
  · have hlm : len ≤ m := by rw [hmm]; split <;> omega
    obtain ⟨C, hC⟩ := Go.Deep.choose_lt (n := m) (p := fun i (q : List Value × α) => w.cells? base (a.add (i * P.cellsOf e)) (P.cellsOf e) = some q.1 ∧ ok q.2 ∧ CellsV w q.1 (f q.2)) fun i him => by
      obtain ⟨cs', hc', ht'⟩ := hi i him
      have hw : ∀ k ∈ (D i).weights P e, k ≤ reachBytes := fun k hk => hz k (by
        rw [hx]
        simp only [DataW.weights, ht, List.mem_cons, List.mem_append]
        by_cases hil : i < len
        · exact .inr (.inl (weights_all_mem (List.mem_map.2 ⟨i, List.mem_range.2 hil, rfl⟩) k hk))
        · exact .inr (.inr (weights_all_mem (List.mem_map.2 ⟨i - len, List.mem_range.2 (by omega), by rw [show len + (i - len) = i by omega]⟩) k hk)))
      obtain ⟨x, hx'⟩ := hel H enc w base spare held n cs' _ ht' hw
      exact ⟨(cs', x), hc', hx'⟩
    have hbytes : len * by' ≤ 140737488351232 := by
      refine reach_le' (Nat.le_trans ?_ (hz ((((List.range len).map D).length + ((List.range (m - len)).map fun j => D (len + j)).length) * P.bytesOf e) ?_))
      · rw [hbe]; exact Nat.mul_le_mul_right _ (by simp)
      · rw [hx]; simp [DataW.weights, ht]
    subst hcs
    have hget : ∀ i x, ((List.range len).map fun i => (C i).2)[i]? = some x → i < len ∧ (C i).2 = x := fun i x hix => by
      have hil : i < len := by have := (List.getElem?_eq_some_iff.1 hix).1; simpa using this
      refine ⟨hil, ?_⟩
      rw [List.getElem?_map, List.getElem?_range hil] at hix; simpa using hix
    have hgetf : ∀ i x, (((List.range len).map fun i => (C i).2).map f)[i]? = some x → i < len ∧ f (C i).2 = x := fun i x hix => by
      rw [List.getElem?_map] at hix
      cases hq : ((List.range len).map fun i => (C i).2)[i]? with
      | none => rw [hq] at hix; cases hix
      | some q =>
        rw [hq] at hix
        obtain ⟨h1, h2⟩ := hget i q hq
        exact ⟨h1, by rw [h2]; simpa using hix⟩
    refine ⟨(List.range len).map fun i => (C i).2, ⟨by simpa using hbytes, fun x hx => ?_⟩, .one fun b0 => .view (fun i j => (C i).1.getD j undef) (by simp) hl hm (fun h => by cases h) (fun i x hix => ?_) (fun i x hix => ?_) (fun i x j d hix hd => ?_)⟩
    · obtain ⟨i, hi', rfl⟩ := List.getElem_of_mem hx
      obtain ⟨h3, h4⟩ := hget i _ (List.getElem?_eq_getElem hi')
      rw [← h4]
      exact (hC i (by omega)).2.1
    · obtain ⟨h3, rfl⟩ := hgetf i x hix
      exact hfl _
    · obtain ⟨hil, rfl⟩ := hgetf i x hix
      obtain ⟨hcell, hok, hR⟩ := hC i (by omega)
      obtain ⟨_, hlen, hat⟩ := World.cells?_some hcell
      rw [hc] at hlen hat
      obtain ⟨hcell0, hok0, hR0⟩ := hC 0 (by omega)
      obtain ⟨_, hlen0, hat0⟩ := World.cells?_some hcell0
      rw [hc] at hlen0 hat0
      obtain ⟨b, off, spot⟩ := a
      have h00 := hat0 0 hpos
      have hs0 := World.cell?_spot (h00.trans (List.getElem?_eq_getElem (by omega)))
      have hspot : spot = none := by simpa [Addr.add] using hs0
      subst hspot
      have hcl : ∀ j, j < sz → w.cell? ⟨b, off + (i * sz + j), none⟩ = some ((C i).1.getD j undef) := fun j hj => by
        have h4 := hat j hj
        have h5 : (C i).1[j]? = some ((C i).1.getD j undef) := by rw [List.getD_eq_getElem?_getD, List.getElem?_eq_getElem (by omega)]; rfl
        rw [h5, Addr.add_lit, Addr.add_lit] at h4
        rw [← Nat.add_assoc]
        exact h4
      exact ⟨b, off, rfl, ⟨World.block_lt_of_cell? _ _ (hcl 0 hpos), fun h => h, fun _ => .inl trivial⟩, hcl⟩
    · obtain ⟨hil, rfl⟩ := hgetf i x hix
      obtain ⟨hcell, hok, hR⟩ := hC i (by omega)
      have hj : j < (C i).1.length := by rw [hR.1]; exact (List.getElem?_eq_some_iff.1 hd).1
      have h5 : (C i).1[j]? = some ((C i).1.getD j undef) := by rw [List.getD_eq_getElem?_getD, List.getElem?_eq_getElem hj]; rfl
      exact hR.2 b0 j d _ hd h5

/-- A struct's fields, each by its own cells. -/
theorem opv_fields {t : TypeId} {fs : Array Field} {n : Nat} {cs : List Value} {y : DataW H × List MemPlace} (ht : P.underlying t = some (.struct fs)) (h : DataW.trod enc P w base spare held n t cs = some y) (hz : ∀ k ∈ y.1.weights P t, k ≤ reachBytes) :
    cs.length = P.cellsOf t ∧ ∀ (i : Nat) (fd : Field) (α : Type) (f : α → List D) (ok : α → Prop) (sz by' : Nat), fs[i]? = some fd → OpV P fd.type f ok sz by' → ∃ x, ok x ∧ CellsV w ((cs.drop fd.offset).take sz) (f x) := by
  obtain ⟨xs, m, _, rfl, hl, hlen, hf⟩ := DataW.trod_struct ht h
  refine ⟨hl, fun i fd α f ok sz by' hi ho => ?_⟩
  have hlt : i < fs.size := (Array.getElem?_eq_some_iff.1 hi).1
  have h1 := hf i fd hi
  have hxi : xs[i]? = some (xs[i]'(by omega)) := List.getElem?_eq_getElem (by omega)
  rw [hxi] at h1
  rw [ho.cells] at h1
  refine ho.rd H enc w base spare held m _ _ h1 fun k hk => hz k ?_
  simp only [DataW.weights, ht]
  exact DataW.weights_mem_each (j := i) (t := fd.type) (by rw [List.getElem?_map, Array.getElem?_toList, hi]; rfl) (by rw [List.getElem?_map, hxi]; rfl) k hk

/-- A struct that comes in by value. -/
theorem opv_agg {α : Type} {f : α → List D} {ok : α → Prop} {sz by' : Nat} {re : Reach} {b0 : Nat} {t : TypeId} {fs : Array Field} {v : Value} {d : DataW H} {p : List MemPlace} (hs : P.underlying t = some (.struct fs)) (ho : OpV P t f ok sz by')
    (hv : Value.okWide P w re b0 t v) (h : DataW.Trod enc P w base spare held t v d p) (hz : ∀ k ∈ d.weights P t, k ≤ reachBytes) : ∃ x, ok x ∧ ∀ b1, VA E0 w (fun _ => False) (fun _ => True) b1 (.agg ((f x).map .d)) v := by
  obtain ⟨cs, rfl, _⟩ := okWide_struct hs hv
  obtain ⟨fuel, hf⟩ := h
  obtain ⟨x, h1, h2⟩ := ho.rd H enc w base spare held fuel _ _ hf hz
  have h3 : CellsV w cs.toList (f x) := by simpa [Value.cells] using h2
  refine ⟨x, h1, fun b1 => ?_⟩
  have : Value.agg cs = .agg cs.toList.toArray := by simp
  rw [this]
  refine .agg (by rw [List.length_map, h3.1]) fun i y u hy hu => ?_
  rw [List.getElem?_map] at hy
  cases hd : (f x)[i]? with
  | none => rw [hd] at hy; cases hy
  | some d =>
    rw [hd] at hy
    obtain rfl : AV.d d = y := by simpa using hy
    exact .d (h3.2 b1 i d u hd hu)

/-- A slice that comes in. -/
theorem opv_sl {α : Type} {g : α → D} {ok : α → Prop} {sz by' : Nat} {re : Reach} {b0 : Nat} {t e : TypeId} {v : Value} {d : DataW H} {p : List MemPlace} (hs : P.underlying t = some (.slice e)) (ho : OpV P t (fun x => [g x]) ok sz by')
    (hv : Value.okWide P w re b0 t v) (h : DataW.Trod enc P w base spare held t v d p) (hz : ∀ k ∈ d.weights P t, k ≤ reachBytes) : ∃ x, ok x ∧ ∀ b1, VA E0 w (fun _ => False) (fun _ => True) b1 (.d (g x)) v := by
  obtain ⟨a0, len0, cap0, rfl⟩ := okWide_slice hs hv
  obtain ⟨fuel, hf⟩ := h
  obtain ⟨x, h1, h2⟩ := ho.rd H enc w base spare held fuel _ _ hf hz
  exact ⟨x, h1, fun b1 => .d (h2.2 b1 0 _ _ rfl (by simp [Value.cells]))⟩

/-- A law: such arguments, and it returns true; nothing else is changed. -/
theorem ACalls.law {f : FuncId} {args : List AV} {vs : List Value} (h : ACalls P f args fun r bs => r = .d (.bool true) ∧ bs = []) (hl : vs.length = args.length) (hv : ∀ (i : Nat) (x : AV) (v : Value), args[i]? = some x → vs[i]? = some v → VA E0 w (fun _ => False) (fun _ => True) w.heap.size x v) :
    Calls P f vs.toArray w fun e w' => e = .returned (.bool true) ∧ Below w.heap.size w w' := (h w (fun _ => True) vs hl hv).mono fun e w' ⟨r, bs, v, E, ⟨h1, h2⟩, h3, h4, h5⟩ => by
  subst h1
  cases h5 with
  | d h5 =>
    cases h5
    exact ⟨h3, h4.below⟩
end
end Go.Proofs.Ytmkfpfnjimmmaaa
