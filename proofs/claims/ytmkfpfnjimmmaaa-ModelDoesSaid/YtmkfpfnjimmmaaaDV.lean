/- What comes in at a type, with how many bytes its rows have. -/
import Derived.Test.YtmkfpfnjimmmaaaVZ
namespace Go.Proofs.Ytmkfpfnjimmmaaa
open Go.ChangeShapes Go.WideShapes Go.ChangeAt Go.RowKit
set_option linter.unusedVariables false
set_option linter.unusedSimpArgs false

/-- So many bytes a datum of the type has at least, where it lies in a row. -/
def by8 : Ty → Nat
  | .int .u8 => 1
  | .int _ => 8
  | .bool => 8
  | .sl _ => 24
  | .unit => 0
  | .pair a b => by8 a + by8 b
def okB : (T : Ty) → Val T → Prop
  | .int k, n => (Lit.int k n).wf = true
  | .bool, _ => True
  | .sl t, l => List.length (α := Val t) l * by8 t ≤ 140737488351232 ∧ allP (okB t) l
  | .unit, _ => True
  | .pair a b, x => okB a x.1 ∧ okB b x.2

def OpB (P : Program) (t : TypeId) (T : Ty) : Prop := P.cellsOf t = T.size ∧
  ∀ (H : Type) (enc : TypeId × Value → H) (w : World) (base : Nat) (spare : Nat → Bool) (held : Bool) (n : Nat) (cs : List Value) (y : DataW H × List MemPlace), DataW.trod enc P w base spare held n t cs = some y → (∀ k ∈ y.1.weights P t, k ≤ reachBytes) → ∃ x : Val T, okB T x ∧ CellsV w cs (flatD T x)

mutual
def chkB (P : Program) : Nat → TypeId → Ty → Bool
  | 0, _, _ => false
  | n + 1, t, T => Nat.beq (P.cellsOf t) T.size && match P.underlying t, T with
    | some (.int k), .int k' => decide (k = k')
    | some .bool, .bool => true
    | some (.slice e), .sl a => chkB P n e a && Nat.ble 1 a.size && Nat.ble (by8 a) (P.bytesOf e)
    | some (.struct fs), T => chkG P n fs.toList 0 T
    | _, _ => false
def chkG (P : Program) : Nat → List Field → Nat → Ty → Bool
  | 0, _, _, _ => false
  | _ + 1, [], _, .unit => true
  | n + 1, f :: r, off, .pair a b => chkB P n f.type a && Nat.beq f.offset off && chkG P n r (off + a.size) b
  | _ + 1, _, _, _ => false
end

section
variable {H : Type} {enc : TypeId × Value → H} {P : Program} {w : World} {base : Nat} {spare : Nat → Bool} {held : Bool}
theorem opB_slice {T : Ty} {t e : TypeId} (ht : P.underlying t = some (.slice e)) (he : OpB P e T) (h1 : P.cellsOf t = 1) (hpos : 0 < T.size) (hbp : by8 T ≤ P.bytesOf e) : OpB P t (.sl T) := by
  obtain ⟨hc, hel⟩ := he
  refine ⟨h1, fun H enc w base spare held n cs y h hz => ?_⟩
  rcases Go.Deep.open_slice ht h with ⟨hcs, hx⟩ | ⟨a, len, cap, m, n, D, Pl, hcs, _, hl, hm, hmm, hx, hi⟩
  · subst hcs
    exact ⟨([] : List (Val T)), ⟨by simp, fun x hx => by simp at hx⟩, .one fun b0 => .view (fun _ _ => undef) rfl (Nat.le_refl _) (Nat.zero_le _) (fun _ => rfl) (fun i x hx => by simp at hx) (fun i x hx => by simp at hx) (fun i x j d hx => by simp at hx)⟩
  · have hlm : len ≤ m := by rw [hmm]; split <;> omega
    have hC0 := fun (i : Nat) (him : i < m) => (show ∃ q : List Value × Val T, w.cells? base (a.add (i * P.cellsOf e)) (P.cellsOf e) = some q.1 ∧ okB T q.2 ∧ CellsV w q.1 (flatD T q.2) by
      obtain ⟨cs', hc', ht'⟩ := hi i him
      have hw : ∀ k ∈ (D i).weights P e, k ≤ reachBytes := fun k hk => hz k (by
        rw [hx]
        simp only [DataW.weights, ht, List.mem_cons, List.mem_append]
        by_cases hil : i < len
        · exact .inr (.inl (weights_all_mem (List.mem_map.2 ⟨i, List.mem_range.2 hil, rfl⟩) k hk))
        · exact .inr (.inr (weights_all_mem (List.mem_map.2 ⟨i - len, List.mem_range.2 (by omega), by rw [show len + (i - len) = i by omega]⟩) k hk)))
      obtain ⟨x, hx'⟩ := hel H enc w base spare held n cs' _ ht' hw
      exact ⟨(cs', x), hc', hx'⟩)
    have hbytes : len * by8 T ≤ 140737488351232 := by
      have h3 := reach_le' (Nat.le_trans (Nat.le_refl _) (hz ((((List.range len).map D).length + ((List.range (m - len)).map fun j => D (len + j)).length) * P.bytesOf e) (by rw [hx]; simp [DataW.weights, ht])))
      have h4 : len * by8 T ≤ (((List.range len).map D).length + ((List.range (m - len)).map fun j => D (len + j)).length) * P.bytesOf e := Nat.mul_le_mul (by simp) hbp
      omega
    subst hcs
    by_cases hl0 : len = 0
    · subst hl0
      exact ⟨([] : List (Val T)), ⟨by simp, fun x hx => by simp at hx⟩, .one fun b0 => .view (fun _ _ => undef) rfl (Nat.zero_le _) hm (fun h => by cases h) (fun i x hx => by simp at hx) (fun i x hx => by simp at hx) (fun i x j d hx => by simp at hx)⟩
    have hex : ∃ C : Nat → List Value × Val T, ∀ i, i < m → w.cells? base (a.add (i * P.cellsOf e)) (P.cellsOf e) = some (C i).1 ∧ okB T (C i).2 ∧ CellsV w (C i).1 (flatD T (C i).2) := by
      haveI : Inhabited (List Value × Val T) := ⟨(hC0 0 (by omega)).choose⟩
      exact Go.Deep.choose_lt (n := m) (p := fun i (q : List Value × Val T) => w.cells? base (a.add (i * P.cellsOf e)) (P.cellsOf e) = some q.1 ∧ okB T q.2 ∧ CellsV w q.1 (flatD T q.2)) hC0
    obtain ⟨C, hC⟩ := hex
    have hgetf : ∀ i x, (denS (T := T) ((List.range len).map fun i => (C i).2))[i]? = some x → i < len ∧ flatD T (C i).2 = x := fun i x hix => by
      unfold denS at hix
      rw [List.getElem?_map, List.getElem?_map] at hix
      by_cases hil : i < len
      · rw [List.getElem?_range hil] at hix
        exact ⟨hil, by simpa using hix⟩
      · rw [List.getElem?_eq_none (by simpa using hil)] at hix
        simp at hix
    refine ⟨((List.range len).map fun i => (C i).2 : List (Val T)), ⟨by simpa using hbytes, fun x hx => ?_⟩, .one fun b0 => ?_⟩
    · obtain ⟨i, hi1, rfl⟩ := List.mem_map.1 hx
      exact (hC i (by have := List.mem_range.1 hi1; omega)).2.1
    · show VD w _ _ b0 (.view T.size (denS (T := T) ((List.range len).map fun i => (C i).2))) _
      refine .view (fun i j => (C i).1.getD j undef) (by rw [denS_length]; simp) hl hm (fun h => by cases h) (fun i x hix => ?_) (fun i x hix => ?_) (fun i x j d hix hd => ?_)
      · obtain ⟨h3, rfl⟩ := hgetf i x hix
        exact flatD_length _ _
      · obtain ⟨hil, rfl⟩ := hgetf i x hix
        obtain ⟨hcell, hok, hR⟩ := hC i (by omega)
        obtain ⟨_, hlen, hat⟩ := World.cells?_some hcell
        rw [hc] at hlen hat
        obtain ⟨hcell0, hok0, hR0⟩ := hC 0 (by omega)
        obtain ⟨_, hlen0, hat0⟩ := World.cells?_some hcell0
        rw [hc] at hlen0 hat0
        obtain ⟨b, off, spot⟩ := a
        have h00 := hat0 0 hpos
        have hs0 := World.cell?_spot (h00.trans (List.getElem?_eq_getElem (by omega)))
        have hspot : spot = none := by simpa [Addr.add] using hs0
        subst hspot
        have hcl : ∀ j, j < T.size → w.cell? ⟨b, off + (i * T.size + j), none⟩ = some ((C i).1.getD j undef) := fun j hj => by
          have h4 := hat j hj
          have h5 : (C i).1[j]? = some ((C i).1.getD j undef) := by rw [List.getD_eq_getElem?_getD, List.getElem?_eq_getElem (by omega)]; rfl
          rw [h5, Addr.add_lit, Addr.add_lit] at h4
          rw [← Nat.add_assoc]
          exact h4
        exact ⟨b, off, rfl, ⟨World.block_lt_of_cell? _ _ (hcl 0 hpos), fun h => h, fun _ => .inl trivial⟩, hcl⟩
      · obtain ⟨hil, rfl⟩ := hgetf i x hix
        obtain ⟨hcell, hok, hR⟩ := hC i (by omega)
        have hj : j < (C i).1.length := by rw [hR.1]; exact (List.getElem?_eq_some_iff.1 hd).1
        have h5 : (C i).1[j]? = some ((C i).1.getD j undef) := by rw [List.getD_eq_getElem?_getD, List.getElem?_eq_getElem hj]; rfl
        exact hR.2 b0 j d _ hd h5

/-- A struct's fields, each by its own cells. -/
theorem opB_fields {t : TypeId} {fs : Array Field} {n : Nat} {cs : List Value} {y : DataW H × List MemPlace} (ht : P.underlying t = some (.struct fs)) (h : DataW.trod enc P w base spare held n t cs = some y) (hz : ∀ k ∈ y.1.weights P t, k ≤ reachBytes) :
    cs.length = P.cellsOf t ∧ ∀ (i : Nat) (fd : Field) (T : Ty), fs[i]? = some fd → OpB P fd.type T → ∃ x : Val T, okB T x ∧ CellsV w ((cs.drop fd.offset).take T.size) (flatD T x) := by
  obtain ⟨xs, m, _, rfl, hl, hlen, hf⟩ := DataW.trod_struct ht h
  refine ⟨hl, fun i fd T hi ho => ?_⟩
  have hlt : i < fs.size := (Array.getElem?_eq_some_iff.1 hi).1
  have h1 := hf i fd hi
  have hxi : xs[i]? = some (xs[i]'(by omega)) := List.getElem?_eq_getElem (by omega)
  rw [hxi] at h1
  rw [ho.1] at h1
  refine ho.2 H enc w base spare held m _ _ h1 fun k hk => hz k ?_
  simp only [DataW.weights, ht]
  exact DataW.weights_mem_each (j := i) (t := fd.type) (by rw [List.getElem?_map, Array.getElem?_toList, hi]; rfl) (by rw [List.getElem?_map, hxi]; rfl) k hk

mutual
theorem chkB_ok : ∀ (n : Nat) (t : TypeId) (T : Ty), chkB P n t T = true → OpB P t T
  | 0, _, _, h => by simp [chkB] at h
  | n + 1, t, T, h => by
    simp only [chkB, Bool.and_eq_true] at h
    obtain ⟨hc', h⟩ := h
    have hc := Nat.eq_of_beq_eq_true hc'
    clear hc'
    split at h
    · rename_i k k' ht
      obtain rfl := of_decide_eq_true h
      refine ⟨hc, fun H enc w base spare held n cs y h _ => ?_⟩
      obtain ⟨q, rfl, _, hw⟩ := DataW.trod_int ht h
      exact ⟨q, hw, .one fun b0 => .int _ _⟩
    · rename_i ht
      refine ⟨hc, fun H enc w base spare held n cs y h _ => ?_⟩
      obtain ⟨q, rfl, _⟩ := DataW.trod_bool ht h
      exact ⟨q, trivial, .one fun b0 => .bool _⟩
    · rename_i e a ht
      simp only [Bool.and_eq_true] at h
      exact opB_slice ht (chkB_ok n e a h.1.1) hc (Nat.le_of_ble_eq_true h.1.2) (Nat.le_of_ble_eq_true h.2)
    · rename_i fs ht
      refine ⟨hc, fun H enc w base spare held m cs y hh hz => ?_⟩
      obtain ⟨hl, hf⟩ := opB_fields ht hh hz
      have := chkG_ok n fs.toList 0 _ h cs w (by rw [hl, hc, Nat.zero_add]) fun f hf' T' ho => by
        obtain ⟨i, hi⟩ := List.getElem?_of_mem hf'
        exact hf i f T' (by rw [← Array.getElem?_toList]; exact hi) ho
      rw [List.drop_zero] at this
      exact this
    · cases h
theorem chkG_ok : ∀ (n : Nat) (r : List Field) (off : Nat) (T : Ty), chkG P n r off T = true → ∀ (cs : List Value) (w : World), cs.length = off + T.size → (∀ f ∈ r, ∀ T', OpB P f.type T' → ∃ x : Val T', okB T' x ∧ CellsV w ((cs.drop f.offset).take T'.size) (flatD T' x)) → ∃ x : Val T, okB T x ∧ CellsV w (cs.drop off) (flatD T x)
  | 0, _, _, _, h => by simp [chkG] at h
  | n + 1, [], off, .unit, _ => fun cs w hl _ => ⟨(), trivial, by
      rw [List.drop_eq_nil_of_le (by rw [hl]; exact Nat.le_refl _)]
      exact ⟨rfl, fun b0 j d v h => by simp [flatD] at h⟩⟩
  | n + 1, f :: r, off, .pair a b, h => fun cs w hl hf => by
    simp only [chkG, Bool.and_eq_true] at h
    obtain ⟨⟨h1, h2⟩, h3⟩ := h
    have ho := Nat.eq_of_beq_eq_true h2
    obtain ⟨x, k1, k2⟩ := hf f (List.mem_cons_self ..) a (chkB_ok n _ _ h1)
    obtain ⟨y, k3, k4⟩ := chkG_ok n r (off + a.size) b h3 cs w (by rw [hl]; simp [Ty.size]; omega) fun g hg T' ho' => hf g (List.mem_cons_of_mem _ hg) T' ho'
    rw [ho] at k2
    refine ⟨(x, y), ⟨k1, k3⟩, ?_⟩
    have e : cs.drop off = (cs.drop off).take a.size ++ cs.drop (off + a.size) := by rw [← List.drop_drop, List.take_append_drop]
    rw [e]
    exact k2.app k4
  | n + 1, [], off, .int _, h => by simp [chkG] at h
  | n + 1, [], off, .bool, h => by simp [chkG] at h
  | n + 1, [], off, .sl _, h => by simp [chkG] at h
  | n + 1, [], off, .pair _ _, h => by simp [chkG] at h
  | n + 1, _ :: _, off, .int _, h => by simp [chkG] at h
  | n + 1, _ :: _, off, .bool, h => by simp [chkG] at h
  | n + 1, _ :: _, off, .sl _, h => by simp [chkG] at h
  | n + 1, _ :: _, off, .unit, h => by simp [chkG] at h
end

/-- A struct that comes in by value. -/
theorem argB_agg {T : Ty} {re : Reach} {b0 n : Nat} {t : TypeId} {fs : Array Field} {v : Value} {d : DataW H} {p : List MemPlace} (hs : P.underlying t = some (.struct fs)) (ho : chkB P n t T = true)
    (hv : Value.okWide P w re b0 t v) (h : DataW.Trod enc P w base spare held t v d p) (hz : ∀ k ∈ d.weights P t, k ≤ reachBytes) : ∃ x : Val T, okB T x ∧ ∀ (o : Bool) (E : Env) (B : Nat → TB) (vs : List Nat) (a k b1 : Nat), VA E w (fun _ => False) (fun _ => True) b1 (denV B (.agg (unparse vs (shOf o T) (shV o T x) a k).cs)) v := by
  obtain ⟨cs, rfl, _⟩ := okWide_struct hs hv
  obtain ⟨fuel, hf⟩ := h
  obtain ⟨x, h1, h2⟩ := (chkB_ok n t T ho).2 H enc w base spare held fuel _ _ hf hz
  have h3 : CellsV w cs.toList (flatD T x) := by simpa [Value.cells] using h2
  refine ⟨x, h1, fun o E B vs a k b1 => ?_⟩
  obtain ⟨q1, q2⟩ := sh_cells (o := o) (E := E) (B := B) (vs := vs) (b0 := b1) T x a k _ h3
  have : Value.agg cs = .agg cs.toList.toArray := by simp
  rw [this]
  simp only [denV]
  refine .agg (by rw [denVs_map, List.length_map, q1]) fun i y u hy hu => ?_
  rw [denVs_map, List.getElem?_map] at hy
  obtain ⟨z, hz', rfl⟩ := Option.map_eq_some_iff.1 hy
  exact q2 i z u hz' hu

/-- A slice that comes in. -/
theorem argB_sl {T : Ty} {re : Reach} {b0 n : Nat} {t e : TypeId} {v : Value} {d : DataW H} {p : List MemPlace} (hs : P.underlying t = some (.slice e)) (ho : chkB P n t (.sl T) = true)
    (hv : Value.okWide P w re b0 t v) (h : DataW.Trod enc P w base spare held t v d p) (hz : ∀ k ∈ d.weights P t, k ≤ reachBytes) : ∃ x : List (Val T), okB (.sl T) x ∧ ∀ (o : Bool) (E : Env) (B : Nat → TB) (b1 : Nat), VA E w (fun _ => False) (fun _ => True) b1 (denV B (.view o T x)) v := by
  obtain ⟨a0, len0, cap0, rfl⟩ := okWide_slice hs hv
  obtain ⟨fuel, hf⟩ := h
  obtain ⟨x, h1, h2⟩ := (chkB_ok n t (.sl T) ho).2 H enc w base spare held fuel _ _ hf hz
  refine ⟨x, h1, fun o E B b1 => ?_⟩
  have h3 : VD w (fun _ => False) (fun _ => True) b1 (.view T.size (denS (T := T) x)) (.slice a0 len0 cap0) := h2.2 b1 0 _ _ rfl (by simp [Value.cells])
  cases o with
  | false => exact .d h3
  | true => exact VA.lend h3
end
end Go.Proofs.Ytmkfpfnjimmmaaa
