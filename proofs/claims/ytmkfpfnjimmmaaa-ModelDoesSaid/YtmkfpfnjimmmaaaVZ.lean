/- What comes in at a type, read as data by type; a law out of a function's word. Nothing of the dump stands here. -/
import Derived.Test.YtmkfpfnjimmmaaaVY
import Derived.Test.YtmkfpfnjimmmaaaRep
namespace Go.Proofs.Ytmkfpfnjimmmaaa
open Go.ChangeShapes Go.WideShapes Go.ChangeAt Go.RowKit
set_option linter.unusedVariables false
set_option linter.unusedSimpArgs false

def allP {α : Type} (p : α → Prop) (l : List α) : Prop := ∀ x ∈ l, p x
/-- The data of a type that may come in. -/
def okT : (T : Ty) → Val T → Prop
  | .int k, n => (Lit.int k n).wf = true
  | .bool, _ => True
  | .sl t, l => List.length (α := Val t) l ≤ 140737488351232 ∧ allP (okT t) l
  | .unit, _ => True
  | .pair a b, x => okT a x.1 ∧ okT b x.2

def CellsV (w : World) (cs : List Value) (ds : List D) : Prop := cs.length = ds.length ∧ ∀ (b0 j : Nat) (d : D) (v : Value), ds[j]? = some d → cs[j]? = some v → VD w (fun _ => False) (fun _ => True) b0 d v
theorem CellsV.app {w : World} {a a' : List Value} {b b' : List D} (h : CellsV w a b) (h' : CellsV w a' b') : CellsV w (a ++ a') (b ++ b') := by
  refine ⟨by rw [List.length_append, List.length_append, h.1, h'.1], fun b0 j d v h1 h2 => ?_⟩
  by_cases hj : j < b.length
  · rw [List.getElem?_append_left hj] at h1
    rw [List.getElem?_append_left (by rw [h.1]; exact hj)] at h2
    exact h.2 b0 j d v h1 h2
  · rw [List.getElem?_append_right (by omega)] at h1
    rw [List.getElem?_append_right (by rw [h.1]; omega), h.1] at h2
    exact h'.2 b0 _ d v h1 h2
theorem CellsV.one {w : World} {v : Value} {d : D} (h : ∀ b0, VD w (fun _ => False) (fun _ => True) b0 d v) : CellsV w [v] [d] := by
  refine ⟨rfl, fun b0 j d' v' h1 h2 => ?_⟩
  cases j with
  | zero => simp at h1 h2; subst h1 h2; exact h b0
  | succ j => simp at h1

/-- What comes in at a type reads as such cells. -/
def OpT (P : Program) (t : TypeId) (T : Ty) : Prop := P.cellsOf t = T.size ∧
  ∀ (H : Type) (enc : TypeId × Value → H) (w : World) (base : Nat) (spare : Nat → Bool) (held : Bool) (n : Nat) (cs : List Value) (y : DataW H × List MemPlace), DataW.trod enc P w base spare held n t cs = some y → (∀ k ∈ y.1.weights P t, k ≤ reachBytes) → ∃ x : Val T, okT T x ∧ CellsV w cs (flatD T x)

mutual
def chkT (P : Program) : Nat → TypeId → Ty → Bool
  | 0, _, _ => false
  | n + 1, t, T => Nat.beq (P.cellsOf t) T.size && match P.underlying t, T with
    | some (.int k), .int k' => decide (k = k')
    | some .bool, .bool => true
    | some (.slice e), .sl a => chkT P n e a && Nat.ble 1 a.size && Nat.ble 1 (P.bytesOf e)
    | some (.struct fs), T => chkF P n fs.toList 0 T
    | _, _ => false
def chkF (P : Program) : Nat → List Field → Nat → Ty → Bool
  | 0, _, _, _ => false
  | _ + 1, [], _, .unit => true
  | n + 1, f :: r, off, .pair a b => chkT P n f.type a && Nat.beq f.offset off && chkF P n r (off + a.size) b
  | _ + 1, _, _, _ => false
end

section
variable {H : Type} {enc : TypeId × Value → H} {P : Program} {w : World} {base : Nat} {spare : Nat → Bool} {held : Bool}
theorem opT_slice {T : Ty} {t e : TypeId} (ht : P.underlying t = some (.slice e)) (he : OpT P e T) (h1 : P.cellsOf t = 1) (hpos : 0 < T.size) (hbp : 0 < P.bytesOf e) : OpT P t (.sl T) := by
  obtain ⟨hc, hel⟩ := he
  refine ⟨h1, fun H enc w base spare held n cs y h hz => ?_⟩
  rcases Go.Deep.open_slice ht h with ⟨hcs, hx⟩ | ⟨a, len, cap, m, n, D, Pl, hcs, _, hl, hm, hmm, hx, hi⟩
  · subst hcs
    exact ⟨([] : List (Val T)), ⟨by simp, fun x hx => by simp at hx⟩, .one fun b0 => .view (fun _ _ => undef) rfl (Nat.le_refl _) (Nat.zero_le _) (fun _ => rfl) (fun i x hx => by simp at hx) (fun i x hx => by simp at hx) (fun i x j d hx => by simp at hx)⟩
  · have hlm : len ≤ m := by rw [hmm]; split <;> omega
    have hC0 := fun (i : Nat) (him : i < m) => (show ∃ q : List Value × Val T, w.cells? base (a.add (i * P.cellsOf e)) (P.cellsOf e) = some q.1 ∧ okT T q.2 ∧ CellsV w q.1 (flatD T q.2) by
      obtain ⟨cs', hc', ht'⟩ := hi i him
      have hw : ∀ k ∈ (D i).weights P e, k ≤ reachBytes := fun k hk => hz k (by
        rw [hx]
        simp only [DataW.weights, ht, List.mem_cons, List.mem_append]
        by_cases hil : i < len
        · exact .inr (.inl (weights_all_mem (List.mem_map.2 ⟨i, List.mem_range.2 hil, rfl⟩) k hk))
        · exact .inr (.inr (weights_all_mem (List.mem_map.2 ⟨i - len, List.mem_range.2 (by omega), by rw [show len + (i - len) = i by omega]⟩) k hk)))
      obtain ⟨x, hx'⟩ := hel H enc w base spare held n cs' _ ht' hw
      exact ⟨(cs', x), hc', hx'⟩)
    have hbytes : len ≤ 140737488351232 := by
      have h3 := reach_le' (Nat.le_trans (Nat.le_refl _) (hz ((((List.range len).map D).length + ((List.range (m - len)).map fun j => D (len + j)).length) * P.bytesOf e) (by rw [hx]; simp [DataW.weights, ht])))
      have h4 : len * 1 ≤ (((List.range len).map D).length + ((List.range (m - len)).map fun j => D (len + j)).length) * P.bytesOf e := Nat.mul_le_mul (by simp) hbp
      omega
    subst hcs
    by_cases hl0 : len = 0
    · subst hl0
      exact ⟨([] : List (Val T)), ⟨by simp, fun x hx => by simp at hx⟩, .one fun b0 => .view (fun _ _ => undef) rfl (Nat.zero_le _) hm (fun h => by cases h) (fun i x hx => by simp at hx) (fun i x hx => by simp at hx) (fun i x j d hx => by simp at hx)⟩
    have hex : ∃ C : Nat → List Value × Val T, ∀ i, i < m → w.cells? base (a.add (i * P.cellsOf e)) (P.cellsOf e) = some (C i).1 ∧ okT T (C i).2 ∧ CellsV w (C i).1 (flatD T (C i).2) := by
      haveI : Inhabited (List Value × Val T) := ⟨(hC0 0 (by omega)).choose⟩
      exact Go.Deep.choose_lt (n := m) (p := fun i (q : List Value × Val T) => w.cells? base (a.add (i * P.cellsOf e)) (P.cellsOf e) = some q.1 ∧ okT T q.2 ∧ CellsV w q.1 (flatD T q.2)) hC0
    obtain ⟨C, hC⟩ := hex
    have hgetf : ∀ i x, (denS (T := T) ((List.range len).map fun i => (C i).2))[i]? = some x → i < len ∧ flatD T (C i).2 = x := fun i x hix => by
      unfold denS at hix
      rw [List.getElem?_map, List.getElem?_map] at hix
      by_cases hil : i < len
      · rw [List.getElem?_range hil] at hix
        exact ⟨hil, by simpa using hix⟩
      · rw [List.getElem?_eq_none (by simpa using hil)] at hix
        simp at hix
    refine ⟨((List.range len).map fun i => (C i).2 : List (Val T)), ⟨by simpa using hbytes, fun x hx => ?_⟩, .one fun b0 => ?_⟩
    · obtain ⟨i, hi1, rfl⟩ := List.mem_map.1 hx
      exact (hC i (by have := List.mem_range.1 hi1; omega)).2.1
    · show VD w _ _ b0 (.view T.size (denS (T := T) ((List.range len).map fun i => (C i).2))) _
      refine .view (fun i j => (C i).1.getD j undef) (by rw [denS_length]; simp) hl hm (fun h => by cases h) (fun i x hix => ?_) (fun i x hix => ?_) (fun i x j d hix hd => ?_)
      · obtain ⟨h3, rfl⟩ := hgetf i x hix
        exact flatD_length _ _
      · obtain ⟨hil, rfl⟩ := hgetf i x hix
        obtain ⟨hcell, hok, hR⟩ := hC i (by omega)
        obtain ⟨_, hlen, hat⟩ := World.cells?_some hcell
        rw [hc] at hlen hat
        obtain ⟨hcell0, hok0, hR0⟩ := hC 0 (by omega)
        obtain ⟨_, hlen0, hat0⟩ := World.cells?_some hcell0
        rw [hc] at hlen0 hat0
        obtain ⟨b, off, spot⟩ := a
        have h00 := hat0 0 hpos
        have hs0 := World.cell?_spot (h00.trans (List.getElem?_eq_getElem (by omega)))
        have hspot : spot = none := by simpa [Addr.add] using hs0
        subst hspot
        have hcl : ∀ j, j < T.size → w.cell? ⟨b, off + (i * T.size + j), none⟩ = some ((C i).1.getD j undef) := fun j hj => by
          have h4 := hat j hj
          have h5 : (C i).1[j]? = some ((C i).1.getD j undef) := by rw [List.getD_eq_getElem?_getD, List.getElem?_eq_getElem (by omega)]; rfl
          rw [h5, Addr.add_lit, Addr.add_lit] at h4
          rw [← Nat.add_assoc]
          exact h4
        exact ⟨b, off, rfl, ⟨World.block_lt_of_cell? _ _ (hcl 0 hpos), fun h => h, fun _ => .inl trivial⟩, hcl⟩
      · obtain ⟨hil, rfl⟩ := hgetf i x hix
        obtain ⟨hcell, hok, hR⟩ := hC i (by omega)
        have hj : j < (C i).1.length := by rw [hR.1]; exact (List.getElem?_eq_some_iff.1 hd).1
        have h5 : (C i).1[j]? = some ((C i).1.getD j undef) := by rw [List.getD_eq_getElem?_getD, List.getElem?_eq_getElem hj]; rfl
        exact hR.2 b0 j d _ hd h5

/-- A struct's fields, each by its own cells. -/
theorem opT_fields {t : TypeId} {fs : Array Field} {n : Nat} {cs : List Value} {y : DataW H × List MemPlace} (ht : P.underlying t = some (.struct fs)) (h : DataW.trod enc P w base spare held n t cs = some y) (hz : ∀ k ∈ y.1.weights P t, k ≤ reachBytes) :
    cs.length = P.cellsOf t ∧ ∀ (i : Nat) (fd : Field) (T : Ty), fs[i]? = some fd → OpT P fd.type T → ∃ x : Val T, okT T x ∧ CellsV w ((cs.drop fd.offset).take T.size) (flatD T x) := by
  obtain ⟨xs, m, _, rfl, hl, hlen, hf⟩ := DataW.trod_struct ht h
  refine ⟨hl, fun i fd T hi ho => ?_⟩
  have hlt : i < fs.size := (Array.getElem?_eq_some_iff.1 hi).1
  have h1 := hf i fd hi
  have hxi : xs[i]? = some (xs[i]'(by omega)) := List.getElem?_eq_getElem (by omega)
  rw [hxi] at h1
  rw [ho.1] at h1
  refine ho.2 H enc w base spare held m _ _ h1 fun k hk => hz k ?_
  simp only [DataW.weights, ht]
  exact DataW.weights_mem_each (j := i) (t := fd.type) (by rw [List.getElem?_map, Array.getElem?_toList, hi]; rfl) (by rw [List.getElem?_map, hxi]; rfl) k hk

mutual
theorem chkT_ok : ∀ (n : Nat) (t : TypeId) (T : Ty), chkT P n t T = true → OpT P t T
  | 0, _, _, h => by simp [chkT] at h
  | n + 1, t, T, h => by
    simp only [chkT, Bool.and_eq_true] at h
    obtain ⟨hc', h⟩ := h
    have hc := Nat.eq_of_beq_eq_true hc'
    clear hc'
    split at h
    · rename_i k k' ht
      obtain rfl := of_decide_eq_true h
      refine ⟨hc, fun H enc w base spare held n cs y h _ => ?_⟩
      obtain ⟨q, rfl, _, hw⟩ := DataW.trod_int ht h
      exact ⟨q, hw, .one fun b0 => .int _ _⟩
    · rename_i ht
      refine ⟨hc, fun H enc w base spare held n cs y h _ => ?_⟩
      obtain ⟨q, rfl, _⟩ := DataW.trod_bool ht h
      exact ⟨q, trivial, .one fun b0 => .bool _⟩
    · rename_i e a ht
      simp only [Bool.and_eq_true] at h
      exact opT_slice ht (chkT_ok n e a h.1.1) hc (Nat.le_of_ble_eq_true h.1.2) (Nat.le_of_ble_eq_true h.2)
    · rename_i fs ht
      refine ⟨hc, fun H enc w base spare held m cs y hh hz => ?_⟩
      obtain ⟨hl, hf⟩ := opT_fields ht hh hz
      have := chkF_ok n fs.toList 0 _ h cs w (by rw [hl, hc, Nat.zero_add]) fun f hf' T' ho => by
        obtain ⟨i, hi⟩ := List.getElem?_of_mem hf'
        exact hf i f T' (by rw [← Array.getElem?_toList]; exact hi) ho
      rw [List.drop_zero] at this
      exact this
    · cases h
theorem chkF_ok : ∀ (n : Nat) (r : List Field) (off : Nat) (T : Ty), chkF P n r off T = true → ∀ (cs : List Value) (w : World), cs.length = off + T.size → (∀ f ∈ r, ∀ T', OpT P f.type T' → ∃ x : Val T', okT T' x ∧ CellsV w ((cs.drop f.offset).take T'.size) (flatD T' x)) → ∃ x : Val T, okT T x ∧ CellsV w (cs.drop off) (flatD T x)
  | 0, _, _, _, h => by simp [chkF] at h
  | n + 1, [], off, .unit, _ => fun cs w hl _ => ⟨(), trivial, by
      rw [List.drop_eq_nil_of_le (by rw [hl]; exact Nat.le_refl _)]
      exact ⟨rfl, fun b0 j d v h => by simp [flatD] at h⟩⟩
  | n + 1, f :: r, off, .pair a b, h => fun cs w hl hf => by
    simp only [chkF, Bool.and_eq_true] at h
    obtain ⟨⟨h1, h2⟩, h3⟩ := h
    have ho := Nat.eq_of_beq_eq_true h2
    obtain ⟨x, k1, k2⟩ := hf f (List.mem_cons_self ..) a (chkT_ok n _ _ h1)
    obtain ⟨y, k3, k4⟩ := chkF_ok n r (off + a.size) b h3 cs w (by rw [hl]; simp [Ty.size]; omega) fun g hg T' ho' => hf g (List.mem_cons_of_mem _ hg) T' ho'
    rw [ho] at k2
    refine ⟨(x, y), ⟨k1, k3⟩, ?_⟩
    have e : cs.drop off = (cs.drop off).take a.size ++ cs.drop (off + a.size) := by rw [← List.drop_drop, List.take_append_drop]
    rw [e]
    exact k2.app k4
  | n + 1, [], off, .int _, h => by simp [chkF] at h
  | n + 1, [], off, .bool, h => by simp [chkF] at h
  | n + 1, [], off, .sl _, h => by simp [chkF] at h
  | n + 1, [], off, .pair _ _, h => by simp [chkF] at h
  | n + 1, _ :: _, off, .int _, h => by simp [chkF] at h
  | n + 1, _ :: _, off, .bool, h => by simp [chkF] at h
  | n + 1, _ :: _, off, .sl _, h => by simp [chkF] at h
  | n + 1, _ :: _, off, .unit, h => by simp [chkF] at h
end

def bodyOf (fn : Func) : Code := fn.body.getD .skip
theorem DOk.nil {P : Program} : DOk P [] := fun p hp => by simp at hp
theorem DOk.cons {P : Program} {f : FuncId} {S : Spec} {Δ : List (FuncId × Spec)} (h : SC P f S) (he : ∀ (us : Array Value) (u : World), (callFunc f us).run P u = .ok (.enter f us) u) (hr : DOk P Δ) : DOk P ((f, S) :: Δ) := fun p hp => by
  rcases List.mem_cons.1 hp with rfl | hp
  · exact ⟨h, he⟩
  · exact hr p hp
abbrev nilT (α : Type) : List α := []

/-- No block is there yet. -/
def E0 : Env := ⟨fun _ => 0, fun _ => 0, fun _ => 0, fun _ => false, fun _ => False⟩

def shOf (o : Bool) : Ty → Sh
  | .int k => .int k
  | .bool => .bool
  | .sl t => .view o t
  | .unit => .unit
  | .pair a b => .pair (shOf o a) (shOf o b)
def shV (o : Bool) : (T : Ty) → Val T → (shOf o T).V
  | .int _, n => n
  | .bool, b => b
  | .sl _, l => l
  | .unit, u => u
  | .pair a b, x => (shV o a x.1, shV o b x.2)

theorem VA.lend {E : Env} {w : World} {F U : Nat → Prop} {base sz : Nat} {es : List (List D)} {v : Value} (h : VD w F U base (.view sz es) v) : VA E w F U base (.lent sz es) v := by
  cases h with
  | view u hl hc hm hz hsz hat hV => exact .lent u hl hc hm hz hsz (fun i x hx => by obtain ⟨b, off, h1, ⟨h2, h3, h4⟩, h5⟩ := hat i x hx; exact ⟨b, off, h1, ⟨h2, h3, fun h => by cases h⟩, h5⟩) hV

/-- Cells of a type, as a shape has them. -/
theorem sh_cells {o : Bool} {E : Env} {B : Nat → TB} {vs : List Nat} {b0 : Nat} : ∀ (T : Ty) (x : Val T) (v k : Nat) (cs : List Value), CellsV w cs (flatD T x) → ((unparse vs (shOf o T) (shV o T x) v k).cs).length = cs.length ∧ ∀ (i : Nat) (y : TV) (u : Value), ((unparse vs (shOf o T) (shV o T x) v k).cs)[i]? = some y → cs[i]? = some u → VA E w (fun _ => False) (fun _ => True) b0 (denV B y) u
  | .int kd, n, v, k, cs, h => ⟨h.1.symm, fun i y u hy hu => by
      cases i with
      | zero => obtain rfl := (Option.some.inj hy : TV.int kd n = y); exact .d (h.2 b0 0 _ u rfl hu)
      | succ i => simp [shOf, unparse] at hy⟩
  | .bool, n, v, k, cs, h => ⟨h.1.symm, fun i y u hy hu => by
      cases i with
      | zero => obtain rfl := (Option.some.inj hy : TV.bool n = y); exact .d (h.2 b0 0 _ u rfl hu)
      | succ i => simp [shOf, unparse] at hy⟩
  | .sl t, l, v, k, cs, h => ⟨h.1.symm, fun i y u hy hu => by
      cases i with
      | zero =>
        obtain rfl := (Option.some.inj hy : TV.view o t l = y)
        have h1 := h.2 b0 0 _ u rfl hu
        cases o with
        | false => exact .d h1
        | true => exact VA.lend h1
      | succ i => simp [shOf, unparse] at hy⟩
  | .unit, _, v, k, cs, h => ⟨h.1.symm, fun i y u hy hu => by simp [shOf, unparse] at hy⟩
  | .pair a b, x, v, k, cs, h => by
    have hlen := h.1
    have e1 : (flatD (.pair a b) x) = flatD a x.1 ++ flatD b x.2 := rfl
    rw [e1, List.length_append] at hlen
    have ha : CellsV w (cs.take (flatD a x.1).length) (flatD a x.1) := ⟨by simp; omega, fun b0 j d u hd hu => by
      have hj := (List.getElem?_eq_some_iff.1 hd).1
      refine h.2 b0 j d u (by rw [e1, List.getElem?_append_left hj]; exact hd) ?_
      rw [List.getElem?_take, if_pos hj] at hu
      exact hu⟩
    have hb : CellsV w (cs.drop (flatD a x.1).length) (flatD b x.2) := ⟨by simp; omega, fun b0 j d u hd hu => by
      refine h.2 b0 ((flatD a x.1).length + j) d u (by rw [e1, List.getElem?_append_right (by omega), Nat.add_sub_cancel_left]; exact hd) ?_
      rw [List.getElem?_drop] at hu
      exact hu⟩
    obtain ⟨l1, q1⟩ := sh_cells (o := o) (E := E) (B := B) (vs := vs) (b0 := b0) a x.1 v k _ ha
    obtain ⟨l2, q2⟩ := sh_cells (o := o) (E := E) (B := B) (vs := vs) (b0 := b0) b x.2 (v + (shOf o a).nv) (k + (shOf o a).nr) _ hb
    have e2 : (unparse vs (shOf o (.pair a b)) (shV o (.pair a b) x) v k).cs = (unparse vs (shOf o a) (shV o a x.1) v k).cs ++ (unparse vs (shOf o b) (shV o b x.2) (v + (shOf o a).nv) (k + (shOf o a).nr)).cs := rfl
    rw [e2]
    rw [List.length_take] at l1
    rw [List.length_drop] at l2
    have hm : min (flatD a x.1).length cs.length = (flatD a x.1).length := by omega
    rw [hm] at l1
    refine ⟨by rw [List.length_append]; omega, fun i y u hy hu => ?_⟩
    by_cases hi : i < (unparse vs (shOf o a) (shV o a x.1) v k).cs.length
    · rw [List.getElem?_append_left hi] at hy
      exact q1 i y u hy (by rw [List.getElem?_take, if_pos (by omega)]; exact hu)
    · rw [List.getElem?_append_right (by omega)] at hy
      exact q2 _ y u hy (by rw [List.getElem?_drop, show (flatD a x.1).length + (i - (unparse vs (shOf o a) (shV o a x.1) v k).cs.length) = i by omega]; exact hu)

/-- A struct that comes in by value. -/
theorem argT_agg {T : Ty} {re : Reach} {b0 n : Nat} {t : TypeId} {fs : Array Field} {v : Value} {d : DataW H} {p : List MemPlace} (hs : P.underlying t = some (.struct fs)) (ho : chkT P n t T = true)
    (hv : Value.okWide P w re b0 t v) (h : DataW.Trod enc P w base spare held t v d p) (hz : ∀ k ∈ d.weights P t, k ≤ reachBytes) : ∃ x : Val T, okT T x ∧ ∀ (o : Bool) (E : Env) (B : Nat → TB) (vs : List Nat) (a k b1 : Nat), VA E w (fun _ => False) (fun _ => True) b1 (denV B (.agg (unparse vs (shOf o T) (shV o T x) a k).cs)) v := by
  obtain ⟨cs, rfl, _⟩ := okWide_struct hs hv
  obtain ⟨fuel, hf⟩ := h
  obtain ⟨x, h1, h2⟩ := (chkT_ok n t T ho).2 H enc w base spare held fuel _ _ hf hz
  have h3 : CellsV w cs.toList (flatD T x) := by simpa [Value.cells] using h2
  refine ⟨x, h1, fun o E B vs a k b1 => ?_⟩
  obtain ⟨q1, q2⟩ := sh_cells (o := o) (E := E) (B := B) (vs := vs) (b0 := b1) T x a k _ h3
  have : Value.agg cs = .agg cs.toList.toArray := by simp
  rw [this]
  simp only [denV]
  refine .agg (by rw [denVs_map, List.length_map, q1]) fun i y u hy hu => ?_
  rw [denVs_map, List.getElem?_map] at hy
  obtain ⟨z, hz', rfl⟩ := Option.map_eq_some_iff.1 hy
  exact q2 i z u hz' hu

/-- A slice that comes in. -/
theorem argT_sl {T : Ty} {re : Reach} {b0 n : Nat} {t e : TypeId} {v : Value} {d : DataW H} {p : List MemPlace} (hs : P.underlying t = some (.slice e)) (ho : chkT P n t (.sl T) = true)
    (hv : Value.okWide P w re b0 t v) (h : DataW.Trod enc P w base spare held t v d p) (hz : ∀ k ∈ d.weights P t, k ≤ reachBytes) : ∃ x : List (Val T), okT (.sl T) x ∧ ∀ (o : Bool) (E : Env) (B : Nat → TB) (b1 : Nat), VA E w (fun _ => False) (fun _ => True) b1 (denV B (.view o T x)) v := by
  obtain ⟨a0, len0, cap0, rfl⟩ := okWide_slice hs hv
  obtain ⟨fuel, hf⟩ := h
  obtain ⟨x, h1, h2⟩ := (chkT_ok n t (.sl T) ho).2 H enc w base spare held fuel _ _ hf hz
  refine ⟨x, h1, fun o E B b1 => ?_⟩
  have h3 : VD w (fun _ => False) (fun _ => True) b1 (.view T.size (denS (T := T) x)) (.slice a0 len0 cap0) := h2.2 b1 0 _ _ rfl (by simp [Value.cells])
  cases o with
  | false => exact .d h3
  | true => exact VA.lend h3

theorem atT_nil {w : World} {b1 : Nat} : ∀ (i : Nat) (y : TV) (v : Value), ([] : List TV)[i]? = some y → ([] : List Value)[i]? = some v → VA E0 w (fun _ => False) (fun _ => True) b1 (denV (fun _ => .free) y) v := fun i y v h => by simp at h
theorem atT_cons {w : World} {b1 : Nat} {y : TV} {v : Value} {ys : List TV} {vs : List Value} (h : VA E0 w (fun _ => False) (fun _ => True) b1 (denV (fun _ => .free) y) v) (hr : ∀ (i : Nat) (y : TV) (v : Value), ys[i]? = some y → vs[i]? = some v → VA E0 w (fun _ => False) (fun _ => True) b1 (denV (fun _ => .free) y) v) :
    ∀ (i : Nat) (y' : TV) (v' : Value), (y :: ys)[i]? = some y' → (v :: vs)[i]? = some v' → VA E0 w (fun _ => False) (fun _ => True) b1 (denV (fun _ => .free) y') v'
  | 0, y', v', h1, h2 => by
    simp only [List.getElem?_cons_zero, Option.some.injEq] at h1 h2
    subst h1 h2
    exact h
  | i + 1, y', v', h1, h2 => hr i y' v' (by simpa using h1) (by simpa using h2)

/-- A law: such arguments, and it returns true; nothing else is changed. -/
theorem SC.law {f : FuncId} {S : Spec} (h : SC P f S) (hnv : S.sig.nv = 0) (hfv : S.fin.nv = 0) (x : S.sig.V) (hx : S.pre x) (hbs : (S.inU x).bs = []) (ht : TabIn w) (hr : (S.outU (S.fn x)).cs = [.bool true]) (hb2 : (S.outU (S.fn x)).bs = []) {vs : List Value} (hl : vs.length = (S.inU x).cs.length)
    (hv : ∀ (i : Nat) (y : TV) (v : Value), (S.inU x).cs[i]? = some y → vs[i]? = some v → VA E0 w (fun _ => False) (fun _ => True) w.heap.size (denV (fun _ => .free) y) v) :
    Calls P f vs.toArray w fun e w' => e = .returned (.bool true) ∧ Below w.heap.size w w' := by
  have h1 := h (by rw [hnv, hfv]) x hx w (fun _ => True) E0 vs
  have hB : bsOf (S.inU x).bs = fun _ => TB.free := by rw [hbs]; rfl
  have hF : Fof E0 (fun g => denB (bsOf (S.inU x).bs) (bsOf (S.inU x).bs g)) = fun _ => False := by
    rw [hB]
    funext b
    exact propext ⟨fun ⟨g, q1, _⟩ => q1, False.elim⟩
  refine (h1 ?_ ?_ ?_ ?_).mono ?_
  · refine ⟨Cx.call_kept _ _ _ _ (fun g hg => by rw [hnv] at hg; exact absurd hg (Nat.not_lt_zero _)) ht (fun g x _ hf => by rw [hF] at hf; exact hf), ⟨fun b _ => trivial, fun g b hp => hp.2.1.elim⟩, fun g => ?_, fun g g' hg => ?_⟩
    · rw [hB]; exact id
    · rw [hB] at hg; exact hg.elim
  · intro g hg
    rw [hnv] at hg
    exact absurd hg (Nat.not_lt_zero _)
  · rw [List.length_map, hl]
  · intro i y v hy hv'
    rw [List.getElem?_map] at hy
    obtain ⟨z, hz, rfl⟩ := Option.map_eq_some_iff.1 hy
    rw [hF, hB]
    exact hv i z v hz hv'
  · rintro e w' ⟨r, B', v, E', ⟨rfl, rfl⟩, rfl, hm, hva⟩
    rw [hr, hb2] at hva
    have hk := hm.below
    refine ⟨?_, hk.below.os, hk.below.tape, hk.below.output, hk.below.size, fun b hb => hk.keep b hb fun hh => ?_⟩
    · cases hva with
      | d h => cases h; rfl
    · have hh' : Fof E0 (fun g => denB (bsOf (S.inU x).bs) (bsOf (S.inU x).bs g)) b := hh
      rw [hF] at hh'
      exact hh'
end
end Go.Proofs.Ytmkfpfnjimmmaaa
