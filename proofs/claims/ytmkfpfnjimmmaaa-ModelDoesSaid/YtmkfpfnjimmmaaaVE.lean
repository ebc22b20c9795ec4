/- The operations that make, or write, a block of the call's own: box, alloc, store, build, buildSlice, makeSlice. Nothing of the dump stands here. -/
import Derived.Test.YtmkfpfnjimmmaaaVD
import Derived.Laws.MakeOwn
namespace Go.Proofs.Ytmkfpfnjimmmaaa
open Go.RowKit
set_option linter.unusedVariables false
set_option linter.unusedSimpArgs false

/-- The cells of a value. -/
def AV.flat : AV → List AV
  | .agg vs => vs
  | x => [x]

def leaves (l : List AV) : Bool := l.all AV.leaf
theorem leaves_at {l : List AV} (h : leaves l = true) {i : Nat} {x : AV} (hx : l[i]? = some x) : x.leaf = true := List.all_eq_true.1 h x (List.mem_of_getElem? hx)

theorem flat_of {E : Env} {w : World} {F U : Nat → Prop} {base : Nat} {x : AV} {v : Value} (h : VA E w F U base x v) (hl : leaves x.flat = true) :
    ∃ us : List Value, v.cells = us.toArray ∧ us.length = x.flat.length ∧ (∀ (i : Nat) (y : AV) (u : Value), x.flat[i]? = some y → us[i]? = some u → VA E w F U base y u) ∧ ∀ u ∈ us, u.oneCell' = true := by
  have one : ∀ {y : AV} {u : Value}, x.flat = [y] → VA E w F U base y u → v = u → v.cells = #[u] → ∃ us : List Value, v.cells = us.toArray ∧ us.length = x.flat.length ∧ (∀ (i : Nat) (y : AV) (u : Value), x.flat[i]? = some y → us[i]? = some u → VA E w F U base y u) ∧ ∀ u ∈ us, u.oneCell' = true := by
    intro y u h1 h2 h3 h4
    refine ⟨[u], h4, by rw [h1]; rfl, fun i y' u' hy hu => ?_, fun u' hu' => ?_⟩
    · rw [h1] at hy
      match i, hy, hu with
      | 0, hy, hu =>
        obtain rfl : y = y' := by simpa using hy
        obtain rfl : u = u' := by simpa using hu
        exact h2
    · obtain rfl : u' = u := by simpa using hu'
      refine h2.one (leaves_at (l := x.flat) (i := 0) hl (by rw [h1]; rfl))
  cases h with
  | @agg vs us hl' h' =>
    refine ⟨us, rfl, hl'.symm, h', fun u hu => ?_⟩
    obtain ⟨i, hi⟩ := List.getElem?_of_mem hu
    have hlt : i < vs.length := by rw [hl']; exact (List.getElem?_eq_some_iff.1 hi).1
    exact (h' i _ u (List.getElem?_eq_getElem hlt) hi).one (leaves_at (l := vs) hl (List.getElem?_eq_getElem hlt))
  | @tup vs us hl' h' => cases hl
  | und => cases hl
  | d h => cases h with
    | int => exact one rfl (.d (.int _ _)) rfl rfl
    | bool => exact one rfl (.d (.bool _)) rfl rfl
    | view u h1 h2 h3 h4 h5 h6 h7 => exact one rfl (.d (.view u h1 h2 h3 h4 h5 h6 h7)) rfl rfl
  | ptr hk => exact one rfl (.ptr hk) rfl rfl
  | vptr u h1 h2 h3 => exact one rfl (.vptr u h1 h2 h3) rfl rfl
  | lent u h1 h2 h3 h4 h5 h6 h7 => exact one rfl (.lent u h1 h2 h3 h4 h5 h6 h7) rfl rfl
  | onil hk h1 => exact one rfl (.onil hk h1) rfl rfl
  | own hk h0 h1 h2 h3 => exact one rfl (.own hk h0 h1 h2 h3) rfl rfl
  | part hk h0 h1 h2 h3 => exact one rfl (.part hk h0 h1 h2 h3) rfl rfl
  | nsl => exact one rfl .nsl rfl rfl
  | nptr => exact one rfl .nptr rfl rfl
  | fn h1 h2 => exact one rfl (.fn h1 h2) rfl rfl
  | mp h1 => exact one rfl (.mp h1) rfl rfl
  | nmp => exact one rfl .nmp rfl rfl

/-- A zero's cells as plain ones. -/
inductive ZD : List AV → List D → Prop where
  | nil : ZD [] []
  | d {x : D} {l : List AV} {ds : List D} (h : ZD l ds) : ZD (.d x :: l) (x :: ds)
  | nsl {sz : Nat} {l : List AV} {ds : List D} (h : ZD l ds) : ZD (.nsl :: l) (.view sz [] :: ds)
theorem ZD.at {l : List AV} {ds : List D} (h : ZD l ds) : l.length = ds.length ∧ ∀ (j : Nat) (d : D), ds[j]? = some d → l[j]? = some (.d d) ∨ (l[j]? = some .nsl ∧ ∃ sz, d = .view sz []) := by
  induction h with
  | nil => exact ⟨rfl, fun j d h => by simp at h⟩
  | @d x l ds _ ih =>
    refine ⟨by simp [ih.1], fun j d h => ?_⟩
    cases j with
    | zero => obtain rfl : x = d := by simpa using h
              exact .inl rfl
    | succ j => simpa using ih.2 j d (by simpa using h)
  | @nsl sz l ds _ ih =>
    refine ⟨by simp [ih.1], fun j d h => ?_⟩
    cases j with
    | zero => obtain rfl : D.view sz [] = d := by simpa using h
              exact .inr ⟨rfl, sz, rfl⟩
    | succ j => simpa using ih.2 j d (by simpa using h)

theorem ZD.leaves {l : List AV} {ds : List D} (h : ZD l ds) : leaves l = true := by
  induction h with
  | nil => rfl
  | d _ ih => simpa [Go.Proofs.Ytmkfpfnjimmmaaa.leaves, AV.leaf] using ih
  | nsl _ ih => simpa [Go.Proofs.Ytmkfpfnjimmmaaa.leaves, AV.leaf] using ih
theorem ZD.vd {E : Env} {w : World} {F U : Nat → Prop} {base : Nat} {l : List AV} {ds : List D} {us : List Value} (h : ZD l ds) (hV : ∀ (i : Nat) (y : AV) (u : Value), l[i]? = some y → us[i]? = some u → VA E w F U base y u) :
    ∀ (j : Nat) (d : D) (u : Value), ds[j]? = some d → us[j]? = some u → VD w F U base d u := fun j d u hj hu => by
  rcases h.at.2 j d hj with h1 | ⟨h1, sz, rfl⟩
  · cases hV j _ u h1 hu with
    | d h => exact h
  · cases hV j _ u h1 hu
    exact .view (fun _ _ => .tuple #[]) rfl (Nat.le_refl _) (Nat.zero_le _) (fun _ => rfl) (fun i x hx => by simp at hx) (fun i x hx => by simp at hx) (fun i x j d hx => by simp at hx)

section
variable {P : Program} {nt : Nat} {o : Oper} {σ : St}

theorem alloc_heap (w : World) (ob : Obj) : w.heap.size ≤ (w.alloc ob).heap.size ∧ (∀ b, b < w.heap.size → (w.alloc ob).heap[b]? = w.heap[b]?) := ⟨by simp, fun b hb => Below.heap_alloc _ _ _ hb⟩

/-- One new block, and its place. -/
theorem Does.new {g sz cap : Nat} {x : Blk} {v : AV} (hd : dstOk o nt = true) (hg : σ.blk g = .free)
    (h : ∀ (w0 : Cx) (U : Nat → Prop) (E : Env) (a : Act) (w : World), Rel w0 U nt σ E a w → ∃ cs e u, (execOp a.eval o).run P w = .ok (.value u) (w.alloc (.cells cs e)) ∧
      BlkOk (E.add g w.heap.size sz cap) (w.alloc (.cells cs e)) (Fof (E.add g w.heap.size sz cap) (upd σ.blk g x)) U w0 g x ∧
      VA (E.add g w.heap.size sz cap) (w.alloc (.cells cs e)) (Fof (E.add g w.heap.size sz cap) (upd σ.blk g x)) U w0.heap.size v u) : Does P nt o σ ⟨v, [(g, x)]⟩ := fun w0 U E a w N Q hr hN => by
  obtain ⟨cs, e, u, hv, hx, hva⟩ := h w0 U E a w hr
  unfold Oper.wp
  rw [hv]
  have hr' := hr.alloc hg (alloc_heap w _).1 (alloc_heap w _).2 (hr.mem.below.alloc _) (Nat.le_refl _) hx
  exact hN _ _ _ (hr'.undef (dstOk_lt hd) hva)

/-- What is kept while one block comes to the others. -/
theorem VA.added {w0 : Cx} {U : Nat → Prop} {E : Env} {a : Act} {w : World} (hr : Rel w0 U nt σ E a w) {g sz cap : Nat} {x : Blk} (hg : σ.blk g = .free) (ob : Obj) {y : AV} {u : Value} (h : VA E w (Fof E σ.blk) U w0.heap.size y u) :
    VA (E.add g w.heap.size sz cap) (w.alloc ob) (Fof (E.add g w.heap.size sz cap) (upd σ.blk g x)) U w0.heap.size y u := by
  have hk : ¬ E.kn g := by have := hr.mem.blk g; rw [hg] at this; exact this
  refine h.keep (alloc_heap w _).1 (fun b hb _ => (alloc_heap w _).2 b hb) (fun k hlt hf => ?_) (Env.add_old hk)
  rcases Fof_add hf with h1 | h1
  · exact h1
  · omega
theorem VD.added {w0 : Cx} {U : Nat → Prop} {E : Env} {a : Act} {w : World} (hr : Rel w0 U nt σ E a w) {g sz cap : Nat} {x : Blk} (hg : σ.blk g = .free) (ob : Obj) {y : D} {u : Value} (h : VD w (Fof E σ.blk) U w0.heap.size y u) :
    VD (w.alloc ob) (Fof (E.add g w.heap.size sz cap) (upd σ.blk g x)) U w0.heap.size y u := by
  have := VA.added (sz := sz) (cap := cap) (x := x) hr hg ob (VA.d (E := E) h)
  cases this with
  | d h => exact h

theorem heap_new (w : World) (ob : Obj) : (w.alloc ob).heap[w.heap.size]? = some ob := heap_alloc_new w ob

/-- A new variable. -/
theorem new_var {w0 : Cx} {U : Nat → Prop} {E : Env} {a : Act} {w : World} (hr : Rel w0 U nt σ E a w) {g : Nat} {e : TypeId} {cs : List AV} (hg : σ.blk g = .free) {us : List Value} (hl : us.length = cs.length) (hlv : leaves cs = true)
    (h : ∀ (i : Nat) (y : AV) (u : Value), cs[i]? = some y → us[i]? = some u → VA E w (Fof E σ.blk) U w0.heap.size y u) :
    BlkOk (E.add g w.heap.size 1 0) (w.alloc (.cells us.toArray e)) (Fof (E.add g w.heap.size 1 0) (upd σ.blk g (.var e cs))) U w0 g (.var e cs) := by
  have hb : (E.add g w.heap.size 1 0).β g = w.heap.size := upd_same _ _ _
  refine ⟨.inl rfl, by rw [hb]; exact hr.mem.below.mine (Nat.le_refl _), us.toArray, by rw [hb]; exact heap_new w _, by simpa using hl, fun j y hy => ⟨leaves_at hlv hy, ?_⟩⟩
  have hlt : j < us.length := by rw [hl]; exact (List.getElem?_eq_some_iff.1 hy).1
  exact ⟨us[j], by simp [hlt], VA.added hr hg _ (h j y _ hy (List.getElem?_eq_getElem hlt))⟩

theorem B.box {t : TypeId} {x : Operand} {g : Nat} {cs : List AV} (ho : o.op = .box t x) (hx : (σ.eval x).flat = cs) (hl : leaves cs = true) (hg : σ.blk g = .free) (hd : dstOk o nt = true) : DoesB P nt o σ ⟨tmpsIn [x], [g], .ptr g 0 0, [(g, .var t cs)]⟩ := fun σ' ha =>
  have hg' : σ'.blk g = .free := (ha.2 g (by simp)).trans hg
  Does.new (sz := 1) (cap := 0) hd hg' fun w0 U E a w hr => by
    have h1 := hr.eval x
    rw [ha.eval (x := x) (by simp)] at h1
    subst hx
    obtain ⟨us, h2, h3, h4, h5⟩ := flat_of h1 hl
    refine ⟨us.toArray, t, .pointer (some ⟨w.heap.size, 0, none⟩), ?_, new_var hr hg' h3 hl h4, ?_⟩
    · rw [execOp, ho]
      simp [Instr.box, newVar, newRow, h2]
    · have := VA.ptr (E := E.add g w.heap.size 1 0) (w := w.alloc (.cells us.toArray t)) (F := Fof (E.add g w.heap.size 1 0) (upd σ'.blk g (.var t (σ.eval x).flat))) (U := U) (base := w0.heap.size) (g := g) (i := 0) (j := 0) (.inl rfl)
      simpa [Env.add, upd_same] using this

def zeroAV (P : Program) (t : TypeId) : Option (List AV) := ((P.info? t).bind (·.zero)).map fun z => z.cells.toList.map constAV

theorem zeroAV_run {t : TypeId} {cs : List AV} (h : zeroAV P t = some cs) : ∃ i z, P.info? t = some i ∧ i.zero = some z ∧ z.cells.toList.map constAV = cs := by
  obtain ⟨z, hz, h1⟩ := Option.map_eq_some_iff.1 h
  obtain ⟨i, hi, h2⟩ := Option.bind_eq_some_iff.1 hz
  exact ⟨i, z, hi, h2, h1⟩

theorem B.alloc {t : TypeId} {g : Nat} {cs : List AV} (ho : o.op = .alloc t) (hz : zeroAV P t = some cs) (hl : leaves cs = true) (hg : σ.blk g = .free) (hd : dstOk o nt = true) : DoesB P nt o σ ⟨[], [g], .ptr g 0 0, [(g, .var t cs)]⟩ := fun σ' ha =>
  have hg' : σ'.blk g = .free := (ha.2 g (by simp)).trans hg
  Does.new (sz := 1) (cap := 0) hd hg' fun w0 U E a w hr => by
    obtain ⟨i, z, h1, h2, h3⟩ := zeroAV_run hz
    refine ⟨z.cells, t, .pointer (some ⟨w.heap.size, 0, none⟩), ?_, ?_, ?_⟩
    · rw [execOp, ho]
      simp [Instr.alloc, zeroValue, typeInfo, h1, h2, newVar, newRow]
    · have := new_var hr hg' (e := t) (us := z.cells.toList) (cs := cs) (by rw [← h3]; simp) hl fun i y u hy hu => by
        rw [← h3, List.getElem?_map, hu] at hy
        obtain rfl : constAV u = y := by simpa using hy
        exact .const u
      simpa using this
    · have := VA.ptr (E := E.add g w.heap.size 1 0) (w := w.alloc (.cells z.cells t)) (F := Fof (E.add g w.heap.size 1 0) (upd σ'.blk g (.var t cs))) (U := U) (base := w0.heap.size) (g := g) (i := 0) (j := 0) (.inl rfl)
      simpa [Env.add, upd_same] using this

/-- Cells written over others, from a place on. -/
def splice {α : Type} : List α → Nat → List α → Option (List α)
  | cs, 0, [] => some cs
  | _ :: cs, 0, w :: ws => match splice cs 0 ws with | some l => some (w :: l) | none => none
  | [], 0, _ :: _ => none
  | c :: cs, j + 1, ws => match splice cs j ws with | some l => some (c :: l) | none => none
  | [], _ + 1, _ => none

theorem splice_eq {α : Type} : ∀ {cs : List α} {j : Nat} {ws l : List α}, splice cs j ws = some l → j + ws.length ≤ cs.length ∧ l = cs.take j ++ ws ++ cs.drop (j + ws.length)
  | cs, 0, [], l, h => by simp only [splice, Option.some.injEq] at h; subst h; simp
  | c :: cs, 0, w :: ws, l, h => by
    simp only [splice] at h
    split at h
    · rename_i l' hl'
      obtain ⟨h1, h2⟩ := splice_eq hl'
      cases h
      refine ⟨by simp at h1 ⊢; omega, ?_⟩
      rw [h2]
      simp
    · cases h
  | [], 0, w :: ws, l, h => by simp [splice] at h
  | c :: cs, j + 1, ws, l, h => by
    simp only [splice] at h
    split at h
    · rename_i l' hl'
      obtain ⟨h1, h2⟩ := splice_eq hl'
      cases h
      refine ⟨by simp at h1 ⊢; omega, ?_⟩
      rw [h2, show j + 1 + ws.length = (j + ws.length) + 1 by omega]
      simp
    · cases h
  | [], j + 1, ws, l, h => by simp [splice] at h

theorem splice_at {α : Type} {cs ws : List α} {j i : Nat} (h : j + ws.length ≤ cs.length) : (cs.take j ++ ws ++ cs.drop (j + ws.length))[i]? = if j ≤ i ∧ i < j + ws.length then ws[i - j]? else cs[i]? := by
  have h1 : (cs.take j).length = j := by rw [List.length_take]; omega
  by_cases h2 : i < j
  · rw [if_neg (by omega), List.append_assoc, List.getElem?_append_left (by omega), List.getElem?_take_of_lt h2]
  · by_cases h3 : i < j + ws.length
    · rw [if_pos (by omega), List.append_assoc, List.getElem?_append_right (by omega), List.getElem?_append_left (by omega), h1]
    · rw [if_neg (by omega), List.append_assoc, List.getElem?_append_right (by omega), List.getElem?_append_right (by omega), List.getElem?_drop, h1]
      congr 1
      omega

theorem setRow_same {w : World} {g : Nat} {cur : Array Value} {e : TypeId} {fr : Nat × Nat} (hg : w.heap[g]? = some (.cells cur e fr)) (cs : Array Value) : (w.setRow g cs).heap[g]? = some (.cells cs e fr) := setRow_heap w g cur cs e fr hg

/-- A store. -/
theorem Does.store {t n g : Nat} {x y : Operand} {b : Bool} {nb : Blk} (ho : o.op = .store t x y) (ht : tyOf P t = some (b, n)) (hl : leaves (σ.eval y).flat = true) (hn : (σ.eval y).flat.length = n)
    (h : ∀ (w0 : Cx) (U : Nat → Prop) (E : Env) (a : Act) (w : World), Rel w0 U nt σ E a w → ∀ us : List Value, us.length = n → (∀ (i : Nat) (y' : AV) (u : Value), (σ.eval y).flat[i]? = some y' → us[i]? = some u → VA E w (Fof E σ.blk) U w0.heap.size y' u) →
      ∃ off cur e, Hot E g (σ.blk g) ∧ a.eval x = .pointer (some ⟨E.β g, off, none⟩) ∧ w.heap[E.β g]? = some (.cells cur e (0, 0)) ∧ off + n ≤ cur.size ∧
        BlkOk E (w.setRow (E.β g) (cur.toList.take off ++ us ++ cur.toList.drop (off + n)).toArray) (Fof E (upd σ.blk g nb)) U w0 g nb) (hd : o.dst = none) : Does P nt o σ ⟨.und, [(g, nb)]⟩ := fun w0 U E a w N Q hr hN => by
  obtain ⟨us, h2, h3, h4, h5⟩ := flat_of (hr.eval y) hl
  obtain ⟨off, cur, e, hlive, h6, h7, h8, h9⟩ := h w0 U E a w hr us (h3.trans hn) h4
  have hus : us.length = n := h3.trans hn
  have hrun : (Instr.storeAt t (.pointer (some ⟨E.β g, off, none⟩)) (a.eval y)).run P w = .ok () (w.setRow (E.β g) (cur.toList.take off ++ us ++ cur.toList.drop (off + n)).toArray) := by
    have hst := run_storeCells_at P (E.β g) off e us 0 cur w h7 (by simp; omega) h5
    simp only [Nat.add_zero, hus] at hst
    simp [Instr.storeAt, Instr.sureAddr, storeVar, Sem.run_bind, h2, (tyOf_run ht w).2, hus, hst]
  have hrun' : (execOp a.eval o).run P w = .ok .skip (w.setRow (E.β g) (cur.toList.take off ++ us ++ cur.toList.drop (off + n)).toArray) := by
    rw [execOp, ho]
    simp only [h6, Sem.run_bind, hrun, Result.andThen_ok]
    rfl
  unfold Oper.wp
  rw [hrun']
  have hlt := (hr.mem.blk g).lt hlive
  have hr' := hr.change hlive (w' := w.setRow (E.β g) (cur.toList.take off ++ us ++ cur.toList.drop (off + n)).toArray) (by simp) (fun b hb => setRow_other w _ b _ hb) (hr.mem.below.setRow hlt.2.1 _) h9
  show N (a.put o.dst undef) _
  rw [hd]
  refine hN E _ _ ?_
  rw [hd]
  exact hr'

theorem VA.changed {w0 : Cx} {U : Nat → Prop} {E : Env} {a : Act} {w : World} (hr : Rel w0 U nt σ E a w) {g : Nat} {x : Blk} (hg : Hot E g (σ.blk g)) (cs : Array Value) {y : AV} {u : Value} (h : VA E w (Fof E σ.blk) U w0.heap.size y u) :
    VA E (w.setRow (E.β g) cs) (Fof E (upd σ.blk g x)) U w0.heap.size y u :=
  h.keep (by simp) (fun b _ hb => setRow_other w _ b _ (by rintro rfl; exact hb ⟨g, hg, rfl⟩)) (fun k _ hf => Fof_same hg hf) (fun _ hk => ⟨hk, rfl, rfl, rfl, rfl⟩)
theorem VD.changed {w0 : Cx} {U : Nat → Prop} {E : Env} {a : Act} {w : World} (hr : Rel w0 U nt σ E a w) {g : Nat} {x : Blk} (hg : Hot E g (σ.blk g)) (cs : Array Value) {y : D} {u : Value} (h : VD w (Fof E σ.blk) U w0.heap.size y u) :
    VD (w.setRow (E.β g) cs) (Fof E (upd σ.blk g x)) U w0.heap.size y u :=
  h.keep (by simp) (fun b _ hb => setRow_other w _ b _ (by rintro rfl; exact hb ⟨g, hg, rfl⟩)) (fun k _ hf => Fof_same hg hf)

/-- A store into a variable. -/
theorem B.storeVar {t n g j : Nat} {e : TypeId} {x y : Operand} {b : Bool} {cs ws cs' : List AV} (ho : o.op = .store t x y) (ht : tyOf P t = some (b, n)) (hx : σ.eval x = .ptr g 0 j) (hb : σ.blk g = .var e cs) (hy : (σ.eval y).flat = ws) (hl : leaves ws = true) (hn : ws.length = n)
    (hs : splice cs j ws = some cs') (hd : o.dst = none) : DoesB P nt o σ ⟨tmpsIn [x, y], [g], .und, [(g, .var e cs')]⟩ := fun σ' ha => by
  have hb' : σ'.blk g = .var e cs := (ha.2 g (by simp)).trans hb
  have ey : σ'.eval y = σ.eval y := ha.eval (by simp)
  have ex : σ'.eval x = σ.eval x := ha.eval (by simp)
  subst hy
  refine Does.store ho ht (by rw [ey]; exact hl) (by rw [ey]; exact hn) (fun w0 U E a w hr us hus hV => ?_) hd
  have h1 := hr.eval x
  rw [ex, hx] at h1
  obtain ⟨h2, hk⟩ := ptr_of h1
  rw [Nat.zero_mul, Nat.zero_add] at h2
  have hbl := hr.mem.blk g
  rw [hb'] at hbl
  obtain ⟨hk, hbase, cur, hg, hsz, hc⟩ := hbl
  obtain ⟨h3, rfl⟩ := splice_eq hs
  have hlv : Hot E g (σ'.blk g) := by rw [hb']; trivial
  refine ⟨j, cur, e, hlv, h2, hg, by omega, ?_⟩
  have hlen : (cur.toList.take j ++ us ++ cur.toList.drop (j + n)).length = cs.length := by
    simp only [List.length_append, List.length_take, List.length_drop, Array.length_toList]
    omega
  refine ⟨hk, hbase, _, setRow_same hg _, ?_, fun i z hz => ?_⟩
  · simp only [List.size_toArray, hlen, List.length_append, List.length_take, List.length_drop]
    omega
  · rw [splice_at h3] at hz
    have hcur : (cur.toList.take j ++ us ++ cur.toList.drop (j + n))[i]? = if j ≤ i ∧ i < j + n then us[i - j]? else cur.toList[i]? := by
      have := splice_at (cs := cur.toList) (ws := us) (j := j) (i := i) (by have := Array.length_toList (xs := cur); omega)
      rwa [hus] at this
    rw [List.getElem?_toArray, hcur]
    rw [hn] at hz
    by_cases hi : j ≤ i ∧ i < j + n
    · rw [if_pos hi] at hz ⊢
      have hlt : i - j < us.length := by omega
      refine ⟨leaves_at hl hz, us[i - j], List.getElem?_eq_getElem hlt, VA.changed hr hlv _ (hV _ z _ (by rw [ey]; exact hz) (List.getElem?_eq_getElem hlt))⟩
    · rw [if_neg hi] at hz ⊢
      obtain ⟨h4, u, h5, h6⟩ := hc i z hz
      exact ⟨h4, u, by simpa using h5, VA.changed hr hlv _ h6⟩

theorem row_far {i k j j' sz n : Nat} (hne : k ≠ i) (h1 : j' < sz) (h2 : j + n ≤ sz) : ¬ (i * sz + j ≤ k * sz + j' ∧ k * sz + j' < i * sz + j + n) := by
  rintro ⟨h3, h4⟩
  rcases Nat.lt_or_gt_of_ne hne with h | h
  · have := Nat.mul_le_mul_right sz (show k + 1 ≤ i from h)
    rw [Nat.add_mul] at this
    omega
  · have := Nat.mul_le_mul_right sz (show i + 1 ≤ k from h)
    rw [Nat.add_mul] at this
    omega

/-- A store into an element of a row. -/
theorem B.storeRow {t n g i j sz : Nat} {e : TypeId} {x y : Operand} {b : Bool} {es : List (List D)} {c c' ds : List D} (ho : o.op = .store t x y) (ht : tyOf P t = some (b, n)) (hx : σ.eval x = .ptr g i j) (hb : σ.blk g = .row sz e es) (hc : es[i]? = some c)
    (hy : ZD (σ.eval y).flat ds) (hn : ds.length = n) (hs : splice c j ds = some c') (hd : o.dst = none) : DoesB P nt o σ ⟨tmpsIn [x, y], [g], .und, [(g, .row sz e (es.set i c'))]⟩ := fun σ' ha => by
  have hb' : σ'.blk g = .row sz e es := (ha.2 g (by simp)).trans hb
  have ey : σ'.eval y = σ.eval y := ha.eval (by simp)
  have ex : σ'.eval x = σ.eval x := ha.eval (by simp)
  have hl : leaves (σ.eval y).flat = true := hy.leaves
  refine Does.store ho ht (by rw [ey]; exact hl) (by rw [ey, hy.at.1]; exact hn) (fun w0 U E a w hr us hus hV => ?_) hd
  have h1 := hr.eval x
  rw [ex, hx] at h1
  obtain ⟨h2, hk⟩ := ptr_of h1
  have hbl := hr.mem.blk g
  rw [hb'] at hbl
  obtain ⟨hk, hsz, hpos, hcap, hle, hvz, hre⟩ := hbl
  have hle1 := hle.1
  have hi : i < es.length := (List.getElem?_eq_some_iff.1 hc).1
  have hle1 := hle.1
  have hlv0 : E.vr g = false := by
    cases hq : E.vr g with
    | false => rfl
    | true => have := hvz hq; omega
  obtain ⟨hbase, cur, hg, hcs, hcc⟩ := hre hlv0
  have hlv : Hot E g (σ'.blk g) := by rw [hb']; exact hlv0
  obtain ⟨h3, rfl⟩ := splice_eq hs
  obtain ⟨hcl, hcd⟩ := hcc i c hc
  have hfit : i * sz + j + n ≤ cur.size := by
    rw [hcs]
    have := Nat.mul_le_mul_right sz (show i + 1 ≤ E.cap g by omega)
    rw [Nat.add_mul] at this
    omega
  refine ⟨i * sz + j, cur, _, hlv, by rw [h2, hsz], hg, hfit, ?_⟩
  have hcur : ∀ q, (cur.toList.take (i * sz + j) ++ us ++ cur.toList.drop (i * sz + j + n))[q]? = if i * sz + j ≤ q ∧ q < i * sz + j + n then us[q - (i * sz + j)]? else cur.toList[q]? := fun q => by
    have := splice_at (cs := cur.toList) (ws := us) (j := i * sz + j) (i := q) (by have := Array.length_toList (xs := cur); omega)
    rwa [hus] at this
  have hlen : (cur.toList.take (i * sz + j) ++ us ++ cur.toList.drop (i * sz + j + n)).length = cur.size := by
    simp only [List.length_append, List.length_take, List.length_drop, Array.length_toList]
    omega
  refine ⟨hk, hsz, hpos, hcap, hle.same (by simp), hvz, fun _ => ⟨hbase, _, setRow_same hg _, by rw [List.size_toArray, hlen]; exact hcs, fun k z hz => ?_⟩⟩
  by_cases e1 : k = i
  · subst e1
    rw [List.getElem?_set_self hi] at hz
    cases hz
    refine ⟨by simp only [List.length_append, List.length_take, List.length_drop]; omega, fun q d hq => ?_⟩
    rw [splice_at h3] at hq
    rw [List.getElem?_toArray, hcur]
    rw [hn] at hq
    by_cases hin : j ≤ q ∧ q < j + n
    · rw [if_pos hin] at hq
      rw [if_pos (by omega), show k * sz + q - (k * sz + j) = q - j by omega]
      have hlt : q - j < us.length := by omega
      have hva := hy.vd (us := us) (fun i y u h1 h2 => hV i y u (by rw [ey]; exact h1) h2) (q - j) d _ hq (List.getElem?_eq_getElem hlt)
      exact ⟨_, List.getElem?_eq_getElem hlt, VD.changed hr hlv _ hva⟩
    · rw [if_neg hin] at hq
      rw [if_neg (by omega)]
      obtain ⟨u, h5, h6⟩ := hcd q d hq
      exact ⟨u, by simpa using h5, VD.changed hr hlv _ h6⟩
  · rw [List.getElem?_set_ne (Ne.symm e1)] at hz
    obtain ⟨h7, h8⟩ := hcc k z hz
    refine ⟨h7, fun q d hq => ?_⟩
    have hql : q < sz := by rw [← h7]; exact (List.getElem?_eq_some_iff.1 hq).1
    obtain ⟨u, h5, h6⟩ := h8 q d hq
    rw [List.getElem?_toArray, hcur, if_neg (row_far e1 hql (by omega))]
    exact ⟨u, by simpa using h5, VD.changed hr hlv _ h6⟩
end
end Go.Proofs.Ytmkfpfnjimmmaaa
