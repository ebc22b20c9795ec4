/- A block of the call's own whose cells are known; slices of slices. Nothing of the dump stands here. -/
import Derived.Test.YtmkfpfnjimmmaaaNtA
namespace Go.Proofs.Ytmkfpfnjimmmaaa
open Go.RowKit

/-- The first cells of a block: what they hold; they may be written. -/
def CellsAt (w : World) (g : Nat) (vs : List Value) : Prop := ∀ i v, vs[i]? = some v → w.cell? ⟨g, i, none⟩ = some v ∧ w.frozen? ⟨g, i, none⟩ = false

theorem CellsAt.new (w : World) (vs : List Value) (e : TypeId) {g : Nat} (hg : g = w.heap.size) : CellsAt (w.alloc (.cells vs.toArray e)) g vs := by
  subst hg
  intro i v hv
  refine ⟨cell_lastAt _ _ _ rfl (by simpa using hv), ?_⟩
  simp only [World.frozen?]
  rw [heap_alloc_new]
  simp
theorem CellsAt.keep {w w' : World} {g : Nat} {vs : List Value} (h : CellsAt w g vs) (hb : w'.heap[g]? = w.heap[g]?) : CellsAt w' g vs := fun i v hv =>
  ⟨(World.cell?_of_block (a := ⟨g, i, none⟩) hb).trans (h i v hv).1, (World.frozen?_of_block (a := ⟨g, i, none⟩) hb).trans (h i v hv).2⟩
theorem CellsAt.lt {w : World} {g : Nat} {v : Value} {vs : List Value} (h : CellsAt w g (v :: vs)) : g < w.heap.size := World.block_lt_of_cell? _ ⟨g, 0, none⟩ (h 0 v rfl).1
theorem CellsAt.far {w : World} {g : Nat} {vs : List Value} (h : CellsAt w g vs) (p : Addr) (v : Value) (hp : p.block ≠ g) : CellsAt (w.setCell p v) g vs :=
  h.keep (Below.heap_setCell w p v g (fun e => hp e.symm))
theorem CellsAt.set {w : World} {g : Nat} {vs : List Value} (h : CellsAt w g vs) {k : Nat} (hk : k < vs.length) (v : Value) : CellsAt (w.setCell ⟨g, k, none⟩ v) g (vs.set k v) := by
  intro i u hu
  rw [World.frozen?_setCell]
  have hi : i < vs.length := by have := (List.getElem?_eq_some_iff.1 hu).1; simpa using this
  have hc := h i _ (List.getElem?_eq_getElem hi)
  refine ⟨?_, hc.2⟩
  by_cases e : k = i
  · subst e
    rw [World.cell?_setCell_same _ _ _ hc.1]
    rw [List.getElem?_set_self hk] at hu
    exact hu
  · rw [World.cell?_setCell_other _ _ _ _ (by intro h; injection h with _ h _; exact e h), hc.1]
    rw [List.getElem?_set_ne e, List.getElem?_eq_getElem hi] at hu
    exact hu
theorem CellsAt.below {w w' : World} {g : Nat} {vs : List Value} (h : CellsAt w g vs) (hb : Below w.heap.size w w') : CellsAt w' g vs := by
  intro i v hv
  have hc := h i v hv
  exact ⟨(hb.cell (World.block_lt_of_cell? _ _ hc.1)).trans hc.1, (hb.frozen (World.block_lt_of_cell? _ _ hc.1)).trans hc.2⟩

theorem Same.setCell {U : Nat → Prop} (w : World) {p : Addr} (v : Value) (h : ¬ U p.block) : Same U w (w.setCell p v) := fun b hb _ => Below.heap_setCell w p v b (by rintro rfl; exact h hb)

theorem run_slice_two {P : Program} {t e : TypeId} {a : Option Addr} {n cap lo hi : Nat} (ht : P.underlying t = some (.slice e)) (hs : ∀ w, (sizeOf e).run P w = .ok 1 w) (hl : lo ≤ hi) (hc : hi ≤ cap) (w : World) :
    (Instr.slice t (.slice a n cap) (some (.int .i64 (lo : Int))) (some (.int .i64 (hi : Int))) none).run P w = .ok (.slice (subA a lo cap) (hi - lo) (cap - lo)) w := by
  have h1 : (Instr.sliceBound (.int .i64 (hi : Int)) cap .sliceAcap).run P w = .ok hi w := by rw [run_sliceBound w .i64 hi cap .sliceAcap (by omega) (by omega)]; rfl
  have h2 : (Instr.sliceBound (.int .i64 (lo : Int)) hi .sliceB).run P w = .ok lo w := by rw [run_sliceBound w .i64 lo hi .sliceB (by omega) (by omega)]; rfl
  simp [Instr.slice, run_underlying ht, Instr.sliceBounds, h1, h2, hs, Result.andThen, subA]

theorem Bytes.piece {w : World} {a : Option Addr} {n cap : Nat} {l : List UInt8} (h : Bytes w a n cap l) {lo hi : Nat} (hl : lo ≤ hi) (hn : hi ≤ n) : Bytes w (subA a lo cap) (hi - lo) (cap - lo) ((l.drop lo).take (hi - lo)) :=
  (h.drop (Nat.le_trans hl hn)).take (by omega)
end Go.Proofs.Ytmkfpfnjimmmaaa
