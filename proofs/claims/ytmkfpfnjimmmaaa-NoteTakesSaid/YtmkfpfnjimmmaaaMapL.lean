/- Laws on a map with integer keys that has just been made: a new key laid, a key looked up. Nothing of the dump stands here. -/
import Derived.Test.YtmkfpfnjimmmaaaLib
namespace Go.Proofs.Ytmkfpfnjimmmaaa
open Go.RowKit

theorem heap_setLast (w : World) (o o' : Obj) : ({ w.alloc o with heap := (w.alloc o).heap.setIfInBounds w.heap.size o' } : World) = w.alloc o' := by
  simp only [World.alloc]
  congr 1
  apply Array.ext
  · simp
  · intro i h1 h2
    rw [Array.getElem_setIfInBounds (by simpa using h1)]
    by_cases h : w.heap.size = i
    · subst h; simp
    · rw [if_neg h]
      simp only [Array.size_setIfInBounds, Array.size_push] at h1
      rw [Array.getElem_push_lt (by omega), Array.getElem_push_lt (by omega)]

theorem heap_last (w : World) (o : Obj) : (w.alloc o).heap[w.heap.size]? = some o := heap_alloc_new w o

theorem run_getObj_map' {P : Program} {w : World} {r : Nat} {es : Array MapEntry} {c : Nat} (h : w.heap[r]? = some (.map es c)) : (getObj r).run P w = .ok (.map es c) w := by
  simp only [getObj, Sem.run, h]

theorem run_setObj_map' {P : Program} {w : World} {r : Nat} {es : Array MapEntry} {c : Nat} {o : Obj} (h : w.heap[r]? = some (.map es c)) : (setObj r o).run P w = .ok () { w with heap := w.heap.setIfInBounds r o } := by
  simp only [setObj, Sem.run, h]

theorem run_checkKey_int {P : Program} {w : World} {kt : TypeId} {ik : IntKind} {k : Int} {b : Bool} (n : Nat) (hk : P.underlying kt = some (.int ik)) : (Instr.checkKey b (n + 1) kt (.int ik k)).run P w = .ok () w := by
  simp [Instr.checkKey, run_underlying hk, Sem.run_pure]

theorem run_findKey_int {P : Program} {w : World} {kt : TypeId} {ik : IntKind} {k : Int} {es : List MapEntry} {r : Option (Nat × Value)} (hk : P.underlying kt = some (.int ik)) (hf : Instr.findNow (.int ik) (.int ik k) es 0 = some r) :
    (Instr.findKey kt (.int ik k) es).run P w = .ok r w := by
  simp [Instr.findKey, run_underlying hk, hf, Sem.run_pure]

theorem run_insert_last {P : Program} (w : World) (t kt et : TypeId) (ik : IntKind) (k : Int) (v : Value) (es : Array MapEntry) (c : Nat)
    (ht : P.underlying t = some (.map kt et)) (hk : P.underlying kt = some (.int ik)) (hf : Instr.findNow (.int ik) (.int ik k) es.toList 0 = some none) :
    (Instr.mapUpdate t (.map (some w.heap.size)) (.int ik k) v).run P (w.alloc (.map es c)) = .ok () (w.alloc (.map (es.push { key := .int ik k, val := v, born := c }) (c + 1))) := by
  have h1 := run_checkKey_int (P := P) (w := w.alloc (.map es c)) (b := false) (k := k) 9999 hk
  have h2 := run_findKey_int (P := P) (w := w.alloc (.map es c)) hk hf
  have h3 := run_getObj_map' (P := P) (heap_last w (.map es c))
  have h4 := fun o => run_setObj_map' (P := P) (o := o) (heap_last w (.map es c))
  unfold Instr.mapUpdate
  simp only [Sem.run_bind, run_underlying ht, Result.andThen, h3, h1, h2, h4, heap_setLast]

theorem run_lookup_int {P : Program} (w : World) (t kt et : TypeId) (ik : IntKind) (k : Int) (r : Nat) (es : Array MapEntry) (c : Nat) (z : Value) (x : Option (Nat × Value))
    (ht : P.underlying t = some (.map kt et)) (hk : P.underlying kt = some (.int ik)) (hz : (zeroValue et).run P w = .ok z w) (hr : w.heap[r]? = some (.map es c))
    (hf : Instr.findNow (.int ik) (.int ik k) es.toList 0 = some x) :
    (Instr.lookup t (.map (some r)) (.int ik k) true).run P w = .ok (.tuple #[(x.map (·.2)).getD z, .bool x.isSome]) w := by
  have h1 := run_checkKey_int (P := P) (w := w) (b := es.isEmpty) (k := k) 9999 hk
  have h2 := run_findKey_int (P := P) (w := w) hk hf
  have h3 := run_getObj_map' (P := P) hr
  unfold Instr.lookup
  cases x with
  | none => simp only [Sem.run_bind, run_underlying ht, Result.andThen, h3, h1, h2, hz, Sem.run_pure]; rfl
  | some y => simp only [Sem.run_bind, run_underlying ht, Result.andThen, h3, h1, h2, Sem.run_pure]; rfl

theorem cell_lastAt (w : World) (cs : Array Value) (e : TypeId) {k j : Nat} {v : Value} (hk : k = w.heap.size) (hv : cs[j]? = some v) : (w.alloc (.cells cs e)).cell? ⟨k, j, none⟩ = some v := by
  subst hk
  simp only [World.cell?, heap_alloc_new]
  simpa using hv

theorem cell_underAt {w : World} {o : Obj} {a : Addr} {v : Value} (h : w.cell? a = some v) : (w.alloc o).cell? a = some v := by
  have hlt := World.block_lt_of_cell? _ _ h
  exact (World.cell?_of_block (w := w) (Below.heap_alloc w o a.block hlt)).trans h
end Go.Proofs.Ytmkfpfnjimmmaaa
