/- Bytes cut, told in plain Lean; the walks of note's cut and takeNumber. -/
import Derived.Test.YtmkfpfnjimmmaaaOwn
import Derived.Test.YtmkfpfnjimmmaaaNoteP
import Derived.BigQuiet
import Derived.Deep.QuietTactic
namespace Go.Proofs.Ytmkfpfnjimmmaaa
open Go.RowKit

/-- Behind so many elements: where the rest stands. -/
def subA (a : Option Addr) (m cap : Nat) : Option Addr := if cap = m then a else a.map (·.add m)

theorem Bytes.drop {w : World} {a : Option Addr} {n cap : Nat} {l : List UInt8} (h : Bytes w a n cap l) {m : Nat} (hm : m ≤ n) : Bytes w (subA a m cap) (n - m) (cap - m) (l.drop m) := by
  have h1 := h.len
  have h2 := h.le
  refine ⟨by rw [List.length_drop, h1], by omega, Nat.le_trans (Nat.sub_le _ _) h.max, fun h0 => ?_, ⟨fun i v hv => ?_⟩⟩
  · unfold subA at h0
    by_cases hc : cap = m
    · omega
    · rw [if_neg hc] at h0
      cases a with
      | none => have := h.zero rfl; omega
      | some x => cases h0
  · rw [List.map_drop, List.getElem?_drop] at hv
    obtain ⟨b, off, rfl, hc⟩ := h.row.cell _ v hv
    have hi := (List.getElem?_eq_some_iff.1 hv).1
    rw [List.length_map, h1] at hi
    refine ⟨b, off + m, ?_, by rw [Nat.add_assoc]; exact hc⟩
    unfold subA
    rw [if_neg (by omega)]
    simp [Addr.add_lit]

theorem Bytes.takeCap {w : World} {a : Option Addr} {n cap : Nat} {l : List UInt8} (h : Bytes w a n cap l) {m : Nat} (hm : m ≤ n) : Bytes w a m m (l.take m) := by
  have h3 := h.take hm
  exact ⟨h3.len, Nat.le_refl _, Nat.le_trans (Nat.le_trans hm h.le) h.max, fun ha => by have h4 := h.zero ha; have h5 := h.le; omega, h3.row⟩

section
variable {P : Program} {t e : TypeId}
theorem run_slice_from {a : Option Addr} {n cap m : Nat} (ht : P.underlying t = some (.slice e)) (hs : ∀ w, (sizeOf e).run P w = .ok 1 w) (hm : m ≤ n) (w : World) :
    (Instr.slice t (.slice a n cap) (some (.int .i64 (m : Int))) none none).run P w = .ok (.slice (subA a m cap) (n - m) (cap - m)) w := by
  have h1 : (Instr.sliceBound (.int .i64 (m : Int)) n .sliceB).run P w = .ok m w := by rw [run_sliceBound w .i64 m n .sliceB (by omega) (by omega)]; rfl
  simp [Instr.slice, run_underlying ht, Instr.sliceBounds, h1, hs, Result.andThen, subA]
theorem run_slice_three {a : Option Addr} {n cap m : Nat} (ht : P.underlying t = some (.slice e)) (hs : ∀ w, (sizeOf e).run P w = .ok 1 w) (hm : m ≤ n) (hn : n ≤ cap) (w : World) :
    (Instr.slice t (.slice a n cap) none (some (.int .i64 (m : Int))) (some (.int .i64 (m : Int)))).run P w = .ok (.slice a m m) w := by
  have h1 : (Instr.sliceBound (.int .i64 (m : Int)) cap .slice3Acap).run P w = .ok m w := by rw [run_sliceBound w .i64 m cap .slice3Acap (by omega) (by omega)]; rfl
  have h2 : (Instr.sliceBound (.int .i64 (m : Int)) m .slice3B).run P w = .ok m w := by rw [run_sliceBound w .i64 m m .slice3B (by omega) (by omega)]; rfl
  simp [Instr.slice, run_underlying ht, Instr.sliceBounds, h1, h2, hs, Result.andThen]
  exact fun _ => by cases a <;> simp [Addr.add]
end

theorem size_u8 (w : World) : (sizeOf 5).run Try.prog w = .ok 1 w := by kernel_rfl

set_option maxRecDepth 100000 in
set_option maxHeartbeats 400000 in
theorem cut_yes {a : Option Addr} {n cap m : Nat} (w : World) (hm : m ≤ n) (hn : n ≤ cap) :
    Calls Try.prog 78 #[.slice a n cap, .int .i64 m] w fun e w' => e = .returned (.tuple #[.slice a m m, .slice (subA a m cap) (n - m) (cap - m), .bool true]) ∧ Below w.heap.size w w' := by
  have h1 := fun w => run_slice_from (P := Try.prog) (t := 24) (a := a) (cap := cap) Try.underlying24 size_u8 hm w
  have h2 := fun w => run_slice_three (P := Try.prog) (t := 24) (a := a) (cap := cap) Try.underlying24 size_u8 hm hn w
  generalize subA a m cap = A2 at *
  have hlt : ¬ (n < m) := by omega
  obtain ⟨n2, hn2⟩ : ∃ n2, n2 = n - m := ⟨_, rfl⟩
  obtain ⟨c2, hc2⟩ : ∃ c2, c2 = cap - m := ⟨_, rfl⟩
  rw [← hn2, ← hc2] at h1 ⊢
  clear hn2 hc2
  go_enter Try.func78, Try.ntmps78
  go_wp2
  go_quiet (fail)
  go_wp2
  go_ret3
  exact ⟨rfl, below_drewN (Below.refl _ _) _⟩

set_option maxRecDepth 100000 in
set_option maxHeartbeats 400000 in
theorem cut_no {a : Option Addr} {n cap m : Nat} (w : World) (hm : n < m) :
    Calls Try.prog 78 #[.slice a n cap, .int .i64 m] w fun e w' => e = .returned (.tuple #[.slice none 0 0, .slice none 0 0, .bool false]) ∧ w = w' := by
  go_enter Try.func78, Try.ntmps78
  go_wp2
  go_ret3
  exact ⟨rfl, rfl⟩

/-- A number of two bytes, and what is behind. -/
def numL (l : List UInt8) : Option (Nat × List UInt8) := if 2 ≤ l.length then some (val (l.take 2), l.drop 2) else none

set_option maxRecDepth 100000 in
set_option maxHeartbeats 400000 in
theorem takeNumber_yes {a : Option Addr} {n cap : Nat} {l : List UInt8} {w : World} (h : Bytes w a n cap l) (h2 : 2 ≤ n) :
    Calls Try.prog 105 #[.slice a n cap] w fun e w' => e = .returned (.tuple #[.int .i64 (val (l.take 2) : Nat), .slice (subA a 2 cap) (n - 2) (cap - 2), .bool true]) ∧ Below w.heap.size w w' := by
  have K := cut_yes (a := a) w h2 h.le
  have HY := Lib.hid (h.takeCap h2)
  have hv : val (l.take 2) < 65536 := by
    have h1 := val_lt (l.take 2)
    have h3 : (l.take 2).length = 2 := by rw [List.length_take, h.len]; omega
    rw [h3] at h1
    omega
  have HG : Hid (getN (l.take 2) = val (l.take 2)) := by
    have h3 : (l.take 2).length = 2 := by rw [List.length_take, h.len]; omega
    show _ = _
    rw [getN, if_neg (by omega)]
  obtain ⟨V, hV⟩ : ∃ V, V = val (l.take 2) := ⟨_, rfl⟩
  rw [← hV] at HG hv ⊢
  clear h hV
  generalize subA a 2 cap = A2 at *
  obtain ⟨n2, hn2⟩ : ∃ n2, n2 = n - 2 := ⟨_, rfl⟩
  obtain ⟨c2, hc2⟩ : ∃ c2, c2 = cap - 2 := ⟨_, rfl⟩
  rw [← hn2, ← hc2] at K ⊢
  clear hn2 hc2
  go_enter Try.func105, Try.ntmps105
  go_wp2_with fail
  refine K.mono ?_
  rintro e w1 ⟨rfl, hb1⟩
  have G := get_any (HY.out.keep hb1)
  rw [HG.out] at G
  go_wp2_with fail
  refine G.mono ?_
  rintro e w2 ⟨rfl, rfl⟩
  go_wp2
  go_ret3
  exact ⟨rfl, hb1⟩

set_option maxRecDepth 100000 in
set_option maxHeartbeats 400000 in
theorem takeNumber_no {a : Option Addr} {n cap : Nat} (w : World) (h2 : n < 2) :
    Calls Try.prog 105 #[.slice a n cap] w fun e w' => e = .returned (.tuple #[.int .i64 0, .slice none 0 0, .bool false]) ∧ w = w' := by
  have K := cut_no (a := a) (cap := cap) w h2
  go_enter Try.func105, Try.ntmps105
  go_wp2_with fail
  refine K.mono ?_
  rintro e w1 ⟨rfl, rfl⟩
  go_wp2
  go_ret3
  exact ⟨rfl, rfl⟩
end Go.Proofs.Ytmkfpfnjimmmaaa
