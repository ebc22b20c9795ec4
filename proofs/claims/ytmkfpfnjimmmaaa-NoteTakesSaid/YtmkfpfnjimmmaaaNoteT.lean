/- The walks of note.Same and its reference. -/
import Derived.Test.YtmkfpfnjimmmaaaNoteS
namespace Go.Proofs.Ytmkfpfnjimmmaaa
open Go.RowKit

/-- Two notes are the same in all. -/
def sameN (kind hop : Int) (back : Bool) (pp : List (List UInt8)) (kind' hop' : Int) (back' : Bool) (qq : List (List UInt8)) : Bool :=
  kind == kind' && hop == hop' && back == back' && pp == qq

set_option maxRecDepth 100000 in
set_option maxHeartbeats 400000 in
theorem nsame_any {kind hop kind' hop' : Int} {back back' : Bool} {pa pa' : Option Addr} {pn pn' pc pc' : Nat} {pp qq : List (List UInt8)} {w : World} (hp : Parts w pa pn pc pp) (hq : Parts w pa' pn' pc' qq) :
    Calls Try.prog 40 #[.agg #[.int .i64 kind, .slice pa pn pc, .int .i64 hop, .bool back], .agg #[.int .i64 kind', .slice pa' pn' pc', .int .i64 hop', .bool back']] w fun e w' => e = .returned (.bool (sameN kind hop back pp kind' hop' back' qq)) ∧ Below w.heap.size w w' := by
  have b0 := (Below.refl w.heap.size w).alloc (Nat.le_refl _) (.cells #[.int .i64 kind, .slice pa pn pc, .int .i64 hop, .bool back] 39)
  have b1 := b0.alloc b0.size (.cells #[.int .i64 kind', .slice pa' pn' pc', .int .i64 hop', .bool back'] 39)
  have K := equalfunc_any (hp.keep b1) (hq.keep b1)
  have HR : Hid (sameN kind hop back pp kind' hop' back' qq = (kind == kind' && hop == hop' && back == back' && pp == qq)) := rfl
  clear hp hq
  rw [HR.out]
  cases hk : (kind == kind') with
  | false =>
    rw [Bool.false_and, Bool.false_and, Bool.false_and]
    go_enter Try.func40, Try.ntmps40
    go_wp2
    go_ret
    exact ⟨rfl, b1⟩
  | true =>
    rw [Bool.true_and]
    cases hh : (hop == hop') with
    | false =>
      rw [Bool.false_and, Bool.false_and]
      go_enter Try.func40, Try.ntmps40
      go_wp2
      go_ret
      exact ⟨rfl, b1⟩
    | true =>
      rw [Bool.true_and]
      cases hbk : (back == back') with
      | false =>
        rw [Bool.false_and]
        go_enter Try.func40, Try.ntmps40
        go_wp2
        go_ret
        exact ⟨rfl, b1⟩
      | true =>
        rw [Bool.true_and]
        generalize (pp == qq) = r at *
        go_enter Try.func40, Try.ntmps40
        go_wp2_with fail
        refine K.mono ?_
        rintro e w1 ⟨rfl, rfl⟩
        go_wp2
        go_ret
        exact ⟨rfl, b1⟩

set_option maxRecDepth 100000 in
set_option maxHeartbeats 400000 in
theorem rsame_any {kind hop kind' hop' : Int} {back back' : Bool} {pa pa' : Option Addr} {pn pn' pc pc' : Nat} {pp qq : List (List UInt8)} {w : World} (hp : Parts w pa pn pc pp) (hq : Parts w pa' pn' pc' qq) :
    Calls Try.prog 41 #[.agg #[.int .i64 kind, .slice pa pn pc, .int .i64 hop, .bool back], .agg #[.int .i64 kind', .slice pa' pn' pc', .int .i64 hop', .bool back']] w fun e w' => e = .returned (.bool (sameN kind hop back pp kind' hop' back' qq)) ∧ Below w.heap.size w w' := by
  have b0 := (Below.refl w.heap.size w).alloc (Nat.le_refl _) (.cells #[.int .i64 kind, .slice pa pn pc, .int .i64 hop, .bool back] 39)
  have b1 := b0.alloc b0.size (.cells #[.int .i64 kind', .slice pa' pn' pc', .int .i64 hop', .bool back'] 39)
  have K := sameparts_any (hp.keep b1) (hq.keep b1)
  have HR : Hid (sameN kind hop back pp kind' hop' back' qq = (kind == kind' && (pp == qq) && hop == hop' && back == back')) := by
    show _ = _
    rw [sameN]
    cases (kind == kind') <;> cases (hop == hop') <;> cases (back == back') <;> cases (pp == qq) <;> rfl
  clear hp hq
  rw [HR.out]
  cases hk : (kind == kind') with
  | false =>
    rw [Bool.false_and, Bool.false_and, Bool.false_and]
    clear K
    go_enter Try.func41, Try.ntmps41
    go_wp2
    go_ret
    exact ⟨rfl, b1⟩
  | true =>
    rw [Bool.true_and]
    generalize (pp == qq) = r at *
    obtain ⟨W1, hW1⟩ : ∃ W1, W1 = (w.alloc (.cells #[.int .i64 kind, .slice pa pn pc, .int .i64 hop, .bool back] 39)).alloc (.cells #[.int .i64 kind', .slice pa' pn' pc', .int .i64 hop', .bool back'] 39) := ⟨_, rfl⟩
    have hs1 : W1.heap.size = w.heap.size + 1 + 1 := by rw [hW1]; simp
    have c2 : W1.cell? ⟨w.heap.size, 2, none⟩ = some (.int .i64 hop) := by rw [hW1]; exact cell_underAt (cell_lastAt _ _ _ rfl rfl)
    have c3 : W1.cell? ⟨w.heap.size, 3, none⟩ = some (.bool back) := by rw [hW1]; exact cell_underAt (cell_lastAt _ _ _ rfl rfl)
    have d2 : W1.cell? ⟨w.heap.size + 1, 2, none⟩ = some (.int .i64 hop') := by rw [hW1]; exact cell_lastAt _ _ _ (by simp) rfl
    have d3 : W1.cell? ⟨w.heap.size + 1, 3, none⟩ = some (.bool back') := by rw [hW1]; exact cell_lastAt _ _ _ (by simp) rfl
    have HC : Hid (∀ W, Below (w.heap.size + 1 + 1) W1 W → W.cell? ⟨w.heap.size, 2, none⟩ = some (.int .i64 hop) ∧ W.cell? ⟨w.heap.size, 3, none⟩ = some (.bool back) ∧ W.cell? ⟨w.heap.size + 1, 2, none⟩ = some (.int .i64 hop') ∧ W.cell? ⟨w.heap.size + 1, 3, none⟩ = some (.bool back')) := fun W hW =>
      ⟨(hW.cell (p := ⟨w.heap.size, 2, none⟩) (by show w.heap.size < _; omega)).trans c2, (hW.cell (p := ⟨w.heap.size, 3, none⟩) (by show w.heap.size < _; omega)).trans c3, (hW.cell (p := ⟨w.heap.size + 1, 2, none⟩) (Nat.lt_succ_self _)).trans d2, (hW.cell (p := ⟨w.heap.size + 1, 3, none⟩) (Nat.lt_succ_self _)).trans d3⟩
    rw [← hW1] at K b1
    have hW := Lib.hid hW1
    clear c2 c3 d2 d3 b0
    cases r with
    | false =>
      rw [Bool.false_and, Bool.false_and]
      go_enter Try.func41, Try.ntmps41
      go_wp2_with fail
      rw [← hW.out]
      refine K.mono ?_
      rintro e w1 ⟨rfl, hb⟩
      go_wp2
      go_ret
      exact ⟨rfl, below_then b1 hb⟩
    | true =>
      rw [Bool.true_and]
      cases hh : (hop == hop') with
      | false =>
        rw [Bool.false_and]
        go_enter Try.func41, Try.ntmps41
        go_wp2_with fail
        rw [← hW.out]
        refine K.mono ?_
        rintro e w1 ⟨rfl, hb⟩
        rw [hs1] at hb
        obtain ⟨c2, c3, d2, d3⟩ := HC.out _ hb
        rw [← hs1] at hb
        clear hW1
        go_wp2
        go_ret
        exact ⟨rfl, below_then b1 hb⟩
      | true =>
        rw [Bool.true_and]
        go_enter Try.func41, Try.ntmps41
        go_wp2_with fail
        rw [← hW.out]
        refine K.mono ?_
        rintro e w1 ⟨rfl, hb⟩
        rw [hs1] at hb
        obtain ⟨c2, c3, d2, d3⟩ := HC.out _ hb
        rw [← hs1] at hb
        clear hW1
        go_wp2
        go_ret
        exact ⟨rfl, below_then b1 hb⟩
end Go.Proofs.Ytmkfpfnjimmmaaa
