/- The walk of NoteTells. -/
import Derived.Test.YtmkfpfnjimmmaaaNoteU
import Derived.Test.YtmkfpfnjimmmaaaNoteT
import Derived.Deep.RegionHeld3
import Derived.Deep.DrawnRows
namespace Go.Proofs.Ytmkfpfnjimmmaaa
open Go.RowKit
attribute [local go_sem ↓] Go.wp_at_zero Go.wp_at_succ

set_option maxRecDepth 100000 in
set_option maxHeartbeats 3200000 in
theorem noteTells_walk {w : World} {v u : Value} {x y : NoteD} (hx : NoteV w v x) (hy : NoteV w u y) :
    Calls Try.prog 11 #[v, u] w fun e w' => e = .returned (.bool true) ∧ Below w.heap.size w w' := by
  obtain ⟨kind, pp, hop, back⟩ := x
  obtain ⟨⟨pa, pn, pc, rfl, hp⟩, hsm, _⟩ := hx
  obtain ⟨kind', qq, hop', back'⟩ := y
  obtain ⟨⟨qa, qn, qc, rfl, hq⟩, hsq, _⟩ := hy
  dsimp only at hp hsm hq hsq ⊢
  obtain ⟨W0, hW0⟩ : ∃ W0, W0 = (w.alloc (.cells #[.int .i64 kind, .slice pa pn pc, .int .i64 hop, .bool back] 39)).alloc (.cells #[.int .i64 kind', .slice qa qn qc, .int .i64 hop', .bool back'] 39) := ⟨_, rfl⟩
  have b0 : Below w.heap.size w W0 := by rw [hW0]; exact ((Below.refl w.heap.size w).alloc (Nat.le_refl _) _).alloc (by simp) _
  have c0 : W0.cell? ⟨w.heap.size, 0, none⟩ = some (.int .i64 kind) := by rw [hW0]; exact cell_underAt (cell_lastAt _ _ _ rfl rfl)
  have c1 : W0.cell? ⟨w.heap.size, 1, none⟩ = some (.slice pa pn pc) := by rw [hW0]; exact cell_underAt (cell_lastAt _ _ _ rfl rfl)
  have c2 : W0.cell? ⟨w.heap.size, 2, none⟩ = some (.int .i64 hop) := by rw [hW0]; exact cell_underAt (cell_lastAt _ _ _ rfl rfl)
  have c3 : W0.cell? ⟨w.heap.size, 3, none⟩ = some (.bool back) := by rw [hW0]; exact cell_underAt (cell_lastAt _ _ _ rfl rfl)
  have d0 : W0.cell? ⟨w.heap.size + 1, 0, none⟩ = some (.int .i64 kind') := by rw [hW0]; exact cell_lastAt _ _ _ (by simp) rfl
  have d1 : W0.cell? ⟨w.heap.size + 1, 1, none⟩ = some (.slice qa qn qc) := by rw [hW0]; exact cell_lastAt _ _ _ (by simp) rfl
  have d2 : W0.cell? ⟨w.heap.size + 1, 2, none⟩ = some (.int .i64 hop') := by rw [hW0]; exact cell_lastAt _ _ _ (by simp) rfl
  have d3 : W0.cell? ⟨w.heap.size + 1, 3, none⟩ = some (.bool back') := by rw [hW0]; exact cell_lastAt _ _ _ (by simp) rfl
  have HP : Hid (∀ W, Below W0.heap.size W0 W → Parts W pa pn pc pp) := fun W hW => (hp.keep b0).keep hW
  have HQ : Hid (∀ W, Below W0.heap.size W0 W → Parts W qa qn qc qq) := fun W hW => (hq.keep b0).keep hW
  have HC : Hid (∀ W, Below W0.heap.size W0 W → W.cell? ⟨w.heap.size, 0, none⟩ = some (.int .i64 kind) ∧ W.cell? ⟨w.heap.size, 1, none⟩ = some (.slice pa pn pc) ∧ W.cell? ⟨w.heap.size, 2, none⟩ = some (.int .i64 hop) ∧ W.cell? ⟨w.heap.size, 3, none⟩ = some (.bool back) ∧
      W.cell? ⟨w.heap.size + 1, 0, none⟩ = some (.int .i64 kind') ∧ W.cell? ⟨w.heap.size + 1, 1, none⟩ = some (.slice qa qn qc) ∧ W.cell? ⟨w.heap.size + 1, 2, none⟩ = some (.int .i64 hop') ∧ W.cell? ⟨w.heap.size + 1, 3, none⟩ = some (.bool back') ∧ Below W0.heap.size W0 W) := fun W hW =>
    ⟨(hW.cell (World.block_lt_of_cell? _ _ c0)).trans c0, (hW.cell (World.block_lt_of_cell? _ _ c1)).trans c1, (hW.cell (World.block_lt_of_cell? _ _ c2)).trans c2, (hW.cell (World.block_lt_of_cell? _ _ c3)).trans c3,
     (hW.cell (World.block_lt_of_cell? _ _ d0)).trans d0, (hW.cell (World.block_lt_of_cell? _ _ d1)).trans d1, (hW.cell (World.block_lt_of_cell? _ _ d2)).trans d2, (hW.cell (World.block_lt_of_cell? _ _ d3)).trans d3, hW⟩
  have HW0 := Lib.hid hW0
  have hsm' := Lib.hid hsm
  have hsq' := Lib.hid hsq
  clear c0 c1 c2 c3 d0 d1 d2 d3 hp hq hsm hsq
  go_enter Try.func11, Try.ntmps11
  go_wp2_with fail
  refine (live06 _).mono ?_
  rintro e w1 ⟨rfl, b1⟩
  rw [← hW0] at b1
  clear hW0
  obtain ⟨c0, c1, c2, c3, d0, d1, d2, d3, _⟩ := HC.out w1 b1
  go_wp2_with fail
  refine (few_any (HP.out _ b1) hsm'.out).mono ?_
  rintro e w2 ⟨rfl, b2⟩
  have B2 := below_then b1 b2
  clear c0 c1 c2 c3 d0 d1 d2 d3 b1 b2
  obtain ⟨c0, c1, c2, c3, d0, d1, d2, d3, _⟩ := HC.out w2 B2
  cases hf : fewB pp with
  | false =>
    go_wp2
    go_ret
    exact ⟨rfl, below_then b0 B2⟩
  | true =>
  clear hf
  go_wp2_with fail
  refine (few_any (HQ.out _ B2) hsq'.out).mono ?_
  rintro e w3 ⟨rfl, b3⟩
  have B3 := below_then B2 b3
  clear c0 c1 c2 c3 d0 d1 d2 d3 B2 b3
  obtain ⟨c0, c1, c2, c3, d0, d1, d2, d3, _⟩ := HC.out w3 B3
  cases hf : fewB qq with
  | false =>
    go_wp2
    go_ret
    exact ⟨rfl, below_then b0 B3⟩
  | true =>
  clear hf
  go_wp2_with fail
  refine (nput_any (HP.out _ B3)).mono ?_
  rintro e w4 ⟨a4, cap4, rfl, h4⟩
  have B4 := below_then B3 h4.below
  clear c0 c1 c2 c3 d0 d1 d2 d3 B3
  obtain ⟨c0, c1, c2, c3, d0, d1, d2, d3, _⟩ := HC.out w4 B4
  have y4 := Lib.hid h4.bytes
  clear h4
  go_wp2_with fail
  refine (rnput_any (HP.out _ B4)).mono ?_
  rintro e w5 ⟨a5, cap5, rfl, h5⟩
  have B5 := below_then B4 h5.below
  have z4 := Lib.hid (y4.out.keep h5.below)
  have z5 := Lib.hid h5.bytes
  clear h5 y4 c0 c1 c2 c3 d0 d1 d2 d3 B4
  obtain ⟨N, hN⟩ : ∃ N, N = (noteR kind hop back pp).length := ⟨_, rfl⟩
  rw [← hN] at z4 z5 ⊢
  have HS : Hid (∀ W, Below w5.heap.size w5 W → Calls Try.prog 26 #[.slice a4 N cap4, .slice a5 N cap5] W fun e w' => e = .returned (.bool true) ∧ W = w') := fun W hW => by
    have h := same_any (z4.out.keep hW) (z5.out.keep hW)
    rw [beq_self_eq_true] at h
    exact h
  clear hN z4 z5
  have b5 := Lib.hid B5
  have HE : Hid (∀ W, Below W0.heap.size W0 W → Calls Try.prog 37 #[.agg #[.int .i64 kind, .slice pa pn pc, .int .i64 hop, .bool back]] W fun e w' => e = .returned (.int .i64 (noteE kind hop back pp)) ∧ Below W.heap.size W w') := fun W hW => ncheck_any (HP.out _ hW)
  have HF : Hid (∀ W, Below W0.heap.size W0 W → Calls Try.prog 39 #[.agg #[.int .i64 kind, .slice pa pn pc, .int .i64 hop, .bool back]] W fun e w' => e = .returned (.int .i64 (noteE kind hop back pp)) ∧ Below W.heap.size W w') := fun W hW => rcheck_any (HP.out _ hW)
  have HG : Hid (∀ W, Below W0.heap.size W0 W → Calls Try.prog 40 #[.agg #[.int .i64 kind, .slice pa pn pc, .int .i64 hop, .bool back], .agg #[.int .i64 kind', .slice qa qn qc, .int .i64 hop', .bool back']] W fun e w' => e = .returned (.bool (sameN kind hop back pp kind' hop' back' qq)) ∧ Below W.heap.size W w') := fun W hW => nsame_any (HP.out _ hW) (HQ.out _ hW)
  have HH : Hid (∀ W, Below W0.heap.size W0 W → Calls Try.prog 41 #[.agg #[.int .i64 kind, .slice pa pn pc, .int .i64 hop, .bool back], .agg #[.int .i64 kind', .slice qa qn qc, .int .i64 hop', .bool back']] W fun e w' => e = .returned (.bool (sameN kind hop back pp kind' hop' back' qq)) ∧ Below W.heap.size W w') := fun W hW => rsame_any (HP.out _ hW) (HQ.out _ hW)
  have HC5 : Hid (∀ W, Below w5.heap.size w5 W → W.cell? ⟨w.heap.size, 0, none⟩ = some (.int .i64 kind) ∧ W.cell? ⟨w.heap.size, 1, none⟩ = some (.slice pa pn pc) ∧ W.cell? ⟨w.heap.size, 2, none⟩ = some (.int .i64 hop) ∧ W.cell? ⟨w.heap.size, 3, none⟩ = some (.bool back) ∧
      W.cell? ⟨w.heap.size + 1, 0, none⟩ = some (.int .i64 kind') ∧ W.cell? ⟨w.heap.size + 1, 1, none⟩ = some (.slice qa qn qc) ∧ W.cell? ⟨w.heap.size + 1, 2, none⟩ = some (.int .i64 hop') ∧ W.cell? ⟨w.heap.size + 1, 3, none⟩ = some (.bool back') ∧ Below w5.heap.size w5 W) := fun W hW => by
    obtain ⟨e0, e1, e2, e3, f0, f1, f2, f3, _⟩ := HC.out W (below_then b5.out hW)
    exact ⟨e0, e1, e2, e3, f0, f1, f2, f3, hW⟩
  have hB : Below w5.heap.size w5 w5.drew := (Below.refl _ _).drew
  generalize noteE kind hop back pp = E at *
  generalize sameN kind hop back pp kind' hop' back' qq = S at *
  clear HC HP HQ HW0 hsm' hsq' B5
  go_wp2_with fail
  go_region_held3 (fun w' => w'.cell? ⟨w.heap.size, 0, none⟩ = some (.int .i64 kind) ∧ w'.cell? ⟨w.heap.size, 1, none⟩ = some (.slice pa pn pc) ∧ w'.cell? ⟨w.heap.size, 2, none⟩ = some (.int .i64 hop) ∧ w'.cell? ⟨w.heap.size, 3, none⟩ = some (.bool back) ∧
      w'.cell? ⟨w.heap.size + 1, 0, none⟩ = some (.int .i64 kind') ∧ w'.cell? ⟨w.heap.size + 1, 1, none⟩ = some (.slice qa qn qc) ∧ w'.cell? ⟨w.heap.size + 1, 2, none⟩ = some (.int .i64 hop') ∧ w'.cell? ⟨w.heap.size + 1, 3, none⟩ = some (.bool back') ∧ Below w5.heap.size w5 w')
    (exact HC5.out _ (by first | exact hB | exact (Below.refl _ _) | exact (Below.refl _ _).drew))
    (first
      | (go_at_call 37; refine (HE.out _ (below_then b5.out hB)).mono ?_; rintro e w6 ⟨rfl, hb6⟩; have hB := below_then hB hb6)
      | (go_at_call 39; refine (HF.out _ (below_then b5.out hB)).mono ?_; rintro e w6 ⟨rfl, hb6⟩; have hB := below_then hB hb6)
      | (go_at_call 26; refine (HS.out _ hB).mono ?_; rintro e w6 ⟨rfl, rfl⟩)
      | (go_at_call 40; refine (HG.out _ (below_then b5.out hB)).mono ?_; rintro e w6 ⟨rfl, hb6⟩; have hB := below_then hB hb6)
      | (go_at_call 41; refine (HH.out _ (below_then b5.out hB)).mono ?_; rintro e w6 ⟨rfl, hb6⟩; have hB := below_then hB hb6))
  all_goals
    go_wp2
    go_ret
    exact ⟨rfl, below_then b0 (below_then b5.out hB)⟩
end Go.Proofs.Ytmkfpfnjimmmaaa
