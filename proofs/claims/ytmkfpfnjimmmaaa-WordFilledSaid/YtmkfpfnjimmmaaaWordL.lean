/- The laws of package word: their walks. -/
import Derived.Test.YtmkfpfnjimmmaaaWordG
namespace Go.Proofs.Ytmkfpfnjimmmaaa
open Go.RowKit

theorem put_258 (w : World) : Calls Try.prog 25 #[.int .u64 258, .int .i64 3] w (RetBE 5 w [0, 1, 2] 0) := put_any 258 3 w (by decide)

set_option maxRecDepth 100000 in
set_option maxHeartbeats 400000 in
theorem live03 (w : World) : Calls Try.prog 24 #[] w fun e w' => e = .returned (.bool true) ∧ Below w.heap.size w w' := by
  have kc := fun (w : World) (C : Array Value) (n c : Nat) => Lib.run_convert_bytes_const (P := Try.prog) w 24 5 C n c Try.underlying24 Try.underlying5
  go_enter Try.func24, Try.ntmps24
  go_wp2_with fail
  refine (put_258 _).mono ?_
  rintro e w1 ⟨a, cap, rfl, h1⟩
  go_wp2_with fail
  have b1 := h1.below
  have s1 := b1.size
  have k1 := b1.alloc s1 (.cells #[.int .u8 97, .int .u8 98] 5 (2, 3))
  have t1 : Bytes (w1.alloc (.cells #[.int .u8 97, .int .u8 98] 5 (2, 3))) (some ⟨w1.heap.size, 0, none⟩) 2 2 [97, 98] := bytes_mark w1 [97, 98] 5 2 2 3 rfl (by unfold maxLen; omega) rfl
  refine (fill_any 4 t1).mono ?_
  rintro e w2 ⟨a2, cap2, rfl, h2⟩
  have b2 := k1.trans (h2.below.mono (by simp; omega))
  have s2 := b2.size
  have hr : fillR [97, 98] 4 = [2, 97, 98, 0, 0] := rfl
  have he : fillE [97, 98] 4 = 0 := rfl
  rw [hr] at h2 ⊢
  rw [he]
  have x1 := (h1.bytes.keep ((Below.refl _ _).alloc (Nat.le_refl _) _)).keep h2.below
  have x2 := h2.bytes
  clear hr he h1 h2 t1 kc
  go_wp2_with fail
  have y1 : Bytes (w2.alloc (.cells #[.int .u8 0, .int .u8 1, .int .u8 2] 5)) (some ⟨w2.heap.size, 0, none⟩) 3 3 [0, 1, 2] := bytes_lit w2 [0, 1, 2] 5 3 rfl (by unfold maxLen; omega) rfl
  have z1 := (Below.refl w2.heap.size w2).alloc (Nat.le_refl _) (.cells #[.int .u8 0, .int .u8 1, .int .u8 2] 5)
  refine (same_any (x1.keep z1) y1).mono ?_
  rintro e w3 ⟨rfl, rfl⟩
  have x3 := x2.keep z1
  have b3 := b2.trans (z1.mono s2)
  go_wp2_with fail
  have y2 : Bytes ((w2.alloc (.cells #[.int .u8 0, .int .u8 1, .int .u8 2] 5)).alloc (.cells #[.int .u8 2, .int .u8 97, .int .u8 98, .int .u8 0, .int .u8 0] 5)) (some ⟨w2.heap.size + 1, 0, none⟩) 5 5 [2, 97, 98, 0, 0] := bytes_lit _ [2, 97, 98, 0, 0] 5 5 (by simp) (by unfold maxLen; omega) rfl
  refine (same_any (x3.keep ((Below.refl _ _).alloc (Nat.le_refl _) _)) y2).mono ?_
  rintro e w3 ⟨rfl, rfl⟩
  go_wp2
  go_ret
  exact ⟨rfl, b3.alloc b3.size _⟩

set_option maxRecDepth 100000 in
set_option maxHeartbeats 400000 in
theorem wordOrder_walk {n m : Nat} {wide : Int} {w : World} (hn : n < 18446744073709551616) (hm : m < 18446744073709551616) (_ : (Lit.int .i64 wide).wf = true) :
    Calls Try.prog 3 #[.int .u64 n, .int .u64 m, .int .i64 wide] w fun e w' => e = .returned (.bool true) ∧ Below w.heap.size w w' := by
  have P1 := fun w => put_any n wide w hn
  have P2 := fun w => put_any m wide w hm
  have hz1 := @putE_zero n wide
  have hz2 := @putE_zero m wide
  have hl : putE n wide = 0 → putE m wide = 0 → Op.bytesLess (putR n wide) (putR m wide) = decide (n < m) ∧ (putR n wide = putR m wide ↔ n = m) := by
    intro h1 h2
    rw [putR_of_zero h1, putR_of_zero h2]
    exact ⟨putL_lt _ _ _ (hz1 h1).2.2 (hz2 h2).2.2, putL_inj _ _ _ (hz1 h1).2.2 (hz2 h2).2.2⟩
  have hr1 := @putR_of_ne n wide
  have hr2 := @putR_of_ne m wide
  clear hz1 hz2
  generalize putR n wide = l1 at *
  generalize putR m wide = l2 at *
  generalize putE n wide = e1 at *
  generalize putE m wide = e2 at *
  go_enter Try.func3, Try.ntmps3
  go_wp2_with fail
  refine (live03 _).mono ?_
  rintro e w0 ⟨rfl, b0⟩
  go_wp2_with fail
  refine (P1 _).mono ?_
  rintro e w1 ⟨a, cap, rfl, h1⟩
  go_wp2_with fail
  refine (P2 _).mono ?_
  rintro e w2 ⟨a2, cap2, rfl, h2⟩
  clear P1 P2
  have bw : Below w.heap.size w w2 := (b0.trans (h1.below.mono b0.size)).trans (h2.below.mono (Nat.le_trans b0.size h1.below.size))
  by_cases z1 : e1 = 0
  · subst z1
    by_cases z2 : e2 = 0
    · subst z2
      obtain ⟨hl1, hl2⟩ := hl rfl rfl
      have x1 := h1.bytes.keep h2.below
      have x2 := h2.bytes
      have k1 := x1.toStr (P := Try.prog) 24 9 5 Try.underlying24 Try.underlying5 Try.underlying9
      have k2 := x2.toStr (P := Try.prog) 24 9 5 Try.underlying24 Try.underlying5 Try.underlying9
      have HL2 := Lib.hid hl2
      clear hl hr1 hr2 hl2 h1 h2
      go_wp2_with fail
      refine (same_any x1 x2).mono ?_
      rintro e w3 ⟨rfl, rfl⟩
      have hs : (l1 == l2) = decide (n = m) := by rw [Bool.eq_iff_iff]; simp [HL2.out]
      rw [hs]
      clear hs k1 k2
      go_wp2
      all_goals
        go_ret
        exact ⟨by simp [int_beq_nat], bw⟩
    · have hn2 : (e2 != 0) = true := by rw [bne_iff_ne]; exact z2
      obtain rfl := hr2 z2
      clear hl hr1 hr2 z2
      go_wp2
      all_goals
        go_ret
        exact ⟨by simp, bw⟩
  · have hn1 : (e1 != 0) = true := by rw [bne_iff_ne]; exact z1
    obtain rfl := hr1 z1
    clear hl hr1 hr2 z1
    go_wp2
    all_goals
      go_ret
      exact ⟨by simp, bw⟩
end Go.Proofs.Ytmkfpfnjimmmaaa
