/- The walk of LetterParts. -/
import Derived.Test.YtmkfpfnjimmmaaaLetD
import Derived.Test.YtmkfpfnjimmmaaaLetN
namespace Go.Proofs.Ytmkfpfnjimmmaaa
open Go.RowKit

theorem putL_small {f : Nat} (h : f < 256) : putL f 2 = [0, UInt8.ofNat f] := by
  have e : f / 256 = 0 := by omega
  simp [putL, List.range_succ, e]

theorem letL_parts {f d seq : Nat} {text : List UInt8} (hf : f < 8) (hd : d < 8) : letL false (f : Int) (d : Int) seq text = ([1, 0, UInt8.ofNat f, 0, UInt8.ofNat d] ++ putL seq 8) ++ fillL text 64 := by
  rw [letL, if_neg (by decide), Int.toNat_natCast, Int.toNat_natCast, putL_small (by omega), putL_small (by omega)]
  simp

set_option maxRecDepth 100000 in
set_option maxHeartbeats 1600000 in
theorem letterParts_walk {w : World} {v : Value} {x : LetD} (hv : AsAgg rLet w v x) :
    Calls Try.prog 12 #[v] w fun e w' => e = .returned (.bool true) ∧ Below w.heap.size w w' := by
  obtain ⟨i0, hi, hz0, hz1, hz2⟩ := info_parts info_u8
  obtain ⟨cover, frm, dst, seq, text⟩ := x
  obtain ⟨cs, rfl, a, n, cap, rfl, hx, _, hs, _⟩ := hv
  dsimp only at hx hs ⊢
  show Calls _ _ #[.agg #[.bool cover, .int .i64 frm, .int .i64 dst, .int .u64 seq, .slice a n cap]] _ _
  obtain ⟨W0, hW0⟩ : ∃ W0, W0 = w.alloc (.cells #[.bool cover, .int .i64 frm, .int .i64 dst, .int .u64 seq, .slice a n cap] 46) := ⟨_, rfl⟩
  have b0 : Below w.heap.size w W0 := by rw [hW0]; exact (Below.refl w.heap.size w).alloc (Nat.le_refl _) _
  have c0 : W0.cell? ⟨w.heap.size, 0, none⟩ = some (.bool cover) := by rw [hW0]; exact cell_lastAt _ _ _ rfl rfl
  have c1 : W0.cell? ⟨w.heap.size, 1, none⟩ = some (.int .i64 frm) := by rw [hW0]; exact cell_lastAt _ _ _ rfl rfl
  have c2 : W0.cell? ⟨w.heap.size, 2, none⟩ = some (.int .i64 dst) := by rw [hW0]; exact cell_lastAt _ _ _ rfl rfl
  have c3 : W0.cell? ⟨w.heap.size, 3, none⟩ = some (.int .u64 seq) := by rw [hW0]; exact cell_lastAt _ _ _ rfl rfl
  have c4 : W0.cell? ⟨w.heap.size, 4, none⟩ = some (.slice a n cap) := by rw [hW0]; exact cell_lastAt _ _ _ rfl rfl
  have HC : Hid (∀ W, Below W0.heap.size W0 W → W.cell? ⟨w.heap.size, 0, none⟩ = some (.bool cover) ∧ W.cell? ⟨w.heap.size, 1, none⟩ = some (.int .i64 frm) ∧ W.cell? ⟨w.heap.size, 2, none⟩ = some (.int .i64 dst) ∧ W.cell? ⟨w.heap.size, 3, none⟩ = some (.int .u64 seq) ∧ W.cell? ⟨w.heap.size, 4, none⟩ = some (.slice a n cap)) := fun W hW =>
    ⟨(hW.cell (World.block_lt_of_cell? _ _ c0)).trans c0, (hW.cell (World.block_lt_of_cell? _ _ c1)).trans c1, (hW.cell (World.block_lt_of_cell? _ _ c2)).trans c2, (hW.cell (World.block_lt_of_cell? _ _ c3)).trans c3, (hW.cell (World.block_lt_of_cell? _ _ c4)).trans c4⟩
  have HX : Hid (∀ W, Below W0.heap.size W0 W → Bytes W a n cap text) := fun W hW => (hx.keep b0).keep hW
  have hmx := hx.le_i64
  have hlen := Lib.hid hx.len
  have HW0 := Lib.hid hW0
  clear c0 c1 c2 c3 c4 hx hW0
  go_enter Try.func12, Try.ntmps12
  go_wp2_with fail
  rw [← HW0.out]
  refine (live10 _).mono ?_
  rintro e w1 ⟨rfl, b1⟩
  obtain ⟨c0, c1, c2, c3, c4⟩ := HC.out w1 b1
  by_cases h300 : 300 < n
  · go_wp2
    go_ret
    exact ⟨rfl, below_then b0 b1⟩
  go_wp2_with fail
  refine (lput_any (HX.out _ b1) hs).mono ?_
  rintro e w2 ⟨a2, cap2, rfl, h2⟩
  have B2 := below_then b1 h2.below
  have HY := Lib.hid h2.bytes
  clear h2 c0 c1 c2 c3 c4 b1
  obtain ⟨c0, c1, c2, c3, c4⟩ := HC.out w2 B2
  by_cases hE : letE cover frm dst seq text = 0
  · rw [letR, if_pos hE] at HY ⊢
    rw [hE]
    cases cover with
    | true =>
      have e : letL true frm dst seq text = List.replicate 78 0 := by rw [letL, if_pos rfl]
      rw [e] at HY ⊢
      rw [List.length_replicate] at HY ⊢
      have hbs := below_then b0 B2
      clear e hE
      go_wp2_with (at_make; refine wpList_make_full _ rfl _ _ 24 rfl w2.heap.size 5 i0 (.int .u8 0) 1 Try.underlying24 hi hz0 hz1 _ _ _ _ 78 rfl rfl (by omega) (by omega) (by rw [hz2]; omega) (by unfold maxLen; omega) (Nat.le_refl _) ?_)
      intro w3 hown hg
      rw [toList_madeCells_one, ← map_rep0] at hown
      have hb3 : Below w2.heap.size w2 w3 := (Below.refl _ _).grown hg (Nat.le_refl _) (fun k e => by cases e)
      obtain ⟨a', c', hv, hF⟩ := FreshB.of hown hb3
      cases hv
      have S := same_any (HY.out.keep hb3) hF.bytes
      rw [beq_self_eq_true] at S
      have HS := Lib.hid S
      have HB := Lib.hid hb3
      clear S hown hg hb3 hF
      go_wp2_with fail
      refine HS.out.mono ?_
      rintro e w4 ⟨rfl, rfl⟩
      go_wp2
      go_ret
      exact ⟨rfl, below_then hbs HB.out⟩
    | false =>
      obtain ⟨⟨f0, f8⟩, ⟨d0, d8⟩, _, h64⟩ := letE_plain hE
      obtain ⟨f, rfl⟩ := Int.eq_ofNat_of_zero_le f0
      obtain ⟨d, rfl⟩ := Int.eq_ofNat_of_zero_le d0
      have P3 := fun W => put_any seq 8 W hs
      rw [(put_eight seq hs).1, (put_eight seq hs).2] at P3
      have HP3 := Lib.hid P3
      have HP4 : Hid (∀ W, Below W0.heap.size W0 W → Calls Try.prog 30 #[.slice a n cap, .int .i64 64] W (RetBE 5 W (fillL text 64) 0)) := fun W hW => by
        have h := fill_any 64 (HX.out W hW)
        rw [(fill_64 h64).1, (fill_64 h64).2] at h
        exact h
      have HLL : Hid (letL false (f : Int) (d : Int) seq text = ([1, 0, UInt8.ofNat f, 0, UInt8.ofNat d] ++ putL seq 8) ++ fillL text 64) := letL_parts (by omega) (by omega)
      have HL3 := Lib.hid (length_putL seq 8)
      have HL4 := Lib.hid (length_fillL text 64 h64)
      have HLn := Lib.hid (letL_len (cover := false) (frm := f) (dst := d) (seq := seq) h64)
      clear P3 hE f0 d0
      rw [HLn.out] at HY ⊢
      generalize letL false (f : Int) (d : Int) seq text = LL at *
      generalize putL seq 8 = L3 at *
      generalize fillL text 64 = L4 at *
      go_wp2_with fail
      refine (HP3.out _).mono ?_
      rintro e w3 ⟨a3, k3, rfl, h3⟩
      have B3 := below_then B2 h3.below
      clear c0 c1 c2 c3 c4
      obtain ⟨c0, c1, c2, c3, c4⟩ := HC.out w3 B3
      have y2 := Lib.hid (HY.out.keep h3.below)
      have y3 := Lib.hid h3.bytes
      clear h3 HY
      go_wp2_with fail
      refine (HP4.out _ B3).mono ?_
      rintro e w4 ⟨a4, k4, rfl, h4⟩
      have B4 := below_then B3 h4.below
      clear c0 c1 c2 c3 c4
      obtain ⟨c0, c1, c2, c3, c4⟩ := HC.out w4 B4
      have z2 := Lib.hid (y2.out.keep h4.below)
      have z3 := y3.out.keep h4.below
      have z4 := h4.bytes
      rw [HL3.out] at z3 ⊢
      rw [HL4.out] at z4 ⊢
      clear h4 y2 y3
      have hwf : IntKind.u8.wrap (f : Int) = (f : Int) := by simp [IntKind.wrap, IntKind.bits, IntKind.signed]; omega
      have hwd : IntKind.u8.wrap (d : Int) = (d : Int) := by simp [IntKind.wrap, IntKind.bits, IntKind.signed]; omega
      have ho := World.ownsRow_lit (base := w4.heap.size) (e := 5) (size := 1) w4 #[.int .u8 1, .int .u8 0, .int .u8 f, .int .u8 0, .int .u8 d] 5 (Nat.le_refl _) (by unfold maxLen; omega) rfl
      have hb5 := (Below.refl w4.heap.size w4).alloc (Nat.le_refl _) (.cells #[.int .u8 1, .int .u8 0, .int .u8 f, .int .u8 0, .int .u8 d] 5)
      have z3' := z3.keep hb5
      have hz4 := Lib.hid z4
      clear z3 z4
      go_wp2_with (at_builtin; refine wpList_append_row_g rfl (.tmp 56) (.tmp 57) 24 rfl w4.heap.size 5 i0 (.int .u8 0) 1 1 Try.underlying24 hi hz0 hz1 hz2 rfl (by decide) _ _ _ _ rfl ho _ _ _ _ rfl z3'.cells (oneCell_bytes _) (by unfold maxLen; omega) (by omega) w4 hb5 (by simp) ?_)
      intro a5 c5 w5 ho5 hb5'
      have hs5 := hb5'.size
      have z4' := hz4.out.keep hb5'
      clear ho hb5 z3'
      go_wp2_with (at_builtin; refine wpList_append_row_g rfl (.tmp 58) (.tmp 59) 24 rfl w4.heap.size 5 i0 (.int .u8 0) 1 1 Try.underlying24 hi hz0 hz1 hz2 rfl (by decide) _ _ _ _ rfl ho5 _ _ _ _ rfl z4'.cells (oneCell_bytes _) (by unfold maxLen; omega) (by omega) w4 hb5' hs5 ?_)
      intro a6 c6 w6 ho6 hb6
      have e1 : (Value.int IntKind.u8 1 :: Value.int IntKind.u8 0 :: Value.int IntKind.u8 (f : Int) :: Value.int IntKind.u8 0 :: Value.int IntKind.u8 (d : Int) :: (L3.map B ++ L4.map B)) = LL.map B := by
        have : ∀ k : Nat, k < 8 → Value.int IntKind.u8 (k : Int) = B (UInt8.ofNat k) := fun k hk => by rw [B, ofNat_toNat_int]; congr 1; omega
        rw [HLL.out, List.map_append, List.map_append, this f (by omega), this d (by omega)]
        rfl
      rw [e1] at ho6
      obtain ⟨a', c', hv, hF⟩ := FreshB.of ho6 hb6
      cases hv
      have S := same_any (z2.out.keep hb6) hF.bytes
      rw [beq_self_eq_true] at S
      have HS := Lib.hid S
      have HB := Lib.hid (below_then (below_then b0 B4) hb6)
      clear S ho5 ho6 hb5' hb6 hF z4' e1 hwf hwd
      go_wp2_with fail
      refine HS.out.mono ?_
      rintro e w7 ⟨rfl, rfl⟩
      go_wp2
      go_ret
      exact ⟨rfl, HB.out⟩
  · have hne : (letE cover frm dst seq text != 0) = true := by rw [bne_iff_ne]; exact hE
    have hR : letR cover frm dst seq text = [] := by rw [letR, if_neg hE]
    rw [hR]
    clear hR hE HY
    go_wp2
    go_ret
    exact ⟨rfl, below_then b0 B2⟩
end Go.Proofs.Ytmkfpfnjimmmaaa
