/- The walks of the references of letter.Check and letter.Put. -/
import Derived.Test.YtmkfpfnjimmmaaaLetD
import Derived.Test.YtmkfpfnjimmmaaaWordE
import Derived.Test.YtmkfpfnjimmmaaaOwn
namespace Go.Proofs.Ytmkfpfnjimmmaaa
open Go.RowKit

set_option maxRecDepth 100000 in
set_option maxHeartbeats 800000 in
theorem rlcheck_cover {frm dst : Int} {seq : Nat} {a : Option Addr} {n cap : Nat} {text : List UInt8} (w : World) (hl : text.length = n) (hn : n ≤ 9223372036854775807) :
    Calls Try.prog 113 #[.agg #[.bool true, .int .i64 frm, .int .i64 dst, .int .u64 seq, .slice a n cap]] w fun e w' => e = .returned (.int .i64 (letE true frm dst seq text)) ∧ Below w.heap.size w w' := by
  have HE : Hid (letE true frm dst seq text = if frm = 0 ∧ dst = 0 ∧ seq = 0 ∧ text.length = 0 then 0 else 1) := by show _ = _; rw [letE, if_pos rfl]
  have hb := (Below.refl w.heap.size w).alloc (Nat.le_refl _) (.cells #[.bool true, .int .i64 frm, .int .i64 dst, .int .u64 seq, .slice a n cap] 46)
  have HL := Lib.hid hl
  clear hl
  by_cases h1 : frm = 0
  · subst h1
    by_cases h2 : dst = 0
    · subst h2
      by_cases h3 : seq = 0
      · subst h3
        by_cases h4 : n = 0
        · subst h4
          go_enter Try.func113, Try.ntmps113
          go_wp2
          go_ret
          exact ⟨ret_int (by rw [HE.out, if_pos (by simp [HL.out])]), hb⟩
        · have h4' : 0 < n := by omega
          go_enter Try.func113, Try.ntmps113
          go_wp2
          go_ret
          exact ⟨ret_int (by rw [HE.out, if_neg (by rw [HL.out]; exact fun h => h4 h.2.2.2)]), hb⟩
      · have h3' := bne_i (show ((seq : Int)) ≠ 0 by omega)
        go_enter Try.func113, Try.ntmps113
        go_wp2
        go_ret
        exact ⟨ret_int (by rw [HE.out, if_neg (fun h => h3 h.2.2.1)]), hb⟩
    · have h2' := bne_i h2
      go_enter Try.func113, Try.ntmps113
      go_wp2
      go_ret
      exact ⟨ret_int (by rw [HE.out, if_neg (fun h => h2 h.2.1)]), hb⟩
  · have h1' := bne_i h1
    go_enter Try.func113, Try.ntmps113
    go_wp2
    go_ret
    exact ⟨ret_int (by rw [HE.out, if_neg (fun h => h1 h.1)]), hb⟩

theorem mayC_no {n : Int} (h : n < 0 ∨ 7 < n) : mayC n = false := by
  unfold mayC
  rcases h with h | h
  · rw [decide_eq_false (by omega), Bool.false_and]
  · rw [decide_eq_false (p := n < 8) (by omega), Bool.and_false]
theorem mayC_yes {n : Int} (h0 : 0 ≤ n) (h7 : n ≤ 7) : mayC n = true := by
  unfold mayC
  rw [decide_eq_true h0, decide_eq_true (by omega)]
  rfl

set_option maxRecDepth 100000 in
set_option maxHeartbeats 800000 in
theorem rlcheck_plain {frm dst : Int} {seq : Nat} {a : Option Addr} {n cap : Nat} {text : List UInt8} (w : World) (hl : text.length = n) (hn : n ≤ 9223372036854775807) :
    Calls Try.prog 113 #[.agg #[.bool false, .int .i64 frm, .int .i64 dst, .int .u64 seq, .slice a n cap]] w fun e w' => e = .returned (.int .i64 (letE false frm dst seq text)) ∧ Below w.heap.size w w' := by
  have HE : Hid (letE false frm dst seq text = if mayC frm = false ∨ mayC dst = false ∨ seq = 0 then 1 else if 64 < text.length then 2 else 0) := by show _ = _; rw [letE, if_neg (by decide)]
  have hb := (Below.refl w.heap.size w).alloc (Nat.le_refl _) (.cells #[.bool false, .int .i64 frm, .int .i64 dst, .int .u64 seq, .slice a n cap] 46)
  have HL := Lib.hid hl
  clear hl
  by_cases h1 : frm < 0
  · have HM := Lib.hid (mayC_no (.inl h1))
    go_enter Try.func113, Try.ntmps113
    go_wp2
    go_ret
    exact ⟨ret_int (by rw [HE.out, if_pos (.inl HM.out)]), hb⟩
  by_cases h2 : 7 < frm
  · have HM := Lib.hid (mayC_no (.inr h2))
    go_enter Try.func113, Try.ntmps113
    go_wp2
    go_ret
    exact ⟨ret_int (by rw [HE.out, if_pos (.inl HM.out)]), hb⟩
  by_cases h3 : dst < 0
  · have HM := Lib.hid (mayC_no (.inl h3))
    go_enter Try.func113, Try.ntmps113
    go_wp2
    go_ret
    exact ⟨ret_int (by rw [HE.out, if_pos (.inr (.inl HM.out))]), hb⟩
  by_cases h4 : 7 < dst
  · have HM := Lib.hid (mayC_no (.inr h4))
    go_enter Try.func113, Try.ntmps113
    go_wp2
    go_ret
    exact ⟨ret_int (by rw [HE.out, if_pos (.inr (.inl HM.out))]), hb⟩
  by_cases h5 : seq < 1
  · have HM : Hid (seq = 0) := by show _ = _; omega
    have h5' : (seq : Int) < 1 := by omega
    go_enter Try.func113, Try.ntmps113
    go_wp2
    go_ret
    exact ⟨ret_int (by rw [HE.out, if_pos (.inr (.inr HM.out))]), hb⟩
  have h5' : ¬ (seq : Int) < 1 := by omega
  have HN : Hid (¬ (mayC frm = false ∨ mayC dst = false ∨ seq = 0)) := by
    rw [mayC_yes (by omega) (by omega), mayC_yes (by omega) (by omega)]
    rintro (h | h | h)
    · cases h
    · cases h
    · omega
  by_cases h6 : 64 < n
  · go_enter Try.func113, Try.ntmps113
    go_wp2
    go_ret
    exact ⟨ret_int (by rw [HE.out, if_neg HN.out, if_pos (by rw [HL.out]; exact h6)]), hb⟩
  · go_enter Try.func113, Try.ntmps113
    go_wp2
    go_ret
    exact ⟨ret_int (by rw [HE.out, if_neg HN.out, if_neg (by rw [HL.out]; exact h6)]), hb⟩

theorem rlcheck_any {cover : Bool} {frm dst : Int} {seq : Nat} {a : Option Addr} {n cap : Nat} {text : List UInt8} {w : World} (hb : Bytes w a n cap text) :
    Calls Try.prog 113 #[.agg #[.bool cover, .int .i64 frm, .int .i64 dst, .int .u64 seq, .slice a n cap]] w fun e w' => e = .returned (.int .i64 (letE cover frm dst seq text)) ∧ Below w.heap.size w w' := by
  cases cover with
  | true => exact rlcheck_cover w hb.len hb.le_i64.1
  | false => exact rlcheck_plain w hb.len hb.le_i64.1

set_option maxRecDepth 100000 in
set_option maxHeartbeats 1600000 in
theorem rlput_plain {frm dst : Int} {seq : Nat} {a : Option Addr} {n cap : Nat} {text : List UInt8} {w : World} (hx : Bytes w a n cap text) (hs : seq < 18446744073709551616) (hE : letE false frm dst seq text = 0) :
    Calls Try.prog 102 #[.agg #[.bool false, .int .i64 frm, .int .i64 dst, .int .u64 seq, .slice a n cap]] w fun e w' => ∃ a' c', e = .returned (.tuple #[.slice a' (letL false frm dst seq text).length c', .int .i64 0]) ∧ FreshB 5 w w' a' (letL false frm dst seq text).length c' (letL false frm dst seq text) := by
  obtain ⟨i0, hi, hz0, hz1, hz2⟩ := info_parts info_u8
  obtain ⟨⟨f0, f8⟩, ⟨d0, d8⟩, _, h64⟩ := letE_plain hE
  obtain ⟨f, rfl⟩ := Int.eq_ofNat_of_zero_le f0
  obtain ⟨d, rfl⟩ := Int.eq_ofNat_of_zero_le d0
  obtain ⟨W0, hW0⟩ : ∃ W0, W0 = w.alloc (.cells #[.bool false, .int .i64 f, .int .i64 d, .int .u64 seq, .slice a n cap] 46) := ⟨_, rfl⟩
  have b0 : Below w.heap.size w W0 := by rw [hW0]; exact (Below.refl w.heap.size w).alloc (Nat.le_refl _) _
  have c0 : W0.cell? ⟨w.heap.size, 0, none⟩ = some (.bool false) := by rw [hW0]; exact cell_lastAt _ _ _ rfl rfl
  have c1 : W0.cell? ⟨w.heap.size, 1, none⟩ = some (.int .i64 f) := by rw [hW0]; exact cell_lastAt _ _ _ rfl rfl
  have c2 : W0.cell? ⟨w.heap.size, 2, none⟩ = some (.int .i64 d) := by rw [hW0]; exact cell_lastAt _ _ _ rfl rfl
  have c3 : W0.cell? ⟨w.heap.size, 3, none⟩ = some (.int .u64 seq) := by rw [hW0]; exact cell_lastAt _ _ _ rfl rfl
  have c4 : W0.cell? ⟨w.heap.size, 4, none⟩ = some (.slice a n cap) := by rw [hW0]; exact cell_lastAt _ _ _ rfl rfl
  have HC : Hid (∀ W, Below W0.heap.size W0 W → W.cell? ⟨w.heap.size, 0, none⟩ = some (.bool false) ∧ W.cell? ⟨w.heap.size, 1, none⟩ = some (.int .i64 f) ∧ W.cell? ⟨w.heap.size, 2, none⟩ = some (.int .i64 d) ∧ W.cell? ⟨w.heap.size, 3, none⟩ = some (.int .u64 seq) ∧ W.cell? ⟨w.heap.size, 4, none⟩ = some (.slice a n cap)) := fun W hW =>
    ⟨(hW.cell (World.block_lt_of_cell? _ _ c0)).trans c0, (hW.cell (World.block_lt_of_cell? _ _ c1)).trans c1, (hW.cell (World.block_lt_of_cell? _ _ c2)).trans c2, (hW.cell (World.block_lt_of_cell? _ _ c3)).trans c3, (hW.cell (World.block_lt_of_cell? _ _ c4)).trans c4⟩
  have HX : Hid (∀ W, Below W0.heap.size W0 W → Bytes W a n cap text) := fun W hW => (hx.keep b0).keep hW
  have K := @rlcheck_any false f d seq a n cap text _ (hx.keep b0)
  rw [hE] at K
  have hf2 : f < 65536 := by omega
  have hd2 : d < 65536 := by omega
  have HP1 : Hid (∀ W, Calls Try.prog 72 #[.int .i64 f, .int .i64 2] W fun e w' => ∃ a cap, e = .returned (.slice a 2 cap) ∧ FreshB 5 W w' a 2 cap (putL f 2)) := fun W => must_any f hf2 W
  have HP2 : Hid (∀ W, Calls Try.prog 72 #[.int .i64 d, .int .i64 2] W fun e w' => ∃ a cap, e = .returned (.slice a 2 cap) ∧ FreshB 5 W w' a 2 cap (putL d 2)) := fun W => must_any d hd2 W
  have P3 := fun W => rput_any seq 8 W hs
  rw [(put_eight seq hs).1, (put_eight seq hs).2] at P3
  have HP3 := Lib.hid P3
  have HP4 : Hid (∀ W, Below W0.heap.size W0 W → Calls Try.prog 31 #[.slice a n cap, .int .i64 64] W (RetBE 5 W (fillL text 64) 0)) := fun W hW => by
    have h := rfill_any 64 (HX.out W hW)
    rw [(fill_64 h64).1, (fill_64 h64).2] at h
    exact h
  have HLL : Hid ([1] ++ (putL f 2 ++ (putL d 2 ++ (putL seq 8 ++ fillL text 64))) = letL false f d seq text) := by show _ = _; rw [letL, if_neg (by decide)]; rfl
  have hlen := Lib.hid (letL_len (cover := false) (frm := f) (dst := d) (seq := seq) h64)
  have HL1 := Lib.hid (length_putL f 2)
  have HL2 := Lib.hid (length_putL d 2)
  have HL3 := Lib.hid (length_putL seq 8)
  have HL4 := Lib.hid (length_fillL text 64 h64)
  have HW0 := Lib.hid hW0
  clear P3 c0 c1 c2 c3 c4 hx hE hs hW0
  generalize putL f 2 = L1 at *
  generalize putL d 2 = L2 at *
  generalize putL seq 8 = L3 at *
  generalize fillL text 64 = L4 at *
  generalize letL false f d seq text = LL at *
  go_enter Try.func102, Try.ntmps102
  go_wp2_with fail
  rw [← HW0.out]
  refine K.mono ?_
  rintro e w1 ⟨rfl, b1⟩
  clear K
  obtain ⟨e0, e1, e2, e3, e4⟩ := HC.out w1 b1
  have hs1 := Lib.hid (below_then b0 b1)
  have he1 := fun o : Obj => cell_underAt (o := o) e1
  go_wp2_with fail
  refine (HP1.out _).mono ?_
  rintro e w2 ⟨a2, k2, rfl, h2⟩
  have ho2 := owns_keep (World.ownsRow_lit (base := w1.heap.size) (e := 5) (size := 1) w1 #[.int .u8 1] 1 (Nat.le_refl _) (by unfold maxLen; omega) rfl) h2.below
  have hb2 : Below w1.heap.size w1 w2 := ((Below.refl w1.heap.size w1).alloc (Nat.le_refl _) _).trans (h2.below.mono (by simp))
  have hz2' := hb2.size
  clear e0 e1 e2 e3 e4 he1
  go_wp2_with (at_builtin; refine wpList_append_row rfl (.tmp 18) (.tmp 21) 24 rfl w1.heap.size 5 i0 (.int .u8 0) 1 1 Try.underlying24 hi hz0 hz1 hz2 rfl (by decide) _ _ _ _ rfl ho2 _ _ _ _ rfl h2.bytes.cells (oneCell_bytes _) (by unfold maxLen; omega) (by omega) w1 hb2 hz2' ?_)
  intro a3 k3 w3 ho3 hb3
  have Ho3 := Lib.hid ho3
  have B3 := Lib.hid (below_then b1 hb3)
  have hb3' := Lib.hid hb3
  clear ho2 hb2 hz2' h2 ho3 hb3
  obtain ⟨e0, e1, e2, e3, e4⟩ := HC.out w3 B3.out
  go_wp2_with fail
  refine (HP2.out _).mono ?_
  rintro e w4 ⟨a4, k4, rfl, h4⟩
  have ho4 := owns_keep Ho3.out h4.below
  have hb4 : Below w1.heap.size w1 w4 := below_then hb3'.out h4.below
  have hz4' := hb4.size
  clear e0 e1 e2 e3 e4 Ho3
  go_wp2_with (at_builtin; refine wpList_append_row rfl (.tmp 23) (.tmp 26) 24 rfl w1.heap.size 5 i0 (.int .u8 0) 1 1 Try.underlying24 hi hz0 hz1 hz2 rfl (by decide) _ _ _ _ rfl ho4 _ _ _ _ rfl h4.bytes.cells (oneCell_bytes _) (by unfold maxLen; omega) (by omega) w1 hb4 hz4' ?_)
  intro a5 k5 w5 ho5 hb5
  have Ho5 := Lib.hid ho5
  have B5 := Lib.hid (below_then b1 hb5)
  have hb5' := Lib.hid hb5
  clear ho4 hb4 hz4' h4 ho5 hb5
  obtain ⟨e0, e1, e2, e3, e4⟩ := HC.out w5 B5.out
  go_wp2_with fail
  refine (HP3.out _).mono ?_
  rintro e w6 ⟨a6, k6, rfl, h6⟩
  have B6 := Lib.hid (below_then B5.out h6.below)
  have hb6' := Lib.hid (below_then hb5'.out h6.below)
  have Ho6 := Lib.hid (owns_keep Ho5.out h6.below)
  have y6 := Lib.hid h6.bytes
  clear e0 e1 e2 e3 e4 h6 Ho5
  obtain ⟨e0, e1, e2, e3, e4⟩ := HC.out w6 B6.out
  go_wp2_with fail
  refine (HP4.out _ B6.out).mono ?_
  rintro e w7 ⟨a7, k7, rfl, h7⟩
  have hb7 := below_then hb6'.out h7.below
  have hz7 := hb7.size
  have ho7 := owns_keep Ho6.out h7.below
  have z6 := y6.out.keep h7.below
  have z7 := Lib.hid h7.bytes
  rw [HL3.out] at z6 ⊢
  rw [HL4.out] at z7 ⊢
  have H7 := Lib.hid h7
  have Hlt : Hid (∀ g', (Value.slice a5 (1 + 2 + 2) k5).ownBlock = some g' → g' < w6.heap.size) := fun g' e => (Ho6.out.lt g' e).2
  clear e0 e1 e2 e3 e4 h7 Ho6 y6
  go_wp2_with (at_builtin; refine wpList_append_row2 rfl (.tmp 40) (.tmp 41) 24 rfl w1.heap.size 5 i0 (.int .u8 0) 1 1 Try.underlying24 hi hz0 hz1 hz2 rfl (by decide) _ _ _ _ rfl ho7 _ _ _ _ rfl z6.cells (oneCell_bytes _) (by unfold maxLen; omega) (by omega) w1 hb7 hz7 ?_)
  intro a8 k8 w8 ho8 hb8 hg8
  have hz8 := hb8.size
  have z8 := H7.out.grown hg8 Hlt.out
  rw [HL4.out] at z8
  clear z6 z7 ho7 hb7 hz7 H7 Hlt hg8
  go_wp2_with (at_builtin; refine wpList_append_row rfl (.tmp 42) (.tmp 43) 24 rfl w1.heap.size 5 i0 (.int .u8 0) 1 1 Try.underlying24 hi hz0 hz1 hz2 rfl (by decide) _ _ _ _ rfl ho8 _ _ _ _ rfl z8.cells (oneCell_bytes _) (by unfold maxLen; omega) (by omega) w1 hb8 hz8 ?_)
  intro a9 k9 w9 ho9 hb9
  go_wp2
  go_ret2
  have e1 : (Value.int IntKind.u8 1 :: (L1.map B ++ (L2.map B ++ (L3.map B ++ L4.map B)))) = LL.map B := by
    rw [← HLL.out]
    simp only [List.map_append]
    rfl
  rw [e1] at ho9
  obtain ⟨a', c', hv, hF⟩ := FreshB.of ho9 hb9
  cases hv
  rw [hlen.out]
  exact ⟨a9, k9, rfl, freshB_of hs1.out hF⟩

set_option maxRecDepth 100000 in
set_option maxHeartbeats 800000 in
theorem rlput_cover {a : Option Addr} {n cap : Nat} {w : World} (hx : Bytes w a n cap []) :
    Calls Try.prog 102 #[.agg #[.bool true, .int .i64 0, .int .i64 0, .int .u64 0, .slice a n cap]] w fun e w' => ∃ a' c', e = .returned (.tuple #[.slice a' 78 c', .int .i64 0]) ∧ FreshB 5 w w' a' 78 c' (List.replicate 78 0) := by
  obtain ⟨i0, hi, hz0, hz1, hz2⟩ := info_parts info_u8
  obtain ⟨W0, hW0⟩ : ∃ W0, W0 = w.alloc (.cells #[.bool true, .int .i64 0, .int .i64 0, .int .u64 0, .slice a n cap] 46) := ⟨_, rfl⟩
  have b0 : Below w.heap.size w W0 := by rw [hW0]; exact (Below.refl w.heap.size w).alloc (Nat.le_refl _) _
  have c0 : W0.cell? ⟨w.heap.size, 0, none⟩ = some (.bool true) := by rw [hW0]; exact cell_lastAt _ _ _ rfl rfl
  have HC : Hid (∀ W, Below W0.heap.size W0 W → W.cell? ⟨w.heap.size, 0, none⟩ = some (.bool true)) := fun W hW => (hW.cell (World.block_lt_of_cell? _ _ c0)).trans c0
  have K := @rlcheck_any true 0 0 0 a n cap [] _ (hx.keep b0)
  rw [show letE true 0 0 0 [] = 0 from rfl] at K
  have HK := Lib.hid K
  have HW0 := Lib.hid hW0
  clear hW0 K c0
  go_enter Try.func102, Try.ntmps102
  go_wp2_with fail
  rw [← HW0.out]
  refine HK.out.mono ?_
  rintro e w1 ⟨rfl, b1⟩
  have e0 := HC.out w1 b1
  have hs1 := below_then b0 b1
  go_wp2_with (at_make; refine wpList_make_full _ rfl _ _ 24 rfl w.heap.size 5 i0 (.int .u8 0) 1 Try.underlying24 hi hz0 hz1 _ _ _ _ 78 rfl rfl (by omega) (by omega) (by rw [hz2]; omega) (by unfold maxLen; omega) hs1.size ?_)
  intro w2 hown hg
  rw [toList_madeCells_one, ← map_rep0] at hown
  have hb2 : Below w.heap.size w w2 := hs1.grown hg hs1.size (fun k e => by cases e)
  have HO := Lib.hid hown
  have HB := Lib.hid hb2
  clear hown hg hb2
  go_wp2
  go_ret2
  obtain ⟨a', c', hv, hF⟩ := FreshB.of HO.out HB.out
  cases hv
  exact ⟨_, _, rfl, hF⟩

set_option maxRecDepth 100000 in
set_option maxHeartbeats 400000 in
theorem rlput_no {cover : Bool} {frm dst : Int} {seq : Nat} {a : Option Addr} {n cap : Nat} {text : List UInt8} {w : World} (hx : Bytes w a n cap text) (hE : letE cover frm dst seq text ≠ 0) :
    Calls Try.prog 102 #[.agg #[.bool cover, .int .i64 frm, .int .i64 dst, .int .u64 seq, .slice a n cap]] w fun e w' => e = .returned (.tuple #[.slice none 0 0, .int .i64 (letE cover frm dst seq text)]) ∧ Below w.heap.size w w' := by
  have b0 := (Below.refl w.heap.size w).alloc (Nat.le_refl _) (.cells #[.bool cover, .int .i64 frm, .int .i64 dst, .int .u64 seq, .slice a n cap] 46)
  have K := @rlcheck_any cover frm dst seq a n cap text _ (hx.keep b0)
  have hne : (letE cover frm dst seq text != 0) = true := by rw [bne_iff_ne]; exact hE
  clear hx hE
  generalize letE cover frm dst seq text = E at *
  go_enter Try.func102, Try.ntmps102
  go_wp2_with fail
  refine K.mono ?_
  rintro e w1 ⟨rfl, hb1⟩
  have hb := below_then b0 hb1
  clear K b0 hb1
  go_wp2
  go_ret2
  exact ⟨rfl, hb⟩

theorem rlput_any {cover : Bool} {frm dst : Int} {seq : Nat} {a : Option Addr} {n cap : Nat} {text : List UInt8} {w : World} (hx : Bytes w a n cap text) (hs : seq < 18446744073709551616) :
    Calls Try.prog 102 #[.agg #[.bool cover, .int .i64 frm, .int .i64 dst, .int .u64 seq, .slice a n cap]] w (RetBE 5 w (letR cover frm dst seq text) (letE cover frm dst seq text)) := by
  by_cases hE : letE cover frm dst seq text = 0
  · rw [letR, if_pos hE, hE]
    cases cover with
    | false => exact rlput_plain hx hs hE
    | true =>
      obtain ⟨rfl, rfl, rfl, rfl⟩ := letE_cover hE
      have e : letL true 0 0 0 [] = List.replicate 78 0 := by rw [letL, if_pos rfl]
      rw [e]
      refine (rlput_cover hx).mono ?_
      rintro e w' ⟨a', c', rfl, hF⟩
      refine ⟨a', c', ?_, ?_⟩
      · rw [List.length_replicate]
      · rw [List.length_replicate]; exact hF
  · refine (rlput_no hx hE).mono ?_
    rintro e w' ⟨rfl, hb⟩
    rw [letR, if_neg hE]
    exact ⟨none, 0, rfl, ⟨Bytes.nil _, World.ownsRow_nil _ _ _ _, hb⟩⟩

end Go.Proofs.Ytmkfpfnjimmmaaa
