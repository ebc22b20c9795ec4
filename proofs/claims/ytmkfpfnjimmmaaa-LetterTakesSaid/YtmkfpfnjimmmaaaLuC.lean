/- The walk of the reference of letter.Take where the first byte is a 1. -/
import Derived.Test.YtmkfpfnjimmmaaaLuB
namespace Go.Proofs.Ytmkfpfnjimmmaaa
open Go.RowKit
attribute [local go_sem ↓] Go.wp_at_zero Go.wp_at_succ

set_option maxRecDepth 100000 in
set_option maxHeartbeats 3200000 in
theorem rltake_one {a : Option Addr} {cap : Nat} {l : List UInt8} {w : World} (h : Bytes w a 78 cap l) (h1 : (l.headD 0).toNat = 1) : Calls Try.prog 67 #[.slice a 78 cap] w (TookR w (takeLet l)) := by
  have hl := h.len
  obtain ⟨b, off, rfl, hcc⟩ := h.at (by intro e; rw [e] at hl; cases hl)
  have hbl : b < w.heap.size := World.block_lt_of_cell? _ _ (hcc 0 (by omega))
  have hcap := h.le
  have hc0 : w.cell? ⟨b, off, none⟩ = some (.int .u8 1) := by
    have := hcc 0 (by omega)
    rw [show l[0]'(by omega) = 1 by cases l with | nil => cases hl | cons u t => exact UInt8.toNat_inj.1 h1] at this
    exact this
  obtain ⟨x1, q1, r1, z1, _⟩ := cell_get hcc 1 (by omega)
  obtain ⟨x2, q2, r2, z2, _⟩ := cell_get hcc 2 (by omega)
  obtain ⟨x3, q3, r3, z3, _⟩ := cell_get hcc 3 (by omega)
  obtain ⟨x4, q4, r4, z4, _⟩ := cell_get hcc 4 (by omega)
  have v1 := val_two q1 q2
  have v2 := val_two q3 q4
  obtain ⟨W1, hW1⟩ : ∃ W1, W1 = w.alloc (.cells #[.bool false, .int .i64 0, .int .i64 0, .int .u64 0, .slice none 0 0] 46) := ⟨_, rfl⟩
  obtain ⟨W2, hW2⟩ : ∃ W2, W2 = W1.alloc (.cells #[.bool true, .int .i64 0, .int .i64 0, .int .u64 0, .slice none 0 0] 46) := ⟨_, rfl⟩
  have hs1 : W1.heap.size = w.heap.size + 1 := by rw [hW1]; simp
  have hs2 : W2.heap.size = w.heap.size + 1 + 1 := by rw [hW2]; simp [hs1]
  have b1 : Below w.heap.size w W1 := by rw [hW1]; exact (Below.refl w.heap.size w).alloc (Nat.le_refl _) _
  have b2 : Below w.heap.size w W2 := by rw [hW2]; exact b1.alloc b1.size _
  have N2 : CellsAt W2 w.heap.size [.bool false, .int .i64 0, .int .i64 0, .int .u64 0, .slice none 0 0] := by
    rw [hW2]; exact CellsAt.below (by rw [hW1]; exact CellsAt.new _ _ _ rfl) ((Below.refl _ _).alloc (Nat.le_refl _) _)
  have M2 : CellsAt W2 (w.heap.size + 1) [.bool true, .int .i64 0, .int .i64 0, .int .u64 0, .slice none 0 0] := by
    rw [hW2]; exact CellsAt.new _ _ _ hs1.symm
  have hW : W2 = (w.alloc (.cells #[.bool false, .int .i64 0, .int .i64 0, .int .u64 0, .slice none 0 0] 46)).alloc (.cells #[.bool true, .int .i64 0, .int .i64 0, .int .u64 0, .slice none 0 0] 46) := by rw [hW2, hW1]
  have HWW := Lib.hid hW
  have HB : Hid (∀ W, Below w.heap.size w W → Bytes W (some ⟨b, off, none⟩) 78 cap l) := fun W hW => h.keep hW
  have s3 : ∀ W, (Instr.slice 24 (.slice (some ⟨b, off, none⟩) 78 cap) (some (.int .i64 5)) (some (.int .i64 13)) none).run Try.prog W = .ok (.slice (subA (some ⟨b, off, none⟩) 5 cap) 8 (cap - 5)) W := fun W => run_slice_two (lo := 5) (hi := 13) Try.underlying24 size_u8 (by decide) (by omega) W
  have s4 : ∀ W, (Instr.slice 24 (.slice (some ⟨b, off, none⟩) 78 cap) (some (.int .i64 13)) none none).run Try.prog W = .ok (.slice (subA (some ⟨b, off, none⟩) 13 cap) 65 (cap - 13)) W := fun W => run_slice_from (m := 13) Try.underlying24 size_u8 (by decide) W
  have G3 : Hid (∀ W, Below w.heap.size w W → Calls Try.prog 29 #[.slice (subA (some ⟨b, off, none⟩) 5 cap) 8 (cap - 5)] W fun e w' => e = .returned (.tuple #[.int .u64 (val ((l.drop 5).take 8) : Nat), .int .i64 0]) ∧ W = w') := fun W hW => by
    have p3 := (h.keep hW).piece (lo := 5) (hi := 13) (by decide) (by decide)
    have G := rget_any p3
    rw [(getN_of p3.len (by decide) (by decide)).1, (getN_of p3.len (by decide) (by decide)).2] at G
    exact G
  have G4 : Hid (∀ W, Below w.heap.size w W → Calls Try.prog 33 #[.slice (subA (some ⟨b, off, none⟩) 13 cap) 65 (cap - 13)] W (RetBE 5 W (unfillR (l.drop 13)) (unfillE (l.drop 13)))) := fun W hW =>
    runfill_any ((h.keep hW).drop (m := 13) (by decide))
  have v3 := val_lt_of (h.piece (lo := 5) (hi := 13) (by decide) (by decide)).len (m := 18446744073709551616) (by decide)
  obtain ⟨V1, hV1⟩ : ∃ V, V = val ((l.drop 1).take 2) := ⟨_, rfl⟩
  obtain ⟨V2, hV2⟩ : ∃ V, V = val ((l.drop 3).take 2) := ⟨_, rfl⟩
  obtain ⟨V3, hV3⟩ : ∃ V, V = val ((l.drop 5).take 8) := ⟨_, rfl⟩
  obtain ⟨E, hE⟩ : ∃ E, E = unfillE (l.drop 13) := ⟨_, rfl⟩
  obtain ⟨T, hT⟩ : ∃ T, T = unfillR (l.drop 13) := ⟨_, rfl⟩
  have HQ := Lib.hid (takeLet_one hl h1 hV1 hV2 hV3 hE hT)
  have HInv : Hid (∀ x, takeLet l = some x → letL x.cover x.frm x.dst x.seq x.text = l) := fun x hx => (takeLet_inv hx).2
  rw [← hV1] at v1
  rw [← hV2] at v2
  rw [← hV3] at G3 v3
  rw [← hE, ← hT] at G4
  obtain ⟨Q, hQ⟩ : ∃ Q, Q = takeLet l := ⟨_, rfl⟩
  rw [← hQ] at HQ HInv ⊢
  have w1 : IntKind.i64.wrap ((x1.toNat : Int) * 256) = (x1.toNat : Int) * 256 := by rw [IntKind.wrap_i64]; omega
  have w2 : IntKind.i64.wrap ((x3.toNat : Int) * 256) = (x3.toNat : Int) * 256 := by rw [IntKind.wrap_i64]; omega
  have w3 : IntKind.i64.wrap ((x1.toNat : Int) * 256 + (x2.toNat : Int)) = (V1 : Int) := by rw [IntKind.wrap_i64, v1]; omega
  have w4 : IntKind.i64.wrap ((x3.toNat : Int) * 256 + (x4.toNat : Int)) = (V2 : Int) := by rw [IntKind.wrap_i64, v2]; omega
  have w5 : IntKind.i64.wrap (x1.toNat : Int) = (x1.toNat : Int) := by rw [IntKind.wrap_i64]; omega
  have w6 : IntKind.i64.wrap (x2.toNat : Int) = (x2.toNat : Int) := by rw [IntKind.wrap_i64]; omega
  have w7 : IntKind.i64.wrap (x3.toNat : Int) = (x3.toNat : Int) := by rw [IntKind.wrap_i64]; omega
  have w8 : IntKind.i64.wrap (x4.toNat : Int) = (x4.toNat : Int) := by rw [IntKind.wrap_i64]; omega
  have k1 : W2.cell? ⟨b, off + 1, none⟩ = some (.int .u8 (x1.toNat : Int)) := (b2.cell (p := ⟨b, off + 1, none⟩) hbl).trans r1
  have k2 : W2.cell? ⟨b, off + 2, none⟩ = some (.int .u8 (x2.toNat : Int)) := (b2.cell (p := ⟨b, off + 2, none⟩) hbl).trans r2
  have k3 : W2.cell? ⟨b, off + 3, none⟩ = some (.int .u8 (x3.toNat : Int)) := (b2.cell (p := ⟨b, off + 3, none⟩) hbl).trans r3
  have k4 : W2.cell? ⟨b, off + 4, none⟩ = some (.int .u8 (x4.toNat : Int)) := (b2.cell (p := ⟨b, off + 4, none⟩) hbl).trans r4
  have k0 : ∀ o1 o2 : Obj, ((w.alloc o1).alloc o2).cell? ⟨b, off, none⟩ = some (.int .u8 1) := fun o1 o2 => cell_underAt (cell_underAt hc0)
  have Hv3 := Lib.hid v3
  have b2' := Lib.hid b2
  have Hs2 := Lib.hid hs2
  have hx10 : (0 : Int) ≤ (x1.toNat : Int) := by omega
  clear hcc h hW hW1 hW2 hQ b1 hs1 hs2 h1 hl v1 v2 v3 hV1 hV2 hV3 hE hT q1 q2 q3 q4 r1 r2 r3 r4 hc0 b2
  generalize (x1.toNat : Int) = y1 at *
  generalize (x2.toNat : Int) = y2 at *
  generalize (x3.toNat : Int) = y3 at *
  generalize (x4.toNat : Int) = y4 at *
  generalize subA (some ⟨b, off, none⟩) 5 cap = A3 at *
  generalize subA (some ⟨b, off, none⟩) 13 cap = A4 at *
  go_enter Try.func67, Try.ntmps67
  go_wp2_with fail
  rw [← HWW.out]
  obtain ⟨⟨m0, f0⟩, ⟨m1, f1⟩, ⟨m2, f2⟩, ⟨m3, f3⟩, ⟨m4, f4⟩⟩ := (⟨M2 0 _ rfl, M2 1 _ rfl, M2 2 _ rfl, M2 3 _ rfl, M2 4 _ rfl⟩ : _ ∧ _ ∧ _ ∧ _ ∧ _)
  have hgb : ¬ w.heap.size + 1 = b := by omega
  go_region_held3 (fun W => W.cell? ⟨b, off + 1, none⟩ = some (.int .u8 y1) ∧ W.cell? ⟨b, off + 2, none⟩ = some (.int .u8 y2) ∧ W.cell? ⟨b, off + 3, none⟩ = some (.int .u8 y3) ∧ W.cell? ⟨b, off + 4, none⟩ = some (.int .u8 y4)) (go_keep) (fail)
  obtain ⟨g, hg⟩ : ∃ g, g = w.heap.size + 1 := ⟨_, rfl⟩
  rw [← hg] at M2 ⊢
  obtain ⟨W3, hW3⟩ : ∃ W3, W3 = (((((W2.setCell ⟨g, 0, none⟩ (.bool false)).setCell ⟨g, 1, none⟩ (.int .i64 V1)).setCell ⟨g, 2, none⟩ (.int .i64 V2)).setCell ⟨g, 3, none⟩ (.int .u64 0)).setCell ⟨g, 4, none⟩ (.slice none 0 0)).drew := ⟨_, rfl⟩
  rw [← hW3]
  have M3 : CellsAt W3 g [.bool false, .int .i64 V1, .int .i64 V2, .int .u64 0, .slice none 0 0] := by
    rw [hW3]
    exact (((((M2.set (k := 0) (by simp) (.bool false)).set (k := 1) (by simp) (.int .i64 V1)).set (k := 2) (by simp) (.int .i64 V2)).set (k := 3) (by simp) (.int .u64 0)).set (k := 4) (by simp) (.slice none 0 0)).keep rfl
  have N3 : CellsAt W3 w.heap.size [.bool false, .int .i64 0, .int .i64 0, .int .u64 0, .slice none 0 0] := by
    rw [hW3]
    have hn : ∀ i, (⟨g, i, none⟩ : Addr).block ≠ w.heap.size := fun i => by show g ≠ _; omega
    exact (((((N2.far _ _ (hn 0)).far _ _ (hn 1)).far _ _ (hn 2)).far _ _ (hn 3)).far _ _ (hn 4)).keep rfl
  have b3 : Below w.heap.size w W3 := by
    rw [hW3]
    have hn : ∀ i, w.heap.size ≤ (⟨g, i, none⟩ : Addr).block := fun i => by show _ ≤ g; omega
    exact (((((b2'.out.setCell (hn 0) _).setCell (hn 1) _).setCell (hn 2) _).setCell (hn 3) _).setCell (hn 4) _).drew
  have hgl : w.heap.size < g := by omega
  clear w1 w2 w3 w4 w5 w6 w7 w8 k0 k1 k2 k3 k4 m0 m1 m2 m3 m4 f0 f1 f2 f3 f4 hW3 M2 N2 hg
  have c3 := Lib.hid b3
  obtain ⟨⟨m0, f0⟩, ⟨m1, f1⟩, ⟨m2, f2⟩, ⟨m3, f3⟩, ⟨m4, f4⟩⟩ := (⟨M3 0 _ rfl, M3 1 _ rfl, M3 2 _ rfl, M3 3 _ rfl, M3 4 _ rfl⟩ : _ ∧ _ ∧ _ ∧ _ ∧ _)
  clear b3
  go_wp2_with fail
  refine (G3.out _ c3.out).mono ?_
  rintro e w4 ⟨rfl, rfl⟩
  have M4 : CellsAt (W3.setCell ⟨g, 3, none⟩ (.int .u64 V3)) g [.bool false, .int .i64 V1, .int .i64 V2, .int .u64 V3, .slice none 0 0] := M3.set (k := 3) (by simp) _
  have N4 : CellsAt (W3.setCell ⟨g, 3, none⟩ (.int .u64 V3)) w.heap.size [.bool false, .int .i64 0, .int .i64 0, .int .u64 0, .slice none 0 0] := N3.far _ _ (by show g ≠ _; omega)
  have b4 : Below w.heap.size w (W3.setCell ⟨g, 3, none⟩ (.int .u64 V3)) := c3.out.setCell (by show _ ≤ g; omega) _
  have U4 := G4.out _ b4
  have HU4 := Lib.hid U4
  have b4' := Lib.hid b4
  clear U4 b4 G3 G4
  go_wp2_with fail
  refine HU4.out.mono ?_
  rintro e w5 ⟨a5, c5, rfl, h5⟩
  have M5 := M4.below h5.below
  have N5 := N4.below h5.below
  have b5 := Lib.hid (below_then b4'.out h5.below)
  have hgs := M4.lt
  clear m0 m1 m2 m3 m4 f0 f1 f2 f3 f4 HU4 M3 N3 M4 N4
  obtain ⟨⟨m0, f0⟩, ⟨m1, f1⟩, ⟨m2, f2⟩, ⟨m3, f3⟩, ⟨m4, f4⟩⟩ := (⟨M5 0 _ rfl, M5 1 _ rfl, M5 2 _ rfl, M5 3 _ rfl, M5 4 _ rfl⟩ : _ ∧ _ ∧ _ ∧ _ ∧ _)
  obtain ⟨⟨d0, e0⟩, ⟨d1, e1⟩, ⟨d2, e2⟩, ⟨d3, e3⟩, ⟨d4, e4⟩⟩ := (⟨N5 0 _ rfl, N5 1 _ rfl, N5 2 _ rfl, N5 3 _ rfl, N5 4 _ rfl⟩ : _ ∧ _ ∧ _ ∧ _ ∧ _)
  have hgH : ¬ w.heap.size = g := by omega
  by_cases hE : E = 0
  · subst hE
    rw [if_pos rfl] at HQ
    obtain ⟨N, hN⟩ : ∃ N, N = T.length := ⟨_, rfl⟩
    rw [← hN] at h5 ⊢
    have M6 : CellsAt (w5.setCell ⟨g, 4, none⟩ (.slice a5 N c5)) g [.bool false, .int .i64 V1, .int .i64 V2, .int .u64 V3, .slice a5 N c5] := M5.set (k := 4) (by simp) _
    have N6 : CellsAt (w5.setCell ⟨g, 4, none⟩ (.slice a5 N c5)) w.heap.size [.bool false, .int .i64 0, .int .i64 0, .int .u64 0, .slice none 0 0] := N5.far _ _ (by show g ≠ _; omega)
    have b6 : Below w.heap.size w (w5.setCell ⟨g, 4, none⟩ (.slice a5 N c5)) := b5.out.setCell (by show _ ≤ g; omega) _
    have hyIn : In (From (g + 1)) a5 N := fun hn x hx => by
      obtain ⟨g', hg', hge⟩ := owns_shape h5.owns hn
      rw [hg'] at hx
      cases hx
      exact Nat.le_trans hgs hge
    have y6 : Bytes (w5.setCell ⟨g, 4, none⟩ (.slice a5 N c5)) a5 N c5 T := h5.bytes.same hyIn (Same.setCell _ _ (by show ¬ (g + 1 ≤ g); omega))
    have P := rlput_any (cover := false) (frm := (V1 : Int)) (dst := (V2 : Int)) (seq := V3) y6 Hv3.out
    obtain ⟨E2, hE2⟩ : ∃ E2, E2 = letE false (V1 : Int) (V2 : Int) V3 T := ⟨_, rfl⟩
    obtain ⟨R, hR⟩ : ∃ R, R = letR false (V1 : Int) (V2 : Int) V3 T := ⟨_, rfl⟩
    rw [← hE2, ← hR] at P
    have HP := Lib.hid P
    have HQ3 : Hid (E2 = 0 → Q = some ⟨false, (V1 : Nat), (V2 : Nat), V3, T⟩ ∧ R = l) := fun h0 => by
      have hq : Q = some ⟨false, (V1 : Nat), (V2 : Nat), V3, T⟩ := by
        rw [HQ.out, mayL]
        exact if_pos (by rw [← h0, hE2])
      refine ⟨hq, ?_⟩
      have h4 := HInv.out _ hq
      rw [hR, letR, if_pos (by rw [← hE2]; exact h0)]
      exact h4
    have HQ4 : Hid (E2 ≠ 0 → Q = none) := fun h0 => by
      rw [HQ.out, mayL]
      exact if_neg (by rw [hE2] at h0; exact h0)
    have y6' := Lib.hid y6
    have b6' := Lib.hid b6
    have Hin := Lib.hid hyIn
    clear P hE2 hR y6 b6 hyIn HQ HInv h5 hN M5 N5
    go_wp2_with fail
    refine HP.out.mono ?_
    rintro e w7 ⟨a7, c7, rfl, h7⟩
    have M7 := M6.below h7.below
    have N7 := N6.below h7.below
    have b7 := Lib.hid (below_then b6'.out h7.below)
    have y7 := Lib.hid (y6'.out.keep h7.below)
    have z7 := Lib.hid h7.bytes
    clear m0 m1 m2 m3 m4 f0 f1 f2 f3 f4 d0 d1 d2 d3 d4 e0 e1 e2 e3 e4 HP M6 N6 h7
    obtain ⟨⟨m0, f0⟩, ⟨m1, f1⟩, ⟨m2, f2⟩, ⟨m3, f3⟩, ⟨m4, f4⟩⟩ := (⟨M7 0 _ rfl, M7 1 _ rfl, M7 2 _ rfl, M7 3 _ rfl, M7 4 _ rfl⟩ : _ ∧ _ ∧ _ ∧ _ ∧ _)
    obtain ⟨⟨d0, e0⟩, ⟨d1, e1⟩, ⟨d2, e2⟩, ⟨d3, e3⟩, ⟨d4, e4⟩⟩ := (⟨N7 0 _ rfl, N7 1 _ rfl, N7 2 _ rfl, N7 3 _ rfl, N7 4 _ rfl⟩ : _ ∧ _ ∧ _ ∧ _ ∧ _)
    by_cases hE2 : E2 = 0
    · subst hE2
      obtain ⟨hq, hRl⟩ := HQ3.out rfl
      have S := same_any z7.out (HB.out _ b7.out)
      rw [show (R == l) = true by rw [hRl]; exact beq_self_eq_true _] at S
      have HS := Lib.hid S
      have HQ5 := Lib.hid hq
      clear S hq hRl HQ3 HQ4
      generalize R.length = NR at *
      go_wp2_with fail
      refine HS.out.mono ?_
      rintro e w8 ⟨rfl, rfl⟩
      go_wp2
      refine bodyPost_ret (v := .tuple #[.agg #[.bool false, .int .i64 V1, .int .i64 V2, .int .u64 V3, .slice a5 N c5], .int .i64 0]) (by simp [results, Try.results67, go_sem, *]) rfl ?_
      rw [HQ5.out]
      refine ⟨a5, N, c5, rfl, ?_, ((((b7.out.setCell (Nat.le_refl _) _).setCell (Nat.le_refl _) _).setCell (Nat.le_refl _) _).setCell (Nat.le_refl _) _).setCell (Nat.le_refl _) _⟩
      refine y7.out.same Hin.out ?_
      intro b' hb' _
      have hne : b' ≠ w.heap.size := by have h2 : g + 1 ≤ b' := hb'; omega
      rw [Below.heap_setCell _ _ _ _ hne, Below.heap_setCell _ _ _ _ hne, Below.heap_setCell _ _ _ _ hne, Below.heap_setCell _ _ _ _ hne, Below.heap_setCell _ _ _ _ hne]
    · have hEb : (E2 != 0) = true := by rw [bne_iff_ne]; exact hE2
      have HQ5 := Lib.hid (HQ4.out hE2)
      clear hE2 HQ3 HQ4
      go_wp2
      refine bodyPost_ret (v := .tuple #[.agg #[.bool false, .int .i64 0, .int .i64 0, .int .u64 0, .slice none 0 0], .int .i64 3]) (by simp [results, Try.results67, go_sem, *]) rfl ?_
      exact tookR_none HQ5.out ⟨rfl, ((((b7.out.setCell (Nat.le_refl _) _).setCell (Nat.le_refl _) _).setCell (Nat.le_refl _) _).setCell (Nat.le_refl _) _).setCell (Nat.le_refl _) _⟩
  · have hEb : (E != 0) = true := by rw [bne_iff_ne]; exact hE
    have HQ2 : Hid (Q = none) := by show _ = _; rw [HQ.out, if_neg hE]
    clear hE HQ
    go_wp2
    refine bodyPost_ret (v := .tuple #[.agg #[.bool false, .int .i64 0, .int .i64 0, .int .u64 0, .slice none 0 0], .int .i64 3]) (by simp [results, Try.results67, go_sem, *]) rfl ?_
    exact tookR_none HQ2.out ⟨rfl, ((((b5.out.setCell (Nat.le_refl _) _).setCell (Nat.le_refl _) _).setCell (Nat.le_refl _) _).setCell (Nat.le_refl _) _).setCell (Nat.le_refl _) _⟩

theorem rltake_any {a : Option Addr} {n cap : Nat} {l : List UInt8} {w : World} (h : Bytes w a n cap l) : Calls Try.prog 67 #[.slice a n cap] w (TookR w (takeLet l)) := by
  by_cases hn : n = 78
  · subst hn
    by_cases h1 : (l.headD 0).toNat = 1
    · exact rltake_one h h1
    · exact rltake_not h h1
  · have e : takeLet l = none := by rw [takeLet, if_neg (by rw [h.len]; exact hn)]
    rw [e]
    exact rltake_len w hn
end Go.Proofs.Ytmkfpfnjimmmaaa
