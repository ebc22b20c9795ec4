/- The walk of letter.Put. -/
import Derived.Test.YtmkfpfnjimmmaaaLetB
import Derived.Test.YtmkfpfnjimmmaaaWordB
namespace Go.Proofs.Ytmkfpfnjimmmaaa
open Go.RowKit

theorem parts_lit (w : World) (xs : List (Option Addr × Nat × List UInt8)) (e : TypeId) {k n : Nat} (hk : k = w.heap.size) (hn : n = xs.length) (hm : n ≤ maxLen) (h : ∀ x ∈ xs, Bytes w x.1 x.2.2.length x.2.1 x.2.2) :
    Parts (w.alloc (.cells (xs.map fun x => Value.slice x.1 x.2.2.length x.2.1).toArray e)) (some ⟨k, 0, none⟩) n n (xs.map (·.2.2)) := by
  subst hk hn
  refine ⟨by simp, Nat.le_refl _, hm, fun h => (by cases h), fun i l hl => ⟨_, _, rfl, ?_⟩⟩
  rw [List.getElem?_map] at hl
  cases hx : xs[i]? with
  | none => rw [hx] at hl; cases hl
  | some x =>
    rw [hx] at hl
    obtain rfl : x.2.2 = l := by simpa using hl
    refine ⟨x.1, x.2.1, cell_lastAt _ _ _ rfl (by simp [hx]), (h x (List.mem_of_getElem? hx)).keep ((Below.refl _ _).alloc (Nat.le_refl _) _)⟩

def letL (cover : Bool) (frm dst : Int) (seq : Nat) (text : List UInt8) : List UInt8 :=
  if cover = true then List.replicate 78 0 else [1] ++ (putL frm.toNat 2 ++ (putL dst.toNat 2 ++ (putL seq 8 ++ fillL text 64)))
def letR (cover : Bool) (frm dst : Int) (seq : Nat) (text : List UInt8) : List UInt8 := if letE cover frm dst seq text = 0 then letL cover frm dst seq text else []

theorem mayC_true {n : Int} (h : mayC n = true) : 0 ≤ n ∧ n < 8 := by simpa [mayC] using h

theorem letE_plain {frm dst : Int} {seq : Nat} {text : List UInt8} (h : letE false frm dst seq text = 0) : (0 ≤ frm ∧ frm < 8) ∧ (0 ≤ dst ∧ dst < 8) ∧ seq ≠ 0 ∧ text.length ≤ 64 := by
  rw [letE, if_neg (by decide)] at h
  by_cases h1 : mayC frm = false ∨ mayC dst = false ∨ seq = 0
  · rw [if_pos h1] at h; cases h
  rw [if_neg h1] at h
  by_cases h2 : 64 < text.length
  · rw [if_pos h2] at h; cases h
  have a1 : mayC frm = true := by cases e : mayC frm with | true => rfl | false => exact absurd (.inl e) h1
  have a2 : mayC dst = true := by cases e : mayC dst with | true => rfl | false => exact absurd (.inr (.inl e)) h1
  exact ⟨mayC_true a1, mayC_true a2, fun e => h1 (.inr (.inr e)), by omega⟩

theorem letE_cover {frm dst : Int} {seq : Nat} {text : List UInt8} (h : letE true frm dst seq text = 0) : frm = 0 ∧ dst = 0 ∧ seq = 0 ∧ text = [] := by
  rw [letE, if_pos rfl] at h
  by_cases h1 : frm = 0 ∧ dst = 0 ∧ seq = 0 ∧ text.length = 0
  · exact ⟨h1.1, h1.2.1, h1.2.2.1, List.eq_nil_of_length_eq_zero h1.2.2.2⟩
  · rw [if_neg h1] at h; cases h

theorem letL_len {cover : Bool} {frm dst : Int} {seq : Nat} {text : List UInt8} (h : text.length ≤ 64) : (letL cover frm dst seq text).length = 78 := by
  cases cover with
  | true => rw [letL, if_pos rfl]; simp
  | false =>
    rw [letL, if_neg (by decide)]
    simp only [List.length_append, length_putL, length_fillL text 64 h, List.length_cons, List.length_nil]

theorem freshB_of {e : TypeId} {w w0 w1 : World} {a : Option Addr} {n cap : Nat} {l : List UInt8} (h0 : Below w.heap.size w w0) (h : FreshB e w0 w1 a n cap l) : FreshB e w w1 a n cap l :=
  ⟨h.bytes, owns_mono h.owns h0.size, below_then h0 h.below⟩

theorem put_eight (n : Nat) (hn : n < 18446744073709551616) : putR n 8 = putL n 8 ∧ putE n 8 = 0 := by
  have e : putE n 8 = 0 := by
    unfold putE
    rw [if_neg (by decide), if_pos (by simpa using hn)]
  exact ⟨putR_of_zero e, e⟩

theorem fill_64 {text : List UInt8} (h : text.length ≤ 64) : fillR text 64 = fillL text 64 ∧ fillE text 64 = 0 := by
  have e : fillE text 64 = 0 := by
    unfold fillE
    rw [if_neg (by decide), if_neg (by omega)]
  exact ⟨fillR_of_zero e, e⟩

set_option maxRecDepth 100000 in
set_option maxHeartbeats 1600000 in
theorem lput_plain {frm dst : Int} {seq : Nat} {a : Option Addr} {n cap : Nat} {text : List UInt8} {w : World} (hx : Bytes w a n cap text) (hs : seq < 18446744073709551616) (hE : letE false frm dst seq text = 0) :
    Calls Try.prog 43 #[.agg #[.bool false, .int .i64 frm, .int .i64 dst, .int .u64 seq, .slice a n cap]] w fun e w' => ∃ a' c', e = .returned (.tuple #[.slice a' (letL false frm dst seq text).length c', .int .i64 0]) ∧ FreshB 5 w w' a' (letL false frm dst seq text).length c' (letL false frm dst seq text) := by
  obtain ⟨⟨f0, f8⟩, ⟨d0, d8⟩, _, h64⟩ := letE_plain hE
  obtain ⟨f, rfl⟩ := Int.eq_ofNat_of_zero_le f0
  obtain ⟨d, rfl⟩ := Int.eq_ofNat_of_zero_le d0
  obtain ⟨W0, hW0⟩ : ∃ W0, W0 = w.alloc (.cells #[.bool false, .int .i64 f, .int .i64 d, .int .u64 seq, .slice a n cap] 46) := ⟨_, rfl⟩
  have b0 : Below w.heap.size w W0 := by rw [hW0]; exact (Below.refl w.heap.size w).alloc (Nat.le_refl _) _
  have c0 : W0.cell? ⟨w.heap.size, 0, none⟩ = some (.bool false) := by rw [hW0]; exact cell_lastAt _ _ _ rfl rfl
  have c1 : W0.cell? ⟨w.heap.size, 1, none⟩ = some (.int .i64 f) := by rw [hW0]; exact cell_lastAt _ _ _ rfl rfl
  have c2 : W0.cell? ⟨w.heap.size, 2, none⟩ = some (.int .i64 d) := by rw [hW0]; exact cell_lastAt _ _ _ rfl rfl
  have c3 : W0.cell? ⟨w.heap.size, 3, none⟩ = some (.int .u64 seq) := by rw [hW0]; exact cell_lastAt _ _ _ rfl rfl
  have c4 : W0.cell? ⟨w.heap.size, 4, none⟩ = some (.slice a n cap) := by rw [hW0]; exact cell_lastAt _ _ _ rfl rfl
  have HC : Hid (∀ W, Below W0.heap.size W0 W → W.cell? ⟨w.heap.size, 0, none⟩ = some (.bool false) ∧ W.cell? ⟨w.heap.size, 1, none⟩ = some (.int .i64 f) ∧ W.cell? ⟨w.heap.size, 2, none⟩ = some (.int .i64 d) ∧ W.cell? ⟨w.heap.size, 3, none⟩ = some (.int .u64 seq) ∧ W.cell? ⟨w.heap.size, 4, none⟩ = some (.slice a n cap)) := fun W hW =>
    ⟨(hW.cell (World.block_lt_of_cell? _ _ c0)).trans c0, (hW.cell (World.block_lt_of_cell? _ _ c1)).trans c1, (hW.cell (World.block_lt_of_cell? _ _ c2)).trans c2, (hW.cell (World.block_lt_of_cell? _ _ c3)).trans c3, (hW.cell (World.block_lt_of_cell? _ _ c4)).trans c4⟩
  have HX : Hid (∀ W, Below W0.heap.size W0 W → Bytes W a n cap text) := fun W hW => (hx.keep b0).keep hW
  have K := @lcheck_any false f d seq a n cap text _ (hx.keep b0)
  rw [hE] at K
  have P1 := fun W => put_any f 2 W (by omega)
  rw [(put_two f (by omega)).1, (put_two f (by omega)).2] at P1
  have P2 := fun W => put_any d 2 W (by omega)
  rw [(put_two d (by omega)).1, (put_two d (by omega)).2] at P2
  have P3 := fun W => put_any seq 8 W hs
  rw [(put_eight seq hs).1, (put_eight seq hs).2] at P3
  have HP1 := Lib.hid P1
  have HP2 := Lib.hid P2
  have HP3 := Lib.hid P3
  have HP4 : Hid (∀ W, Below W0.heap.size W0 W → Calls Try.prog 30 #[.slice a n cap, .int .i64 64] W (RetBE 5 W (fillL text 64) 0)) := fun W hW => by
    have h := fill_any 64 (HX.out W hW)
    rw [(fill_64 h64).1, (fill_64 h64).2] at h
    exact h
  have HLL : Hid ([1] ++ (putL f 2 ++ (putL d 2 ++ (putL seq 8 ++ fillL text 64))) = letL false f d seq text) := by show _ = _; rw [letL, if_neg (by decide)]; rfl
  have hlen := Lib.hid (letL_len (cover := false) (frm := f) (dst := d) (seq := seq) h64)
  have HL1 := Lib.hid (length_putL f 2)
  have HL2 := Lib.hid (length_putL d 2)
  have HL3 := Lib.hid (length_putL seq 8)
  have HL4 := Lib.hid (length_fillL text 64 h64)
  have HW0 := Lib.hid hW0
  clear P1 P2 P3 c0 c1 c2 c3 c4 hx hE hs hW0
  generalize putL f 2 = L1 at *
  generalize putL d 2 = L2 at *
  generalize putL seq 8 = L3 at *
  generalize fillL text 64 = L4 at *
  generalize letL false f d seq text = LL at *
  go_enter Try.func43, Try.ntmps43
  go_wp2_with fail
  rw [← HW0.out]
  refine K.mono ?_
  rintro e w1 ⟨rfl, b1⟩
  clear K
  obtain ⟨e0, e1, e2, e3, e4⟩ := HC.out w1 b1
  go_wp2_with fail
  refine (HP1.out _).mono ?_
  rintro e w2 ⟨a2, k2, rfl, h2⟩
  have B2 := below_then b1 h2.below
  clear e0 e1 e2 e3 e4
  obtain ⟨e0, e1, e2, e3, e4⟩ := HC.out w2 B2
  have y2 := Lib.hid h2.bytes
  clear h2
  go_wp2_with fail
  refine (HP2.out _).mono ?_
  rintro e w3 ⟨a3, k3, rfl, h3⟩
  have B3 := below_then B2 h3.below
  clear e0 e1 e2 e3 e4
  obtain ⟨e0, e1, e2, e3, e4⟩ := HC.out w3 B3
  have z2 := Lib.hid (y2.out.keep h3.below)
  have z3 := Lib.hid h3.bytes
  clear h3 y2
  go_wp2_with fail
  refine (HP3.out _).mono ?_
  rintro e w4 ⟨a4, k4, rfl, h4⟩
  have B4 := below_then B3 h4.below
  clear e0 e1 e2 e3 e4
  obtain ⟨e0, e1, e2, e3, e4⟩ := HC.out w4 B4
  have x2 := Lib.hid (z2.out.keep h4.below)
  have x3 := Lib.hid (z3.out.keep h4.below)
  have x4 := Lib.hid h4.bytes
  clear h4 z2 z3
  go_wp2_with fail
  refine (HP4.out _ B4).mono ?_
  rintro e w5 ⟨a5, k5, rfl, h5⟩
  have B5 := Lib.hid (below_then B4 h5.below)
  have u2 := Lib.hid (x2.out.keep h5.below)
  have u3 := Lib.hid (x3.out.keep h5.below)
  have u4 := Lib.hid (x4.out.keep h5.below)
  have u5 := Lib.hid h5.bytes
  clear h5 x2 x3 x4 e0 e1 e2 e3 e4 b1 B2 B3 B4
  go_wp2_with fail
  refine (or_zero (k := w5.heap.size) (fun i hi => ?_)).mono ?_
  · refine cell_lastAt _ _ _ rfl ?_
    match i, hi with
    | 0, _ => rfl
    | 1, _ => rfl
    | 2, _ => rfl
    | 3, _ => rfl
  rintro e w6 ⟨rfl, rfl⟩
  go_wp2_with fail
  have hb6 : Below w5.heap.size w5 ((w5.alloc (.cells #[.int .i64 0, .int .i64 0, .int .i64 0, .int .i64 0] 25)).alloc (.cells #[.int .u8 1] 5)) := ((Below.refl _ _).alloc (Nat.le_refl _) _).alloc (by simp) _
  have v1 := bytes_lit (w5.alloc (.cells #[.int .i64 0, .int .i64 0, .int .i64 0, .int .i64 0] 25)) [1] 5 1 (k := w5.heap.size + 1) (by simp) (by unfold maxLen; omega) rfl
  have hp := parts_lit ((w5.alloc (.cells #[.int .i64 0, .int .i64 0, .int .i64 0, .int .i64 0] 25)).alloc (.cells #[.int .u8 1] 5)) [(some ⟨w5.heap.size + 1, 0, none⟩, 1, [1]), (a2, k2, L1), (a3, k3, L2), (a4, k4, L3), (a5, k5, L4)] 24 (k := w5.heap.size + 1 + 1) (n := 5) (by simp) rfl (by unfold maxLen; omega) (by
    intro x hx
    simp only [List.mem_cons, List.not_mem_nil, or_false] at hx
    rcases hx with rfl | rfl | rfl | rfl | rfl
    · exact v1
    · exact u2.out.keep hb6
    · exact u3.out.keep hb6
    · exact u4.out.keep hb6
    · exact u5.out.keep hb6)
  have hf : (List.map (fun x : Option Addr × Nat × List UInt8 => x.2.2) [(some (⟨w5.heap.size + 1, 0, none⟩ : Addr), 1, [1]), (a2, k2, L1), (a3, k3, L2), (a4, k4, L3), (a5, k5, L4)]) = [[1], L1, L2, L3, L4] := rfl
  rw [hf] at hp
  have hff : ([[1], L1, L2, L3, L4] : List (List UInt8)).flatten = LL := by rw [← HLL.out]; simp
  have C := concat_any hp (by rw [← total_flatten, hff, hlen.out]; decide)
  rw [hff] at C
  have HB6 := Lib.hid hb6
  clear hff hf hp v1 hb6
  refine C.mono ?_
  rintro e w7 ⟨a7, k7, rfl, h7⟩
  clear C
  go_wp2
  go_ret2
  exact ⟨a7, k7, rfl, freshB_of ((below_then (below_then b0 B5.out) HB6.out).alloc (Nat.le_trans (below_then (below_then b0 B5.out) HB6.out).size (Nat.le_refl _)) _) h7⟩
end Go.Proofs.Ytmkfpfnjimmmaaa
