/- The walk of letter.Take. -/
import Derived.Test.YtmkfpfnjimmmaaaLtA
import Derived.Test.YtmkfpfnjimmmaaaLetN
import Derived.Test.YtmkfpfnjimmmaaaWordC
namespace Go.Proofs.Ytmkfpfnjimmmaaa
open Go.RowKit

def mayL (x : LetD) : Option LetD := if letE x.cover x.frm x.dst x.seq x.text = 0 then some x else none

/-- Bytes taken as a letter's body. -/
def takeLet (l : List UInt8) : Option LetD :=
  if l.length = 78 then
    if l.all (· == 0) = true then some ⟨true, 0, 0, 0, []⟩
    else if (l.headD 0).toNat = 1 then
      (if unfillE (l.drop 13) = 0 then mayL ⟨false, (val ((l.drop 1).take 2) : Nat), (val ((l.drop 3).take 2) : Nat), val ((l.drop 5).take 8), unfillR (l.drop 13)⟩ else none)
    else none
  else none

/-- What Take tells. -/
def TookL (w : World) (q : Option LetD) (e : Ending) (w' : World) : Prop :=
  match q with
  | none => e = .returned (.tuple #[.agg #[.bool false, .int .i64 0, .int .i64 0, .int .u64 0, .slice none 0 0], .int .i64 3]) ∧ Below w.heap.size w w'
  | some x => ∃ a n cap, e = .returned (.tuple #[.agg #[.bool x.cover, .int .i64 x.frm, .int .i64 x.dst, .int .u64 x.seq, .slice a n cap], .int .i64 0]) ∧ Bytes w' a n cap x.text ∧ (n ≠ 0 → w'.ownsRow w.heap.size 5 1 (.slice a n cap) n (x.text.map B)) ∧ x.seq < 18446744073709551616 ∧ Below w.heap.size w w'

theorem tookL_none {w : World} {q : Option LetD} (h : q = none) {e : Ending} {w' : World} (h' : e = .returned (.tuple #[.agg #[.bool false, .int .i64 0, .int .i64 0, .int .u64 0, .slice none 0 0], .int .i64 3]) ∧ Below w.heap.size w w') : TookL w q e w' := by
  subst h; exact h'

theorem val_lt_of {l : List UInt8} {k : Nat} (h : l.length = k) {m : Nat} (hm : 256 ^ k = m) : val l < m := by
  have := val_lt l
  rw [h, hm] at this
  exact this

theorem getN_of {l : List UInt8} {k : Nat} (h : l.length = k) (h1 : 1 ≤ k) (h8 : k ≤ 8) : getN l = val l ∧ getE l = 0 := by
  constructor
  · rw [getN, if_neg (by omega)]
  · rw [getE, if_neg (by omega)]

set_option maxRecDepth 100000 in
set_option maxHeartbeats 800000 in
theorem ltake_len {a : Option Addr} {n cap : Nat} (w : World) (h : n ≠ 78) : Calls Try.prog 66 #[.slice a n cap] w (TookL w none) := by
  have hne : ((n : Int) != 78) = true := by rw [bne_iff_ne]; omega
  go_enter Try.func66, Try.ntmps66
  go_wp2
  refine bodyPost_ret (v := .tuple #[.agg #[.bool false, .int .i64 0, .int .i64 0, .int .u64 0, .slice none 0 0], .int .i64 3]) (by simp [results, Try.results66, go_sem]) rfl ⟨rfl, ?_⟩
  exact (Below.refl _ _).alloc (Nat.le_refl _) _

set_option maxRecDepth 100000 in
set_option maxHeartbeats 3200000 in
theorem ltake_78 {a : Option Addr} {cap : Nat} {l : List UInt8} {w : World} (h : Bytes w a 78 cap l) : Calls Try.prog 66 #[.slice a 78 cap] w (TookL w (takeLet l)) := by
  have hl := h.len
  have hcap := h.le
  have hmx := h.le_i64
  obtain ⟨b, off, rfl, hcc⟩ := h.at (by intro e; rw [e] at hl; cases hl)
  obtain ⟨u0, lt, rfl⟩ : ∃ u0 lt, l = u0 :: lt := by
    cases l with
    | nil => cases hl
    | cons u0 lt => exact ⟨u0, lt, rfl⟩
  have hc0 : w.cell? ⟨b, off, none⟩ = some (.int .u8 (u0.toNat : Int)) := hcc 0 (by simp)
  have hbl : b < w.heap.size := World.block_lt_of_cell? _ _ hc0
  have hu8 : (u0.toNat : Int) < 256 := by have := u0.toNat_lt; omega
  obtain ⟨W1, hW1⟩ : ∃ W1, W1 = w.alloc (.cells #[.bool false, .int .i64 0, .int .i64 0, .int .u64 0, .slice none 0 0] 46) := ⟨_, rfl⟩
  have b0 : Below w.heap.size w W1 := by rw [hW1]; exact (Below.refl w.heap.size w).alloc (Nat.le_refl _) _
  have N0 : CellsAt W1 w.heap.size [.bool false, .int .i64 0, .int .i64 0, .int .u64 0, .slice none 0 0] := by rw [hW1]; exact CellsAt.new _ _ _ rfl
  have hc1 : W1.cell? ⟨b, off, none⟩ = some (.int .u8 (u0.toNat : Int)) := by rw [hW1]; exact cell_underAt hc0
  have HT : Hid (takeLet (u0 :: lt) = if (u0 :: lt).all (· == 0) = true then some ⟨true, 0, 0, 0, []⟩
    else if u0.toNat = 1 then
      (if unfillE ((u0 :: lt).drop 13) = 0 then mayL ⟨false, (val (((u0 :: lt).drop 1).take 2) : Nat), (val (((u0 :: lt).drop 3).take 2) : Nat), val (((u0 :: lt).drop 5).take 8), unfillR ((u0 :: lt).drop 13)⟩ else none)
    else none) := by
    show _ = _
    rw [takeLet, if_pos hl]
    rfl
  obtain ⟨L, hL⟩ : ∃ L, L = u0 :: lt := ⟨_, rfl⟩
  rw [← hL] at HT h hl ⊢
  have hW := h.keep b0
  have K0 := containsFunc_any hW
  -- the pieces
  have s1 : ∀ W, (Instr.slice 24 (.slice (some ⟨b, off, none⟩) 78 cap) (some (.int .i64 1)) (some (.int .i64 3)) none).run Try.prog W = .ok (.slice (subA (some ⟨b, off, none⟩) 1 cap) 2 (cap - 1)) W := fun W => run_slice_two (lo := 1) (hi := 3) Try.underlying24 size_u8 (by decide) (by omega) W
  have s2 : ∀ W, (Instr.slice 24 (.slice (some ⟨b, off, none⟩) 78 cap) (some (.int .i64 3)) (some (.int .i64 5)) none).run Try.prog W = .ok (.slice (subA (some ⟨b, off, none⟩) 3 cap) 2 (cap - 3)) W := fun W => run_slice_two (lo := 3) (hi := 5) Try.underlying24 size_u8 (by decide) (by omega) W
  have s3 : ∀ W, (Instr.slice 24 (.slice (some ⟨b, off, none⟩) 78 cap) (some (.int .i64 5)) (some (.int .i64 13)) none).run Try.prog W = .ok (.slice (subA (some ⟨b, off, none⟩) 5 cap) 8 (cap - 5)) W := fun W => run_slice_two (lo := 5) (hi := 13) Try.underlying24 size_u8 (by decide) (by omega) W
  have s4 : ∀ W, (Instr.slice 24 (.slice (some ⟨b, off, none⟩) 78 cap) (some (.int .i64 13)) none none).run Try.prog W = .ok (.slice (subA (some ⟨b, off, none⟩) 13 cap) 65 (cap - 13)) W := fun W => run_slice_from (m := 13) Try.underlying24 size_u8 (by decide) W
  have p1 := hW.piece (lo := 1) (hi := 3) (by decide) (by decide)
  have p2 := hW.piece (lo := 3) (hi := 5) (by decide) (by decide)
  have p3 := hW.piece (lo := 5) (hi := 13) (by decide) (by decide)
  have p4 := hW.drop (m := 13) (by decide)
  have G1 := get_any p1
  have G2 := get_any p2
  have G3 := get_any p3
  rw [(getN_of p1.len (by decide) (by decide)).1, (getN_of p1.len (by decide) (by decide)).2] at G1
  rw [(getN_of p2.len (by decide) (by decide)).1, (getN_of p2.len (by decide) (by decide)).2] at G2
  rw [(getN_of p3.len (by decide) (by decide)).1, (getN_of p3.len (by decide) (by decide)).2] at G3
  have G4 := unfill_any p4
  have v1 := val_lt_of p1.len (m := 65536) (by decide)
  have v2 := val_lt_of p2.len (m := 65536) (by decide)
  have v3 := val_lt_of p3.len (m := 18446744073709551616) (by decide)
  have hq : Hid (∀ V1 V2 V3 E T A, V1 = val ((L.drop 1).take 2) → V2 = val ((L.drop 3).take 2) → V3 = val ((L.drop 5).take 8) → E = unfillE (L.drop 13) → T = unfillR (L.drop 13) → A = L.all (· == 0) →
      takeLet L = if A = true then some ⟨true, 0, 0, 0, []⟩ else if u0.toNat = 1 then (if E = 0 then mayL ⟨false, (V1 : Nat), (V2 : Nat), V3, T⟩ else none) else none) := by
    rintro V1 V2 V3 E T A rfl rfl rfl rfl rfl rfl
    exact HT.out
  obtain ⟨V1, hV1⟩ : ∃ V, V = val ((L.drop 1).take 2) := ⟨_, rfl⟩
  obtain ⟨V2, hV2⟩ : ∃ V, V = val ((L.drop 3).take 2) := ⟨_, rfl⟩
  obtain ⟨V3, hV3⟩ : ∃ V, V = val ((L.drop 5).take 8) := ⟨_, rfl⟩
  obtain ⟨E, hE⟩ : ∃ E, E = unfillE (L.drop 13) := ⟨_, rfl⟩
  obtain ⟨T, hT⟩ : ∃ T, T = unfillR (L.drop 13) := ⟨_, rfl⟩
  obtain ⟨AZ, hA⟩ : ∃ A, A = L.all (· == 0) := ⟨_, rfl⟩
  have HQ := Lib.hid (hq.out V1 V2 V3 E T AZ hV1 hV2 hV3 hE hT hA)
  rw [← hV1] at G1 v1
  rw [← hV2] at G2 v2
  rw [← hV3] at G3 v3
  rw [← hE, ← hT] at G4
  rw [← hA] at K0
  obtain ⟨Q, hQ⟩ : ∃ Q, Q = takeLet L := ⟨_, rfl⟩
  rw [← hQ] at HQ ⊢
  have HK0 := Lib.hid K0
  have HG1 := Lib.hid G1
  have HG2 := Lib.hid G2
  have HG3 := Lib.hid G3
  have HG4 := Lib.hid G4
  have HW1 := Lib.hid hW1
  have Hv3 := Lib.hid v3
  clear hq HT hV1 hV2 hV3 hE hT hA hQ hL K0 G1 G2 G3 G4 p1 p2 p3 p4 hW h hl hcc hc0 hW1 v3
  generalize subA (some ⟨b, off, none⟩) 1 cap = A1 at *
  generalize subA (some ⟨b, off, none⟩) 3 cap = A2 at *
  generalize subA (some ⟨b, off, none⟩) 5 cap = A3 at *
  generalize subA (some ⟨b, off, none⟩) 13 cap = A4 at *
  obtain ⟨⟨d0, e0⟩, ⟨d1, e1⟩, ⟨d2, e2⟩, ⟨d3, e3⟩, ⟨d4, e4⟩⟩ := (⟨N0 0 _ rfl, N0 1 _ rfl, N0 2 _ rfl, N0 3 _ rfl, N0 4 _ rfl⟩ : _ ∧ _ ∧ _ ∧ _ ∧ _)
  have hHb : ¬ w.heap.size = b := by omega
  go_enter Try.func66, Try.ntmps66
  go_wp2_with fail
  rw [← HW1.out]
  refine HK0.out.mono ?_
  rintro e w1 ⟨rfl, rfl⟩
  cases AZ with
  | true =>
    have HQ2 : Hid (Q = some ⟨true, 0, 0, 0, []⟩) := by show _ = _; rw [HQ.out, if_pos rfl]
    clear HQ
    go_wp2
    refine bodyPost_ret (v := .tuple #[.agg #[.bool true, .int .i64 0, .int .i64 0, .int .u64 0, .slice none 0 0], .int .i64 0]) (by simp [results, Try.results66, go_sem, *]) rfl ?_
    rw [HQ2.out]
    refine ⟨none, 0, 0, rfl, Bytes.nil _, fun h => absurd rfl h, (by decide), ?_⟩
    exact ((((b0.setCell (Nat.le_refl _) _).setCell (Nat.le_refl _) _).setCell (Nat.le_refl _) _).setCell (Nat.le_refl _) _).setCell (Nat.le_refl _) _
  | false =>
    by_cases hu1 : u0.toNat = 1
    · have HQ2 : Hid (Q = if E = 0 then mayL ⟨false, (V1 : Nat), (V2 : Nat), V3, T⟩ else none) := by show _ = _; rw [HQ.out, if_neg (by decide), if_pos hu1]
      have hui : ((u0.toNat : Int) != 1) = false := by rw [hu1]; rfl
      clear HQ hu1
      go_wp2_with fail
      refine HG1.out.mono ?_
      rintro e w1 ⟨rfl, rfl⟩
      go_wp2_with fail
      refine HG2.out.mono ?_
      rintro e w1 ⟨rfl, rfl⟩
      go_wp2_with fail
      refine HG3.out.mono ?_
      rintro e w1 ⟨rfl, rfl⟩
      go_wp2_with fail
      refine HG4.out.mono ?_
      rintro e w4 ⟨a4, c4, rfl, h4⟩
      have N4 := N0.below h4.below
      have B4 := Lib.hid (below_then b0 h4.below)
      have hlt4 : w.heap.size < w4.heap.size := N4.lt
      have H4 := Lib.hid h4
      have Hlt1 := Lib.hid N0.lt
      clear d0 d1 d2 d3 d4 e0 e1 e2 e3 e4 HG1 HG2 HG3 HG4 HK0 s1 s2 s3 s4 h4 hc1
      go_wp2_with fail
      refine (or_last (k := w4.heap.size) E (fun i hi => ?_) (cell_lastAt _ _ _ rfl rfl)).mono ?_
      · refine cell_lastAt _ _ _ rfl ?_
        match i, hi with
        | 0, _ => rfl
        | 1, _ => rfl
        | 2, _ => rfl
      rintro e w5 ⟨rfl, rfl⟩
      have N5 := N4.below ((Below.refl _ _).alloc (Nat.le_refl _) (.cells #[.int .i64 0, .int .i64 0, .int .i64 0, .int .i64 E] 25))
      have B5 := Lib.hid (B4.out.alloc (Nat.le_of_lt hlt4) (.cells #[.int .i64 0, .int .i64 0, .int .i64 0, .int .i64 E] 25))
      obtain ⟨W5, hW5⟩ : ∃ W5, W5 = w4.alloc (.cells #[.int .i64 0, .int .i64 0, .int .i64 0, .int .i64 E] 25) := ⟨_, rfl⟩
      have hy5 : Bytes W5 a4 T.length c4 T := by rw [hW5]; exact H4.out.bytes.keep ((Below.refl _ _).alloc (Nat.le_refl _) _)
      have ho5 : W5.ownsRow W1.heap.size 5 1 (.slice a4 T.length c4) T.length (T.map B) := by rw [hW5]; exact H4.out.owns.alloc _
      rw [← hW5] at N5 B5 ⊢
      have Hy5 := Lib.hid hy5
      have Ho5 := Lib.hid ho5
      have hlt5 : w.heap.size < W5.heap.size := N5.lt
      clear N4 hlt4 H4 B4 hW5 hy5 ho5
      by_cases hE : E = 0
      · subst hE
        have HQ3 : Hid (Q = mayL ⟨false, (V1 : Nat), (V2 : Nat), V3, T⟩) := by show _ = _; rw [HQ2.out, if_pos rfl]
        obtain ⟨W6, hW6⟩ : ∃ W6, W6 = W5.alloc (.cells #[.bool false, .int .i64 V1, .int .i64 V2, .int .u64 V3, .slice a4 T.length c4] 46) := ⟨_, rfl⟩
        have N6 : CellsAt W6 w.heap.size [.bool false, .int .i64 0, .int .i64 0, .int .u64 0, .slice none 0 0] := by rw [hW6]; exact N5.below ((Below.refl _ _).alloc (Nat.le_refl _) _)
        have M6 : CellsAt W6 W5.heap.size [.bool false, .int .i64 V1, .int .i64 V2, .int .u64 V3, .slice a4 T.length c4] := by rw [hW6]; exact CellsAt.new _ _ _ rfl
        have B6 : Below w.heap.size w W6 := by rw [hW6]; exact B5.out.alloc (Nat.le_of_lt hlt5) _
        have y6 : Bytes W6 a4 T.length c4 T := by rw [hW6]; exact Hy5.out.keep ((Below.refl _ _).alloc (Nat.le_refl _) _)
        have o6 : W6.ownsRow W1.heap.size 5 1 (.slice a4 T.length c4) T.length (T.map B) := by rw [hW6]; exact Ho5.out.alloc _
        have C := @lcheck_any false (V1 : Int) (V2 : Int) V3 a4 T.length c4 T _ y6
        have HC := Lib.hid C
        have HW6 := Lib.hid hW6
        have BH6 := Lib.hid B6
        have O6 := Lib.hid o6
        have Y6 := Lib.hid y6
        obtain ⟨g, hg⟩ : ∃ g, g = W5.heap.size := ⟨_, rfl⟩
        have Hg := Lib.hid hg
        rw [← hg] at M6 hlt5
        clear HQ2 C hW6 B6 o6 y6 hg N5
        go_wp2_with fail
        rw [← HW6.out, ← Hg.out]
        refine HC.out.mono ?_
        rintro e w7 ⟨rfl, hb7⟩
        have N7 := N6.below hb7
        have M7 := M6.below hb7
        have B7 := Lib.hid (below_then BH6.out hb7)
        have Y7 := Lib.hid (Y6.out.keep hb7)
        have O7 := Lib.hid (owns_keep O6.out hb7)
        obtain ⟨⟨d0, e0⟩, ⟨d1, e1⟩, ⟨d2, e2⟩, ⟨d3, e3⟩, ⟨d4, e4⟩⟩ := (⟨N7 0 _ rfl, N7 1 _ rfl, N7 2 _ rfl, N7 3 _ rfl, N7 4 _ rfl⟩ : _ ∧ _ ∧ _ ∧ _ ∧ _)
        obtain ⟨⟨k0, f0⟩, ⟨k1, f1⟩, ⟨k2, f2⟩, ⟨k3, f3⟩, ⟨k4, f4⟩⟩ := (⟨M7 0 _ rfl, M7 1 _ rfl, M7 2 _ rfl, M7 3 _ rfl, M7 4 _ rfl⟩ : _ ∧ _ ∧ _ ∧ _ ∧ _)
        have hgH : ¬ w.heap.size = g := by omega
        clear HC hb7 N6 M6 O6 Y6 N7 M7
        by_cases hEl : letE false (V1 : Int) (V2 : Int) V3 T = 0
        · have HQ4 : Hid (Q = some ⟨false, (V1 : Nat), (V2 : Nat), V3, T⟩) := by show _ = _; rw [HQ3.out, mayL, if_pos hEl]
          rw [hEl]
          clear hEl HQ3
          obtain ⟨N, hN⟩ : ∃ N, N = T.length := ⟨_, rfl⟩
          rw [← hN] at O7 Y7 k4 ⊢
          clear hN
          go_wp2
          refine bodyPost_ret (v := .tuple #[.agg #[.bool false, .int .i64 V1, .int .i64 V2, .int .u64 V3, .slice a4 N c4], .int .i64 0]) (by simp [results, Try.results66, go_sem, *]) rfl ?_
          rw [HQ4.out]
          have hss : ∀ v0 v1 v2 v3 v4, Same (From W1.heap.size) w7 (((((w7.setCell ⟨w.heap.size, 0, none⟩ v0).setCell ⟨w.heap.size, 1, none⟩ v1).setCell ⟨w.heap.size, 2, none⟩ v2).setCell ⟨w.heap.size, 3, none⟩ v3).setCell ⟨w.heap.size, 4, none⟩ v4) := fun v0 v1 v2 v3 v4 b hb hlt => by
            have hne : b ≠ w.heap.size := by have := Hlt1.out; have h2 : W1.heap.size ≤ b := hb; omega
            rw [Below.heap_setCell _ _ _ _ hne, Below.heap_setCell _ _ _ _ hne, Below.heap_setCell _ _ _ _ hne, Below.heap_setCell _ _ _ _ hne, Below.heap_setCell _ _ _ _ hne]
          refine ⟨a4, N, c4, rfl, ?_, fun hn => ?_, Hv3.out, ?_⟩
          · refine Y7.out.same (U := From W1.heap.size) (fun hn x hx => ?_) (hss _ _ _ _ _)
            obtain ⟨g', hg', hge⟩ := owns_shape O7.out hn
            rw [hg'] at hx
            cases hx
            exact hge
          · have h1 := O7.out
            refine ⟨h1.1, ?_⟩
            rcases h1.2 with h2 | ⟨g', cp, cur, hv, hg', hh, r⟩
            · exact .inl h2
            · refine .inr ⟨g', cp, cur, hv, Nat.le_trans (Nat.le_of_lt Hlt1.out) hg', ?_, r⟩
              rw [hss _ _ _ _ _ g' hg' (Array.getElem?_eq_some_iff.1 hh).1]
              exact hh
          · exact ((((B7.out.setCell (Nat.le_refl _) _).setCell (Nat.le_refl _) _).setCell (Nat.le_refl _) _).setCell (Nat.le_refl _) _).setCell (Nat.le_refl _) _
        · have hEb : (letE false (V1 : Int) (V2 : Int) V3 T != 0) = true := by rw [bne_iff_ne]; exact hEl
          have HQ4 : Hid (Q = none) := by show _ = _; rw [HQ3.out, mayL, if_neg hEl]
          clear hEl HQ3
          generalize letE false (V1 : Int) (V2 : Int) V3 T = E2 at *
          go_wp2
          refine bodyPost_ret (v := .tuple #[.agg #[.bool false, .int .i64 0, .int .i64 0, .int .u64 0, .slice none 0 0], .int .i64 3]) (by simp [results, Try.results66, go_sem, *]) rfl ?_
          refine tookL_none HQ4.out ⟨rfl, ?_⟩
          exact ((((B7.out.setCell (Nat.le_refl _) _).setCell (Nat.le_refl _) _).setCell (Nat.le_refl _) _).setCell (Nat.le_refl _) _).setCell (Nat.le_refl _) _
      · have hEb : (E != 0) = true := by rw [bne_iff_ne]; exact hE
        have HQ3 : Hid (Q = none) := by show _ = _; rw [HQ2.out, if_neg hE]
        obtain ⟨⟨d0, e0⟩, ⟨d1, e1⟩, ⟨d2, e2⟩, ⟨d3, e3⟩, ⟨d4, e4⟩⟩ := (⟨N5 0 _ rfl, N5 1 _ rfl, N5 2 _ rfl, N5 3 _ rfl, N5 4 _ rfl⟩ : _ ∧ _ ∧ _ ∧ _ ∧ _)
        clear hE HQ2
        go_wp2
        refine bodyPost_ret (v := .tuple #[.agg #[.bool false, .int .i64 0, .int .i64 0, .int .u64 0, .slice none 0 0], .int .i64 3]) (by simp [results, Try.results66, go_sem, *]) rfl ?_
        refine tookL_none HQ3.out ⟨rfl, ?_⟩
        exact ((((B5.out.setCell (Nat.le_refl _) _).setCell (Nat.le_refl _) _).setCell (Nat.le_refl _) _).setCell (Nat.le_refl _) _).setCell (Nat.le_refl _) _
    · have hui : ((u0.toNat : Int) != 1) = true := by rw [bne_iff_ne]; omega
      have HQ2 : Hid (Q = none) := by show _ = _; rw [HQ.out, if_neg (by decide), if_neg hu1]
      clear HQ hu1
      go_wp2
      refine bodyPost_ret (v := .tuple #[.agg #[.bool false, .int .i64 0, .int .i64 0, .int .u64 0, .slice none 0 0], .int .i64 3]) (by simp [results, Try.results66, go_sem, *]) rfl ?_
      refine tookL_none HQ2.out ⟨rfl, ?_⟩
      exact ((((b0.setCell (Nat.le_refl _) _).setCell (Nat.le_refl _) _).setCell (Nat.le_refl _) _).setCell (Nat.le_refl _) _).setCell (Nat.le_refl _) _

theorem ltake_any {a : Option Addr} {n cap : Nat} {l : List UInt8} {w : World} (h : Bytes w a n cap l) : Calls Try.prog 66 #[.slice a n cap] w (TookL w (takeLet l)) := by
  by_cases hn : n = 78
  · subst hn
    exact ltake_78 h
  · have e : takeLet l = none := by rw [takeLet, if_neg (by rw [h.len]; exact hn)]
    rw [e]
    exact ltake_len w hn
end Go.Proofs.Ytmkfpfnjimmmaaa
