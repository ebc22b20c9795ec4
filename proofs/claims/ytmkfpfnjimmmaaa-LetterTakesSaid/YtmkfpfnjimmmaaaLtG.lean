/- The walks of LetterCuts and LetterBack. -/
import Derived.Test.YtmkfpfnjimmmaaaLtF
import Derived.Deep.DeepCutAuto
namespace Go.Proofs.Ytmkfpfnjimmmaaa
open Go.RowKit

set_option maxRecDepth 100000 in
set_option maxHeartbeats 1600000 in
theorem rlsame_any {cover : Bool} {frm dst : Int} {seq : Nat} {text : List UInt8} {cover' : Bool} {frm' dst' : Int} {seq' : Nat} {text' : List UInt8} {a a' : Option Addr} {n n' cap cap' : Nat} {w : World} (hx : Bytes w a n cap text) (hy : Bytes w a' n' cap' text') :
    Calls Try.prog 62 #[.agg #[.bool cover, .int .i64 frm, .int .i64 dst, .int .u64 seq, .slice a n cap], .agg #[.bool cover', .int .i64 frm', .int .i64 dst', .int .u64 seq', .slice a' n' cap']] w fun e w' => e = .returned (.bool (sameL cover frm dst seq text cover' frm' dst' seq' text')) ∧ Below w.heap.size w w' := by
  have b0 := (Below.refl w.heap.size w).alloc (Nat.le_refl _) (.cells #[.bool cover, .int .i64 frm, .int .i64 dst, .int .u64 seq, .slice a n cap] 46)
  have b1 := b0.alloc b0.size (.cells #[.bool cover', .int .i64 frm', .int .i64 dst', .int .u64 seq', .slice a' n' cap'] 46)
  have K := same_any (hx.keep b1) (hy.keep b1)
  have HR : Hid (sameL cover frm dst seq text cover' frm' dst' seq' text' = (cover == cover' && frm == frm' && dst == dst' && (seq : Int) == (seq' : Int) && text == text')) := rfl
  clear hx hy
  rw [HR.out]
  cases h1 : (cover == cover') with
  | false =>
    rw [Bool.false_and, Bool.false_and, Bool.false_and, Bool.false_and]
    go_enter Try.func62, Try.ntmps62
    go_wp2
    go_ret
    exact ⟨rfl, b1⟩
  | true =>
    rw [Bool.true_and]
    cases h2 : (frm == frm') with
    | false =>
      rw [Bool.false_and, Bool.false_and, Bool.false_and]
      go_enter Try.func62, Try.ntmps62
      go_wp2
      go_ret
      exact ⟨rfl, b1⟩
    | true =>
      rw [Bool.true_and]
      cases h3 : (dst == dst') with
      | false =>
        rw [Bool.false_and, Bool.false_and]
        go_enter Try.func62, Try.ntmps62
        go_wp2
        go_ret
        exact ⟨rfl, b1⟩
      | true =>
        rw [Bool.true_and]
        cases h4 : ((seq : Int) == (seq' : Int)) with
        | false =>
          have h4' : ¬ seq = seq' := by intro e; subst e; simp at h4
          rw [Bool.false_and]
          go_enter Try.func62, Try.ntmps62
          go_wp2
          go_ret
          exact ⟨rfl, b1⟩
        | true =>
          obtain rfl : seq = seq' := by have := beq_iff_eq.1 h4; omega
          rw [Bool.true_and]
          clear h4
          generalize (text == text') = r at *
          go_enter Try.func62, Try.ntmps62
          go_wp2_with fail
          refine K.mono ?_
          rintro e w1 ⟨rfl, rfl⟩
          go_wp2
          go_ret
          exact ⟨rfl, b1⟩


theorem sameL_refl (x : LetD) : sameL x.cover x.frm x.dst x.seq x.text x.cover x.frm x.dst x.seq x.text = true := by simp [sameL]

set_option maxRecDepth 100000 in
set_option maxHeartbeats 3200000 in
theorem letterCuts_walk {w : World} {v : Value} {x : LetD} {ba : Option Addr} {bn bc : Nat} {l : List UInt8} {k : Int} (hv : AsAgg rLet w v x) (hb : Bytes w ba bn bc l) :
    Calls Try.prog 22 #[v, .slice ba bn bc, .int .i64 k] w fun e w' => e = .returned (.bool true) ∧ Below w.heap.size w w' := by
  obtain ⟨cover, frm, dst, seq, text⟩ := x
  obtain ⟨cs, rfl, a, n, cap, rfl, hx, _, _, hs, _⟩ := hv
  dsimp only at hx hs ⊢
  show Calls _ _ #[.agg #[.bool cover, .int .i64 frm, .int .i64 dst, .int .u64 seq, .slice a n cap], .slice ba bn bc, .int .i64 k] _ _
  obtain ⟨W0, hW0⟩ : ∃ W0, W0 = w.alloc (.cells #[.bool cover, .int .i64 frm, .int .i64 dst, .int .u64 seq, .slice a n cap] 46) := ⟨_, rfl⟩
  have b0 : Below w.heap.size w W0 := by rw [hW0]; exact (Below.refl w.heap.size w).alloc (Nat.le_refl _) _
  have c0 : W0.cell? ⟨w.heap.size, 0, none⟩ = some (.bool cover) := by rw [hW0]; exact cell_lastAt _ _ _ rfl rfl
  have c1 : W0.cell? ⟨w.heap.size, 1, none⟩ = some (.int .i64 frm) := by rw [hW0]; exact cell_lastAt _ _ _ rfl rfl
  have c2 : W0.cell? ⟨w.heap.size, 2, none⟩ = some (.int .i64 dst) := by rw [hW0]; exact cell_lastAt _ _ _ rfl rfl
  have c3 : W0.cell? ⟨w.heap.size, 3, none⟩ = some (.int .u64 seq) := by rw [hW0]; exact cell_lastAt _ _ _ rfl rfl
  have c4 : W0.cell? ⟨w.heap.size, 4, none⟩ = some (.slice a n cap) := by rw [hW0]; exact cell_lastAt _ _ _ rfl rfl
  have HC : Hid (∀ W, Below W0.heap.size W0 W → W.cell? ⟨w.heap.size, 0, none⟩ = some (.bool cover) ∧ W.cell? ⟨w.heap.size, 1, none⟩ = some (.int .i64 frm) ∧ W.cell? ⟨w.heap.size, 2, none⟩ = some (.int .i64 dst) ∧ W.cell? ⟨w.heap.size, 3, none⟩ = some (.int .u64 seq) ∧ W.cell? ⟨w.heap.size, 4, none⟩ = some (.slice a n cap)) := fun W hW =>
    ⟨(hW.cell (World.block_lt_of_cell? _ _ c0)).trans c0, (hW.cell (World.block_lt_of_cell? _ _ c1)).trans c1, (hW.cell (World.block_lt_of_cell? _ _ c2)).trans c2, (hW.cell (World.block_lt_of_cell? _ _ c3)).trans c3, (hW.cell (World.block_lt_of_cell? _ _ c4)).trans c4⟩
  have HX : Hid (∀ W, Below W0.heap.size W0 W → Bytes W a n cap text) := fun W hW => (hx.keep b0).keep hW
  have HB : Hid (∀ W, Below W0.heap.size W0 W → Bytes W ba bn bc l) := fun W hW => (hb.keep b0).keep hW
  have hbx := hb.le_i64
  have hbl := Lib.hid hb.len
  have hmx := hx.le_i64
  have hlen := Lib.hid hx.len
  have HW0 := Lib.hid hW0
  have b0' := Lib.hid b0
  clear c0 c1 c2 c3 c4 hx hW0 hb b0
  go_enter Try.func22, Try.ntmps22
  go_wp2_with fail
  rw [← HW0.out]
  refine (live10 _).mono ?_
  rintro e w1 ⟨rfl, b1⟩
  obtain ⟨c0, c1, c2, c3, c4⟩ := HC.out w1 b1
  by_cases h300 : 300 < n
  · go_wp2
    go_ret
    exact ⟨rfl, below_then b0'.out b1⟩
  by_cases h301 : 300 < bn
  · go_wp2
    go_ret
    exact ⟨rfl, below_then b0'.out b1⟩
  have b1' := Lib.hid b1
  clear b1
  go_upto_if 26 with fail
  go_cut [] (fun wx => Hid (Below W0.heap.size W0 wx))
  case first =>
    by_cases h78 : bn = 78
    · subst h78
      go_wp2_with fail
      go_meet
      exact b1'
    · have hne : ((bn : Int) != 78) = true := by rw [bne_iff_ne]; omega
      have T := ltake_any (HB.out _ b1'.out)
      rw [takeLet_len (by rw [hbl.out]; exact h78)] at T
      have HT := Lib.hid T
      clear T h78
      go_wp2_with fail
      refine HT.out.mono ?_
      rintro e w2 ⟨rfl, hb2⟩
      have B2 : Hid (Below W0.heap.size W0 (w2.alloc (.cells #[.bool false, .int .i64 0, .int .i64 0, .int .u64 0, .slice none 0 0] 46))) := (below_then b1'.out hb2).alloc (below_then b1'.out hb2).size _
      clear hb2 HT
      go_wp2_with fail
      go_meet
      exact B2
  case rest =>
    clear c0 c1 c2 c3 c4
    obtain ⟨c0, c1, c2, c3, c4⟩ := HC.out wc hcut.out
    have K := lput_any (cover := cover) (frm := frm) (dst := dst) (seq := seq) (HX.out _ hcut.out) hs
    obtain ⟨R, hR⟩ : ∃ R, R = letR cover frm dst seq text := ⟨_, rfl⟩
    obtain ⟨E, hE⟩ : ∃ E, E = letE cover frm dst seq text := ⟨_, rfl⟩
    rw [← hR, ← hE] at K
    have HRL : Hid (E = 0 → R.length = 78) := fun h => by
      rw [hE] at h
      rw [hR, letR, if_pos h]
      exact bytes_78 (x := ⟨cover, frm, dst, seq, text⟩) h
    have HSet : Hid (E = 0 → cover = false → ∀ j, 14 + n ≤ j → j < 78 → takeLet (R.set j 7) = none) := fun h hc j h1 h2 => by
      rw [hE] at h
      rw [hR, letR, if_pos h]
      exact takeLet_set (x := ⟨cover, frm, dst, seq, text⟩) h hc (by dsimp only; rw [hlen.out]; exact h1) h2
    have HK := Lib.hid K
    clear K hR hE
    go_wp2_with fail
    refine HK.out.mono ?_
    rintro e w3 ⟨a3, cap3, rfl, h3⟩
    have B3 := Lib.hid (below_then hcut.out h3.below)
    clear c0 c1 c2 c3 c4
    obtain ⟨c0, c1, c2, c3, c4⟩ := HC.out w3 B3.out
    have H3 := Lib.hid h3
    have hwc := Lib.hid (hcut.out.size)
    clear h3 HK
    by_cases hE0 : E = 0
    · subst hE0
      have h78 := HRL.out rfl
      rw [h78]
      rw [h78] at H3
      clear h78
      cases cover with
      | true =>
        go_wp2
        go_ret
        exact ⟨rfl, below_then b0'.out B3.out⟩
      | false =>
        by_cases hk1 : k < 14 + (n : Int)
        · go_wp2
          go_ret
          exact ⟨rfl, below_then b0'.out B3.out⟩
        by_cases hk2 : 78 ≤ k
        · go_wp2
          go_ret
          exact ⟨rfl, below_then b0'.out B3.out⟩
        obtain ⟨j, rfl⟩ := Int.eq_ofNat_of_zero_le (show 0 ≤ k by omega)
        have hset := Lib.hid (HSet.out rfl rfl j (by omega) (by omega))
        obtain ⟨g, rfl, hge⟩ := owns_shape H3.out.owns (by decide)
        have hc := H3.out.owns.cellAt j (by omega)
        have hf := H3.out.owns.frozenAt j
        have hst := (H3.out.owns.stored j (.int .u8 7)).1
        rw [show (R.map B).set j (.int .u8 7) = (R.set j 7).map B by rw [List.map_set]; rfl] at hst
        have hb4 : Below wc.heap.size wc (w3.setCell ⟨g, j, none⟩ (.int .u8 7)) := H3.out.below.setCell hge _
        obtain ⟨a', c', hv, hF⟩ := FreshB.of hst hb4
        cases hv
        obtain ⟨u, hu⟩ : ∃ u, w3.cell? ⟨g, j, none⟩ = some u := by
          rw [hc]
          exact ⟨_, List.getElem?_eq_getElem (by rw [List.length_map, H3.out.bytes.len]; omega)⟩
        have T := ltake_any hF.bytes
        rw [hset.out] at T
        have HT := Lib.hid T
        have B4 := Lib.hid (below_then (below_then b0'.out hcut.out) hb4)
        have hj78 : (j : Int) < 78 := by omega
        have hcap3 := H3.out.bytes.le
        clear hc hst hF T hb4 hset HSet HRL
        go_wp2_with fail
        refine HT.out.mono ?_
        rintro e w5 ⟨rfl, hb5⟩
        have B5 := Lib.hid (below_then B4.out hb5)
        clear hb5 HT
        go_wp2
        go_ret
        exact ⟨rfl, B5.out.alloc B5.out.size _⟩
    · have hne : (E != 0) = true := by rw [bne_iff_ne]; exact hE0
      clear hE0 HSet HRL
      go_wp2
      go_ret
      exact ⟨rfl, below_then b0'.out B3.out⟩

set_option maxRecDepth 100000 in
set_option maxHeartbeats 3200000 in
theorem letterBack_walk {w : World} {v : Value} {x : LetD} {ba : Option Addr} {bn bc : Nat} {l : List UInt8} (hv : AsAgg rLet w v x) (hb : Bytes w ba bn bc l) :
    Calls Try.prog 23 #[v, .slice ba bn bc] w fun e w' => e = .returned (.bool true) ∧ Below w.heap.size w w' := by
  obtain ⟨cover, frm, dst, seq, text⟩ := x
  obtain ⟨cs, rfl, a, n, cap, rfl, hx, _, _, hs, _⟩ := hv
  dsimp only at hx hs ⊢
  show Calls _ _ #[.agg #[.bool cover, .int .i64 frm, .int .i64 dst, .int .u64 seq, .slice a n cap], .slice ba bn bc] _ _
  obtain ⟨W0, hW0⟩ : ∃ W0, W0 = w.alloc (.cells #[.bool cover, .int .i64 frm, .int .i64 dst, .int .u64 seq, .slice a n cap] 46) := ⟨_, rfl⟩
  have b0 : Below w.heap.size w W0 := by rw [hW0]; exact (Below.refl w.heap.size w).alloc (Nat.le_refl _) _
  have c0 : W0.cell? ⟨w.heap.size, 0, none⟩ = some (.bool cover) := by rw [hW0]; exact cell_lastAt _ _ _ rfl rfl
  have c1 : W0.cell? ⟨w.heap.size, 1, none⟩ = some (.int .i64 frm) := by rw [hW0]; exact cell_lastAt _ _ _ rfl rfl
  have c2 : W0.cell? ⟨w.heap.size, 2, none⟩ = some (.int .i64 dst) := by rw [hW0]; exact cell_lastAt _ _ _ rfl rfl
  have c3 : W0.cell? ⟨w.heap.size, 3, none⟩ = some (.int .u64 seq) := by rw [hW0]; exact cell_lastAt _ _ _ rfl rfl
  have c4 : W0.cell? ⟨w.heap.size, 4, none⟩ = some (.slice a n cap) := by rw [hW0]; exact cell_lastAt _ _ _ rfl rfl
  have HC : Hid (∀ W, Below W0.heap.size W0 W → W.cell? ⟨w.heap.size, 0, none⟩ = some (.bool cover) ∧ W.cell? ⟨w.heap.size, 1, none⟩ = some (.int .i64 frm) ∧ W.cell? ⟨w.heap.size, 2, none⟩ = some (.int .i64 dst) ∧ W.cell? ⟨w.heap.size, 3, none⟩ = some (.int .u64 seq) ∧ W.cell? ⟨w.heap.size, 4, none⟩ = some (.slice a n cap)) := fun W hW =>
    ⟨(hW.cell (World.block_lt_of_cell? _ _ c0)).trans c0, (hW.cell (World.block_lt_of_cell? _ _ c1)).trans c1, (hW.cell (World.block_lt_of_cell? _ _ c2)).trans c2, (hW.cell (World.block_lt_of_cell? _ _ c3)).trans c3, (hW.cell (World.block_lt_of_cell? _ _ c4)).trans c4⟩
  have HX : Hid (∀ W, Below W0.heap.size W0 W → Bytes W a n cap text) := fun W hW => (hx.keep b0).keep hW
  have HB : Hid (∀ W, Below W0.heap.size W0 W → Bytes W ba bn bc l) := fun W hW => (hb.keep b0).keep hW
  have hbx := hb.le_i64
  have hmx := hx.le_i64
  have HW0 := Lib.hid hW0
  have b0' := Lib.hid b0
  clear c0 c1 c2 c3 c4 hx hW0 hb b0
  go_enter Try.func23, Try.ntmps23
  go_wp2_with fail
  rw [← HW0.out]
  refine (live10 _).mono ?_
  rintro e w1 ⟨rfl, b1⟩
  obtain ⟨c0, c1, c2, c3, c4⟩ := HC.out w1 b1
  by_cases h300 : 300 < n
  · go_wp2
    go_ret
    exact ⟨rfl, below_then b0'.out b1⟩
  by_cases h301 : 300 < bn
  · go_wp2
    go_ret
    exact ⟨rfl, below_then b0'.out b1⟩
  have K := lput_any (cover := cover) (frm := frm) (dst := dst) (seq := seq) (HX.out _ b1) hs
  obtain ⟨R, hR⟩ : ∃ R, R = letR cover frm dst seq text := ⟨_, rfl⟩
  obtain ⟨E, hE⟩ : ∃ E, E = letE cover frm dst seq text := ⟨_, rfl⟩
  rw [← hR, ← hE] at K
  have HRE : Hid (E = 0 → takeLet R = some ⟨cover, frm, dst, seq, text⟩ ∧ R.length = 78) := fun h => by
    rw [hE] at h
    rw [hR, letR, if_pos h]
    have hb : letL cover frm dst seq text = (⟨cover, frm, dst, seq, text⟩ : LetD).bytes := rfl
    rw [hb]
    exact ⟨takeLet_put (x := ⟨cover, frm, dst, seq, text⟩) h hs, bytes_78 (x := ⟨cover, frm, dst, seq, text⟩) h⟩
  have HRN : Hid (E ≠ 0 → R = []) := fun h => by rw [hR, letR, if_neg (by rw [← hE]; exact h)]
  have HCk : Hid (∀ W, Below W0.heap.size W0 W → Calls Try.prog 68 #[.agg #[.bool cover, .int .i64 frm, .int .i64 dst, .int .u64 seq, .slice a n cap]] W fun e w' => e = .returned (.int .i64 E) ∧ Below W.heap.size W w') := fun W hW => by
    rw [hE]; exact lcheck_any (HX.out _ hW)
  have HK := Lib.hid K
  clear K hR hE
  go_wp2_with fail
  refine HK.out.mono ?_
  rintro e w3 ⟨a3, cap3, rfl, h3⟩
  have B3 := Lib.hid (below_then b1 h3.below)
  have y3 := Lib.hid h3.bytes
  obtain ⟨N, hN⟩ : ∃ N, N = R.length := ⟨_, rfl⟩
  have HN : Hid (E = 0 → N = 78) := fun h => by rw [hN]; exact (HRE.out h).2
  have HN0 : Hid (R = [] → N = 0) := fun h => by rw [hN, h]; rfl
  rw [← hN] at y3 ⊢
  clear h3 c0 c1 c2 c3 c4 b1 HK hN
  go_upto_if 30 with fail
  go_cut [] (fun wx => Hid (Below W0.heap.size W0 wx))
  case first =>
    by_cases hE0 : E = 0
    · subst hE0
      have T := ltake_any y3.out
      rw [(HRE.out rfl).1] at T
      obtain rfl : N = 78 := HN.out rfl
      have HT := Lib.hid T
      clear T HRN HRE HCk
      go_wp2_with fail
      refine HT.out.mono ?_
      rintro e w4 ⟨a4, n4, c4', rfl, y4, _, _, hb4⟩
      have B4 := below_then B3.out hb4
      have B5 := B4.alloc B4.size (.cells #[.bool cover, .int .i64 frm, .int .i64 dst, .int .u64 seq, .slice a4 n4 c4'] 46)
      have K := lsame_any (cover := cover) (frm := frm) (dst := dst) (seq := seq) (cover' := cover) (frm' := frm) (dst' := dst) (seq' := seq) (HX.out _ B5) (y4.keep ((Below.refl _ _).alloc (Nat.le_refl _) (.cells #[.bool cover, .int .i64 frm, .int .i64 dst, .int .u64 seq, .slice a4 n4 c4'] 46)))
      rw [sameL_refl ⟨cover, frm, dst, seq, text⟩] at K
      obtain ⟨c0, c1, c2, c3, c4⟩ := HC.out _ B5
      have HK := Lib.hid K
      have HB5 := Lib.hid B5
      clear K y4 hb4 B4 B5 HT
      go_wp2_with fail
      refine HK.out.mono ?_
      rintro e w5 ⟨rfl, hb5⟩
      have B6 := Lib.hid (below_then HB5.out hb5)
      clear hb5
      go_wp2_with fail
      go_meet
      exact B6
    · have hne : (E == 0) = false := by rw [beq_eq_false_iff_ne]; exact hE0
      obtain rfl : N = 0 := HN0.out (HRN.out hE0)
      obtain ⟨c0, c1, c2, c3, c4⟩ := HC.out _ B3.out
      clear HRE HRN
      go_wp2_with fail
      refine (HCk.out _ B3.out).mono ?_
      rintro e w4 ⟨rfl, hb4⟩
      have B4 := Lib.hid (below_then B3.out hb4)
      clear hb4
      go_wp2_with fail
      go_meet
      exact B4
  case rest =>
    have T := ltake_any (HB.out _ hcut.out)
    clear HRE HRN HCk y3
    cases hq : takeLet l with
    | none =>
      rw [hq] at T
      have HT := Lib.hid T
      clear T hq
      go_wp2_with fail
      refine HT.out.mono ?_
      rintro e w4 ⟨rfl, hb4⟩
      have B4 := below_then hcut.out hb4
      have B5 := B4.alloc B4.size (.cells #[.bool false, .int .i64 0, .int .i64 0, .int .u64 0, .slice none 0 0] 46)
      have K := rlsame_any (cover := false) (frm := 0) (dst := 0) (seq := 0) (cover' := false) (frm' := 0) (dst' := 0) (seq' := 0) (Bytes.nil (w4.alloc (.cells #[.bool false, .int .i64 0, .int .i64 0, .int .u64 0, .slice none 0 0] 46))) (Bytes.nil (w4.alloc (.cells #[.bool false, .int .i64 0, .int .i64 0, .int .u64 0, .slice none 0 0] 46)))
      rw [show sameL false 0 0 0 [] false 0 0 0 [] = true from rfl] at K
      have HK := Lib.hid K
      have HB5 := Lib.hid B5
      clear K hb4 B4 B5 HT
      go_wp2_with fail
      refine HK.out.mono ?_
      rintro e w5 ⟨rfl, hb5⟩
      have B6 := Lib.hid (below_then HB5.out hb5)
      clear hb5
      go_wp2
      go_ret
      exact ⟨rfl, below_then b0'.out B6.out⟩
    | some y =>
      obtain ⟨cover', frm', dst', seq', text'⟩ := y
      obtain ⟨he, hby⟩ := takeLet_inv hq
      have hnb : letL cover' frm' dst' seq' text' = (⟨cover', frm', dst', seq', text'⟩ : LetD).bytes := rfl
      have hE : letE cover' frm' dst' seq' text' = 0 := he
      have hR : letR cover' frm' dst' seq' text' = l := by rw [letR, if_pos hE, hnb]; exact hby
      rw [hq] at T
      have HT := Lib.hid T
      have HR := Lib.hid hR
      have HE := Lib.hid hE
      clear T hq he hby hR hE hnb
      go_wp2_with fail
      refine HT.out.mono ?_
      rintro e w4 ⟨a4, n4, c4, rfl, y4, _, hs4, hb4⟩
      dsimp only at y4 hs4
      have B4 := below_then hcut.out hb4
      have B5 := B4.alloc B4.size (.cells #[.bool cover', .int .i64 frm', .int .i64 dst', .int .u64 seq', .slice a4 n4 c4] 46)
      have K := lput_any (cover := cover') (frm := frm') (dst := dst') (seq := seq') (y4.keep ((Below.refl _ _).alloc (Nat.le_refl _) (.cells #[.bool cover', .int .i64 frm', .int .i64 dst', .int .u64 seq', .slice a4 n4 c4] 46))) hs4
      rw [HR.out, HE.out] at K
      have HK := Lib.hid K
      have HB5 := Lib.hid B5
      clear K y4 hb4 B4 B5 HT HR HE hs4
      dsimp only
      go_wp2_with fail
      refine HK.out.mono ?_
      rintro e w5 ⟨a5, c5, rfl, h5⟩
      have B6 := Lib.hid (below_then HB5.out h5.below)
      have K2 := same_any h5.bytes (HB.out _ B6.out)
      rw [beq_self_eq_true] at K2
      have HK2 := Lib.hid K2
      clear h5 K2
      go_wp2_with fail
      refine HK2.out.mono ?_
      rintro e w6 ⟨rfl, rfl⟩
      go_wp2
      go_ret
      exact ⟨rfl, below_then b0'.out B6.out⟩
end Go.Proofs.Ytmkfpfnjimmmaaa
