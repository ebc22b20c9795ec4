/- The walk of LetterOne, and why it holds. -/
import Derived.Test.YtmkfpfnjimmmaaaLetE
import Derived.Deep.RegionHeld3
import Derived.Deep.DrawnRows
import Derived.BigQuiet
import Derived.Deep.QuietTactic
namespace Go.Proofs.Ytmkfpfnjimmmaaa
open Go.RowKit
attribute [local go_sem ↓] Go.wp_at_zero Go.wp_at_succ

theorem fillL_inj {s t : List UInt8} (hs : s.length ≤ 64) (ht : t.length ≤ 64) (h : fillL s 64 = fillL t 64) : s = t := by
  have e1 : (unfillR (fillR s 64)) = s := (unfill_fill (fill_64 hs).2).2.1
  have e2 : (unfillR (fillR t 64)) = t := (unfill_fill (fill_64 ht).2).2.1
  rw [(fill_64 hs).1] at e1
  rw [(fill_64 ht).1] at e2
  rw [← e1, ← e2, h]

theorem letL_one {cover : Bool} {frm dst : Int} {seq : Nat} {text : List UInt8} {cover' : Bool} {frm' dst' : Int} {seq' : Nat} {text' : List UInt8} (hs : seq < 18446744073709551616) (hs' : seq' < 18446744073709551616) (h : letE cover frm dst seq text = 0) (h' : letE cover' frm' dst' seq' text' = 0) :
    (letL cover frm dst seq text == letL cover' frm' dst' seq' text') = sameL cover frm dst seq text cover' frm' dst' seq' text' := by
  cases cover with
  | true =>
    obtain ⟨rfl, rfl, rfl, rfl⟩ := letE_cover h
    cases cover' with
    | true =>
      obtain ⟨rfl, rfl, rfl, rfl⟩ := letE_cover h'
      rw [beq_self_eq_true]; rfl
    | false =>
      rw [letL, if_pos rfl, letL, if_neg (by decide), sameL]
      rw [show ((true == false) : Bool) = false from rfl, Bool.false_and, Bool.false_and, Bool.false_and, Bool.false_and, beq_eq_false_iff_ne, show (78 : Nat) = 77 + 1 from rfl, List.replicate_succ]
      intro e
      injection e with e _
      cases e
  | false =>
    cases cover' with
    | true =>
      rw [letL, if_neg (by decide), letL, if_pos rfl, sameL]
      rw [show ((false == true) : Bool) = false from rfl, Bool.false_and, Bool.false_and, Bool.false_and, Bool.false_and, beq_eq_false_iff_ne, show (78 : Nat) = 77 + 1 from rfl, List.replicate_succ]
      intro e
      injection e with e _
      cases e
    | false =>
      obtain ⟨⟨f0, f8⟩, ⟨d0, d8⟩, _, h64⟩ := letE_plain h
      obtain ⟨⟨g0, g8⟩, ⟨e0, e8⟩, _, k64⟩ := letE_plain h'
      rw [letL, if_neg (by decide), letL, if_neg (by decide), sameL, Bool.eq_iff_iff]
      simp only [beq_iff_eq, Bool.and_eq_true]
      constructor
      · intro h
        rw [List.singleton_append, List.singleton_append] at h
        injection h with _ h
        obtain ⟨h1, h⟩ := List.append_inj h (by simp [length_putL])
        obtain ⟨h2, h⟩ := List.append_inj h (by simp [length_putL])
        obtain ⟨h3, h4⟩ := List.append_inj h (by simp [length_putL])
        have q1 := (putL_inj 2 frm.toNat frm'.toNat (by omega) (by omega)).1 h1
        have q2 := (putL_inj 2 dst.toNat dst'.toNat (by omega) (by omega)).1 h2
        have q3 := (putL_inj 8 seq seq' (by simpa using hs) (by simpa using hs')).1 h3
        have q4 := fillL_inj h64 k64 h4
        exact ⟨⟨⟨⟨trivial, by omega⟩, by omega⟩, by omega⟩, q4⟩
      · rintro ⟨⟨⟨⟨_, rfl⟩, rfl⟩, h3⟩, rfl⟩
        obtain rfl : seq = seq' := by omega
        rfl

set_option maxRecDepth 100000 in
set_option maxHeartbeats 3200000 in
theorem letterOne_walk {w : World} {v u : Value} {x y : LetD} (hv : AsAgg rLet w v x) (hu : AsAgg rLet w u y) :
    Calls Try.prog 13 #[v, u] w fun e w' => e = .returned (.bool true) ∧ Below w.heap.size w w' := by
  obtain ⟨cover, frm, dst, seq, text⟩ := x
  obtain ⟨cs, rfl, a, n, cap, rfl, hx, _, hs, _⟩ := hv
  obtain ⟨cover', frm', dst', seq', text'⟩ := y
  obtain ⟨cs', rfl, a', n', cap', rfl, hx', _, hs', _⟩ := hu
  dsimp only at hx hs hx' hs' ⊢
  show Calls _ _ #[.agg #[.bool cover, .int .i64 frm, .int .i64 dst, .int .u64 seq, .slice a n cap], .agg #[.bool cover', .int .i64 frm', .int .i64 dst', .int .u64 seq', .slice a' n' cap']] _ _
  obtain ⟨W0, hW0⟩ : ∃ W0, W0 = (w.alloc (.cells #[.bool cover, .int .i64 frm, .int .i64 dst, .int .u64 seq, .slice a n cap] 46)).alloc (.cells #[.bool cover', .int .i64 frm', .int .i64 dst', .int .u64 seq', .slice a' n' cap'] 46) := ⟨_, rfl⟩
  have b0 : Below w.heap.size w W0 := by rw [hW0]; exact ((Below.refl w.heap.size w).alloc (Nat.le_refl _) _).alloc (by simp) _
  have c0 : W0.cell? ⟨w.heap.size, 0, none⟩ = some (.bool cover) := by rw [hW0]; exact cell_underAt (cell_lastAt _ _ _ rfl rfl)
  have c1 : W0.cell? ⟨w.heap.size, 1, none⟩ = some (.int .i64 frm) := by rw [hW0]; exact cell_underAt (cell_lastAt _ _ _ rfl rfl)
  have c2 : W0.cell? ⟨w.heap.size, 2, none⟩ = some (.int .i64 dst) := by rw [hW0]; exact cell_underAt (cell_lastAt _ _ _ rfl rfl)
  have c3 : W0.cell? ⟨w.heap.size, 3, none⟩ = some (.int .u64 seq) := by rw [hW0]; exact cell_underAt (cell_lastAt _ _ _ rfl rfl)
  have c4 : W0.cell? ⟨w.heap.size, 4, none⟩ = some (.slice a n cap) := by rw [hW0]; exact cell_underAt (cell_lastAt _ _ _ rfl rfl)
  have d0 : W0.cell? ⟨w.heap.size + 1, 0, none⟩ = some (.bool cover') := by rw [hW0]; exact cell_lastAt _ _ _ (by simp) rfl
  have d1 : W0.cell? ⟨w.heap.size + 1, 1, none⟩ = some (.int .i64 frm') := by rw [hW0]; exact cell_lastAt _ _ _ (by simp) rfl
  have d2 : W0.cell? ⟨w.heap.size + 1, 2, none⟩ = some (.int .i64 dst') := by rw [hW0]; exact cell_lastAt _ _ _ (by simp) rfl
  have d3 : W0.cell? ⟨w.heap.size + 1, 3, none⟩ = some (.int .u64 seq') := by rw [hW0]; exact cell_lastAt _ _ _ (by simp) rfl
  have d4 : W0.cell? ⟨w.heap.size + 1, 4, none⟩ = some (.slice a' n' cap') := by rw [hW0]; exact cell_lastAt _ _ _ (by simp) rfl
  have HC : Hid (∀ W, Below W0.heap.size W0 W → W.cell? ⟨w.heap.size, 0, none⟩ = some (.bool cover) ∧ W.cell? ⟨w.heap.size, 1, none⟩ = some (.int .i64 frm) ∧ W.cell? ⟨w.heap.size, 2, none⟩ = some (.int .i64 dst) ∧ W.cell? ⟨w.heap.size, 3, none⟩ = some (.int .u64 seq) ∧ W.cell? ⟨w.heap.size, 4, none⟩ = some (.slice a n cap) ∧
      W.cell? ⟨w.heap.size + 1, 0, none⟩ = some (.bool cover') ∧ W.cell? ⟨w.heap.size + 1, 1, none⟩ = some (.int .i64 frm') ∧ W.cell? ⟨w.heap.size + 1, 2, none⟩ = some (.int .i64 dst') ∧ W.cell? ⟨w.heap.size + 1, 3, none⟩ = some (.int .u64 seq') ∧ W.cell? ⟨w.heap.size + 1, 4, none⟩ = some (.slice a' n' cap') ∧ Below W0.heap.size W0 W) := fun W hW =>
    ⟨(hW.cell (World.block_lt_of_cell? _ _ c0)).trans c0, (hW.cell (World.block_lt_of_cell? _ _ c1)).trans c1, (hW.cell (World.block_lt_of_cell? _ _ c2)).trans c2, (hW.cell (World.block_lt_of_cell? _ _ c3)).trans c3, (hW.cell (World.block_lt_of_cell? _ _ c4)).trans c4,
     (hW.cell (World.block_lt_of_cell? _ _ d0)).trans d0, (hW.cell (World.block_lt_of_cell? _ _ d1)).trans d1, (hW.cell (World.block_lt_of_cell? _ _ d2)).trans d2, (hW.cell (World.block_lt_of_cell? _ _ d3)).trans d3, (hW.cell (World.block_lt_of_cell? _ _ d4)).trans d4, hW⟩
  have HX : Hid (∀ W, Below W0.heap.size W0 W → Bytes W a n cap text) := fun W hW => (hx.keep b0).keep hW
  have HX' : Hid (∀ W, Below W0.heap.size W0 W → Bytes W a' n' cap' text') := fun W hW => (hx'.keep b0).keep hW
  have hmx := hx.le_i64
  have hmx' := hx'.le_i64
  have HW0 := Lib.hid hW0
  clear c0 c1 c2 c3 c4 d0 d1 d2 d3 d4 hx hx' hW0
  go_enter Try.func13, Try.ntmps13
  go_wp2_with fail
  rw [← HW0.out]
  refine (live10 _).mono ?_
  rintro e w1 ⟨rfl, b1⟩
  obtain ⟨c0, c1, c2, c3, c4, d0, d1, d2, d3, d4, _⟩ := HC.out w1 b1
  by_cases h300 : 300 < n
  · go_wp2
    go_ret
    exact ⟨rfl, below_then b0 b1⟩
  by_cases h301 : 300 < n'
  · go_wp2
    go_ret
    exact ⟨rfl, below_then b0 b1⟩
  obtain ⟨R, hR⟩ : ∃ R, R = letR cover frm dst seq text := ⟨_, rfl⟩
  obtain ⟨E, hE⟩ : ∃ E, E = letE cover frm dst seq text := ⟨_, rfl⟩
  obtain ⟨R', hR'⟩ : ∃ R', R' = letR cover' frm' dst' seq' text' := ⟨_, rfl⟩
  obtain ⟨E', hE'⟩ : ∃ E', E' = letE cover' frm' dst' seq' text' := ⟨_, rfl⟩
  have HP1 : Hid (∀ W, Below W0.heap.size W0 W → Calls Try.prog 43 #[.agg #[.bool cover, .int .i64 frm, .int .i64 dst, .int .u64 seq, .slice a n cap]] W (RetBE 5 W R E)) := fun W hW => by
    rw [hR, hE]; exact lput_any (HX.out _ hW) hs
  have HP2 : Hid (∀ W, Below W0.heap.size W0 W → Calls Try.prog 43 #[.agg #[.bool cover', .int .i64 frm', .int .i64 dst', .int .u64 seq', .slice a' n' cap']] W (RetBE 5 W R' E')) := fun W hW => by
    rw [hR', hE']; exact lput_any (HX'.out _ hW) hs'
  have HOne : Hid (E = 0 → E' = 0 → (R == R') = sameL cover frm dst seq text cover' frm' dst' seq' text') := fun h h' => by
    rw [hE] at h
    rw [hE'] at h'
    rw [hR, hR', letR, if_pos h, letR, if_pos h']
    exact letL_one hs hs' h h'
  have HG : Hid (∀ W, Below W0.heap.size W0 W → Calls Try.prog 44 #[.agg #[.bool cover, .int .i64 frm, .int .i64 dst, .int .u64 seq, .slice a n cap], .agg #[.bool cover', .int .i64 frm', .int .i64 dst', .int .u64 seq', .slice a' n' cap']] W fun e w' => e = .returned (.bool (sameL cover frm dst seq text cover' frm' dst' seq' text')) ∧ Below W.heap.size W w') := fun W hW =>
    lsame_any (HX.out _ hW) (HX'.out _ hW)
  clear hR hE hR' hE' HX HX' HW0
  generalize sameL cover frm dst seq text cover' frm' dst' seq' text' = S at *
  go_wp2_with fail
  refine (HP1.out _ b1).mono ?_
  rintro e w2 ⟨a2, cap2, rfl, h2⟩
  have B2 := below_then b1 h2.below
  have y2 := Lib.hid h2.bytes
  clear h2 c0 c1 c2 c3 c4 d0 d1 d2 d3 d4 b1
  obtain ⟨c0, c1, c2, c3, c4, d0, d1, d2, d3, d4, _⟩ := HC.out w2 B2
  go_wp2_with fail
  refine (HP2.out _ B2).mono ?_
  rintro e w3 ⟨a3, cap3, rfl, h3⟩
  have B3 := below_then B2 h3.below
  have z2 := Lib.hid (y2.out.keep h3.below)
  have z3 := Lib.hid h3.bytes
  clear h3 y2 c0 c1 c2 c3 c4 d0 d1 d2 d3 d4 B2
  obtain ⟨c0, c1, c2, c3, c4, d0, d1, d2, d3, d4, _⟩ := HC.out w3 B3
  by_cases hE : E = 0
  · subst hE
    by_cases hF : E' = 0
    · subst hF
      have hone := HOne.out rfl rfl
      have HS : Hid (∀ W, Below w3.heap.size w3 W → Calls Try.prog 26 #[.slice a2 R.length cap2, .slice a3 R'.length cap3] W fun e w' => e = .returned (.bool S) ∧ W = w') := fun W hW => by
        have h := same_any (z2.out.keep hW) (z3.out.keep hW)
        rw [hone] at h
        exact h
      have HC5 : Hid (∀ W, Below w3.heap.size w3 W → W.cell? ⟨w.heap.size, 0, none⟩ = some (.bool cover) ∧ W.cell? ⟨w.heap.size, 1, none⟩ = some (.int .i64 frm) ∧ W.cell? ⟨w.heap.size, 2, none⟩ = some (.int .i64 dst) ∧ W.cell? ⟨w.heap.size, 3, none⟩ = some (.int .u64 seq) ∧ W.cell? ⟨w.heap.size, 4, none⟩ = some (.slice a n cap) ∧
          W.cell? ⟨w.heap.size + 1, 0, none⟩ = some (.bool cover') ∧ W.cell? ⟨w.heap.size + 1, 1, none⟩ = some (.int .i64 frm') ∧ W.cell? ⟨w.heap.size + 1, 2, none⟩ = some (.int .i64 dst') ∧ W.cell? ⟨w.heap.size + 1, 3, none⟩ = some (.int .u64 seq') ∧ W.cell? ⟨w.heap.size + 1, 4, none⟩ = some (.slice a' n' cap') ∧ Below w3.heap.size w3 W) := fun W hW => by
        obtain ⟨c0, c1, c2, c3, c4, d0, d1, d2, d3, d4, _⟩ := HC.out W (below_then B3 hW)
        exact ⟨c0, c1, c2, c3, c4, d0, d1, d2, d3, d4, hW⟩
      have hB : Below w3.heap.size w3 w3.drew := (Below.refl _ _).drew
      have B3' := Lib.hid B3
      clear HC hone z2 z3 B3 HOne HP1 HP2
      generalize R.length = N at *
      generalize R'.length = N' at *
      go_wp2_with fail
      go_region_held3 (fun W => W.cell? ⟨w.heap.size, 0, none⟩ = some (.bool cover) ∧ W.cell? ⟨w.heap.size, 1, none⟩ = some (.int .i64 frm) ∧ W.cell? ⟨w.heap.size, 2, none⟩ = some (.int .i64 dst) ∧ W.cell? ⟨w.heap.size, 3, none⟩ = some (.int .u64 seq) ∧ W.cell? ⟨w.heap.size, 4, none⟩ = some (.slice a n cap) ∧
          W.cell? ⟨w.heap.size + 1, 0, none⟩ = some (.bool cover') ∧ W.cell? ⟨w.heap.size + 1, 1, none⟩ = some (.int .i64 frm') ∧ W.cell? ⟨w.heap.size + 1, 2, none⟩ = some (.int .i64 dst') ∧ W.cell? ⟨w.heap.size + 1, 3, none⟩ = some (.int .u64 seq') ∧ W.cell? ⟨w.heap.size + 1, 4, none⟩ = some (.slice a' n' cap') ∧ Below w3.heap.size w3 W)
        (exact HC5.out _ (by first | exact hB | exact (Below.refl _ _) | exact (Below.refl _ _).drew))
        (first
          | (go_at_call 26; refine (HS.out _ hB).mono ?_; rintro e w6 ⟨rfl, rfl⟩)
          | (go_at_call 44; refine (HG.out _ (below_then B3'.out hB)).mono ?_; rintro e w6 ⟨rfl, hb6⟩; have hB := below_then hB hb6))
      all_goals
        go_wp2
        go_ret
        exact ⟨ret_bool (by simp), below_then b0 (below_then B3'.out hB)⟩
    · have hne : (E' != 0) = true := by rw [bne_iff_ne]; exact hF
      clear hF z2 z3
      go_wp2_with fail
      go_quiet (fail)
      go_wp2
      go_ret
      exact ⟨rfl, below_drewN (below_then b0 B3) _⟩
  · have hne : (E != 0) = true := by rw [bne_iff_ne]; exact hE
    clear hE z2 z3
    go_wp2_with fail
    go_quiet (fail)
    go_wp2
    go_ret
    exact ⟨rfl, below_drewN (below_then b0 B3) _⟩
end Go.Proofs.Ytmkfpfnjimmmaaa
