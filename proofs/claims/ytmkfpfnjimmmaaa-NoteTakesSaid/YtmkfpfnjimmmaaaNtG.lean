/- The walk of NoteCuts. -/
import Derived.Test.YtmkfpfnjimmmaaaNtF
import Derived.Test.YtmkfpfnjimmmaaaNoteR
namespace Go.Proofs.Ytmkfpfnjimmmaaa
open Go.RowKit

theorem noteL_le {x : NoteD} (h : x.err = 0) : x.bytes.length ≤ 70000 := by
  obtain ⟨_, _, h64, hl, _, _⟩ := noteE_zero h
  have h2 := partsL_len hl
  have h3 : x.parts.length * 1026 ≤ 64 * 1026 := Nat.mul_le_mul_right _ h64
  unfold NoteD.bytes noteL tailL
  simp only [List.length_cons, List.length_append, length_putL]
  split <;> simp <;> omega

set_option maxRecDepth 100000 in
set_option maxHeartbeats 3200000 in
theorem noteCuts_walk {w : World} {v : Value} {x : NoteD} {k : Int} {ma : Option Addr} {mn mc : Nat} {more : List UInt8} (hx : NoteV w v x) (hm : Bytes w ma mn mc more) :
    Calls Try.prog 15 #[v, .int .i64 k, .slice ma mn mc] w fun e w' => e = .returned (.bool true) ∧ Below w.heap.size w w' := by
  obtain ⟨i0, hi, hz0, hz1, hz2⟩ := info_parts info_u8
  obtain ⟨kind, pp, hop, back⟩ := x
  obtain ⟨⟨pa, pn, pc, rfl, hp⟩, hsm, _⟩ := hx
  dsimp only at hp hsm ⊢
  obtain ⟨W0, hW0⟩ : ∃ W0, W0 = w.alloc (.cells #[.int .i64 kind, .slice pa pn pc, .int .i64 hop, .bool back] 39) := ⟨_, rfl⟩
  have b0 : Below w.heap.size w W0 := by rw [hW0]; exact (Below.refl w.heap.size w).alloc (Nat.le_refl _) _
  have c0 : W0.cell? ⟨w.heap.size, 0, none⟩ = some (.int .i64 kind) := by rw [hW0]; exact cell_lastAt _ _ _ rfl rfl
  have c1 : W0.cell? ⟨w.heap.size, 1, none⟩ = some (.slice pa pn pc) := by rw [hW0]; exact cell_lastAt _ _ _ rfl rfl
  have c2 : W0.cell? ⟨w.heap.size, 2, none⟩ = some (.int .i64 hop) := by rw [hW0]; exact cell_lastAt _ _ _ rfl rfl
  have c3 : W0.cell? ⟨w.heap.size, 3, none⟩ = some (.bool back) := by rw [hW0]; exact cell_lastAt _ _ _ rfl rfl
  have HP : Hid (∀ W, Below W0.heap.size W0 W → Parts W pa pn pc pp) := fun W hW => (hp.keep b0).keep hW
  have HM : Hid (∀ W, Below W0.heap.size W0 W → Bytes W ma mn mc more) := fun W hW => (hm.keep b0).keep hW
  have HC : Hid (∀ W, Below W0.heap.size W0 W → W.cell? ⟨w.heap.size, 0, none⟩ = some (.int .i64 kind) ∧ W.cell? ⟨w.heap.size, 1, none⟩ = some (.slice pa pn pc) ∧ W.cell? ⟨w.heap.size, 2, none⟩ = some (.int .i64 hop) ∧ W.cell? ⟨w.heap.size, 3, none⟩ = some (.bool back)) := fun W hW =>
    ⟨(hW.cell (World.block_lt_of_cell? _ _ c0)).trans c0, (hW.cell (World.block_lt_of_cell? _ _ c1)).trans c1, (hW.cell (World.block_lt_of_cell? _ _ c2)).trans c2, (hW.cell (World.block_lt_of_cell? _ _ c3)).trans c3⟩
  have HW0 := Lib.hid hW0
  have hsm' := Lib.hid hsm
  have hmx := hm.le_i64
  have hml := Lib.hid hm.len
  clear c0 c1 c2 c3 hp hm hsm hW0
  go_enter Try.func15, Try.ntmps15
  go_wp2_with fail
  rw [← HW0.out]
  refine (live06 _).mono ?_
  rintro e w1 ⟨rfl, b1⟩
  obtain ⟨c0, c1, c2, c3⟩ := HC.out w1 b1
  go_wp2_with fail
  refine (few_any (HP.out _ b1) hsm'.out).mono ?_
  rintro e w2 ⟨rfl, b2⟩
  have B2 := below_then b1 b2
  clear c0 c1 c2 c3 b1 b2
  obtain ⟨c0, c1, c2, c3⟩ := HC.out w2 B2
  cases hf : fewB pp with
  | false =>
    go_wp2
    go_ret
    exact ⟨rfl, below_then b0 B2⟩
  | true =>
  clear hf
  by_cases hm0 : mn = 0
  · subst hm0
    go_wp2
    go_ret
    exact ⟨rfl, below_then b0 B2⟩
  have hm0' : ((mn : Int) == 0) = false := by rw [beq_eq_false_iff_ne]; omega
  by_cases hm100 : 100 < mn
  · go_wp2
    go_ret
    exact ⟨rfl, below_then b0 B2⟩
  go_wp2_with fail
  refine (nput_any (HP.out _ B2)).mono ?_
  rintro e w3 ⟨a3, cap3, rfl, h3⟩
  have B3 := below_then B2 h3.below
  have y3 := Lib.hid h3.bytes
  clear h3 c0 c1 c2 c3 B2
  by_cases hE : noteE kind hop back pp = 0
  · have hE' : (⟨kind, pp, hop, back⟩ : NoteD).err = 0 := hE
    have hR : noteR kind hop back pp = (⟨kind, pp, hop, back⟩ : NoteD).bytes := by rw [noteR, if_pos hE]; rfl
    have hle := noteL_le hE'
    have hmne : more ≠ [] := by
      intro e
      have := hml.out
      rw [e] at this
      simp at this
      omega
    have HA := Lib.hid (takeN_more hE' hmne)
    have HB : Hid (∀ j, j < (⟨kind, pp, hop, back⟩ : NoteD).bytes.length → takeN ((⟨kind, pp, hop, back⟩ : NoteD).bytes.take j) = none) := fun j hj => takeN_short hE' hj
    rw [hR] at y3 ⊢
    rw [hE]
    generalize (⟨kind, pp, hop, back⟩ : NoteD).bytes = X at *
    obtain ⟨N, hN⟩ : ∃ N, N = X.length := ⟨_, rfl⟩
    rw [← hN] at y3 HB hle ⊢
    have BH := Lib.hid B3
    have hb3 := (Below.refl w3.heap.size w3)
    have hmm := HM.out _ B3
    clear hR hE hE' hmne hN B3
    go_wp2_with (at_builtin; refine wpList_append_row rfl (.const (.slice none 0 0)) (.tmp 39) 24 rfl w3.heap.size 5 i0 (.int .u8 0) 1 1 Try.underlying24 hi hz0 hz1 hz2 rfl (by decide) none 0 0 [] rfl (World.ownsRow_nil _ _ _ _) _ _ _ _ rfl y3.out.cells (oneCell_bytes _) (by unfold maxLen; omega) (by omega) w3 hb3 (Nat.le_refl _) ?_)
    intro a4 c4 w4 ho4 hb4
    have hs4 := hb4.size
    have hmm4 := hmm.keep hb4
    clear hb3 hmm
    go_wp2_with (at_builtin; refine wpList_append_row rfl (.tmp 40) (.tmp 41) 24 rfl w3.heap.size 5 i0 (.int .u8 0) 1 1 Try.underlying24 hi hz0 hz1 hz2 rfl (by decide) _ _ _ _ rfl ho4 _ _ _ _ rfl hmm4.cells (oneCell_bytes _) (by unfold maxLen; omega) (by omega) w3 hb4 hs4 ?_)
    intro a5 c5 w5 ho5 hb5
    rw [← List.map_append] at ho5
    obtain ⟨a', c', hv, hF⟩ := FreshB.of ho5 hb5
    cases hv
    have T := ntake_any hF.bytes
    rw [HA.out] at T
    have B5 := Lib.hid (below_then BH.out hb5)
    have y5 := Lib.hid (y3.out.keep hb5)
    have HT := Lib.hid T
    clear T hF ho4 ho5 hb4 hb5 hmm4 y3
    go_wp2_with fail
    refine HT.out.mono ?_
    rintro e w6 ⟨rfl, hb6⟩
    have B6 := Lib.hid (below_then B5.out hb6)
    have y6 := Lib.hid (y5.out.keep hb6)
    clear hb6 y5 HT
    by_cases hk0 : k < 0
    · go_wp2
      go_ret
      exact ⟨rfl, (below_then b0 B6.out).alloc (below_then b0 B6.out).size _⟩
    by_cases hkN : (N : Int) ≤ k
    · go_wp2
      go_ret
      exact ⟨rfl, (below_then b0 B6.out).alloc (below_then b0 B6.out).size _⟩
    obtain ⟨j, rfl⟩ := Int.eq_ofNat_of_zero_le (show 0 ≤ k by omega)
    have hjc := y6.out.le
    have hjx := y6.out.le_i64
    have hj1 : (j : Int) ≤ (cap3 : Int) := by omega
    have hj2 : j ≤ cap3 := by omega
    have T := fun W (hW : Below w6.heap.size w6 W) => ntake_any ((y6.out.keep hW).take (m := j) (by omega))
    rw [HB.out j (by omega)] at T
    have HT := Lib.hid T
    clear T
    go_wp2_with fail
    refine (HT.out _ ((Below.refl _ _).alloc (Nat.le_refl _) _)).mono ?_
    rintro e w7 ⟨rfl, hb7⟩
    have B7 := Lib.hid (below_then ((below_then b0 B6.out).alloc (below_then b0 B6.out).size _) hb7)
    clear hb7
    go_wp2
    go_ret
    exact ⟨rfl, B7.out.alloc B7.out.size _⟩
  · have hne : (noteE kind hop back pp != 0) = true := by rw [bne_iff_ne]; exact hE
    have hR : noteR kind hop back pp = [] := by rw [noteR, if_neg hE]
    rw [hR]
    clear hR hE y3
    go_wp2
    go_ret
    exact ⟨rfl, below_then b0 B3⟩
end Go.Proofs.Ytmkfpfnjimmmaaa
