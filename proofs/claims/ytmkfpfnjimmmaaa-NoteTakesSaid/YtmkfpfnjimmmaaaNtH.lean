/- The walk of NoteBack. -/
import Derived.Test.YtmkfpfnjimmmaaaNtG
import Derived.Test.YtmkfpfnjimmmaaaNoteT
import Derived.Deep.DeepCutAuto
namespace Go.Proofs.Ytmkfpfnjimmmaaa
open Go.RowKit

theorem sameN_refl (kind hop : Int) (back : Bool) (pp : List (List UInt8)) : sameN kind hop back pp kind hop back pp = true := by simp [sameN]

set_option maxRecDepth 100000 in
set_option maxHeartbeats 3200000 in
theorem noteBack_walk {w : World} {v : Value} {x : NoteD} {ba : Option Addr} {bn bc : Nat} {l : List UInt8} (hx : NoteV w v x) (hb : Bytes w ba bn bc l) :
    Calls Try.prog 20 #[v, .slice ba bn bc] w fun e w' => e = .returned (.bool true) ∧ Below w.heap.size w w' := by
  obtain ⟨kind, pp, hop, back⟩ := x
  obtain ⟨⟨pa, pn, pc, rfl, hp⟩, hsm, _⟩ := hx
  dsimp only at hp hsm ⊢
  obtain ⟨W0, hW0⟩ : ∃ W0, W0 = w.alloc (.cells #[.int .i64 kind, .slice pa pn pc, .int .i64 hop, .bool back] 39) := ⟨_, rfl⟩
  have b0 : Below w.heap.size w W0 := by rw [hW0]; exact (Below.refl w.heap.size w).alloc (Nat.le_refl _) _
  have c0 : W0.cell? ⟨w.heap.size, 0, none⟩ = some (.int .i64 kind) := by rw [hW0]; exact cell_lastAt _ _ _ rfl rfl
  have c1 : W0.cell? ⟨w.heap.size, 1, none⟩ = some (.slice pa pn pc) := by rw [hW0]; exact cell_lastAt _ _ _ rfl rfl
  have c2 : W0.cell? ⟨w.heap.size, 2, none⟩ = some (.int .i64 hop) := by rw [hW0]; exact cell_lastAt _ _ _ rfl rfl
  have c3 : W0.cell? ⟨w.heap.size, 3, none⟩ = some (.bool back) := by rw [hW0]; exact cell_lastAt _ _ _ rfl rfl
  have HP : Hid (∀ W, Below W0.heap.size W0 W → Parts W pa pn pc pp) := fun W hW => (hp.keep b0).keep hW
  have HB : Hid (∀ W, Below W0.heap.size W0 W → Bytes W ba bn bc l) := fun W hW => (hb.keep b0).keep hW
  have HC : Hid (∀ W, Below W0.heap.size W0 W → W.cell? ⟨w.heap.size, 0, none⟩ = some (.int .i64 kind) ∧ W.cell? ⟨w.heap.size, 1, none⟩ = some (.slice pa pn pc) ∧ W.cell? ⟨w.heap.size, 2, none⟩ = some (.int .i64 hop) ∧ W.cell? ⟨w.heap.size, 3, none⟩ = some (.bool back)) := fun W hW =>
    ⟨(hW.cell (World.block_lt_of_cell? _ _ c0)).trans c0, (hW.cell (World.block_lt_of_cell? _ _ c1)).trans c1, (hW.cell (World.block_lt_of_cell? _ _ c2)).trans c2, (hW.cell (World.block_lt_of_cell? _ _ c3)).trans c3⟩
  have HW0 := Lib.hid hW0
  have hsm' := Lib.hid hsm
  have hmx := hb.le_i64
  have hbl := Lib.hid hb.len
  have b0' := Lib.hid b0
  clear c0 c1 c2 c3 hp hb hsm hW0 b0
  go_enter Try.func20, Try.ntmps20
  go_wp2_with fail
  rw [← HW0.out]
  refine (live06 _).mono ?_
  rintro e w1 ⟨rfl, b1⟩
  obtain ⟨c0, c1, c2, c3⟩ := HC.out w1 b1
  go_wp2_with fail
  refine (few_any (HP.out _ b1) hsm'.out).mono ?_
  rintro e w2 ⟨rfl, b2⟩
  have B2 := below_then b1 b2
  clear c0 c1 c2 c3 b1 b2
  obtain ⟨c0, c1, c2, c3⟩ := HC.out w2 B2
  cases hf : fewB pp with
  | false =>
    go_wp2
    go_ret
    exact ⟨rfl, below_then b0'.out B2⟩
  | true =>
  clear hf
  by_cases h3000 : 3000 < bn
  · go_wp2
    go_ret
    exact ⟨rfl, below_then b0'.out B2⟩
  go_wp2_with fail
  refine (nput_any (HP.out _ B2)).mono ?_
  rintro e w3 ⟨a3, cap3, rfl, h3⟩
  have B3 := Lib.hid (below_then B2 h3.below)
  have y3 := Lib.hid h3.bytes
  clear h3 c0 c1 c2 c3 B2
  obtain ⟨R, hR⟩ : ∃ R, R = noteR kind hop back pp := ⟨_, rfl⟩
  obtain ⟨E, hE⟩ : ∃ E, E = noteE kind hop back pp := ⟨_, rfl⟩
  rw [← hR] at y3
  rw [← hR, ← hE]
  have HRE : Hid (E = 0 → takeN R = some ⟨kind, pp, hop, back⟩) := fun h => by
    have h' : (⟨kind, pp, hop, back⟩ : NoteD).err = 0 := by rw [hE] at h; exact h
    have hb : noteL kind hop back pp = (⟨kind, pp, hop, back⟩ : NoteD).bytes := rfl
    rw [hR, noteR, if_pos (by rw [← hE]; exact h), hb]
    exact takeN_bytes h'
  have HRN : Hid (E ≠ 0 → R = []) := fun h => by rw [hR, noteR, if_neg (by rw [← hE]; exact h)]
  have HCk : Hid (∀ W, Below W0.heap.size W0 W → Calls Try.prog 37 #[.agg #[.int .i64 kind, .slice pa pn pc, .int .i64 hop, .bool back]] W fun e w' => e = .returned (.int .i64 E) ∧ Below W.heap.size W w') := fun W hW => by
    rw [hE]; exact ncheck_any (HP.out _ hW)
  clear hR hE
  go_upto_if 29 with fail
  go_cut [] (fun wx => Hid (Below W0.heap.size W0 wx))
  case first =>
    by_cases hE0 : E = 0
    · subst hE0
      have T := ntake_any y3.out
      rw [HRE.out rfl] at T
      have HT := Lib.hid T
      clear T HRN HRE HCk
      go_wp2_with fail
      refine HT.out.mono ?_
      rintro e w4 ⟨a4, n4, c4, rfl, S4, _, hb4⟩
      have B4 := below_then B3.out hb4
      have B5 := B4.alloc B4.size (.cells #[.int .i64 kind, .slice a4 n4 c4, .int .i64 hop, .bool back] 39)
      have K := nsame_any (kind := kind) (hop := hop) (back := back) (kind' := kind) (hop' := hop) (back' := back) (HP.out _ B5) (Parts.of_sl (S4.keep ((Below.refl _ _).alloc (Nat.le_refl _) (.cells #[.int .i64 kind, .slice a4 n4 c4, .int .i64 hop, .bool back] 39))))
      rw [sameN_refl] at K
      obtain ⟨c0, c1, c2, c3⟩ := HC.out _ B5
      have HK := Lib.hid K
      have HB5 := Lib.hid B5
      clear K S4 hb4 B4 B5 HT
      go_wp2_with fail
      refine HK.out.mono ?_
      rintro e w5 ⟨rfl, hb5⟩
      have B6 := Lib.hid (below_then HB5.out hb5)
      clear hb5
      go_wp2_with fail
      go_meet
      exact B6
    · have hne : (E == 0) = false := by rw [beq_eq_false_iff_ne]; exact hE0
      have hRn := HRN.out hE0
      subst hRn
      obtain ⟨c0, c1, c2, c3⟩ := HC.out _ B3.out
      clear HRE HRN
      go_wp2_with fail
      refine (HCk.out _ B3.out).mono ?_
      rintro e w4 ⟨rfl, hb4⟩
      have B4 := Lib.hid (below_then B3.out hb4)
      clear hb4
      go_wp2_with fail
      go_meet
      exact B4
  case rest =>
    have T := ntake_any (HB.out _ hcut.out)
    clear HRE HRN HCk y3
    cases hq : takeN l with
    | none =>
      rw [hq] at T
      have HT := Lib.hid T
      clear T hq
      go_wp2_with fail
      refine HT.out.mono ?_
      rintro e w4 ⟨rfl, hb4⟩
      have B4 := below_then hcut.out hb4
      have B5 := B4.alloc B4.size (.cells #[.int .i64 0, .slice none 0 0, .int .i64 0, .bool false] 39)
      have K := rsame_any (kind := 0) (hop := 0) (back := false) (kind' := 0) (hop' := 0) (back' := false) (Parts.nil (w4.alloc (.cells #[.int .i64 0, .slice none 0 0, .int .i64 0, .bool false] 39))) (Parts.nil (w4.alloc (.cells #[.int .i64 0, .slice none 0 0, .int .i64 0, .bool false] 39)))
      rw [sameN_refl] at K
      have HK := Lib.hid K
      have HB5 := Lib.hid B5
      clear K hb4 B4 B5 HT
      go_wp2_with fail
      refine HK.out.mono ?_
      rintro e w5 ⟨rfl, hb5⟩
      have B6 := Lib.hid (below_then HB5.out hb5)
      clear hb5
      go_wp2
      go_ret
      exact ⟨rfl, below_then b0'.out B6.out⟩
    | some y =>
      obtain ⟨kind', qq, hop', back'⟩ := y
      obtain ⟨he, hby⟩ := takeN_inv hq
      have hnb : noteL kind' hop' back' qq = (⟨kind', qq, hop', back'⟩ : NoteD).bytes := rfl
      have hR : noteR kind' hop' back' qq = l := by rw [noteR, if_pos (show noteE kind' hop' back' qq = 0 from he), hnb]; exact hby
      have hE : noteE kind' hop' back' qq = 0 := he
      rw [hq] at T
      have HT := Lib.hid T
      have HR := Lib.hid hR
      have HE := Lib.hid hE
      clear T hq he hby hR hE hnb
      go_wp2_with fail
      refine HT.out.mono ?_
      rintro e w4 ⟨a4, n4, c4, rfl, S4, _, hb4⟩
      have B4 := below_then hcut.out hb4
      have B5 := B4.alloc B4.size (.cells #[.int .i64 kind', .slice a4 n4 c4, .int .i64 hop', .bool back'] 39)
      have K := @nput_any kind' hop' back' a4 n4 c4 qq _ (Parts.of_sl (S4.keep ((Below.refl _ _).alloc (Nat.le_refl _) (.cells #[.int .i64 kind', .slice a4 n4 c4, .int .i64 hop', .bool back'] 39))))
      rw [HR.out, HE.out] at K
      have HK := Lib.hid K
      have HB5 := Lib.hid B5
      clear K S4 hb4 B4 B5 HT HR HE
      dsimp only
      go_wp2_with fail
      refine HK.out.mono ?_
      rintro e w5 ⟨a5, c5, rfl, h5⟩
      have B6 := Lib.hid (below_then HB5.out h5.below)
      have K2 := same_any h5.bytes (HB.out _ B6.out)
      rw [beq_self_eq_true] at K2
      have HK2 := Lib.hid K2
      clear h5 K2
      go_wp2_with fail
      refine HK2.out.mono ?_
      rintro e w6 ⟨rfl, rfl⟩
      go_wp2
      go_ret
      exact ⟨rfl, below_then b0'.out B6.out⟩
end Go.Proofs.Ytmkfpfnjimmmaaa
