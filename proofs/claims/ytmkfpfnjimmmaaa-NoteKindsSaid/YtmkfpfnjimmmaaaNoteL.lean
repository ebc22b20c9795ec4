/- The laws of package note: the walks of NoteSize. -/
import Derived.Test.YtmkfpfnjimmmaaaNoteR
import Derived.Deep.RegionWith
import Derived.BigQuiet
import Derived.Deep.QuietTactic
namespace Go.Proofs.Ytmkfpfnjimmmaaa
open Go.RowKit

theorem partsL_total (pp : List (List UInt8)) : (partsL pp).length = total pp + 2 * pp.length := by
  induction pp with
  | nil => rfl
  | cons l r ih => simp only [partsL, total, List.length_append, length_putL, ih, List.length_cons]; omega

set_option maxRecDepth 100000 in
set_option maxHeartbeats 1600000 in
theorem noteSize_walk {w : World} {v : Value} {x : NoteD} (hx : NoteV w v x) :
    Calls Try.prog 9 #[v] w fun e w' => e = .returned (.bool true) ∧ Below w.heap.size w w' := by
  obtain ⟨kind, pp, hop, back⟩ := x
  obtain ⟨⟨pa, pn, pc, rfl, hp⟩, hsm, _⟩ := hx
  dsimp only at hp hsm ⊢
  obtain ⟨W0, hW0⟩ : ∃ W0, W0 = w.alloc (.cells #[.int .i64 kind, .slice pa pn pc, .int .i64 hop, .bool back] 39) := ⟨_, rfl⟩
  have b0 : Below w.heap.size w W0 := by rw [hW0]; exact (Below.refl w.heap.size w).alloc (Nat.le_refl _) _
  have hs0 : W0.heap.size = w.heap.size + 1 := by rw [hW0]; simp
  have c0 : W0.cell? ⟨w.heap.size, 0, none⟩ = some (.int .i64 kind) := by rw [hW0]; exact cell_lastAt _ _ _ rfl rfl
  have c1 : W0.cell? ⟨w.heap.size, 1, none⟩ = some (.slice pa pn pc) := by rw [hW0]; exact cell_lastAt _ _ _ rfl rfl
  have c2 : W0.cell? ⟨w.heap.size, 2, none⟩ = some (.int .i64 hop) := by rw [hW0]; exact cell_lastAt _ _ _ rfl rfl
  have c3 : W0.cell? ⟨w.heap.size, 3, none⟩ = some (.bool back) := by rw [hW0]; exact cell_lastAt _ _ _ rfl rfl
  have hp0 := hp.keep b0
  have hmx := hp.le_i64
  have HC : Hid (∀ W, Below W0.heap.size W0 W → W.cell? ⟨w.heap.size, 0, none⟩ = some (.int .i64 kind) ∧ W.cell? ⟨w.heap.size, 1, none⟩ = some (.slice pa pn pc) ∧ W.cell? ⟨w.heap.size, 2, none⟩ = some (.int .i64 hop) ∧ W.cell? ⟨w.heap.size, 3, none⟩ = some (.bool back)) := fun W hW =>
    ⟨(hW.cell (World.block_lt_of_cell? _ _ c0)).trans c0, (hW.cell (World.block_lt_of_cell? _ _ c1)).trans c1, (hW.cell (World.block_lt_of_cell? _ _ c2)).trans c2, (hW.cell (World.block_lt_of_cell? _ _ c3)).trans c3⟩
  have HW0 := Lib.hid hW0
  clear c0 c1 c2 c3 hp hs0
  go_enter Try.func9, Try.ntmps9
  go_wp2_with fail
  refine (live06 _).mono ?_
  rintro e w1 ⟨rfl, b1⟩
  rw [← hW0] at b1
  clear hW0
  obtain ⟨d0, d1, d2, d3⟩ := HC.out w1 b1
  have hp1 := hp0.keep b1
  go_wp2_with fail
  refine (few_any hp1 hsm).mono ?_
  rintro e w2 ⟨rfl, b2⟩
  have B2 := below_then b1 b2
  obtain ⟨e0, e1, e2, e3⟩ := HC.out w2 B2
  clear d0 d1 d2 d3
  by_cases hf : fewB pp = true
  · rw [hf]
    have hp2 := hp0.keep B2
    go_wp2_with fail
    refine (nput_any hp2).mono ?_
    rintro e w3 ⟨a3, cap3, rfl, h3⟩
    have B3 := below_then B2 h3.below
    obtain ⟨f0, f1, f2, f3⟩ := HC.out w3 B3
    have hpw := hp0.keep B3
    have hx3 := h3.bytes
    clear e0 e1 e2 e3 h3
    by_cases hE : noteE kind hop back pp = 0
    · obtain ⟨hk1, hk7, h64, hlong, _, _⟩ := noteE_zero hE
      obtain ⟨kd, rfl⟩ := Int.eq_ofNat_of_zero_le (show 0 ≤ kind by omega)
      have hR : noteR kd hop back pp = noteL kd hop back pp := by rw [noteR, if_pos hE]
      rw [hR] at hx3 ⊢
      rw [hE]
      have hsz : (noteL kd hop back pp).length = 3 + (total pp + 2 * pp.length) + (tailL kd hop back).length := by
        simp only [noteL, List.length_cons, List.length_append, length_putL, partsL_total]; omega
      have htt : total pp ≤ 65536 := by
        have := total_le hlong
        have h4 : pp.length * 1024 ≤ 64 * 1024 := Nat.mul_le_mul_right _ h64
        omega
      obtain ⟨b, off, rfl, hcc⟩ := hx3.at (by simp [noteL])
      have hc0 : w3.cell? ⟨b, off, none⟩ = some (.int .u8 (kd : Int)) := by
        have := hcc 0 (by rw [hsz]; omega)
        simp only [noteL, List.getElem_cons_zero, Int.toNat_natCast, B, ofNat_toNat_int] at this
        rw [show ((kd : Int) % 256) = (kd : Int) by omega] at this
        exact this
      have HS := Lib.hid hsz
      have HPp := Lib.hid hpw
      have HTT := Lib.hid htt
      have hlen := hpw.len
      have HLen := Lib.hid hlen
      clear hR hE hx3 hcc hsz hpw htt hp0 hp1 hp2 hlong hsm f2 f3
      rw [hlen] at h64
      clear hlen
      obtain ⟨N, hN⟩ : ∃ N, N = (noteL kd hop back pp).length := ⟨_, rfl⟩
      rw [← hN] at HS ⊢
      clear hN
      go_wp2
      go_loop [5, 26] (fun s i => ∃ k : Nat, k ≤ pn ∧ i = .int .i64 k ∧ s = .int .i64 ((3 + (total (pp.take k) + 2 * k) : Nat) : Int)) (fun _ i => pn - (intOf i).toNat)
      case atStart => exact ⟨0, Nat.zero_le _, rfl, rfl⟩
      case round =>
        obtain ⟨k, hk, rfl, rfl⟩ := hrel
        by_cases hlt : k < pn
        · obtain ⟨l, hl⟩ : ∃ l, pp[k]? = some l := ⟨_, List.getElem?_eq_getElem (by rw [HLen.out]; exact hlt)⟩
          obtain ⟨b', off', hpa, a', c', hc, hby⟩ := HPp.out.part k l hl
          subst hpa
          have HT : Hid (total (pp.take (k + 1)) = total (pp.take k) + l.length) := by
            show _ = _
            rw [take_snoc hl, total_append]; simp [total]
          have hbd : total (pp.take k) + l.length ≤ 65536 := by
            rw [← HT.out]; exact Nat.le_trans (total_take_le pp (k + 1)) HTT.out
          clear hby hl
          generalize total (pp.take k) = q at *
          go_wp2
          refine ⟨⟨k + 1, by omega, by go_num, ?_⟩, by simp [intOf]; omega⟩
          rw [HT.out]; go_num
        · have hkp : k = pn := by omega
          have hto : total (pp.take k) = total pp := by rw [List.take_of_length_le (by rw [HLen.out]; omega)]
          rw [hto]
          have hT2 := HTT.out
          have hS2 := HS.out
          rw [HLen.out] at hS2
          clear hto
          generalize total pp = q at *
          obtain ⟨M, hM⟩ : ∃ M, M = 3 + (q + 2 * k) := ⟨_, rfl⟩
          have hM1 : M ≤ 70000 := by omega
          have hM3 : 3 ≤ M := by omega
          have hS3 : N = M + (tailL kd hop back).length := by omega
          rw [← hM]
          clear hM hS2 HS HTT hT2
          by_cases h7 : kd = 7
          · subst h7
            have e7 : (tailL ((7 : Nat) : Int) hop back).length = 2 := by simp [tailL]
            rw [e7] at hS3
            have hk0 : k ≤ 64 := by omega
            have f0' : w3.cell? ⟨w.heap.size, 0, none⟩ = some (.int .i64 7) := f0
            have hc0' : w3.cell? ⟨b, off, none⟩ = some (.int .u8 7) := hc0
            clear HC HW0 f0 hc0 hk1 hk7 e7 HPp hkp
            subst hS3
            go_wp2
            go_quiet (fail)
            go_wp2
            go_ret
            exact ⟨rfl, below_drewN (below_then b0 B3) _⟩
          · have h7b : ((kd : Int) == 7) = false := by rw [beq_eq_false_iff_ne]; omega
            have e7 : (tailL (kd : Int) hop back).length = 0 := by rw [tailL, if_neg (by omega)]; rfl
            rw [e7, Nat.add_zero] at hS3
            clear HC HW0 e7 HPp hkp h7
            subst hS3
            go_wp2
            go_quiet (fail)
            go_wp2
            go_ret
            exact ⟨rfl, below_drewN (below_then b0 B3) _⟩
    · have hne : (noteE kind hop back pp != 0) = true := by rw [bne_iff_ne]; exact hE
      have hR : noteR kind hop back pp = [] := by rw [noteR, if_neg hE]
      rw [hR]
      clear hR hE hx3
      go_wp2
      go_ret
      exact ⟨rfl, below_then b0 B3⟩
  · have hf' : fewB pp = false := by simpa using hf
    rw [hf']
    clear hf hf'
    go_wp2
    go_ret
    exact ⟨rfl, below_then b0 B2⟩
end Go.Proofs.Ytmkfpfnjimmmaaa
