/- The walks of slices.ContainsFunc at letter.Take's function, and cmp.Or. -/
import Derived.Test.YtmkfpfnjimmmaaaLetD
import Derived.Test.YtmkfpfnjimmmaaaBlk
namespace Go.Proofs.Ytmkfpfnjimmmaaa
open Go.RowKit

set_option maxRecDepth 100000 in
set_option maxHeartbeats 400000 in
theorem notZero_any (u : Int) (w : World) (r : Bool) (h : (u != 0) = r) : Calls Try.prog 101 #[.int .u8 u] w fun e w' => e = .returned (.bool r) ∧ w = w' := by
  go_enter Try.func101, Try.ntmps101
  go_wp2
  go_ret
  exact ⟨rfl, rfl⟩

/-- Where the first byte is that is not 0. -/
def Found (w : World) (l : List UInt8) (e : Ending) (w' : World) : Prop := ∃ j : Int, e = .returned (.int .i64 j) ∧ decide (0 ≤ j) = !l.all (· == 0) ∧ w = w'

set_option maxRecDepth 100000 in
set_option maxHeartbeats 400000 in
theorem indexFunc_any {w : World} {a : Option Addr} {n cap : Nat} {l : List UInt8} (h : Bytes w a n cap l) :
    Calls Try.prog 112 #[.slice a n cap, .func (.func 101) #[] #[]] w (Found w l) := by
  have hl := Lib.hid h.len
  have hmx := h.le_i64
  have H := Lib.hid h
  clear h
  obtain ⟨Q, hQ⟩ : ∃ Q, Q = Found w l := ⟨_, rfl⟩
  have HQ := Lib.hid hQ
  rw [← hQ]
  clear hQ
  go_enter Try.func112, Try.ntmps112
  go_wp2
  go_loop [8] (fun i => ∃ k : Nat, k ≤ n ∧ i = .int .i64 k ∧ Hid ((l.take k).all (· == 0) = true)) (fun i => n - (intOf i).toNat)
  case atStart => exact ⟨0, Nat.zero_le _, rfl, rfl⟩
  case round =>
    obtain ⟨k, hk, rfl, ha⟩ := hrel
    by_cases hlt : k < n
    · obtain ⟨b, off, rfl, hcc⟩ := H.out.at (by intro e; have := hl.out; rw [e] at this; simp at this; omega)
      obtain ⟨u, hu, hc, hu8, hu0⟩ := cell_get hcc k (by rw [hl.out]; exact hlt)
      have HT : Hid ((l.take (k + 1)).all (· == 0) = ((l.take k).all (· == 0) && u == 0)) := by
        show _ = _
        rw [take_snoc hu, List.all_append]; simp
      have HM := Lib.hid (List.mem_of_getElem? hu)
      clear hcc hu
      by_cases hz : u.toNat = 0
      · have K := fun W => notZero_any (u.toNat : Int) W false (by simp [hz])
        have HK := Lib.hid K
        have hta : Hid ((l.take (k + 1)).all (· == 0) = true) := by
          show _ = _
          rw [HT.out, ha.out, Bool.true_and, beq_iff_eq, ← UInt8.toNat_inj, hz]; rfl
        clear K hz
        generalize (u.toNat : Int) = un at *
        go_wp2_with fail
        refine (HK.out _).mono ?_
        rintro e w1 ⟨rfl, rfl⟩
        go_wp2
        exact ⟨⟨k + 1, by omega, by go_num, hta⟩, by simp [intOf]; omega⟩
      · have K := fun W => notZero_any (u.toNat : Int) W true (by rw [bne_iff_ne]; omega)
        have HK := Lib.hid K
        have hno : Hid (decide ((0 : Int) ≤ (k : Int)) = !l.all (· == 0)) := by
          show _ = _
          have h1 : l.all (· == 0) = false := by
            rw [List.all_eq_false]
            exact ⟨u, HM.out, by intro e; rw [beq_iff_eq] at e; subst e; exact hz rfl⟩
          rw [h1, decide_eq_true (by omega)]
          rfl
        clear K hz
        generalize (u.toNat : Int) = un at *
        go_wp2_with fail
        refine (HK.out _).mono ?_
        rintro e w1 ⟨rfl, rfl⟩
        go_wp2
        rw [HQ.out]
        exact ⟨_, rfl, hno.out, rfl⟩
    · have hall : Hid (l.all (· == 0) = true) := by
        have h1 := ha.out
        rw [List.take_of_length_le (by rw [hl.out]; omega)] at h1
        exact h1
      clear ha
      go_wp2
      rw [HQ.out]
      exact ⟨-1, rfl, by rw [hall.out]; rfl, rfl⟩

set_option maxRecDepth 100000 in
set_option maxHeartbeats 400000 in
theorem containsFunc_any {w : World} {a : Option Addr} {n cap : Nat} {l : List UInt8} (h : Bytes w a n cap l) :
    Calls Try.prog 100 #[.slice a n cap, .func (.func 101) #[] #[]] w fun e w' => e = .returned (.bool (!l.all (· == 0))) ∧ w = w' := by
  have K := indexFunc_any h
  obtain ⟨r, hr⟩ : ∃ r, r = !l.all (· == 0) := ⟨_, rfl⟩
  have HF : Hid (Found w l = fun e w' => ∃ j : Int, e = .returned (.int .i64 j) ∧ decide (0 ≤ j) = r ∧ w = w') := by show _ = _; rw [hr]; rfl
  rw [← hr]
  clear hr h
  have HK := Lib.hid K
  clear K
  go_enter Try.func100, Try.ntmps100
  go_wp2_with fail
  refine HK.out.mono ?_
  rw [HF.out]
  rintro e w1 ⟨j, rfl, hj, rfl⟩
  clear HK HF
  go_wp2
  go_ret
  exact ⟨rfl, rfl⟩

set_option maxRecDepth 100000 in
set_option maxHeartbeats 400000 in
/-- Four errors of which the last alone may be one. -/
theorem or_last {w : World} {k : Nat} (E : Int) (h : ∀ i, i < 3 → w.cell? ⟨k, i, none⟩ = some (.int .i64 0)) (h3 : w.cell? ⟨k, 3, none⟩ = some (.int .i64 E)) :
    Calls Try.prog 76 #[.slice (some ⟨k, 0, none⟩) 4 4] w fun e w' => e = .returned (.int .i64 E) ∧ w = w' := by
  have HC := Lib.hid h
  have HE := Lib.hid h3
  clear h h3
  go_enter Try.func76, Try.ntmps76
  go_wp2
  go_loop [8] (fun i => ∃ j : Nat, j ≤ 4 ∧ i = .int .i64 j ∧ Hid (j = 4 → E = 0)) (fun i => 4 - (intOf i).toNat)
  case atStart => exact ⟨0, by omega, rfl, fun h => by cases h⟩
  case round =>
    obtain ⟨j, hj, rfl, hz⟩ := hrel
    by_cases hlt : j < 3
    · have hc := HC.out j hlt
      go_wp2
      exact ⟨⟨j + 1, by omega, by go_num, fun h => by omega⟩, by simp [intOf]; omega⟩
    · by_cases hj3 : j < 4
      · obtain rfl : j = 3 := by omega
        have hc := HE.out
        by_cases hE : E = 0
        · subst hE
          go_wp2
          exact ⟨⟨4, by omega, by go_num, fun _ => by first | rfl | trivial⟩, by simp [intOf]⟩
        · have hne : (E != 0) = true := by rw [bne_iff_ne]; exact hE
          go_wp2
          go_ret
          exact ⟨rfl, rfl⟩
      · have hE : E = 0 := hz.out (by omega)
        subst hE
        go_wp2
        go_ret
        exact ⟨rfl, rfl⟩
end Go.Proofs.Ytmkfpfnjimmmaaa
