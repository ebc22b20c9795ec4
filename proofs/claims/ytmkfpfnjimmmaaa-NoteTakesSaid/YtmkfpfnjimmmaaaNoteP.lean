/- The walks of Few, number, note.Put. -/
import Derived.Test.YtmkfpfnjimmmaaaNoteN
import Derived.Test.YtmkfpfnjimmmaaaWordP
import Derived.Deep.RegionLaw
namespace Go.Proofs.Ytmkfpfnjimmmaaa
open Go.RowKit

theorem ret_bool {a b : Bool} (h : a = b) : Ending.returned (.bool a) = .returned (.bool b) := by rw [h]

/-- How many bytes parts have. -/
def total : List (List UInt8) → Nat
  | [] => 0
  | l :: r => l.length + total r
theorem total_append (a b : List (List UInt8)) : total (a ++ b) = total a + total b := by
  induction a with
  | nil => simp [total]
  | cons l r ih => simp [total, ih]; omega
theorem total_le {pp : List (List UInt8)} {M : Nat} (h : ∀ l ∈ pp, l.length ≤ M) : total pp ≤ pp.length * M := by
  induction pp with
  | nil => simp [total]
  | cons l r ih =>
    have h1 := h l (List.mem_cons_self ..)
    have h2 := ih fun x hx => h x (List.mem_cons_of_mem _ hx)
    simp only [total, List.length_cons, Nat.succ_mul]
    omega
theorem total_take_le (pp : List (List UInt8)) (k : Nat) : total (pp.take k) ≤ total pp := by
  have := total_append (pp.take k) (pp.drop k)
  rw [List.take_append_drop] at this
  omega

def fewB (pp : List (List UInt8)) : Bool := decide (pp.length ≤ 80) && decide (total pp ≤ 6000)

set_option maxRecDepth 100000 in
set_option maxHeartbeats 400000 in
theorem few_yes {kind hop : Int} {back : Bool} {pa : Option Addr} {pn pc : Nat} {pp : List (List UInt8)} {w : World} (hp : Parts w pa pn pc pp) (hs : ∀ l ∈ pp, l.length ≤ 140737488351232) (h80 : pn ≤ 80) :
    Calls Try.prog 35 #[.agg #[.int .i64 kind, .slice pa pn pc, .int .i64 hop, .bool back]] w fun e w' => e = .returned (.bool (fewB pp)) ∧ Below w.heap.size w w' := by
  have hb := (Below.refl w.heap.size w).alloc (Nat.le_refl _) (.cells #[.int .i64 kind, .slice pa pn pc, .int .i64 hop, .bool back] 39)
  have HP := Lib.hid (hp.keep hb)
  have hmx := hp.le_i64
  have HT : Hid (total pp ≤ 80 * 140737488351232) := Nat.le_trans (total_le hs) (Nat.mul_le_mul_right _ (by rw [hp.len]; exact h80))
  have HE : Hid (fewB pp = decide (total pp ≤ 6000)) := by
    show _ = _
    rw [fewB, decide_eq_true (by rw [hp.len]; exact h80), Bool.true_and]
  clear hp hs
  go_enter Try.func35, Try.ntmps35
  go_wp2
  go_loop [3, 9] (fun s i => ∃ k : Nat, k ≤ pn ∧ i = .int .i64 k ∧ s = .int .i64 (total (pp.take k))) (fun _ i => pn - (intOf i).toNat)
  case atStart => exact ⟨0, Nat.zero_le _, rfl, rfl⟩
  case round =>
    obtain ⟨k, hk, rfl, rfl⟩ := hrel
    by_cases hlt : k < pn
    · obtain ⟨l, hl⟩ : ∃ l, pp[k]? = some l := ⟨_, List.getElem?_eq_getElem (by rw [HP.out.len]; exact hlt)⟩
      obtain ⟨b, off, hpa, a', c', hc, hby⟩ := HP.out.part k l hl
      subst hpa
      have HS : Hid (total (pp.take (k + 1)) = total (pp.take k) + l.length) := by
        show _ = _
        rw [take_snoc hl, total_append]; simp [total]
      have hml := hby.le_i64.1
      have hbd : total (pp.take k) + l.length ≤ 80 * 140737488351232 := by
        rw [← HS.out]; exact Nat.le_trans (total_take_le pp (k + 1)) HT.out
      clear hby hl
      generalize total (pp.take k) = q at *
      go_wp2
      refine ⟨⟨k + 1, by omega, by go_num, ?_⟩, by simp [intOf]; omega⟩
      rw [HS.out]; go_num
    · have hbd : total pp ≤ 80 * 140737488351232 := HT.out
      have ht : pp.take k = pp := List.take_of_length_le (by rw [HP.out.len]; omega)
      rw [ht]
      clear ht
      generalize total pp = q at *
      go_wp2
      go_ret
      exact ⟨ret_bool (by rw [HE.out, decide_eq_decide]; omega), hb⟩

set_option maxRecDepth 100000 in
set_option maxHeartbeats 400000 in
theorem few_no {kind hop : Int} {back : Bool} {pa : Option Addr} {pn pc : Nat} {pp : List (List UInt8)} {w : World} (hp : Parts w pa pn pc pp) (h80 : 80 < pn) :
    Calls Try.prog 35 #[.agg #[.int .i64 kind, .slice pa pn pc, .int .i64 hop, .bool back]] w fun e w' => e = .returned (.bool (fewB pp)) ∧ Below w.heap.size w w' := by
  have hb := (Below.refl w.heap.size w).alloc (Nat.le_refl _) (.cells #[.int .i64 kind, .slice pa pn pc, .int .i64 hop, .bool back] 39)
  have HP := Lib.hid (hp.keep hb)
  have hmx := hp.le_i64
  have HE : Hid (fewB pp = false) := by
    show _ = _
    rw [fewB, decide_eq_false (by rw [hp.len]; omega), Bool.false_and]
  clear hp
  go_enter Try.func35, Try.ntmps35
  go_wp2
  go_loop [3, 9] (fun s i => ∃ (k : Nat) (q : Int), k ≤ pn ∧ i = .int .i64 k ∧ s = .int .i64 q) (fun _ i => pn - (intOf i).toNat)
  case atStart => exact ⟨0, 0, Nat.zero_le _, rfl, rfl⟩
  case round =>
    obtain ⟨k, q, hk, rfl, rfl⟩ := hrel
    by_cases hlt : k < pn
    · obtain ⟨l, hl⟩ : ∃ l, pp[k]? = some l := ⟨_, List.getElem?_eq_getElem (by rw [HP.out.len]; exact hlt)⟩
      obtain ⟨b, off, hpa, a', c', hc, hby⟩ := HP.out.part k l hl
      subst hpa
      have hml := hby.le_i64.1
      clear hby hl
      go_wp2
      exact ⟨⟨k + 1, _, by omega, by go_num, rfl⟩, by simp [intOf]; omega⟩
    · go_wp2
      go_ret
      exact ⟨ret_bool HE.out.symm, hb⟩

theorem few_any {kind hop : Int} {back : Bool} {pa : Option Addr} {pn pc : Nat} {pp : List (List UInt8)} {w : World} (hp : Parts w pa pn pc pp) (hs : ∀ l ∈ pp, l.length ≤ 140737488351232) :
    Calls Try.prog 35 #[.agg #[.int .i64 kind, .slice pa pn pc, .int .i64 hop, .bool back]] w fun e w' => e = .returned (.bool (fewB pp)) ∧ Below w.heap.size w w' := by
  by_cases h : pn ≤ 80
  · exact few_yes hp hs h
  · exact few_no hp (by omega)

theorem put_two (n : Nat) (hn : n < 65536) : putR n 2 = putL n 2 ∧ putE n 2 = 0 := by
  have e : putE n 2 = 0 := by
    unfold putE
    rw [if_neg (by decide), if_pos (by simpa using hn)]
  exact ⟨putR_of_zero e, e⟩

set_option maxRecDepth 100000 in
set_option maxHeartbeats 400000 in
theorem number_any (n : Nat) (hn : n < 65536) (w : World) :
    Calls Try.prog 70 #[.int .i64 n] w fun e w' => ∃ a cap, e = .returned (.slice a 2 cap) ∧ FreshB 5 w w' a 2 cap (putL n 2) := by
  have P := fun w => put_any n 2 w (by omega)
  rw [(put_two n hn).1, (put_two n hn).2] at P
  have hl := Lib.hid (length_putL n 2)
  go_enter Try.func70, Try.ntmps70
  go_wp2_with fail
  refine (P _).mono ?_
  rintro e w1 ⟨a, cap, rfl, h1⟩
  rw [hl.out] at h1 ⊢
  go_wp2
  go_ret
  exact ⟨a, cap, rfl, h1⟩

set_option maxRecDepth 100000 in
set_option maxHeartbeats 400000 in
theorem must_any (n : Nat) (hn : n < 65536) (w : World) :
    Calls Try.prog 72 #[.int .i64 n, .int .i64 2] w fun e w' => ∃ a cap, e = .returned (.slice a 2 cap) ∧ FreshB 5 w w' a 2 cap (putL n 2) := by
  have P := fun w => rput_any n 2 w (by omega)
  rw [(put_two n hn).1, (put_two n hn).2] at P
  have hl := Lib.hid (length_putL n 2)
  go_enter Try.func72, Try.ntmps72
  go_wp2_with fail
  refine (P _).mono ?_
  rintro e w1 ⟨a, cap, rfl, h1⟩
  rw [hl.out] at h1 ⊢
  go_wp2
  go_ret
  exact ⟨a, cap, rfl, h1⟩
end Go.Proofs.Ytmkfpfnjimmmaaa
