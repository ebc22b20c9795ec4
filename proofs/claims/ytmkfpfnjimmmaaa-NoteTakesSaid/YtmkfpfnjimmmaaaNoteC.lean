/- The walk of the reference of note.Check. -/
import Derived.Test.YtmkfpfnjimmmaaaNoteB
namespace Go.Proofs.Ytmkfpfnjimmmaaa
open Go.RowKit

set_option maxRecDepth 100000 in
set_option maxHeartbeats 1600000 in
theorem rcheck_1 {hop : Int} {back : Bool} {pa : Option Addr} {pn pc : Nat} {pp : List (List UInt8)} {w : World} (hp : Parts w pa pn pc pp) :
    Calls Try.prog 39 #[.agg #[.int .i64 1, .slice pa pn pc, .int .i64 hop, .bool back]] w fun e w' => e = .returned (.int .i64 (noteE 1 hop back pp)) ∧ Below w.heap.size w w' := by
  have hb := (Below.refl w.heap.size w).alloc (Nat.le_refl _) (.cells #[.int .i64 1, .slice pa pn pc, .int .i64 hop, .bool back] 39)
  have HP := Lib.hid (hp.keep hb)
  have hmx := hp.le_i64
  have HE : noteE 1 hop back pp = if (spanOf 1).2.2 = false ∨ (pn : Int) < (spanOf 1).1 ∨ (spanOf 1).2.1 < pn then 1
      else if (((1 : Int) = 7) ∧ (hop < 0 ∨ 7 < hop)) ∨ (((1 : Int) ≠ 7) ∧ (hop ≠ 0 ∨ back = true)) then 1
      else if ∃ l ∈ pp, 1024 < l.length then 2 else 0 := by rw [noteE, HP.out.len]
  clear hp
  by_cases h1 : 0 < pn
  · have HR : Hid (noteE 1 hop back pp = 1) := by show _ = _; rw [HE]; exact if_pos (.inr (.inr (by show (0 : Int) < _; omega)))
    clear HE
    go_enter Try.func39, Try.ntmps39
    go_wp2
    go_ret
    exact ⟨ret_int HR.out.symm, hb⟩
  obtain rfl : pn = 0 := by omega
  have HE2 : ¬ ((spanOf 1).2.2 = false ∨ ((0 : Nat) : Int) < (spanOf 1).1 ∨ (spanOf 1).2.1 < ((0 : Nat) : Int)) := by
    show ¬ (true = false ∨ _ < (0 : Int) ∨ (0 : Int) < _)
    rintro (h | h | h)
    · cases h
    · omega
    · omega
  by_cases h3 : hop = 0
  rotate_left
  · have h3b : (hop != 0) = true := by simpa using h3
    have HR : Hid (noteE 1 hop back pp = 1) := by show _ = _; rw [HE]; exact (if_neg HE2).trans (if_pos (.inr ⟨by decide, .inl h3⟩))
    clear HE HE2 h3
    go_enter Try.func39, Try.ntmps39
    go_wp2
    go_ret
    exact ⟨ret_int HR.out.symm, hb⟩
  subst h3
  cases back with
  | true =>
    have HR : Hid (noteE 1 0 true pp = 1) := by show _ = _; rw [HE]; exact (if_neg HE2).trans (if_pos (.inr ⟨by decide, .inr rfl⟩))
    clear HE HE2
    go_enter Try.func39, Try.ntmps39
    go_wp2
    go_ret
    exact ⟨ret_int HR.out.symm, hb⟩
  | false =>
  have HE3 : ¬ ((((1 : Int) = 7) ∧ ((0 : Int) < 0 ∨ (7 : Int) < 0)) ∨ (((1 : Int) ≠ 7) ∧ ((0 : Int) ≠ 0 ∨ false = true))) := by
    rintro (⟨h, _⟩ | ⟨_, h | h⟩)
    · exact absurd h (by decide)
    · exact h rfl
    · cases h
  have hlongE : Hid ((∃ l ∈ pp, 1024 < l.length) → 2 = noteE 1 0 false pp) := fun h => by rw [HE]; exact ((if_neg HE2).trans ((if_neg HE3).trans (if_pos h))).symm
  have hokE : Hid ((∀ l ∈ pp, l.length ≤ 1024) → 0 = noteE 1 0 false pp) := fun h => by
    rw [HE]; refine ((if_neg HE2).trans ((if_neg HE3).trans (if_neg ?_))).symm; rintro ⟨l, hl, h'⟩; have := h l hl; omega
  clear HE HE2 HE3
  go_enter Try.func39, Try.ntmps39
  go_wp2
  go_loop [54] (fun i => ∃ k : Nat, k ≤ 0 ∧ i = .int .i64 k ∧ Hid (∀ l ∈ pp.take k, l.length ≤ 1024)) (fun i => 0 - (intOf i).toNat)
  case atStart => exact ⟨0, Nat.zero_le _, rfl, fun l hl => by simp at hl⟩
  case round =>
    obtain ⟨k, hk, rfl, HA⟩ := hrel
    by_cases hlt : k < 0
    · exact absurd hlt (Nat.not_lt_zero _)
    · go_wp2
      go_ret
      refine ⟨ret_int (hokE.out fun l hl => HA.out l ?_), hb⟩
      rw [List.take_of_length_le (by rw [HP.out.len]; omega)]
      exact hl

set_option maxRecDepth 100000 in
set_option maxHeartbeats 1600000 in
theorem rcheck_2 {hop : Int} {back : Bool} {pa : Option Addr} {pn pc : Nat} {pp : List (List UInt8)} {w : World} (hp : Parts w pa pn pc pp) :
    Calls Try.prog 39 #[.agg #[.int .i64 2, .slice pa pn pc, .int .i64 hop, .bool back]] w fun e w' => e = .returned (.int .i64 (noteE 2 hop back pp)) ∧ Below w.heap.size w w' := by
  have hb := (Below.refl w.heap.size w).alloc (Nat.le_refl _) (.cells #[.int .i64 2, .slice pa pn pc, .int .i64 hop, .bool back] 39)
  have HP := Lib.hid (hp.keep hb)
  have hmx := hp.le_i64
  have HE : noteE 2 hop back pp = if (spanOf 2).2.2 = false ∨ (pn : Int) < (spanOf 2).1 ∨ (spanOf 2).2.1 < pn then 1
      else if (((2 : Int) = 7) ∧ (hop < 0 ∨ 7 < hop)) ∨ (((2 : Int) ≠ 7) ∧ (hop ≠ 0 ∨ back = true)) then 1
      else if ∃ l ∈ pp, 1024 < l.length then 2 else 0 := by rw [noteE, HP.out.len]
  clear hp
  by_cases h1 : 0 < pn
  · have HR : Hid (noteE 2 hop back pp = 1) := by show _ = _; rw [HE]; exact if_pos (.inr (.inr (by show (0 : Int) < _; omega)))
    clear HE
    go_enter Try.func39, Try.ntmps39
    go_wp2
    go_ret
    exact ⟨ret_int HR.out.symm, hb⟩
  obtain rfl : pn = 0 := by omega
  have HE2 : ¬ ((spanOf 2).2.2 = false ∨ ((0 : Nat) : Int) < (spanOf 2).1 ∨ (spanOf 2).2.1 < ((0 : Nat) : Int)) := by
    show ¬ (true = false ∨ _ < (0 : Int) ∨ (0 : Int) < _)
    rintro (h | h | h)
    · cases h
    · omega
    · omega
  by_cases h3 : hop = 0
  rotate_left
  · have h3b : (hop != 0) = true := by simpa using h3
    have HR : Hid (noteE 2 hop back pp = 1) := by show _ = _; rw [HE]; exact (if_neg HE2).trans (if_pos (.inr ⟨by decide, .inl h3⟩))
    clear HE HE2 h3
    go_enter Try.func39, Try.ntmps39
    go_wp2
    go_ret
    exact ⟨ret_int HR.out.symm, hb⟩
  subst h3
  cases back with
  | true =>
    have HR : Hid (noteE 2 0 true pp = 1) := by show _ = _; rw [HE]; exact (if_neg HE2).trans (if_pos (.inr ⟨by decide, .inr rfl⟩))
    clear HE HE2
    go_enter Try.func39, Try.ntmps39
    go_wp2
    go_ret
    exact ⟨ret_int HR.out.symm, hb⟩
  | false =>
  have HE3 : ¬ ((((2 : Int) = 7) ∧ ((0 : Int) < 0 ∨ (7 : Int) < 0)) ∨ (((2 : Int) ≠ 7) ∧ ((0 : Int) ≠ 0 ∨ false = true))) := by
    rintro (⟨h, _⟩ | ⟨_, h | h⟩)
    · exact absurd h (by decide)
    · exact h rfl
    · cases h
  have hlongE : Hid ((∃ l ∈ pp, 1024 < l.length) → 2 = noteE 2 0 false pp) := fun h => by rw [HE]; exact ((if_neg HE2).trans ((if_neg HE3).trans (if_pos h))).symm
  have hokE : Hid ((∀ l ∈ pp, l.length ≤ 1024) → 0 = noteE 2 0 false pp) := fun h => by
    rw [HE]; refine ((if_neg HE2).trans ((if_neg HE3).trans (if_neg ?_))).symm; rintro ⟨l, hl, h'⟩; have := h l hl; omega
  clear HE HE2 HE3
  go_enter Try.func39, Try.ntmps39
  go_wp2
  go_loop [54] (fun i => ∃ k : Nat, k ≤ 0 ∧ i = .int .i64 k ∧ Hid (∀ l ∈ pp.take k, l.length ≤ 1024)) (fun i => 0 - (intOf i).toNat)
  case atStart => exact ⟨0, Nat.zero_le _, rfl, fun l hl => by simp at hl⟩
  case round =>
    obtain ⟨k, hk, rfl, HA⟩ := hrel
    by_cases hlt : k < 0
    · exact absurd hlt (Nat.not_lt_zero _)
    · go_wp2
      go_ret
      refine ⟨ret_int (hokE.out fun l hl => HA.out l ?_), hb⟩
      rw [List.take_of_length_le (by rw [HP.out.len]; omega)]
      exact hl

set_option maxRecDepth 100000 in
set_option maxHeartbeats 1600000 in
theorem rcheck_3 {hop : Int} {back : Bool} {pa : Option Addr} {pn pc : Nat} {pp : List (List UInt8)} {w : World} (hp : Parts w pa pn pc pp) :
    Calls Try.prog 39 #[.agg #[.int .i64 3, .slice pa pn pc, .int .i64 hop, .bool back]] w fun e w' => e = .returned (.int .i64 (noteE 3 hop back pp)) ∧ Below w.heap.size w w' := by
  have hb := (Below.refl w.heap.size w).alloc (Nat.le_refl _) (.cells #[.int .i64 3, .slice pa pn pc, .int .i64 hop, .bool back] 39)
  have HP := Lib.hid (hp.keep hb)
  have hmx := hp.le_i64
  have HE : noteE 3 hop back pp = if (spanOf 3).2.2 = false ∨ (pn : Int) < (spanOf 3).1 ∨ (spanOf 3).2.1 < pn then 1
      else if (((3 : Int) = 7) ∧ (hop < 0 ∨ 7 < hop)) ∨ (((3 : Int) ≠ 7) ∧ (hop ≠ 0 ∨ back = true)) then 1
      else if ∃ l ∈ pp, 1024 < l.length then 2 else 0 := by rw [noteE, HP.out.len]
  clear hp
  by_cases h1 : pn = 1
  rotate_left
  · have h1b : ((pn : Int) != 1) = true := by rw [bne_iff_ne]; omega
    have HR : Hid (noteE 3 hop back pp = 1) := by show _ = _; rw [HE]; exact if_pos (.inr (by show (_ < (1 : Int)) ∨ ((1 : Int) < _); omega))
    clear HE h1
    go_enter Try.func39, Try.ntmps39
    go_wp2
    go_ret
    exact ⟨ret_int HR.out.symm, hb⟩
  subst h1
  have HE2 : ¬ ((spanOf 3).2.2 = false ∨ ((1 : Nat) : Int) < (spanOf 3).1 ∨ (spanOf 3).2.1 < ((1 : Nat) : Int)) := by
    show ¬ (true = false ∨ _ < (1 : Int) ∨ (1 : Int) < _)
    rintro (h | h | h)
    · cases h
    · omega
    · omega
  by_cases h3 : hop = 0
  rotate_left
  · have h3b : (hop != 0) = true := by simpa using h3
    have HR : Hid (noteE 3 hop back pp = 1) := by show _ = _; rw [HE]; exact (if_neg HE2).trans (if_pos (.inr ⟨by decide, .inl h3⟩))
    clear HE HE2 h3
    go_enter Try.func39, Try.ntmps39
    go_wp2
    go_ret
    exact ⟨ret_int HR.out.symm, hb⟩
  subst h3
  cases back with
  | true =>
    have HR : Hid (noteE 3 0 true pp = 1) := by show _ = _; rw [HE]; exact (if_neg HE2).trans (if_pos (.inr ⟨by decide, .inr rfl⟩))
    clear HE HE2
    go_enter Try.func39, Try.ntmps39
    go_wp2
    go_ret
    exact ⟨ret_int HR.out.symm, hb⟩
  | false =>
  have HE3 : ¬ ((((3 : Int) = 7) ∧ ((0 : Int) < 0 ∨ (7 : Int) < 0)) ∨ (((3 : Int) ≠ 7) ∧ ((0 : Int) ≠ 0 ∨ false = true))) := by
    rintro (⟨h, _⟩ | ⟨_, h | h⟩)
    · exact absurd h (by decide)
    · exact h rfl
    · cases h
  have hlongE : Hid ((∃ l ∈ pp, 1024 < l.length) → 2 = noteE 3 0 false pp) := fun h => by rw [HE]; exact ((if_neg HE2).trans ((if_neg HE3).trans (if_pos h))).symm
  have hokE : Hid ((∀ l ∈ pp, l.length ≤ 1024) → 0 = noteE 3 0 false pp) := fun h => by
    rw [HE]; refine ((if_neg HE2).trans ((if_neg HE3).trans (if_neg ?_))).symm; rintro ⟨l, hl, h'⟩; have := h l hl; omega
  clear HE HE2 HE3
  go_enter Try.func39, Try.ntmps39
  go_wp2
  go_loop [54] (fun i => ∃ k : Nat, k ≤ 1 ∧ i = .int .i64 k ∧ Hid (∀ l ∈ pp.take k, l.length ≤ 1024)) (fun i => 1 - (intOf i).toNat)
  case atStart => exact ⟨0, Nat.zero_le _, rfl, fun l hl => by simp at hl⟩
  case round =>
    obtain ⟨k, hk, rfl, HA⟩ := hrel
    by_cases hlt : k < 1
    · obtain ⟨l, hl⟩ : ∃ l, pp[k]? = some l := ⟨_, List.getElem?_eq_getElem (by rw [HP.out.len]; exact hlt)⟩
      obtain ⟨b, off, hpa, a', c', hc, hby⟩ := HP.out.part k l hl
      subst hpa
      have HT := Lib.hid (take_snoc hl)
      have HM := Lib.hid (List.mem_of_getElem? hl)
      have hml := hby.le_i64.1
      clear hby hl
      by_cases hlong : 1024 < l.length
      · go_wp2
        go_ret
        exact ⟨ret_int (hlongE.out ⟨l, HM.out, hlong⟩), hb⟩
      · go_wp2
        refine ⟨⟨k + 1, by omega, by go_num, ?_⟩, by simp [intOf]; omega⟩
        intro x hx
        rw [HT.out] at hx
        rcases List.mem_append.1 hx with h | h
        · exact HA.out x h
        · have : x = l := by simpa using h
          subst this
          omega
    · go_wp2
      go_ret
      refine ⟨ret_int (hokE.out fun l hl => HA.out l ?_), hb⟩
      rw [List.take_of_length_le (by rw [HP.out.len]; omega)]
      exact hl

set_option maxRecDepth 100000 in
set_option maxHeartbeats 1600000 in
theorem rcheck_4 {hop : Int} {back : Bool} {pa : Option Addr} {pn pc : Nat} {pp : List (List UInt8)} {w : World} (hp : Parts w pa pn pc pp) :
    Calls Try.prog 39 #[.agg #[.int .i64 4, .slice pa pn pc, .int .i64 hop, .bool back]] w fun e w' => e = .returned (.int .i64 (noteE 4 hop back pp)) ∧ Below w.heap.size w w' := by
  have hb := (Below.refl w.heap.size w).alloc (Nat.le_refl _) (.cells #[.int .i64 4, .slice pa pn pc, .int .i64 hop, .bool back] 39)
  have HP := Lib.hid (hp.keep hb)
  have hmx := hp.le_i64
  have HE : noteE 4 hop back pp = if (spanOf 4).2.2 = false ∨ (pn : Int) < (spanOf 4).1 ∨ (spanOf 4).2.1 < pn then 1
      else if (((4 : Int) = 7) ∧ (hop < 0 ∨ 7 < hop)) ∨ (((4 : Int) ≠ 7) ∧ (hop ≠ 0 ∨ back = true)) then 1
      else if ∃ l ∈ pp, 1024 < l.length then 2 else 0 := by rw [noteE, HP.out.len]
  clear hp
  by_cases h1 : 64 < pn
  · have HR : Hid (noteE 4 hop back pp = 1) := by show _ = _; rw [HE]; exact if_pos (.inr (.inr (by show (64 : Int) < _; omega)))
    clear HE
    go_enter Try.func39, Try.ntmps39
    go_wp2
    go_ret
    exact ⟨ret_int HR.out.symm, hb⟩
  have HE2 : ¬ ((spanOf 4).2.2 = false ∨ ((pn : Nat) : Int) < (spanOf 4).1 ∨ (spanOf 4).2.1 < ((pn : Nat) : Int)) := by
    show ¬ (true = false ∨ _ < (0 : Int) ∨ (64 : Int) < _)
    rintro (h | h | h)
    · cases h
    · omega
    · omega
  by_cases h3 : hop = 0
  rotate_left
  · have h3b : (hop != 0) = true := by simpa using h3
    have HR : Hid (noteE 4 hop back pp = 1) := by show _ = _; rw [HE]; exact (if_neg HE2).trans (if_pos (.inr ⟨by decide, .inl h3⟩))
    clear HE HE2 h3
    go_enter Try.func39, Try.ntmps39
    go_wp2
    go_ret
    exact ⟨ret_int HR.out.symm, hb⟩
  subst h3
  cases back with
  | true =>
    have HR : Hid (noteE 4 0 true pp = 1) := by show _ = _; rw [HE]; exact (if_neg HE2).trans (if_pos (.inr ⟨by decide, .inr rfl⟩))
    clear HE HE2
    go_enter Try.func39, Try.ntmps39
    go_wp2
    go_ret
    exact ⟨ret_int HR.out.symm, hb⟩
  | false =>
  have HE3 : ¬ ((((4 : Int) = 7) ∧ ((0 : Int) < 0 ∨ (7 : Int) < 0)) ∨ (((4 : Int) ≠ 7) ∧ ((0 : Int) ≠ 0 ∨ false = true))) := by
    rintro (⟨h, _⟩ | ⟨_, h | h⟩)
    · exact absurd h (by decide)
    · exact h rfl
    · cases h
  have hlongE : Hid ((∃ l ∈ pp, 1024 < l.length) → 2 = noteE 4 0 false pp) := fun h => by rw [HE]; exact ((if_neg HE2).trans ((if_neg HE3).trans (if_pos h))).symm
  have hokE : Hid ((∀ l ∈ pp, l.length ≤ 1024) → 0 = noteE 4 0 false pp) := fun h => by
    rw [HE]; refine ((if_neg HE2).trans ((if_neg HE3).trans (if_neg ?_))).symm; rintro ⟨l, hl, h'⟩; have := h l hl; omega
  clear HE HE2 HE3
  go_enter Try.func39, Try.ntmps39
  go_wp2
  go_loop [54] (fun i => ∃ k : Nat, k ≤ pn ∧ i = .int .i64 k ∧ Hid (∀ l ∈ pp.take k, l.length ≤ 1024)) (fun i => pn - (intOf i).toNat)
  case atStart => exact ⟨0, Nat.zero_le _, rfl, fun l hl => by simp at hl⟩
  case round =>
    obtain ⟨k, hk, rfl, HA⟩ := hrel
    by_cases hlt : k < pn
    · obtain ⟨l, hl⟩ : ∃ l, pp[k]? = some l := ⟨_, List.getElem?_eq_getElem (by rw [HP.out.len]; exact hlt)⟩
      obtain ⟨b, off, hpa, a', c', hc, hby⟩ := HP.out.part k l hl
      subst hpa
      have HT := Lib.hid (take_snoc hl)
      have HM := Lib.hid (List.mem_of_getElem? hl)
      have hml := hby.le_i64.1
      clear hby hl
      by_cases hlong : 1024 < l.length
      · go_wp2
        go_ret
        exact ⟨ret_int (hlongE.out ⟨l, HM.out, hlong⟩), hb⟩
      · go_wp2
        refine ⟨⟨k + 1, by omega, by go_num, ?_⟩, by simp [intOf]; omega⟩
        intro x hx
        rw [HT.out] at hx
        rcases List.mem_append.1 hx with h | h
        · exact HA.out x h
        · have : x = l := by simpa using h
          subst this
          omega
    · go_wp2
      go_ret
      refine ⟨ret_int (hokE.out fun l hl => HA.out l ?_), hb⟩
      rw [List.take_of_length_le (by rw [HP.out.len]; omega)]
      exact hl

set_option maxRecDepth 100000 in
set_option maxHeartbeats 1600000 in
theorem rcheck_5 {hop : Int} {back : Bool} {pa : Option Addr} {pn pc : Nat} {pp : List (List UInt8)} {w : World} (hp : Parts w pa pn pc pp) :
    Calls Try.prog 39 #[.agg #[.int .i64 5, .slice pa pn pc, .int .i64 hop, .bool back]] w fun e w' => e = .returned (.int .i64 (noteE 5 hop back pp)) ∧ Below w.heap.size w w' := by
  have hb := (Below.refl w.heap.size w).alloc (Nat.le_refl _) (.cells #[.int .i64 5, .slice pa pn pc, .int .i64 hop, .bool back] 39)
  have HP := Lib.hid (hp.keep hb)
  have hmx := hp.le_i64
  have HE : noteE 5 hop back pp = if (spanOf 5).2.2 = false ∨ (pn : Int) < (spanOf 5).1 ∨ (spanOf 5).2.1 < pn then 1
      else if (((5 : Int) = 7) ∧ (hop < 0 ∨ 7 < hop)) ∨ (((5 : Int) ≠ 7) ∧ (hop ≠ 0 ∨ back = true)) then 1
      else if ∃ l ∈ pp, 1024 < l.length then 2 else 0 := by rw [noteE, HP.out.len]
  clear hp
  by_cases h1 : 64 < pn
  · have HR : Hid (noteE 5 hop back pp = 1) := by show _ = _; rw [HE]; exact if_pos (.inr (.inr (by show (64 : Int) < _; omega)))
    clear HE
    go_enter Try.func39, Try.ntmps39
    go_wp2
    go_ret
    exact ⟨ret_int HR.out.symm, hb⟩
  have HE2 : ¬ ((spanOf 5).2.2 = false ∨ ((pn : Nat) : Int) < (spanOf 5).1 ∨ (spanOf 5).2.1 < ((pn : Nat) : Int)) := by
    show ¬ (true = false ∨ _ < (0 : Int) ∨ (64 : Int) < _)
    rintro (h | h | h)
    · cases h
    · omega
    · omega
  by_cases h3 : hop = 0
  rotate_left
  · have h3b : (hop != 0) = true := by simpa using h3
    have HR : Hid (noteE 5 hop back pp = 1) := by show _ = _; rw [HE]; exact (if_neg HE2).trans (if_pos (.inr ⟨by decide, .inl h3⟩))
    clear HE HE2 h3
    go_enter Try.func39, Try.ntmps39
    go_wp2
    go_ret
    exact ⟨ret_int HR.out.symm, hb⟩
  subst h3
  cases back with
  | true =>
    have HR : Hid (noteE 5 0 true pp = 1) := by show _ = _; rw [HE]; exact (if_neg HE2).trans (if_pos (.inr ⟨by decide, .inr rfl⟩))
    clear HE HE2
    go_enter Try.func39, Try.ntmps39
    go_wp2
    go_ret
    exact ⟨ret_int HR.out.symm, hb⟩
  | false =>
  have HE3 : ¬ ((((5 : Int) = 7) ∧ ((0 : Int) < 0 ∨ (7 : Int) < 0)) ∨ (((5 : Int) ≠ 7) ∧ ((0 : Int) ≠ 0 ∨ false = true))) := by
    rintro (⟨h, _⟩ | ⟨_, h | h⟩)
    · exact absurd h (by decide)
    · exact h rfl
    · cases h
  have hlongE : Hid ((∃ l ∈ pp, 1024 < l.length) → 2 = noteE 5 0 false pp) := fun h => by rw [HE]; exact ((if_neg HE2).trans ((if_neg HE3).trans (if_pos h))).symm
  have hokE : Hid ((∀ l ∈ pp, l.length ≤ 1024) → 0 = noteE 5 0 false pp) := fun h => by
    rw [HE]; refine ((if_neg HE2).trans ((if_neg HE3).trans (if_neg ?_))).symm; rintro ⟨l, hl, h'⟩; have := h l hl; omega
  clear HE HE2 HE3
  go_enter Try.func39, Try.ntmps39
  go_wp2
  go_loop [54] (fun i => ∃ k : Nat, k ≤ pn ∧ i = .int .i64 k ∧ Hid (∀ l ∈ pp.take k, l.length ≤ 1024)) (fun i => pn - (intOf i).toNat)
  case atStart => exact ⟨0, Nat.zero_le _, rfl, fun l hl => by simp at hl⟩
  case round =>
    obtain ⟨k, hk, rfl, HA⟩ := hrel
    by_cases hlt : k < pn
    · obtain ⟨l, hl⟩ : ∃ l, pp[k]? = some l := ⟨_, List.getElem?_eq_getElem (by rw [HP.out.len]; exact hlt)⟩
      obtain ⟨b, off, hpa, a', c', hc, hby⟩ := HP.out.part k l hl
      subst hpa
      have HT := Lib.hid (take_snoc hl)
      have HM := Lib.hid (List.mem_of_getElem? hl)
      have hml := hby.le_i64.1
      clear hby hl
      by_cases hlong : 1024 < l.length
      · go_wp2
        go_ret
        exact ⟨ret_int (hlongE.out ⟨l, HM.out, hlong⟩), hb⟩
      · go_wp2
        refine ⟨⟨k + 1, by omega, by go_num, ?_⟩, by simp [intOf]; omega⟩
        intro x hx
        rw [HT.out] at hx
        rcases List.mem_append.1 hx with h | h
        · exact HA.out x h
        · have : x = l := by simpa using h
          subst this
          omega
    · go_wp2
      go_ret
      refine ⟨ret_int (hokE.out fun l hl => HA.out l ?_), hb⟩
      rw [List.take_of_length_le (by rw [HP.out.len]; omega)]
      exact hl

set_option maxRecDepth 100000 in
set_option maxHeartbeats 1600000 in
theorem rcheck_6 {hop : Int} {back : Bool} {pa : Option Addr} {pn pc : Nat} {pp : List (List UInt8)} {w : World} (hp : Parts w pa pn pc pp) :
    Calls Try.prog 39 #[.agg #[.int .i64 6, .slice pa pn pc, .int .i64 hop, .bool back]] w fun e w' => e = .returned (.int .i64 (noteE 6 hop back pp)) ∧ Below w.heap.size w w' := by
  have hb := (Below.refl w.heap.size w).alloc (Nat.le_refl _) (.cells #[.int .i64 6, .slice pa pn pc, .int .i64 hop, .bool back] 39)
  have HP := Lib.hid (hp.keep hb)
  have hmx := hp.le_i64
  have HE : noteE 6 hop back pp = if (spanOf 6).2.2 = false ∨ (pn : Int) < (spanOf 6).1 ∨ (spanOf 6).2.1 < pn then 1
      else if (((6 : Int) = 7) ∧ (hop < 0 ∨ 7 < hop)) ∨ (((6 : Int) ≠ 7) ∧ (hop ≠ 0 ∨ back = true)) then 1
      else if ∃ l ∈ pp, 1024 < l.length then 2 else 0 := by rw [noteE, HP.out.len]
  clear hp
  by_cases h1 : pn = 1
  rotate_left
  · have h1b : ((pn : Int) != 1) = true := by rw [bne_iff_ne]; omega
    have HR : Hid (noteE 6 hop back pp = 1) := by show _ = _; rw [HE]; exact if_pos (.inr (by show (_ < (1 : Int)) ∨ ((1 : Int) < _); omega))
    clear HE h1
    go_enter Try.func39, Try.ntmps39
    go_wp2
    go_ret
    exact ⟨ret_int HR.out.symm, hb⟩
  subst h1
  have HE2 : ¬ ((spanOf 6).2.2 = false ∨ ((1 : Nat) : Int) < (spanOf 6).1 ∨ (spanOf 6).2.1 < ((1 : Nat) : Int)) := by
    show ¬ (true = false ∨ _ < (1 : Int) ∨ (1 : Int) < _)
    rintro (h | h | h)
    · cases h
    · omega
    · omega
  by_cases h3 : hop = 0
  rotate_left
  · have h3b : (hop != 0) = true := by simpa using h3
    have HR : Hid (noteE 6 hop back pp = 1) := by show _ = _; rw [HE]; exact (if_neg HE2).trans (if_pos (.inr ⟨by decide, .inl h3⟩))
    clear HE HE2 h3
    go_enter Try.func39, Try.ntmps39
    go_wp2
    go_ret
    exact ⟨ret_int HR.out.symm, hb⟩
  subst h3
  cases back with
  | true =>
    have HR : Hid (noteE 6 0 true pp = 1) := by show _ = _; rw [HE]; exact (if_neg HE2).trans (if_pos (.inr ⟨by decide, .inr rfl⟩))
    clear HE HE2
    go_enter Try.func39, Try.ntmps39
    go_wp2
    go_ret
    exact ⟨ret_int HR.out.symm, hb⟩
  | false =>
  have HE3 : ¬ ((((6 : Int) = 7) ∧ ((0 : Int) < 0 ∨ (7 : Int) < 0)) ∨ (((6 : Int) ≠ 7) ∧ ((0 : Int) ≠ 0 ∨ false = true))) := by
    rintro (⟨h, _⟩ | ⟨_, h | h⟩)
    · exact absurd h (by decide)
    · exact h rfl
    · cases h
  have hlongE : Hid ((∃ l ∈ pp, 1024 < l.length) → 2 = noteE 6 0 false pp) := fun h => by rw [HE]; exact ((if_neg HE2).trans ((if_neg HE3).trans (if_pos h))).symm
  have hokE : Hid ((∀ l ∈ pp, l.length ≤ 1024) → 0 = noteE 6 0 false pp) := fun h => by
    rw [HE]; refine ((if_neg HE2).trans ((if_neg HE3).trans (if_neg ?_))).symm; rintro ⟨l, hl, h'⟩; have := h l hl; omega
  clear HE HE2 HE3
  go_enter Try.func39, Try.ntmps39
  go_wp2
  go_loop [54] (fun i => ∃ k : Nat, k ≤ 1 ∧ i = .int .i64 k ∧ Hid (∀ l ∈ pp.take k, l.length ≤ 1024)) (fun i => 1 - (intOf i).toNat)
  case atStart => exact ⟨0, Nat.zero_le _, rfl, fun l hl => by simp at hl⟩
  case round =>
    obtain ⟨k, hk, rfl, HA⟩ := hrel
    by_cases hlt : k < 1
    · obtain ⟨l, hl⟩ : ∃ l, pp[k]? = some l := ⟨_, List.getElem?_eq_getElem (by rw [HP.out.len]; exact hlt)⟩
      obtain ⟨b, off, hpa, a', c', hc, hby⟩ := HP.out.part k l hl
      subst hpa
      have HT := Lib.hid (take_snoc hl)
      have HM := Lib.hid (List.mem_of_getElem? hl)
      have hml := hby.le_i64.1
      clear hby hl
      by_cases hlong : 1024 < l.length
      · go_wp2
        go_ret
        exact ⟨ret_int (hlongE.out ⟨l, HM.out, hlong⟩), hb⟩
      · go_wp2
        refine ⟨⟨k + 1, by omega, by go_num, ?_⟩, by simp [intOf]; omega⟩
        intro x hx
        rw [HT.out] at hx
        rcases List.mem_append.1 hx with h | h
        · exact HA.out x h
        · have : x = l := by simpa using h
          subst this
          omega
    · go_wp2
      go_ret
      refine ⟨ret_int (hokE.out fun l hl => HA.out l ?_), hb⟩
      rw [List.take_of_length_le (by rw [HP.out.len]; omega)]
      exact hl

set_option maxRecDepth 100000 in
set_option maxHeartbeats 1600000 in
theorem rcheck_7 {hop : Int} {back : Bool} {pa : Option Addr} {pn pc : Nat} {pp : List (List UInt8)} {w : World} (hp : Parts w pa pn pc pp) :
    Calls Try.prog 39 #[.agg #[.int .i64 7, .slice pa pn pc, .int .i64 hop, .bool back]] w fun e w' => e = .returned (.int .i64 (noteE 7 hop back pp)) ∧ Below w.heap.size w w' := by
  have hb := (Below.refl w.heap.size w).alloc (Nat.le_refl _) (.cells #[.int .i64 7, .slice pa pn pc, .int .i64 hop, .bool back] 39)
  have HP := Lib.hid (hp.keep hb)
  have hmx := hp.le_i64
  have HE : noteE 7 hop back pp = if (spanOf 7).2.2 = false ∨ (pn : Int) < (spanOf 7).1 ∨ (spanOf 7).2.1 < pn then 1
      else if (((7 : Int) = 7) ∧ (hop < 0 ∨ 7 < hop)) ∨ (((7 : Int) ≠ 7) ∧ (hop ≠ 0 ∨ back = true)) then 1
      else if ∃ l ∈ pp, 1024 < l.length then 2 else 0 := by rw [noteE, HP.out.len]
  clear hp
  by_cases h1 : 0 < pn
  · have HR : Hid (noteE 7 hop back pp = 1) := by show _ = _; rw [HE]; exact if_pos (.inr (.inr (by show (0 : Int) < _; omega)))
    clear HE
    go_enter Try.func39, Try.ntmps39
    go_wp2
    go_ret
    exact ⟨ret_int HR.out.symm, hb⟩
  obtain rfl : pn = 0 := by omega
  have HE2 : ¬ ((spanOf 7).2.2 = false ∨ ((0 : Nat) : Int) < (spanOf 7).1 ∨ (spanOf 7).2.1 < ((0 : Nat) : Int)) := by
    show ¬ (true = false ∨ _ < (0 : Int) ∨ (0 : Int) < _)
    rintro (h | h | h)
    · cases h
    · omega
    · omega
  by_cases h3 : hop < 0
  · have HR : Hid (noteE 7 hop back pp = 1) := by show _ = _; rw [HE]; exact (if_neg HE2).trans (if_pos (.inl ⟨rfl, .inl h3⟩))
    clear HE HE2
    go_enter Try.func39, Try.ntmps39
    go_wp2
    go_ret
    exact ⟨ret_int HR.out.symm, hb⟩
  by_cases h4 : 7 < hop
  · have HR : Hid (noteE 7 hop back pp = 1) := by show _ = _; rw [HE]; exact (if_neg HE2).trans (if_pos (.inl ⟨rfl, .inr h4⟩))
    clear HE HE2
    go_enter Try.func39, Try.ntmps39
    go_wp2
    go_ret
    exact ⟨ret_int HR.out.symm, hb⟩
  have HE3 : ¬ ((((7 : Int) = 7) ∧ (hop < 0 ∨ 7 < hop)) ∨ (((7 : Int) ≠ 7) ∧ (hop ≠ 0 ∨ back = true))) := by
    rintro (⟨_, h | h⟩ | ⟨h, _⟩)
    · exact h3 h
    · exact h4 h
    · exact h rfl
  have hlongE : Hid ((∃ l ∈ pp, 1024 < l.length) → 2 = noteE 7 hop back pp) := fun h => by rw [HE]; exact ((if_neg HE2).trans ((if_neg HE3).trans (if_pos h))).symm
  have hokE : Hid ((∀ l ∈ pp, l.length ≤ 1024) → 0 = noteE 7 hop back pp) := fun h => by
    rw [HE]; refine ((if_neg HE2).trans ((if_neg HE3).trans (if_neg ?_))).symm; rintro ⟨l, hl, h'⟩; have := h l hl; omega
  clear HE HE2 HE3
  go_enter Try.func39, Try.ntmps39
  go_wp2
  go_loop [54] (fun i => ∃ k : Nat, k ≤ 0 ∧ i = .int .i64 k ∧ Hid (∀ l ∈ pp.take k, l.length ≤ 1024)) (fun i => 0 - (intOf i).toNat)
  case atStart => exact ⟨0, Nat.zero_le _, rfl, fun l hl => by simp at hl⟩
  case round =>
    obtain ⟨k, hk, rfl, HA⟩ := hrel
    by_cases hlt : k < 0
    · exact absurd hlt (Nat.not_lt_zero _)
    · go_wp2
      go_ret
      refine ⟨ret_int (hokE.out fun l hl => HA.out l ?_), hb⟩
      rw [List.take_of_length_le (by rw [HP.out.len]; omega)]
      exact hl

set_option maxRecDepth 100000 in
set_option maxHeartbeats 1600000 in
theorem rcheck_other {kind hop : Int} {back : Bool} {pa : Option Addr} {pn pc : Nat} {pp : List (List UInt8)} {w : World} (h1 : (kind == 1) = false) (h2 : (kind == 2) = false) (h3 : (kind == 3) = false) (h4 : (kind == 4) = false) (h5 : (kind == 5) = false) (h6 : (kind == 6) = false) (h7 : (kind == 7) = false) :
    Calls Try.prog 39 #[.agg #[.int .i64 kind, .slice pa pn pc, .int .i64 hop, .bool back]] w fun e w' => e = .returned (.int .i64 (noteE kind hop back pp)) ∧ Below w.heap.size w w' := by
  have hb := (Below.refl w.heap.size w).alloc (Nat.le_refl _) (.cells #[.int .i64 kind, .slice pa pn pc, .int .i64 hop, .bool back] 39)
  have HE : Hid (noteE kind hop back pp = 1) := by
    show _ = _
    rw [noteE]
    exact if_pos (.inl (by simp only [beq_eq_false_iff_ne, ne_eq] at h1 h2 h3 h4 h5 h6 h7; simp [spanOf, h1, h2, h3, h4, h5, h6, h7]))
  go_enter Try.func39, Try.ntmps39
  go_wp2
  go_ret
  exact ⟨ret_int HE.out.symm, hb⟩

theorem rcheck_any {kind hop : Int} {back : Bool} {pa : Option Addr} {pn pc : Nat} {pp : List (List UInt8)} {w : World} (hp : Parts w pa pn pc pp) :
    Calls Try.prog 39 #[.agg #[.int .i64 kind, .slice pa pn pc, .int .i64 hop, .bool back]] w fun e w' => e = .returned (.int .i64 (noteE kind hop back pp)) ∧ Below w.heap.size w w' := by
  by_cases h1 : kind = 1
  · subst h1; exact rcheck_1 hp
  by_cases h2 : kind = 2
  · subst h2; exact rcheck_2 hp
  by_cases h3 : kind = 3
  · subst h3; exact rcheck_3 hp
  by_cases h4 : kind = 4
  · subst h4; exact rcheck_4 hp
  by_cases h5 : kind = 5
  · subst h5; exact rcheck_5 hp
  by_cases h6 : kind = 6
  · subst h6; exact rcheck_6 hp
  by_cases h7 : kind = 7
  · subst h7; exact rcheck_7 hp
  exact rcheck_other (by simpa using h1) (by simpa using h2) (by simpa using h3) (by simpa using h4) (by simpa using h5) (by simpa using h6) (by simpa using h7)
end Go.Proofs.Ytmkfpfnjimmmaaa
