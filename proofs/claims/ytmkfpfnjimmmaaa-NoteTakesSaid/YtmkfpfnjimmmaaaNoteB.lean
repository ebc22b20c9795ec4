/- The walk of note.Check. -/
import Derived.Test.YtmkfpfnjimmmaaaNoteA
import Derived.Deep.DeepCutAuto
namespace Go.Proofs.Ytmkfpfnjimmmaaa
open Go.RowKit

/-- The span of a kind, and whether it is one. -/
def spanOf (k : Int) : Int × Int × Bool :=
  if k = 1 then (0, 0, true) else if k = 2 then (0, 0, true) else if k = 3 then (1, 1, true) else if k = 4 then (0, 64, true) else if k = 5 then (0, 64, true) else if k = 6 then (1, 1, true) else if k = 7 then (0, 0, true) else (0, 0, false)

def kindFound (k : Int) : Option (Nat × Value) :=
  if k = 1 then some (0, .agg #[.int .i64 0, .int .i64 0]) else if k = 2 then some (1, .agg #[.int .i64 0, .int .i64 0]) else if k = 3 then some (2, .agg #[.int .i64 1, .int .i64 1]) else if k = 4 then some (3, .agg #[.int .i64 0, .int .i64 64])
  else if k = 5 then some (4, .agg #[.int .i64 0, .int .i64 64]) else if k = 6 then some (5, .agg #[.int .i64 1, .int .i64 1]) else if k = 7 then some (6, .agg #[.int .i64 0, .int .i64 0]) else none

theorem find_kind (k : Int) : Instr.findNow (.int .i64) (.int .i64 k) kindEs.toList 0 = some (kindFound k) := by
  unfold kindFound
  by_cases h1 : k = 1
  · subst h1; rfl
  by_cases h2 : k = 2
  · subst h2; rfl
  by_cases h3 : k = 3
  · subst h3; rfl
  by_cases h4 : k = 4
  · subst h4; rfl
  by_cases h5 : k = 5
  · subst h5; rfl
  by_cases h6 : k = 6
  · subst h6; rfl
  by_cases h7 : k = 7
  · subst h7; rfl
  have e1 : (k == 1) = false := by simpa using h1
  have e2 : (k == 2) = false := by simpa using h2
  have e3 : (k == 3) = false := by simpa using h3
  have e4 : (k == 4) = false := by simpa using h4
  have e5 : (k == 5) = false := by simpa using h5
  have e6 : (k == 6) = false := by simpa using h6
  have e7 : (k == 7) = false := by simpa using h7
  simp [h1, h2, h3, h4, h5, h6, h7, e1, e2, e3, e4, e5, e6, e7, kindEs, kindE, Instr.findNow, Instr.sameNow]

theorem zero_span (w : World) : (zeroValue 93).run Try.prog w = .ok (.agg #[.int .i64 0, .int .i64 0]) w := by kernel_rfl

theorem look_kind (w : World) (k : Int) (r : Nat) (h : w.heap[r]? = some (.map kindEs 7)) :
    (Instr.lookup 95 (.map (some r)) (.int .i64 k) true).run Try.prog w = .ok (.tuple #[.agg #[.int .i64 (spanOf k).1, .int .i64 (spanOf k).2.1], .bool (spanOf k).2.2]) w := by
  rw [run_lookup_int w _ _ _ _ k r kindEs 7 _ _ Try.underlying95 Try.underlying3 (zero_span w) h (find_kind k)]
  unfold kindFound spanOf
  (repeat' split) <;> rfl

theorem ret_int {k : IntKind} {a b : Int} (h : a = b) : Ending.returned (.int k a) = .returned (.int k b) := by rw [h]

/-- May a note be? -/
def noteE (kind hop : Int) (back : Bool) (pp : List (List UInt8)) : Int :=
  if (spanOf kind).2.2 = false ∨ (pp.length : Int) < (spanOf kind).1 ∨ (spanOf kind).2.1 < pp.length then 1
  else if (kind = 7 ∧ (hop < 0 ∨ 7 < hop)) ∨ (kind ≠ 7 ∧ (hop ≠ 0 ∨ back = true)) then 1
  else if ∃ l ∈ pp, 1024 < l.length then 2 else 0

/-- What stands behind the map's look-up. -/
def Looked (kind hop : Int) (back : Bool) (pa : Option Addr) (pn pc : Nat) (w : World) (s3 s4 : Value) (wx : World) : Prop :=
  ∃ g : Nat, s3 = .pointer (some ⟨g, 0, none⟩) ∧ s4 = .bool (spanOf kind).2.2 ∧ wx.cell? ⟨g, 0, none⟩ = some (.int .i64 (spanOf kind).1) ∧ wx.cell? ⟨g, 1, none⟩ = some (.int .i64 (spanOf kind).2.1) ∧
    Below (w.heap.size + 1) (w.alloc (.cells #[.int .i64 kind, .slice pa pn pc, .int .i64 hop, .bool back] 39)) wx

set_option maxRecDepth 100000 in
set_option maxHeartbeats 1600000 in
theorem ncheck_any {kind hop : Int} {back : Bool} {pa : Option Addr} {pn pc : Nat} {pp : List (List UInt8)} {w : World} (hp : Parts w pa pn pc pp) :
    Calls Try.prog 37 #[.agg #[.int .i64 kind, .slice pa pn pc, .int .i64 hop, .bool back]] w fun e w' => e = .returned (.int .i64 (noteE kind hop back pp)) ∧ Below w.heap.size w w' := by
  obtain ⟨W0, hW0⟩ : ∃ W0, W0 = w.alloc (.cells #[.int .i64 kind, .slice pa pn pc, .int .i64 hop, .bool back] 39) := ⟨_, rfl⟩
  have hs0 : W0.heap.size = w.heap.size + 1 := by rw [hW0]; simp
  have hl1 := look_kind (W0.alloc (.map kindEs 7)).drew kind (w.heap.size + 1) (by rw [← hs0]; exact heap_last _ _)
  have hl2 := look_kind ((W0.alloc (.map kindEs 7)).alloc (.cells #[.int .i64 0, .int .i64 0] 93)).drew kind (w.heap.size + 1) (by rw [← hs0]; exact (Below.heap_alloc _ _ _ (by simp)).trans (heap_last _ _))
  have hl3 := look_kind ((W0.alloc (.cells #[.int .i64 0, .int .i64 0] 93)).alloc (.map kindEs 7)).drew kind (w.heap.size + 1 + 1) (by rw [← hs0]; have := heap_last (W0.alloc (.cells #[.int .i64 0, .int .i64 0] 93)) (.map kindEs 7); simp only [World.size_alloc] at this; exact this)
  rw [hW0] at hl1 hl2 hl3
  clear hW0 hs0
  have hmx := hp.le_i64
  go_enter Try.func37, Try.ntmps37
  go_upto_region 1 with fail
  go_cut [3, 4] (fun s3 s4 wx => Looked kind hop back pa pn pc w s3 s4 wx)
  case first =>
    go_region_with (go_at_call 71; refine (kinds_any _).mono ?_; rintro e w1 ⟨rfl, rfl⟩)
    all_goals
      clear hl1 hl2 hl3
      go_wp2_with fail
      go_meet
      exact ⟨_, rfl, rfl, by first | exact cell_lastAt _ _ _ (by simp) rfl | exact cell_underAt (cell_lastAt _ _ _ (by simp) rfl), by first | exact cell_lastAt _ _ _ (by simp) rfl | exact cell_underAt (cell_lastAt _ _ _ (by simp) rfl), by repeat (first | exact Below.refl _ _ | refine Below.drew ?_ | refine Below.alloc ?_ (by simp) _ | refine Below.setCell ?_ (by simp) _)⟩
  case rest =>
    clear hl1 hl2 hl3
    obtain ⟨g, rfl, rfl, hg0, hg1, hbx⟩ := hcut
    have hb : Below w.heap.size w wc := ((Below.refl w.heap.size w).alloc (Nat.le_refl _) _).trans (hbx.mono (by omega))
    have HP := Lib.hid (hp.keep hb)
    have hc0 : wc.cell? ⟨w.heap.size, 0, none⟩ = some (.int .i64 kind) := (hbx.cell (p := ⟨w.heap.size, 0, none⟩) (Nat.lt_succ_self _)).trans (cell_lastAt _ _ _ rfl rfl)
    have hc1 : wc.cell? ⟨w.heap.size, 1, none⟩ = some (.slice pa pn pc) := (hbx.cell (p := ⟨w.heap.size, 1, none⟩) (Nat.lt_succ_self _)).trans (cell_lastAt _ _ _ rfl rfl)
    have hc2 : wc.cell? ⟨w.heap.size, 2, none⟩ = some (.int .i64 hop) := (hbx.cell (p := ⟨w.heap.size, 2, none⟩) (Nat.lt_succ_self _)).trans (cell_lastAt _ _ _ rfl rfl)
    have hc3 : wc.cell? ⟨w.heap.size, 3, none⟩ = some (.bool back) := (hbx.cell (p := ⟨w.heap.size, 3, none⟩) (Nat.lt_succ_self _)).trans (cell_lastAt _ _ _ rfl rfl)
    have HE : Hid (noteE kind hop back pp = if (spanOf kind).2.2 = false ∨ (pn : Int) < (spanOf kind).1 ∨ (spanOf kind).2.1 < pn then 1
        else if (kind = 7 ∧ (hop < 0 ∨ 7 < hop)) ∨ (kind ≠ 7 ∧ (hop ≠ 0 ∨ back = true)) then 1
        else if ∃ l ∈ pp, 1024 < l.length then 2 else 0) := by show _ = _; rw [noteE, HP.out.len]
    clear hp hbx
    generalize spanOf kind = s at *
    obtain ⟨lo, hi, ok⟩ := s
    dsimp only at hg0 hg1 ⊢
    cases ok with
    | false =>
      go_wp2
      go_ret
      exact ⟨ret_int (by rw [HE.out, if_pos (.inl (by first | rfl | trivial))]), hb⟩
    | true =>
    by_cases h1 : (pn : Int) < lo
    · go_wp2
      go_ret
      exact ⟨ret_int (by rw [HE.out, if_pos (.inr (.inl h1))]), hb⟩
    by_cases h2 : hi < (pn : Int)
    · go_wp2
      go_ret
      exact ⟨ret_int (by rw [HE.out, if_pos (.inr (.inr h2))]), hb⟩
    have HE2 : Hid (¬ (true = false ∨ (pn : Int) < lo ∨ hi < (pn : Int))) := by rintro (h | h | h); cases h; exact h1 h; exact h2 h
    by_cases h7 : kind = 7
    · subst h7
      by_cases h3 : hop < 0
      · go_wp2
        go_ret
        exact ⟨ret_int (by rw [HE.out, if_neg HE2.out, if_pos (.inl ⟨(by first | rfl | trivial), .inl h3⟩)]), hb⟩
      by_cases h4 : 7 < hop
      · go_wp2
        go_ret
        exact ⟨ret_int (by rw [HE.out, if_neg HE2.out, if_pos (.inl ⟨(by first | rfl | trivial), .inr h4⟩)]), hb⟩
      have HE3 : Hid (¬ ((((7 : Int) = 7) ∧ (hop < 0 ∨ 7 < hop)) ∨ ((7 : Int) ≠ 7 ∧ (hop ≠ 0 ∨ back = true)))) := by
        rintro (⟨_, h | h⟩ | ⟨h, _⟩); exact h3 h; exact h4 h; exact h rfl
      have hlongE : Hid ((∃ l ∈ pp, 1024 < l.length) → 2 = noteE 7 hop back pp) := fun h => by rw [HE.out, if_neg HE2.out, if_neg HE3.out, if_pos h]
      have hokE : Hid ((∀ l ∈ pp, l.length ≤ 1024) → 0 = noteE 7 hop back pp) := fun h => by
        rw [HE.out, if_neg HE2.out, if_neg HE3.out, if_neg]; rintro ⟨l, hl, h'⟩; have := h l hl; omega
      go_wp2
      go_loop [53] (fun i => ∃ k : Nat, k ≤ pn ∧ i = .int .i64 k ∧ Hid (∀ l ∈ pp.take k, l.length ≤ 1024)) (fun i => pn - (intOf i).toNat)
      case atStart => exact ⟨0, Nat.zero_le _, rfl, fun l hl => by simp at hl⟩
      case round =>
        obtain ⟨k, hk, rfl, HA⟩ := hrel
        by_cases hlt : k < pn
        · obtain ⟨l, hl⟩ : ∃ l, pp[k]? = some l := ⟨_, List.getElem?_eq_getElem (by rw [HP.out.len]; exact hlt)⟩
          obtain ⟨b, off, hpa, a', c', hc, hby⟩ := HP.out.part k l hl
          subst hpa
          have HT := Lib.hid (take_snoc hl)
          have HM := Lib.hid (List.mem_of_getElem? hl)
          have hml := hby.le_i64.1
          clear hby hl
          by_cases hlong : 1024 < l.length
          · go_wp2
            go_ret
            exact ⟨ret_int (hlongE.out ⟨l, HM.out, hlong⟩), hb⟩
          · go_wp2
            refine ⟨⟨k + 1, by omega, by go_num, ?_⟩, by simp [intOf]; omega⟩
            intro x hx
            rw [HT.out] at hx
            rcases List.mem_append.1 hx with h | h
            · exact HA.out x h
            · have : x = l := by simpa using h
              subst this
              omega
        · go_wp2
          go_ret
          refine ⟨ret_int (hokE.out fun l hl => HA.out l ?_), hb⟩
          rw [List.take_of_length_le (by rw [HP.out.len]; omega)]
          exact hl
    · have h7b : (kind == 7) = false := by simpa using h7
      by_cases h3 : hop = 0
      · subst h3
        cases back with
        | true =>
          clear h7
          go_wp2
          go_ret
          exact ⟨ret_int (by rw [HE.out, if_neg HE2.out, if_pos (.inr ⟨by simpa using h7b, .inr (by first | rfl | trivial)⟩)]), hb⟩
        | false =>
        have HE3 : Hid (¬ ((kind = 7 ∧ ((0 : Int) < 0 ∨ (7 : Int) < 0)) ∨ (kind ≠ 7 ∧ ((0 : Int) ≠ 0 ∨ false = true)))) := by
          rintro (⟨h, _⟩ | ⟨_, h | h⟩); exact h7 h; exact h rfl; cases h
        have hlongE : Hid ((∃ l ∈ pp, 1024 < l.length) → 2 = noteE kind 0 false pp) := fun h => by rw [HE.out, if_neg HE2.out, if_neg HE3.out, if_pos h]
        have hokE : Hid ((∀ l ∈ pp, l.length ≤ 1024) → 0 = noteE kind 0 false pp) := fun h => by
          rw [HE.out, if_neg HE2.out, if_neg HE3.out, if_neg]; rintro ⟨l, hl, h'⟩; have := h l hl; omega
        clear h7
        go_wp2
        go_loop [53] (fun i => ∃ k : Nat, k ≤ pn ∧ i = .int .i64 k ∧ Hid (∀ l ∈ pp.take k, l.length ≤ 1024)) (fun i => pn - (intOf i).toNat)
        case atStart => exact ⟨0, Nat.zero_le _, rfl, fun l hl => by simp at hl⟩
        case round =>
          obtain ⟨k, hk, rfl, HA⟩ := hrel
          by_cases hlt : k < pn
          · obtain ⟨l, hl⟩ : ∃ l, pp[k]? = some l := ⟨_, List.getElem?_eq_getElem (by rw [HP.out.len]; exact hlt)⟩
            obtain ⟨b, off, hpa, a', c', hc, hby⟩ := HP.out.part k l hl
            subst hpa
            have HT := Lib.hid (take_snoc hl)
            have HM := Lib.hid (List.mem_of_getElem? hl)
            have hml := hby.le_i64.1
            clear hby hl
            by_cases hlong : 1024 < l.length
            · go_wp2
              go_ret
              exact ⟨ret_int (hlongE.out ⟨l, HM.out, hlong⟩), hb⟩
            · go_wp2
              refine ⟨⟨k + 1, by omega, by go_num, ?_⟩, by simp [intOf]; omega⟩
              intro x hx
              rw [HT.out] at hx
              rcases List.mem_append.1 hx with h | h
              · exact HA.out x h
              · have : x = l := by simpa using h
                subst this
                omega
          · go_wp2
            go_ret
            refine ⟨ret_int (hokE.out fun l hl => HA.out l ?_), hb⟩
            rw [List.take_of_length_le (by rw [HP.out.len]; omega)]
            exact hl
      · have h3b : (hop != 0) = true := by simpa using h3
        go_wp2
        go_ret
        exact ⟨ret_int (by rw [HE.out, if_neg HE2.out, if_pos (.inr ⟨h7, .inl h3⟩)]), hb⟩
end Go.Proofs.Ytmkfpfnjimmmaaa
