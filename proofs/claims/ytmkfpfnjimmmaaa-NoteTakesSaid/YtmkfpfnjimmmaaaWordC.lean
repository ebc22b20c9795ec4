/- The walk of Unfill. -/
import Derived.Test.YtmkfpfnjimmmaaaWordB
namespace Go.Proofs.Ytmkfpfnjimmmaaa
open Go.RowKit

set_option maxRecDepth 100000 in
set_option maxHeartbeats 400000 in
theorem unfill_arg {a : Option Addr} {n cap : Nat} (w : World) (hn : n ≤ 9223372036854775807) (h : n < 2 ∨ 256 < n) :
    Calls Try.prog 32 #[.slice a n cap] w fun e w' => e = .returned (.tuple #[.slice none 0 0, .int .i64 1]) ∧ w = w' := by
  rcases h with h | h
  · go_enter Try.func32, Try.ntmps32
    go_wp2
    go_ret2
    exact ⟨rfl, rfl⟩
  · have h1 : 2 ≤ n := by omega
    go_enter Try.func32, Try.ntmps32
    go_wp2
    go_ret2
    exact ⟨rfl, rfl⟩

set_option maxRecDepth 100000 in
set_option maxHeartbeats 400000 in
theorem unfill_many {b off n cap m : Nat} (w : World) (hn : 2 ≤ n) (hn' : n ≤ 256) (hc : n ≤ cap) (h0 : w.cell? ⟨b, off, none⟩ = some (.int .u8 (m : Int))) (hm : n - 1 < m) (hm' : m < 256) :
    Calls Try.prog 32 #[.slice (some ⟨b, off, none⟩) n cap] w fun e w' => e = .returned (.tuple #[.slice none 0 0, .int .i64 3]) ∧ Below w.heap.size w w' := by
  have hcn : ¬ cap = 1 := by omega
  go_enter Try.func32, Try.ntmps32
  go_wp2
  go_quiet (fail)
  go_wp2
  go_ret2
  exact ⟨rfl, below_drewN (Below.refl _ _) _⟩

theorem allZero_snoc {l : List UInt8} {k : Nat} {u : UInt8} (h : l[k]? = some u) : (l.take (k + 1)).all (· == 0) = ((l.take k).all (· == 0) && u == 0) := by
  rw [take_snoc h, List.all_append]; simp

/-- What Clone is handed. -/
theorem unfill_clone {b off r c m nq : Nat} {l : List UInt8} {w : World} (hb : Bytes w (some ⟨b, off, none⟩) (r + 1) (c + 1) l) (hm : m ≤ r) :
    Bytes (w.drewN nq) (some ⟨b, off + 1, none⟩) m c (l.tail.take m) := by
  have hl := hb.len
  have hle := hb.le
  have hmx := hb.max
  refine ⟨by simp [hl]; omega, by omega, by unfold maxLen at *; omega, fun h => (by cases h), ⟨fun i v hv => ⟨b, off + 1, rfl, ?_⟩⟩⟩
  have hi := (List.getElem?_eq_some_iff.1 hv).1
  simp only [List.length_map, List.length_take, List.length_tail] at hi
  obtain ⟨b', off', ha, hcc⟩ := hb.at (by intro e; subst e; simp at hl)
  cases ha
  have := hcc (1 + i) (by omega)
  rw [Nat.add_assoc]
  show w.cell? _ = _
  rw [this, ← hv, List.getElem?_map, List.getElem?_take, if_pos (by omega), List.getElem?_tail, List.getElem?_eq_getElem (by omega)]
  simp [Nat.add_comm]

set_option maxRecDepth 100000 in
set_option maxHeartbeats 400000 in
/-- The text goes to the end. -/
theorem unfill_end {b off r c : Nat} {l : List UInt8} (w : World) (hb : Bytes w (some ⟨b, off, none⟩) (r + 1) (c + 1) l) (hn : 1 ≤ r) (hn' : r ≤ 255) (h0 : w.cell? ⟨b, off, none⟩ = some (.int .u8 (r : Int))) :
    Calls Try.prog 32 #[.slice (some ⟨b, off, none⟩) (r + 1) (c + 1)] w fun e w' => ∃ a' cap', e = .returned (.tuple #[.slice a' r cap', .int .i64 0]) ∧ FreshB 5 w w' a' r cap' (l.tail.take r) := by
  have hc : r ≤ c := by have := hb.le; omega
  have hcap2 : c ≤ 9223372036854775806 := by have := hb.le_i64.2; omega
  have hcn : ¬ c = 0 := by omega
  have HCL := Lib.hid fun nq => unfill_clone (nq := nq) hb (Nat.le_refl r)
  clear hb
  by_cases hx : c = r
  · subst hx
    go_enter Try.func32, Try.ntmps32
    go_wp2
    go_quiet (fail)
    go_wp2
    go_loop [30] (fun i => i = .int .i64 0) (fun i => (intOf i).toNat)
    case atStart => rfl
    case round =>
      subst hrel
      go_wp2_with (go_at_call 69; refine (bclone_any (HCL.out _) (by omega)).mono ?_; rintro e w1 ⟨a', c', rfl, hF⟩)
      go_ret2
      exact ⟨a', c', rfl, hF.bytes, hF.owns, (below_drewN (Below.refl _ _) _).trans hF.below⟩
  · go_enter Try.func32, Try.ntmps32
    go_wp2
    go_quiet (fail)
    go_wp2
    go_loop [30] (fun i => i = .int .i64 0) (fun i => (intOf i).toNat)
    case atStart => rfl
    case round =>
      subst hrel
      go_wp2_with (go_at_call 69; refine (bclone_any (HCL.out _) (by omega)).mono ?_; rintro e w1 ⟨a', c', rfl, hF⟩)
      go_ret2
      exact ⟨a', c', rfl, hF.bytes, hF.owns, (below_drewN (Below.refl _ _) _).trans hF.below⟩

/-- Behind the text: all is 0, or not. -/
def Unfilled (w : World) (m : Nat) (t : List UInt8) (e : Ending) (w' : World) : Prop :=
  if (t.drop m).all (· == 0) = true then ∃ a' cap', e = .returned (.tuple #[.slice a' m cap', .int .i64 0]) ∧ FreshB 5 w w' a' m cap' (t.take m)
  else e = .returned (.tuple #[.slice none 0 0, .int .i64 3]) ∧ Below w.heap.size w w'

set_option maxRecDepth 100000 in
set_option maxHeartbeats 400000 in
theorem unfill_loop {b off r c m : Nat} {l : List UInt8} (w : World) (hb : Bytes w (some ⟨b, off, none⟩) (r + 1) (c + 1) l) (hn' : r ≤ 255) (h0 : w.cell? ⟨b, off, none⟩ = some (.int .u8 (m : Int))) (hm : m < r) :
    Calls Try.prog 32 #[.slice (some ⟨b, off, none⟩) (r + 1) (c + 1)] w (Unfilled w m l.tail) := by
  have hc : r ≤ c := by have := hb.le; omega
  have hcap2 : c ≤ 9223372036854775806 := by have := hb.le_i64.2; omega
  have hcn : ¬ c = 0 := by omega
  have hx : ¬ c = m := by omega
  have HL := Lib.hid hb.len
  have HC : Hid (∀ i (hi : i < l.length), w.cell? ⟨b, off + i, none⟩ = some (B l[i])) := by
    obtain ⟨b', off', ha, hcc⟩ := hb.at (by intro e; subst e; have := hb.len; simp at this)
    cases ha
    exact hcc
  have HCL := Lib.hid fun nq => unfill_clone (nq := nq) hb (Nat.le_of_lt hm)
  clear hb
  go_enter Try.func32, Try.ntmps32
  go_wp2
  go_quiet (fail)
  go_wp2
  go_loop [30] (fun i => ∃ k : Nat, k ≤ r - m ∧ i = .int .i64 k ∧ Hid (((l.tail.drop m).take k).all (· == 0) = true)) (fun i => r - m - (intOf i).toNat)
  case atStart => exact ⟨0, Nat.zero_le _, rfl, rfl⟩
  case round =>
    obtain ⟨k, hk, rfl, HA⟩ := hrel
    by_cases hlt : k < r - m
    · have hk1 : (l.tail.drop m)[k]? = some (l[1 + m + k]'(by rw [HL.out]; omega)) := by
        rw [List.getElem?_drop, List.getElem?_tail, List.getElem?_eq_getElem (by rw [HL.out]; omega)]
        congr 2
        omega
      obtain ⟨u, hu⟩ : ∃ u, u = l[1 + m + k]'(by rw [HL.out]; omega) := ⟨_, rfl⟩
      have hcell : w.cell? ⟨b, off + 1 + m + k, none⟩ = some (.int .u8 (u.toNat : Int)) := by
        have := HC.out (1 + m + k) (by rw [HL.out]; omega)
        rw [← hu] at this
        rw [show off + 1 + m + k = off + (1 + m + k) by omega]
        exact this
      rw [← hu] at hk1
      have HS := Lib.hid (allZero_snoc hk1)
      have HK := Lib.hid hk1
      clear hu hk1
      by_cases hu0 : u = 0
      · subst hu0
        go_wp2
        refine ⟨⟨k + 1, by omega, by go_num, ?_⟩, by simp [intOf]; omega⟩
        show _ = true
        rw [HS.out, HA.out]
        rfl
      · have hu1 : ((u.toNat : Int) != 0) = true := by
          rw [bne_iff_ne]
          intro e
          exact hu0 (by rw [← UInt8.toNat_inj]; simpa using e)
        go_wp2
        go_ret2
        have hall : ¬ (l.tail.drop m).all (· == 0) = true := by
          intro h
          have hmem : u ∈ l.tail.drop m := List.mem_of_getElem? HK.out
          have := List.all_eq_true.1 h u hmem
          exact hu0 (by simpa using this)
        unfold Unfilled
        rw [if_neg hall]
        exact ⟨rfl, below_drewN (Below.refl _ _) _⟩
    · have hall : (l.tail.drop m).all (· == 0) = true := by
        have := HA.out
        rwa [List.take_of_length_le (by simp [HL.out]; omega)] at this
      have HALL := Lib.hid hall
      clear hall HA
      go_wp2_with (go_at_call 69; refine (bclone_any (HCL.out _) (by omega)).mono ?_; rintro e w1 ⟨a', c', rfl, hF⟩)
      go_ret2
      unfold Unfilled
      rw [if_pos HALL.out]
      exact ⟨a', c', rfl, hF.bytes, hF.owns, (below_drewN (Below.refl _ _) _).trans hF.below⟩

theorem unfill_any {w : World} {a : Option Addr} {n cap : Nat} {l : List UInt8} (hb : Bytes w a n cap l) :
    Calls Try.prog 32 #[.slice a n cap] w (RetBE 5 w (unfillR l) (unfillE l)) := by
  by_cases h : n < 2 ∨ 256 < n
  · refine (unfill_arg w hb.le_i64.1 h).mono ?_
    rintro e w' ⟨rfl, rfl⟩
    have he : unfillE l = 1 := by rw [unfillE, if_pos (by rw [hb.len]; exact h)]
    have hr : unfillR l = [] := by rw [unfillR, he]; rfl
    rw [he, hr]
    exact ⟨none, 0, rfl, FreshB.nil _ _⟩
  · have hl := hb.len
    obtain ⟨u, t, rfl⟩ : ∃ u t, l = u :: t := by
      cases l with
      | nil => simp at hl; omega
      | cons u t => exact ⟨u, t, rfl⟩
    obtain ⟨b, off, rfl, hc⟩ := hb.at (by simp)
    have h0 : w.cell? ⟨b, off, none⟩ = some (.int .u8 ((u.toNat : Nat) : Int)) := hc 0 (by simp)
    have hu := u.toNat_lt
    have e1 : unfillE (u :: t) = if t.length < u.toNat then 3 else if (t.drop u.toNat).all (· == 0) then 0 else 3 := by
      rw [unfillE, if_neg (by rw [hl]; exact h)]; rfl
    have ht : t.length = n - 1 := by simp at hl; omega
    by_cases hm : n - 1 < u.toNat
    · refine (unfill_many w (by omega) (by omega) hb.le h0 hm (by omega)).mono ?_
      rintro e w' ⟨rfl, hbl⟩
      have he : unfillE (u :: t) = 3 := by rw [e1, if_pos (by omega)]
      have hr : unfillR (u :: t) = [] := by rw [unfillR, he]; rfl
      rw [he, hr]
      exact ⟨none, 0, rfl, ⟨Bytes.nil _, World.ownsRow_nil _ _ _ _, hbl⟩⟩
    · have he : unfillE (u :: t) = if (t.drop u.toNat).all (· == 0) = true then 0 else 3 := by rw [e1, if_neg (by omega)]
      have hr : unfillR (u :: t) = if (t.drop u.toNat).all (· == 0) = true then t.take u.toNat else [] := by
        rw [unfillR, he]
        by_cases hz : (t.drop u.toNat).all (· == 0) = true
        · rw [if_pos hz, if_pos hz]; rfl
        · rw [if_neg hz, if_neg hz]; rfl
      rw [he, hr]
      obtain ⟨r, rfl⟩ : ∃ r, n = r + 1 := ⟨n - 1, by omega⟩
      obtain ⟨c, rfl⟩ : ∃ c, cap = c + 1 := ⟨cap - 1, by have := hb.le; omega⟩
      have hr1 : t.length = r := by omega
      by_cases hmr : u.toNat < r
      · refine (unfill_loop w hb (by omega) h0 hmr).mono ?_
        intro e w' hU
        unfold Unfilled at hU
        by_cases hz : (t.drop u.toNat).all (· == 0) = true
        · rw [if_pos hz, if_pos hz]
          rw [if_pos (by exact hz)] at hU
          obtain ⟨a', c', rfl, hF⟩ := hU
          have hlen : (t.take u.toNat).length = u.toNat := by simp; omega
          exact ⟨a', c', by rw [hlen], by rw [hlen]; exact hF⟩
        · rw [if_neg hz, if_neg hz]
          rw [if_neg (by exact hz)] at hU
          obtain ⟨rfl, hbl⟩ := hU
          exact ⟨none, 0, rfl, ⟨Bytes.nil _, World.ownsRow_nil _ _ _ _, hbl⟩⟩
      · have hur : u.toNat = r := by omega
        have hz : (t.drop u.toNat).all (· == 0) = true := by rw [List.drop_of_length_le (by omega)]; rfl
        rw [if_pos hz, if_pos hz]
        refine (unfill_end w hb (by omega) (by omega) (by rw [← hur]; exact h0)).mono ?_
        rintro e w' ⟨a', c', rfl, hF⟩
        have hlen : (t.take u.toNat).length = r := by simp; omega
        refine ⟨a', c', by rw [hlen], ?_⟩
        rw [hlen, hur]
        exact hF
end Go.Proofs.Ytmkfpfnjimmmaaa
