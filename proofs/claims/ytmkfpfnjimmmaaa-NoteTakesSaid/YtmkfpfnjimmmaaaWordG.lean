/- The walk of the reference's Unfill; the law's own 'live'. -/
import Derived.Test.YtmkfpfnjimmmaaaWordE
namespace Go.Proofs.Ytmkfpfnjimmmaaa
open Go.RowKit

set_option maxRecDepth 100000 in
set_option maxHeartbeats 400000 in
theorem runfill_arg {a : Option Addr} {n cap : Nat} (w : World) (hn : n ≤ 9223372036854775807) (h : n < 2 ∨ 256 < n) :
    Calls Try.prog 33 #[.slice a n cap] w fun e w' => e = .returned (.tuple #[.slice none 0 0, .int .i64 1]) ∧ w = w' := by
  rcases h with h | h
  · go_enter Try.func33, Try.ntmps33
    go_wp2
    go_ret2
    exact ⟨rfl, rfl⟩
  · have h1 : 2 ≤ n := by omega
    go_enter Try.func33, Try.ntmps33
    go_wp2
    go_ret2
    exact ⟨rfl, rfl⟩

set_option maxRecDepth 100000 in
set_option maxHeartbeats 400000 in
theorem runfill_many {b off r c m : Nat} (w : World) (hn : 1 ≤ r) (hn' : r ≤ 255) (h0 : w.cell? ⟨b, off, none⟩ = some (.int .u8 (m : Int))) (hm : r < m) (hm' : m < 256) :
    Calls Try.prog 33 #[.slice (some ⟨b, off, none⟩) (r + 1) (c + 1)] w fun e w' => e = .returned (.tuple #[.slice none 0 0, .int .i64 3]) ∧ w = w' := by
  go_enter Try.func33, Try.ntmps33
  go_wp2
  go_ret2
  exact ⟨rfl, rfl⟩

theorem unfill_clone0 {b off r c m : Nat} {l : List UInt8} {w : World} (hb : Bytes w (some ⟨b, off, none⟩) (r + 1) (c + 1) l) (hm : m ≤ r) :
    Bytes w (some ⟨b, off + 1, none⟩) m c (l.tail.take m) := by
  have := unfill_clone (nq := 0) hb hm
  exact ⟨this.len, this.le, this.max, this.zero, ⟨fun i v hv => this.row.cell i v hv⟩⟩

set_option maxRecDepth 100000 in
set_option maxHeartbeats 400000 in
/-- The text goes to the end. -/
theorem runfill_end {b off r c : Nat} {l : List UInt8} (w : World) (hb : Bytes w (some ⟨b, off, none⟩) (r + 1) (c + 1) l) (hn : 1 ≤ r) (hn' : r ≤ 255) (h0 : w.cell? ⟨b, off, none⟩ = some (.int .u8 (r : Int))) :
    Calls Try.prog 33 #[.slice (some ⟨b, off, none⟩) (r + 1) (c + 1)] w fun e w' => ∃ a' cap', e = .returned (.tuple #[.slice a' r cap', .int .i64 0]) ∧ FreshB 5 w w' a' r cap' (l.tail.take r) := by
  obtain ⟨i0, hi, hz0, hz1, hz2⟩ := info_parts info_u8
  have hc : r ≤ c := by have := hb.le; omega
  have hcap2 : c ≤ 9223372036854775806 := by have := hb.le_i64.2; omega
  have hcn : ¬ c = 0 := by omega
  have hcells : Cells w (some ⟨b, off + 1, none⟩) (1 + r - 1) c 1 ((l.tail.take r).map B) := by
    rw [Nat.add_sub_cancel_left]; exact (unfill_clone0 hb (Nat.le_refl r)).cells
  clear hb
  by_cases hx : c = r
  · subst hx
    go_enter Try.func33, Try.ntmps33
    go_wp2
    go_loop [29] (fun i => i = .int .i64 0) (fun i => (intOf i).toNat)
    case atStart => rfl
    case round =>
      subst hrel
      obtain ⟨t, ht⟩ : ∃ t, t = l.tail.take c := ⟨_, rfl⟩
      rw [← ht] at hcells
      have HT := Lib.hid ht
      clear ht
      go_wp2_with (at_builtin; refine wpList_append_row rfl (.const (.slice none 0 0)) (.tmp 39) 24 rfl w.heap.size 5 i0 (.int .u8 0) 1 1 Try.underlying24 hi hz0 hz1 hz2 rfl (by decide) _ _ _ _ rfl (World.ownsRow_nil _ _ _ _) _ _ _ _ rfl hcells (oneCell_bytes _) (by unfold maxLen; omega) (by omega) w (Below.refl _ _) (Nat.le_refl _) ?_)
      intro a' cap' w1 ho hb1
      go_wp2
      go_ret2
      obtain ⟨a2, c2, hv, hF⟩ := FreshB.of ho hb1
      cases hv
      exact ⟨a', cap', rfl, by rw [← HT.out]; exact hF⟩
  · go_enter Try.func33, Try.ntmps33
    go_wp2
    go_loop [29] (fun i => i = .int .i64 0) (fun i => (intOf i).toNat)
    case atStart => rfl
    case round =>
      subst hrel
      obtain ⟨t, ht⟩ : ∃ t, t = l.tail.take r := ⟨_, rfl⟩
      rw [← ht] at hcells
      have HT := Lib.hid ht
      clear ht
      go_wp2_with (at_builtin; refine wpList_append_row rfl (.const (.slice none 0 0)) (.tmp 39) 24 rfl w.heap.size 5 i0 (.int .u8 0) 1 1 Try.underlying24 hi hz0 hz1 hz2 rfl (by decide) _ _ _ _ rfl (World.ownsRow_nil _ _ _ _) _ _ _ _ rfl hcells (oneCell_bytes _) (by unfold maxLen; omega) (by omega) w (Below.refl _ _) (Nat.le_refl _) ?_)
      intro a' cap' w1 ho hb1
      go_wp2
      go_ret2
      obtain ⟨a2, c2, hv, hF⟩ := FreshB.of ho hb1
      cases hv
      exact ⟨a', cap', rfl, by rw [← HT.out]; exact hF⟩

set_option maxRecDepth 100000 in
set_option maxHeartbeats 400000 in
theorem runfill_loop {b off r c m : Nat} {l : List UInt8} (w : World) (hb : Bytes w (some ⟨b, off, none⟩) (r + 1) (c + 1) l) (hn' : r ≤ 255) (h0 : w.cell? ⟨b, off, none⟩ = some (.int .u8 (m : Int))) (hm : m < r) :
    Calls Try.prog 33 #[.slice (some ⟨b, off, none⟩) (r + 1) (c + 1)] w (Unfilled w m l.tail) := by
  obtain ⟨i0, hi, hz0, hz1, hz2⟩ := info_parts info_u8
  have hc : r ≤ c := by have := hb.le; omega
  have hcap2 : c ≤ 9223372036854775806 := by have := hb.le_i64.2; omega
  have hcn : ¬ c = 0 := by omega
  have hx : ¬ c = m := by omega
  have HL := Lib.hid hb.len
  have HC : Hid (∀ i (hi : i < l.length), w.cell? ⟨b, off + i, none⟩ = some (B l[i])) := by
    obtain ⟨b', off', ha, hcc⟩ := hb.at (by intro e; subst e; have := hb.len; simp at this)
    cases ha
    exact hcc
  have hcells : Cells w (some ⟨b, off + 1, none⟩) (1 + m - 1) c 1 ((l.tail.take m).map B) := by
    rw [Nat.add_sub_cancel_left]; exact (unfill_clone0 hb (Nat.le_of_lt hm)).cells
  clear hb
  go_enter Try.func33, Try.ntmps33
  go_wp2
  go_loop [29] (fun i => ∃ k : Nat, k ≤ r - m ∧ i = .int .i64 k ∧ Hid (((l.tail.drop m).take k).all (· == 0) = true)) (fun i => r - m - (intOf i).toNat)
  case atStart => exact ⟨0, Nat.zero_le _, rfl, rfl⟩
  case round =>
    obtain ⟨k, hk, rfl, HA⟩ := hrel
    by_cases hlt : k < r - m
    · have hk1 : (l.tail.drop m)[k]? = some (l[1 + m + k]'(by rw [HL.out]; omega)) := by
        rw [List.getElem?_drop, List.getElem?_tail, List.getElem?_eq_getElem (by rw [HL.out]; omega)]
        congr 2
        omega
      obtain ⟨u, hu⟩ : ∃ u, u = l[1 + m + k]'(by rw [HL.out]; omega) := ⟨_, rfl⟩
      have hcell : w.cell? ⟨b, off + (1 + m) + k, none⟩ = some (.int .u8 (u.toNat : Int)) := by
        have := HC.out (1 + m + k) (by rw [HL.out]; omega)
        rw [← hu] at this
        rw [show off + (1 + m) + k = off + (1 + m + k) by omega]
        exact this
      rw [← hu] at hk1
      have HS := Lib.hid (allZero_snoc hk1)
      have HK := Lib.hid hk1
      clear hu hk1 hcells
      by_cases hu0 : u = 0
      · subst hu0
        go_wp2
        refine ⟨⟨k + 1, by omega, by go_num, ?_⟩, by simp [intOf]; omega⟩
        show _ = true
        rw [HS.out, HA.out]
        rfl
      · have hu1 : ((u.toNat : Int) != 0) = true := by
          rw [bne_iff_ne]
          intro e
          exact hu0 (by rw [← UInt8.toNat_inj]; simpa using e)
        go_wp2
        go_ret2
        have hall : ¬ (l.tail.drop m).all (· == 0) = true := by
          intro h
          have hmem : u ∈ l.tail.drop m := List.mem_of_getElem? HK.out
          have := List.all_eq_true.1 h u hmem
          exact hu0 (by simpa using this)
        unfold Unfilled
        rw [if_neg hall]
        exact ⟨rfl, Below.refl _ _⟩
    · have hall : (l.tail.drop m).all (· == 0) = true := by
        have := HA.out
        rwa [List.take_of_length_le (by simp [HL.out]; omega)] at this
      have HALL := Lib.hid hall
      clear hall HA
      obtain ⟨t, ht⟩ : ∃ t, t = l.tail.take m := ⟨_, rfl⟩
      rw [← ht] at hcells
      have HT := Lib.hid ht
      clear ht
      go_wp2_with (at_builtin; refine wpList_append_row rfl (.const (.slice none 0 0)) (.tmp 39) 24 rfl w.heap.size 5 i0 (.int .u8 0) 1 1 Try.underlying24 hi hz0 hz1 hz2 rfl (by decide) _ _ _ _ rfl (World.ownsRow_nil _ _ _ _) _ _ _ _ rfl hcells (oneCell_bytes _) (by unfold maxLen; omega) (by omega) w (Below.refl _ _) (Nat.le_refl _) ?_)
      intro a' cap' w1 ho hb1
      go_wp2
      go_ret2
      unfold Unfilled
      rw [if_pos HALL.out, ← HT.out]
      obtain ⟨a2, c2, hv, hF⟩ := FreshB.of ho hb1
      cases hv
      exact ⟨a', cap', rfl, hF⟩

theorem runfill_any {w : World} {a : Option Addr} {n cap : Nat} {l : List UInt8} (hb : Bytes w a n cap l) :
    Calls Try.prog 33 #[.slice a n cap] w (RetBE 5 w (unfillR l) (unfillE l)) := by
  by_cases h : n < 2 ∨ 256 < n
  · refine (runfill_arg w hb.le_i64.1 h).mono ?_
    rintro e w' ⟨rfl, rfl⟩
    have he : unfillE l = 1 := by rw [unfillE, if_pos (by rw [hb.len]; exact h)]
    have hr : unfillR l = [] := by rw [unfillR, he]; rfl
    rw [he, hr]
    exact ⟨none, 0, rfl, FreshB.nil _ _⟩
  · have hl := hb.len
    obtain ⟨u, t, rfl⟩ : ∃ u t, l = u :: t := by
      cases l with
      | nil => simp at hl; omega
      | cons u t => exact ⟨u, t, rfl⟩
    obtain ⟨b, off, rfl, hc⟩ := hb.at (by simp)
    have h0 : w.cell? ⟨b, off, none⟩ = some (.int .u8 ((u.toNat : Nat) : Int)) := hc 0 (by simp)
    have hu := u.toNat_lt
    have e1 : unfillE (u :: t) = if t.length < u.toNat then 3 else if (t.drop u.toNat).all (· == 0) then 0 else 3 := by
      rw [unfillE, if_neg (by rw [hl]; exact h)]; rfl
    have ht : t.length = n - 1 := by simp at hl; omega
    obtain ⟨r, rfl⟩ : ∃ r, n = r + 1 := ⟨n - 1, by omega⟩
    obtain ⟨c, rfl⟩ : ∃ c, cap = c + 1 := ⟨cap - 1, by have := hb.le; omega⟩
    by_cases hm : r < u.toNat
    · refine (runfill_many w (by omega) (by omega) h0 hm (by omega)).mono ?_
      rintro e w' ⟨rfl, rfl⟩
      have he : unfillE (u :: t) = 3 := by rw [e1, if_pos (by omega)]
      have hr : unfillR (u :: t) = [] := by rw [unfillR, he]; rfl
      rw [he, hr]
      exact ⟨none, 0, rfl, FreshB.nil _ _⟩
    · have he : unfillE (u :: t) = if (t.drop u.toNat).all (· == 0) = true then 0 else 3 := by rw [e1, if_neg (by omega)]
      have hr : unfillR (u :: t) = if (t.drop u.toNat).all (· == 0) = true then t.take u.toNat else [] := by
        rw [unfillR, he]
        by_cases hz : (t.drop u.toNat).all (· == 0) = true
        · rw [if_pos hz, if_pos hz]; rfl
        · rw [if_neg hz, if_neg hz]; rfl
      rw [he, hr]
      have hr1 : t.length = r := by omega
      by_cases hmr : u.toNat < r
      · refine (runfill_loop w hb (by omega) h0 hmr).mono ?_
        intro e w' hU
        unfold Unfilled at hU
        by_cases hz : (t.drop u.toNat).all (· == 0) = true
        · rw [if_pos hz, if_pos hz]
          rw [if_pos (by exact hz)] at hU
          obtain ⟨a', c', rfl, hF⟩ := hU
          have hlen : (t.take u.toNat).length = u.toNat := by simp; omega
          exact ⟨a', c', by rw [hlen], by rw [hlen]; exact hF⟩
        · rw [if_neg hz, if_neg hz]
          rw [if_neg (by exact hz)] at hU
          obtain ⟨rfl, hbl⟩ := hU
          exact ⟨none, 0, rfl, ⟨Bytes.nil _, World.ownsRow_nil _ _ _ _, hbl⟩⟩
      · have hur : u.toNat = r := by omega
        have hz : (t.drop u.toNat).all (· == 0) = true := by rw [List.drop_of_length_le (by omega)]; rfl
        rw [if_pos hz, if_pos hz]
        refine (runfill_end w hb (by omega) (by omega) (by rw [← hur]; exact h0)).mono ?_
        rintro e w' ⟨a', c', rfl, hF⟩
        have hlen : (t.take u.toNat).length = r := by simp; omega
        refine ⟨a', c', by rw [hlen], ?_⟩
        rw [hlen, hur]
        exact hF
end Go.Proofs.Ytmkfpfnjimmmaaa
