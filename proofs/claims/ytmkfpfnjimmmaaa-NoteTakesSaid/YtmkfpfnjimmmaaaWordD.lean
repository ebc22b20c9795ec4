/- The walks of the reference of package word. -/
import Derived.Test.YtmkfpfnjimmmaaaWordC
namespace Go.Proofs.Ytmkfpfnjimmmaaa
open Go.RowKit

set_option maxRecDepth 100000 in
set_option maxHeartbeats 400000 in
theorem rput_arg (n : Nat) (wide : Int) (w : World) (h : wide < 1 ∨ 8 < wide) :
    Calls Try.prog 27 #[.int .u64 n, .int .i64 wide] w fun e w' => e = .returned (.tuple #[.slice none 0 0, .int .i64 1]) ∧ w = w' := by
  rcases h with h | h
  · go_enter Try.func27, Try.ntmps27
    go_wp2
    go_ret2
    exact ⟨rfl, rfl⟩
  · have h1 : 1 ≤ wide := by omega
    go_enter Try.func27, Try.ntmps27
    go_wp2
    go_ret2
    exact ⟨rfl, rfl⟩

/-- It goes in, or not. -/
def RPut (w : World) (n wide : Nat) (e : Ending) (w' : World) : Prop :=
  if n / 256 ^ wide = 0 then ∃ a cap, e = .returned (.tuple #[.slice a wide cap, .int .i64 0]) ∧ FreshB 5 w w' a wide cap (putL n wide)
  else e = .returned (.tuple #[.slice none 0 0, .int .i64 2]) ∧ Below w.heap.size w w'

set_option maxRecDepth 100000 in
set_option maxHeartbeats 400000 in
theorem rput_in (n wide : Nat) (w : World) (hn : n < 18446744073709551616) (h : 1 ≤ wide) (h' : wide ≤ 8) :
    Calls Try.prog 27 #[.int .u64 n, .int .i64 wide] w (RPut w n wide) := by
  obtain ⟨i0, hi, hz0, hz1, hz2⟩ := info_parts info_u8
  go_enter Try.func27, Try.ntmps27
  go_wp2
  go_loopw [0, 6, 14] (fun v o i wr => ∃ k ao c : _, k ≤ wide ∧ i = .int .i64 (k : Nat) ∧ v = .int .u64 ((n / 256 ^ k : Nat) : Int) ∧ o = .slice ao k c ∧ Hid (wr.ownsRow w.heap.size 5 1 (.slice ao k c) k ((putL n k).map B)) ∧ Below w.heap.size w wr) (fun _ _ i _ => wide - (intOf i).toNat)
  case atStart => exact ⟨0, none, 0, Nat.zero_le _, rfl, by simp, rfl, World.ownsRow_nil _ _ _ _, Below.refl _ _⟩
  case round =>
    obtain ⟨k, ao, c, hk, rfl, rfl, rfl, ho, hb⟩ := hrel
    have hq : n / 256 ^ k < 18446744073709551616 := Nat.lt_of_le_of_lt (Nat.div_le_self _ _) hn
    have HQ : Hid (n / 256 ^ (k + 1) = n / 256 ^ k / 256) := by show _ = _; rw [Nat.pow_succ, Nat.div_div_eq_div_mul]
    have HP := Lib.hid (putL_succ n k)
    by_cases hlt : k < wide
    · generalize n / 256 ^ k = q at *
      have hbs := hb.size
      have hcells : Cells (wr.alloc (.cells #[.int .u8 ((q : Int) % 256)] 5)) ao k c 1 ((putL n k).map B) := by
        obtain ⟨a2, c2, hv, hc, _⟩ := cells_of_owns ho.out
        cases hv
        exact hc.keep ((Below.refl _ _).alloc (Nat.le_refl _) _)
      have hbb := hb.alloc hbs (.cells #[.int .u8 ((q : Int) % 256)] 5)
      go_wp2_with (at_builtin; refine wpList_append_row rfl (.tmp 19) (.tmp 20) 24 rfl w.heap.size 5 i0 (.int .u8 0) 1 1 Try.underlying24 hi hz0 hz1 hz2 rfl (by decide) _ _ _ _ rfl (World.ownsRow_lit wr #[.int .u8 ((q : Int) % 256)] 1 hbs (by unfold maxLen; omega) rfl) _ _ _ _ rfl hcells (oneCell_bytes _) (by unfold maxLen; omega) (by omega) w hbb (by simp; omega) ?_)
      intro a' cap' w' ho' hbl
      go_wp2
      refine ⟨⟨k + 1, a', cap', by omega, by go_num, by rw [HQ.out]; rfl, by rw [Nat.add_comm], ?_, hbl⟩, by simp [intOf]; omega⟩
      rw [HP.out, List.map_cons, Nat.add_comm k 1, B, ofNat_toNat_int]
      exact ho'
    · obtain rfl : k = wide := by omega
      obtain ⟨q, hqe⟩ : ∃ q, q = n / 256 ^ k := ⟨_, rfl⟩
      rw [← hqe]
      have HE := Lib.hid hqe.symm
      clear hqe HQ hq
      have hF : Hid (FreshB 5 w wr ao k c (putL n k)) := by
        obtain ⟨a2, c2, hv, hc⟩ := FreshB.of ho.out hb
        cases hv
        exact hc
      clear ho
      by_cases hq0 : q = 0
      · subst hq0
        go_wp2
        go_ret2
        unfold RPut
        rw [if_pos HE.out]
        exact ⟨ao, c, rfl, hF.out⟩
      · have hq1 : 0 < q := by omega
        go_wp2
        go_ret2
        unfold RPut
        rw [if_neg (by rw [HE.out]; exact hq0)]
        exact ⟨rfl, hb⟩

theorem rput_any (n : Nat) (wide : Int) (w : World) (hn : n < 18446744073709551616) :
    Calls Try.prog 27 #[.int .u64 n, .int .i64 wide] w (RetBE 5 w (putR n wide) (putE n wide)) := by
  by_cases h : wide < 1 ∨ 8 < wide
  · refine (rput_arg n wide w h).mono ?_
    rintro e w' ⟨rfl, rfl⟩
    have he : putE n wide = 1 := by rw [putE, if_pos h]
    have hr : putR n wide = [] := by rw [putR, he]; rfl
    rw [he, hr]
    exact ⟨none, 0, rfl, FreshB.nil _ _⟩
  · obtain ⟨k, rfl⟩ := Int.eq_ofNat_of_zero_le (show 0 ≤ wide by omega)
    have hpos : 0 < 256 ^ k := Nat.pow_pos (by decide)
    have hz := Nat.div_eq_zero_iff (a := n) (b := 256 ^ k)
    refine (rput_in n k w hn (by omega) (by omega)).mono ?_
    intro e w' hU
    unfold RPut at hU
    by_cases hl : n < 256 ^ k
    · have he : putE n (k : Int) = 0 := by rw [putE, if_neg h, Int.toNat_natCast, if_pos hl]
      have hr : putR n (k : Int) = putL n k := by rw [putR, he, if_pos rfl, Int.toNat_natCast]
      rw [if_pos (by omega)] at hU
      obtain ⟨a, c, rfl, hF⟩ := hU
      rw [he, hr]
      exact ⟨a, c, by rw [length_putL], by rw [length_putL]; exact hF⟩
    · have he : putE n (k : Int) = 2 := by rw [putE, if_neg h, Int.toNat_natCast, if_neg hl]
      have hr : putR n (k : Int) = [] := by rw [putR, he]; rfl
      rw [if_neg (by omega)] at hU
      obtain ⟨rfl, hb⟩ := hU
      rw [he, hr]
      exact ⟨none, 0, rfl, ⟨Bytes.nil _, World.ownsRow_nil _ _ _ _, hb⟩⟩

theorem get_any {w : World} {a : Option Addr} {n cap : Nat} {l : List UInt8} (hb : Bytes w a n cap l) :
    Calls Try.prog 28 #[.slice a n cap] w fun e w' => e = .returned (.tuple #[.int .u64 (getN l), .int .i64 (getE l)]) ∧ w = w' := by
  have hl := hb.len
  by_cases h : n = 0 ∨ 8 < n
  · rw [getN, getE, if_pos (by rw [hl]; exact h), if_pos (by rw [hl]; exact h)]
    exact get_arg hb h
  · rw [getN, getE, if_neg (by rw [hl]; exact h), if_neg (by rw [hl]; exact h)]
    exact get_fits hb (by omega) (by omega)

set_option maxRecDepth 100000 in
set_option maxHeartbeats 400000 in
theorem rget_any {w : World} {a : Option Addr} {n cap : Nat} {l : List UInt8} (hb : Bytes w a n cap l) :
    Calls Try.prog 29 #[.slice a n cap] w fun e w' => e = .returned (.tuple #[.int .u64 (getN l), .int .i64 (getE l)]) ∧ w = w' := by
  have hl := hb.len
  have hm := hb.le_i64
  by_cases h : n = 0 ∨ 8 < n
  · rw [getN, getE, if_pos (by rw [hl]; exact h), if_pos (by rw [hl]; exact h)]
    clear hb hl
    rcases h with h | h
    · subst h
      go_enter Try.func29, Try.ntmps29
      go_wp2
      go_ret2
      exact ⟨rfl, rfl⟩
    · have h1 : ¬ (n : Int) < 1 := by omega
      go_enter Try.func29, Try.ntmps29
      go_wp2
      go_ret2
      exact ⟨rfl, rfl⟩
  · rw [getN, getE, if_neg (by rw [hl]; exact h), if_neg (by rw [hl]; exact h)]
    have hlen := Lib.hid hb.len
    have hn1 : 1 ≤ n := by omega
    have hn8 : n ≤ 8 := by omega
    have hl0 : l ≠ [] := by intro e; subst e; simp at hl; omega
    obtain ⟨b, off, rfl, hc⟩ := hb.at hl0
    clear hb hl0 hl h
    have H := Lib.hid hc
    clear hc
    go_enter Try.func29, Try.ntmps29
    go_wp2
    go_loop [4, 17] (fun v i => ∃ k : Nat, k ≤ n ∧ i = .int .i64 k ∧ v = .int .u64 (val (l.take k))) (fun _ i => n - (intOf i).toNat)
    case atStart => exact ⟨0, Nat.zero_le _, rfl, rfl⟩
    case round =>
      obtain ⟨k, hk, rfl, rfl⟩ := hrel
      by_cases hlt : k < n
      · obtain ⟨u, hu, hc, hu1, hu2⟩ := cell_get H.out k (by rw [hlen.out]; exact hlt)
        have hlo := val_lt (l.take k)
        have HN := Lib.hid (val_snoc (l.take k) u)
        have HT := Lib.hid (take_snoc hu)
        have hm : val (l.take k) < 72057594037927936 := by
          refine Nat.lt_of_lt_of_le hlo ?_
          rw [List.length_take, hlen.out]
          exact Nat.le_trans (Nat.pow_le_pow_right (by decide) (show min k n ≤ 7 by omega)) (by decide)
        clear hlo hu
        generalize val (l.take k) = m at *
        go_wp2
        refine ⟨⟨k + 1, by omega, by go_num, ?_⟩, by simp [intOf]; omega⟩
        rw [HT.out, HN.out]; go_num
      · go_wp2
        go_ret2
        have hk' : k = n := by omega
        have ht : l.take k = l := List.take_of_length_le (by rw [hlen.out]; omega)
        rw [ht]
        exact ⟨rfl, rfl⟩
end Go.Proofs.Ytmkfpfnjimmmaaa
