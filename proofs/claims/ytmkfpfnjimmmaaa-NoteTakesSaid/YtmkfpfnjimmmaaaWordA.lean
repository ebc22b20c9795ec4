/- The walks of package word, of its reference, and of Same. -/
import Derived.Test.YtmkfpfnjimmmaaaWordF
import Derived.Test.YtmkfpfnjimmmaaaChecked
namespace Go.Proofs.Ytmkfpfnjimmmaaa
open Go.RowKit

theorem info_u8 : (Try.prog.info? 5).map (fun i => (i.zero, i.size, i.bytes)) = some (some (.int .u8 0), 1, 1) := by kernel_rfl

set_option maxRecDepth 100000 in
set_option maxHeartbeats 400000 in
theorem same_any {w : World} {a a' : Option Addr} {n n' cap cap' : Nat} {l m : List UInt8} (h : Bytes w a n cap l) (h' : Bytes w a' n' cap' m) :
    Calls Try.prog 26 #[.slice a n cap, .slice a' n' cap'] w fun e w' => e = .returned (.bool (l == m)) ∧ w = w' := by
  have k1 := h.toStr (P := Try.prog) 24 9 5 Try.underlying24 Try.underlying5 Try.underlying9
  have k2 := h'.toStr (P := Try.prog) 24 9 5 Try.underlying24 Try.underlying5 Try.underlying9
  clear h h'
  go_enter Try.func26, Try.ntmps26
  go_wp2
  go_ret
  exact ⟨rfl, rfl⟩

/-- A slice of bytes and an error's number. -/
def RetBE (e0 : TypeId) (w : World) (l : List UInt8) (E : Int) (e : Ending) (w' : World) : Prop :=
  ∃ a cap, e = .returned (.tuple #[.slice a l.length cap, .int .i64 E]) ∧ FreshB e0 w w' a l.length cap l

set_option maxRecDepth 100000 in
set_option maxHeartbeats 400000 in
theorem put_arg (n : Nat) (wide : Int) (w : World) (h : wide < 1 ∨ 8 < wide) :
    Calls Try.prog 25 #[.int .u64 n, .int .i64 wide] w fun e w' => e = .returned (.tuple #[.slice none 0 0, .int .i64 1]) ∧ w = w' := by
  rcases h with h | h
  · go_enter Try.func25, Try.ntmps25
    go_wp2
    go_ret2
    exact ⟨rfl, rfl⟩
  · have h1 : 1 ≤ wide := by omega
    go_enter Try.func25, Try.ntmps25
    go_wp2
    go_ret2
    exact ⟨rfl, rfl⟩

set_option maxRecDepth 100000 in
set_option maxHeartbeats 400000 in
theorem put_long (n wide : Nat) (w : World) (h : 1 ≤ wide) (h8 : wide < 8) (hn : ((n : Int) / 2 ^ (8 * wide) != 0) = true) :
    Calls Try.prog 25 #[.int .u64 n, .int .i64 wide] w fun e w' => e = .returned (.tuple #[.slice none 0 0, .int .i64 2]) ∧ w = w' := by
  go_enter Try.func25, Try.ntmps25
  go_wp2
  go_ret2
  exact ⟨rfl, rfl⟩

set_option maxRecDepth 100000 in
set_option maxHeartbeats 800000 in
theorem put_fits (n wide : Nat) (w : World) (h : 1 ≤ wide) (h' : wide ≤ 8) (hn : wide < 8 → ((n : Int) / 2 ^ (8 * wide) != 0) = false) :
    Calls Try.prog 25 #[.int .u64 n, .int .i64 wide] w fun e w' => e = .returned (.tuple #[.slice (some ⟨w.heap.size, 0, none⟩) wide wide, .int .i64 0]) ∧
      w'.ownsRow w.heap.size 5 1 (.slice (some ⟨w.heap.size, 0, none⟩) wide wide) wide ((putL n wide).map B) ∧ Below w.heap.size w w' := by
  obtain ⟨i0, hi, hz0, hz1, hz2⟩ := info_parts info_u8
  by_cases h8 : wide < 8
  all_goals
    try have hs := hn h8
    clear hn
    go_enter Try.func25, Try.ntmps25
    go_wp2_with (at_make; refine wpList_make_full _ rfl _ _ 24 rfl w.heap.size 5 i0 (.int .u8 0) 1 Try.underlying24 hi hz0 hz1 _ _ _ _ wide rfl rfl rfl rfl (by rw [hz2]; omega) (by unfold maxLen; omega) (Nat.le_refl _) ?_)
    intro w1 hown hg
    go_wp2
    go_loopw [27] (fun i wr => ∃ k : Nat, k ≤ wide ∧ i = .int .i64 k ∧ wr.ownsRow w.heap.size 5 1 (.slice (some ⟨w.heap.size, 0, none⟩) wide wide) wide ((putPart n wide k).map B) ∧ Below w.heap.size w wr) (fun i _ => wide - (intOf i).toNat)
    case atStart =>
      refine ⟨0, Nat.zero_le _, rfl, ?_, (Below.refl _ _).grown hg (Nat.le_refl _) (fun k e => by cases e)⟩
      rw [putPart_zero]
      simpa [toList_madeCells_one, B] using hown
    case round =>
      obtain ⟨k, hk, rfl, hown', hb⟩ := hrel
      by_cases hlt : k < wide
      · have hc := hown'.cellAt (wide - 1 - k) (by omega)
        have hf := hown'.frozenAt (wide - 1 - k)
        have hl := hown'.1
        rw [List.getElem?_eq_getElem (by rw [hl]; omega)] at hc
        go_wp2
        refine ⟨⟨k + 1, by omega, by go_num, ?_, hb.setCell (Nat.le_refl _) _⟩, by simp [intOf]; omega⟩
        rw [← putPart_succ n wide k hlt, List.map_set]
        have e : Value.int IntKind.u8 (↑n / 2 ^ (8 * k) % 256) = B (UInt8.ofNat (n / 256 ^ k)) := by
          rw [B, ofNat_toNat_int, Int.pow_mul]; rfl
        rw [e]
        exact (hown'.stored _ _).1
      · go_wp2
        go_ret2
        obtain rfl : k = wide := by omega
        exact ⟨rfl, by rw [← putPart_full]; exact hown', hb⟩

theorem put_any (n : Nat) (wide : Int) (w : World) (hn : n < 18446744073709551616) :
    Calls Try.prog 25 #[.int .u64 n, .int .i64 wide] w (RetBE 5 w (putR n wide) (putE n wide)) := by
  by_cases h : wide < 1 ∨ 8 < wide
  · refine (put_arg n wide w h).mono ?_
    rintro e w' ⟨rfl, rfl⟩
    have he : putE n wide = 1 := by rw [putE, if_pos h]
    have hr : putR n wide = [] := by rw [putR, he]; rfl
    rw [he, hr]
    exact ⟨none, 0, rfl, FreshB.nil _ _⟩
  · obtain ⟨k, rfl⟩ := Int.eq_ofNat_of_zero_le (show 0 ≤ wide by omega)
    have hk : 1 ≤ k := by omega
    have hk8 : k ≤ 8 := by omega
    have hp : (2 : Nat) ^ (8 * k) = 256 ^ k := by rw [Nat.pow_mul]
    have ht : ((n : Int) / 2 ^ (8 * k) != 0) = decide (256 ^ k ≤ n) := by
      rw [Bool.eq_iff_iff]
      have e : ((n : Int) / 2 ^ (8 * k)) = ((n / 256 ^ k : Nat) : Int) := by rw [← hp]; simp
      rw [e]
      have hpos : 0 < 256 ^ k := Nat.pow_pos (by decide)
      have := Nat.div_eq_zero_iff (a := n) (b := 256 ^ k)
      simp only [bne_iff_ne, ne_eq, decide_eq_true_eq]
      omega
    by_cases hl : n < 256 ^ k
    · have he : putE n (k : Int) = 0 := by rw [putE, if_neg h, Int.toNat_natCast, if_pos hl]
      have hr : putR n (k : Int) = putL n k := by rw [putR, he, if_pos rfl, Int.toNat_natCast]
      refine (put_fits n k w hk hk8 (fun _ => by rw [ht]; simpa using hl)).mono ?_
      rintro e w' ⟨rfl, ho, hb⟩
      rw [he, hr]
      refine ⟨_, k, by rw [length_putL], ?_⟩
      obtain ⟨a, cap, hv, hF⟩ := FreshB.of (e := 5) ho hb
      cases hv
      rw [length_putL]
      exact hF
    · have h8 : k < 8 := by
        rcases Nat.lt_or_ge k 8 with h8 | h8
        · exact h8
        · obtain rfl : k = 8 := by omega
          exact absurd hn (by simpa using hl)
      have he : putE n (k : Int) = 2 := by rw [putE, if_neg h, Int.toNat_natCast, if_neg hl]
      have hr : putR n (k : Int) = [] := by rw [putR, he]; rfl
      refine (put_long n k w hk h8 (by rw [ht]; simpa using hl)).mono ?_
      rintro e w' ⟨rfl, rfl⟩
      rw [he, hr]
      exact ⟨none, 0, rfl, FreshB.nil _ _⟩

set_option maxRecDepth 100000 in
set_option maxHeartbeats 400000 in
theorem get_arg {w : World} {a : Option Addr} {n cap : Nat} {l : List UInt8} (hb : Bytes w a n cap l) (h : n = 0 ∨ 8 < n) :
    Calls Try.prog 28 #[.slice a n cap] w fun e w' => e = .returned (.tuple #[.int .u64 0, .int .i64 1]) ∧ w = w' := by
  have hm := hb.le_i64
  clear hb
  rcases h with h | h
  · subst h
    go_enter Try.func28, Try.ntmps28
    go_wp2
    go_ret2
    exact ⟨rfl, rfl⟩
  · have h1 : ¬ (n : Int) < 1 := by omega
    go_enter Try.func28, Try.ntmps28
    go_wp2
    go_ret2
    exact ⟨rfl, rfl⟩

set_option maxRecDepth 100000 in
set_option maxHeartbeats 400000 in
theorem get_fits {w : World} {a : Option Addr} {n cap : Nat} {l : List UInt8} (hb : Bytes w a n cap l) (h : 1 ≤ n) (h8 : n ≤ 8) :
    Calls Try.prog 28 #[.slice a n cap] w fun e w' => e = .returned (.tuple #[.int .u64 (val l), .int .i64 0]) ∧ w = w' := by
  have hlen := Lib.hid hb.len
  have hl0 : l ≠ [] := by intro e; subst e; have := hlen.out; simp at this; omega
  obtain ⟨b, off, rfl, hc⟩ := hb.at hl0
  clear hb hl0
  have H := Lib.hid hc
  clear hc
  go_enter Try.func28, Try.ntmps28
  go_wp2
  go_loop [4, 17] (fun v i => ∃ k : Nat, k ≤ n ∧ i = .int .i64 k ∧ v = .int .u64 (val (l.take k))) (fun _ i => n - (intOf i).toNat)
  case atStart => exact ⟨0, Nat.zero_le _, rfl, rfl⟩
  case round =>
    obtain ⟨k, hk, rfl, rfl⟩ := hrel
    by_cases hlt : k < n
    · obtain ⟨u, hu, hc, hu1, hu2⟩ := cell_get H.out k (by rw [hlen.out]; exact hlt)
      have hlo := val_lt (l.take k)
      have HN := Lib.hid (val_snoc (l.take k) u)
      have HT := Lib.hid (take_snoc hu)
      have hm : val (l.take k) < 72057594037927936 := by
        refine Nat.lt_of_lt_of_le hlo ?_
        rw [List.length_take, hlen.out]
        exact Nat.le_trans (Nat.pow_le_pow_right (by decide) (show min k n ≤ 7 by omega)) (by decide)
      clear hlo hu
      generalize val (l.take k) = m at *
      have hor : bits BinOp.or IntKind.u64 ((m : Int) * 256) (u.toNat : Int) = ((m * 256 + u.toNat : Nat) : Int) := by
        rw [show (m : Int) * 256 = ((m * 256 : Nat) : Int) by simp, bits_or_u64_nat _ _ (by omega) (by omega)]
        have := Nat.two_pow_add_eq_or_of_lt (i := 8) (b := u.toNat) (by omega) m
        rw [show 2 ^ 8 * m = m * 256 by omega] at this
        rw [this]
      go_wp2
      refine ⟨⟨k + 1, by omega, by go_num, ?_⟩, by simp [intOf]; omega⟩
      rw [HT.out, HN.out]; go_num
    · go_wp2
      go_ret2
      have hk' : k = n := by omega
      have ht : l.take k = l := List.take_of_length_le (by rw [hlen.out]; omega)
      rw [ht]
      exact ⟨rfl, rfl⟩

theorem oneCell_ones {l : List Value} (h : ∀ u ∈ l, u.oneCell' = true) : ∀ u ∈ l, u.oneCell' = true := h

set_option maxRecDepth 100000 in
set_option maxHeartbeats 400000 in
/-- bytes.Clone and slices.Clone of bytes. -/
theorem bclone_any {w : World} {a : Option Addr} {n cap : Nat} {l : List UInt8} (hb : Bytes w a n cap l) (hn : n ≤ 4294967296) :
    Calls Try.prog 69 #[.slice a n cap] w fun e w' => ∃ a' cap', e = .returned (.slice a' n cap') ∧ FreshB 5 w w' a' n cap' l := by
  obtain ⟨i0, hi, hz0, hz1, hz2⟩ := info_parts info_u8
  cases a with
  | none =>
    have h0 := hb.zero rfl
    have hn0 : n = 0 := by have := hb.le; omega
    subst hn0 h0
    obtain rfl : l = [] := List.eq_nil_of_length_eq_zero hb.len
    have hq := fun (w : World) (a : Option Addr) (n c : Nat) => Lib.run_eql_slice_nil (P := Try.prog) w 24 5 a n c 0 0 Try.underlying24
    go_enter Try.func69, Try.ntmps69
    go_wp2
    go_ret
    exact ⟨none, 0, rfl, FreshB.nil _ _⟩
  | some x =>
    have hq := fun (w : World) (a : Option Addr) (n c : Nat) => Lib.run_eql_slice_nil (P := Try.prog) w 24 5 a n c 0 0 Try.underlying24
    go_enter Try.func69, Try.ntmps69
    go_wp2_with (at_builtin; refine wpList_append_row rfl (.tmp 5) (.tmp 6) 24 rfl w.heap.size 5 i0 (.int .u8 0) 1 1 Try.underlying24 hi hz0 hz1 hz2 rfl (by decide) _ _ _ _ rfl (World.ownsRow_lit w #[] 0 (Nat.le_refl _) (Nat.zero_le _) rfl) _ _ _ _ rfl (hb.cells.keep ((Below.refl _ _).alloc (Nat.le_refl _) _)) (oneCell_bytes l) (by unfold maxLen; omega) (by omega) w ((Below.refl _ _).alloc (Nat.le_refl _) _) (by simp) ?_)
    intro a' cap' w' ho hbl
    go_wp2
    go_ret
    obtain ⟨a2, c2, hv, hF⟩ := FreshB.of ho hbl
    cases hv
    exact ⟨_, _, rfl, hF⟩
end Go.Proofs.Ytmkfpfnjimmmaaa
