/- The walks of the reference of package word: Fill, Unfill, Must. -/
import Derived.Test.YtmkfpfnjimmmaaaWordD
namespace Go.Proofs.Ytmkfpfnjimmmaaa
open Go.RowKit

set_option maxRecDepth 100000 in
set_option maxHeartbeats 400000 in
theorem rfill_arg {a : Option Addr} {n cap : Nat} (wide : Int) (w : World) (h : wide < 1 ∨ 255 < wide) :
    Calls Try.prog 31 #[.slice a n cap, .int .i64 wide] w fun e w' => e = .returned (.tuple #[.slice none 0 0, .int .i64 1]) ∧ w = w' := by
  rcases h with h | h
  · go_enter Try.func31, Try.ntmps31
    go_wp2
    go_ret2
    exact ⟨rfl, rfl⟩
  · have h1 : 1 ≤ wide := by omega
    go_enter Try.func31, Try.ntmps31
    go_wp2
    go_ret2
    exact ⟨rfl, rfl⟩

set_option maxRecDepth 100000 in
set_option maxHeartbeats 400000 in
theorem rfill_long {a : Option Addr} {n cap : Nat} (wide : Nat) (w : World) (h : 1 ≤ wide) (h' : wide ≤ 255) (hl : wide < n) :
    Calls Try.prog 31 #[.slice a n cap, .int .i64 wide] w fun e w' => e = .returned (.tuple #[.slice none 0 0, .int .i64 2]) ∧ w = w' := by
  go_enter Try.func31, Try.ntmps31
  go_wp2
  go_ret2
  exact ⟨rfl, rfl⟩

theorem fillPart_succ (l : List UInt8) (k : Nat) : UInt8.ofNat l.length :: (l ++ List.replicate (k + 1) 0) = (UInt8.ofNat l.length :: (l ++ List.replicate k 0)) ++ [0] := by
  rw [List.replicate_succ', List.cons_append, List.append_assoc]

/-- A slice's length. -/
def lenOf : Value → Nat | .slice _ m _ => m | _ => 0

set_option maxRecDepth 100000 in
set_option maxHeartbeats 800000 in
theorem rfill_fits {w : World} {a : Option Addr} {n cap : Nat} {l : List UInt8} (wide : Nat) (hb : Bytes w a n cap l) (h : 1 ≤ wide) (h' : wide ≤ 255) (hl : n ≤ wide) :
    Calls Try.prog 31 #[.slice a n cap, .int .i64 wide] w fun e w' => ∃ a' c', e = .returned (.tuple #[.slice a' (1 + wide) c', .int .i64 0]) ∧ FreshB 5 w w' a' (1 + wide) c' (fillL l wide) := by
  obtain ⟨i0, hi, hz0, hz1, hz2⟩ := info_parts info_u8
  have hbb := (Below.refl w.heap.size w).alloc (Nat.le_refl _) (.cells #[.int .u8 (n : Int)] 5)
  have hcells := hb.cells.keep hbb
  have HLen := Lib.hid hb.len
  go_enter Try.func31, Try.ntmps31
  go_wp2_with (at_builtin; refine wpList_append_row rfl (.tmp 20) (.tmp 21) 24 rfl w.heap.size 5 i0 (.int .u8 0) 1 1 Try.underlying24 hi hz0 hz1 hz2 rfl (by decide) _ _ _ _ rfl (World.ownsRow_lit w #[.int .u8 (n : Int)] 1 (Nat.le_refl _) (by unfold maxLen; omega) rfl) _ _ _ _ rfl hcells (oneCell_bytes _) (by unfold maxLen; omega) (by omega) w hbb (by simp) ?_)
  intro a' cap' w1 ho hbl
  have HO : Hid (w1.ownsRow w.heap.size 5 1 (.slice a' (1 + n) cap') (1 + n) ((UInt8.ofNat l.length :: (l ++ List.replicate 0 0)).map B)) := by
    show World.ownsRow _ _ _ _ _ _ _
    rw [List.replicate_zero, List.append_nil, List.map_cons, B, ofNat_toNat_int, HLen.out, show ((n : Nat) : Int) % 256 = n by omega]
    exact ho
  clear ho hb hcells hbb
  go_wp2
  go_loopw [6] (fun o wr => ∃ k ao c, k ≤ wide - n ∧ o = .slice ao (1 + n + k) c ∧ Hid (wr.ownsRow w.heap.size 5 1 (.slice ao (1 + n + k) c) (1 + n + k) ((UInt8.ofNat l.length :: (l ++ List.replicate k 0)).map B)) ∧ Below w.heap.size w wr) (fun o _ => 2 + wide - lenOf o)
  case atStart => exact ⟨0, a', cap', Nat.zero_le _, rfl, HO, hbl⟩
  case round =>
    obtain ⟨k, ao, c, hk, rfl, ho, hb⟩ := hrel
    have hbs := hb.size
    have HS := Lib.hid (fillPart_succ l k)
    by_cases hlt : k < wide - n
    · have hbb := hb.alloc hbs (.cells #[.int .u8 0] 5)
      have hcc := cells_lit wr #[.int .u8 0] 5 1 1 (by unfold maxLen; omega) rfl
      obtain ⟨Y, hY⟩ : ∃ Y, Y = (UInt8.ofNat l.length :: (l ++ List.replicate k 0)).map B := ⟨_, rfl⟩
      rw [← hY] at ho
      have HY := Lib.hid hY
      clear hY
      go_wp2_with (at_builtin; refine wpList_append_row rfl (.tmp 28) (.tmp 29) 24 rfl w.heap.size 5 i0 (.int .u8 0) 1 1 Try.underlying24 hi hz0 hz1 hz2 rfl (by decide) _ _ _ _ rfl (ho.out.alloc _) _ _ _ _ rfl hcc (by simp [Value.oneCell']) (by unfold maxLen; omega) (by omega) w hbb (by simp; omega) ?_)
      intro a2 c2 w2 ho2 hb2
      go_wp2
      refine ⟨⟨k + 1, a2, c2, by omega, by rw [Nat.add_assoc], ?_, hb2⟩, by simp [lenOf]; omega⟩
      rw [HS.out, List.map_append, ← HY.out]
      exact ho2
    · obtain rfl : k = wide - n := by omega
      have HE : Hid (1 + n + (wide - n) = 1 + wide) := by show _ = _; omega
      rw [HE.out] at ho ⊢
      have hF : Hid (FreshB 5 w wr ao (1 + wide) c (fillL l wide)) := by
        have ho' := ho.out
        rw [← HLen.out] at ho'
        obtain ⟨a2, c2, hv, hc⟩ := FreshB.of ho' hb
        cases hv
        exact hc
      clear ho HE
      go_wp2
      go_ret2
      exact ⟨ao, c, rfl, hF.out⟩

theorem rfill_any {w : World} {a : Option Addr} {n cap : Nat} {l : List UInt8} (wide : Int) (hb : Bytes w a n cap l) :
    Calls Try.prog 31 #[.slice a n cap, .int .i64 wide] w (RetBE 5 w (fillR l wide) (fillE l wide)) := by
  by_cases h : wide < 1 ∨ 255 < wide
  · refine (rfill_arg wide w h).mono ?_
    rintro e w' ⟨rfl, rfl⟩
    have he : fillE l wide = 1 := by rw [fillE, if_pos h]
    have hr : fillR l wide = [] := by rw [fillR, he]; rfl
    rw [he, hr]
    exact ⟨none, 0, rfl, FreshB.nil _ _⟩
  · obtain ⟨k, rfl⟩ := Int.eq_ofNat_of_zero_le (show 0 ≤ wide by omega)
    by_cases hl : k < n
    · have he : fillE l (k : Int) = 2 := by rw [fillE, if_neg h, if_pos (by rw [hb.len]; omega)]
      have hr : fillR l (k : Int) = [] := by rw [fillR, he]; rfl
      refine (rfill_long k w (by omega) (by omega) hl).mono ?_
      rintro e w' ⟨rfl, rfl⟩
      rw [he, hr]
      exact ⟨none, 0, rfl, FreshB.nil _ _⟩
    · have he : fillE l (k : Int) = 0 := by rw [fillE, if_neg h, if_neg (by rw [hb.len]; omega)]
      have hr : fillR l (k : Int) = fillL l k := by rw [fillR, he, if_pos rfl, Int.toNat_natCast]
      refine (rfill_fits k hb (by omega) (by omega) (by omega)).mono ?_
      rintro e w' ⟨a', c', rfl, hF⟩
      rw [he, hr]
      have hlen := length_fillL l k (by rw [hb.len]; omega)
      exact ⟨a', c', by rw [hlen], by rw [hlen]; exact hF⟩
end Go.Proofs.Ytmkfpfnjimmmaaa
