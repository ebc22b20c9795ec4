/- The laws of package word: the walks of WordParts, WordNumbers, WordBack. -/
import Derived.Test.YtmkfpfnjimmmaaaWordL
import Derived.Test.YtmkfpfnjimmmaaaWordP
namespace Go.Proofs.Ytmkfpfnjimmmaaa
open Go.RowKit

set_option maxRecDepth 100000 in
set_option maxHeartbeats 400000 in
theorem wordParts_out {n : Nat} {wide : Int} {w : World} (hn : n < 18446744073709551616) (h : wide < 2 ∨ 8 < wide) :
    Calls Try.prog 4 #[.int .u64 n, .int .i64 wide] w fun e w' => e = .returned (.bool true) ∧ Below w.heap.size w w' := by
  have hq : ((n : Int) / 256) = ((n / 256 : Nat) : Int) := by omega
  have HQ := Lib.hid hq
  clear hq
  rcases h with h | h
  · go_enter Try.func4, Try.ntmps4
    go_wp2_with fail
    refine (live03 _).mono ?_
    rintro e w0 ⟨rfl, b0⟩
    go_wp2_with fail
    refine (put_any n wide _ hn).mono ?_
    rintro e w1 ⟨a, cap, rfl, h1⟩
    have b1 := below_then b0 h1.below
    go_wp2_with fail
    rw [HQ.out]
    refine (put_any (n / 256) _ _ (by omega)).mono ?_
    rintro e w2 ⟨a2, cap2, rfl, h2⟩
    have b2 := below_then b1 h2.below
    go_wp2
    go_ret
    exact ⟨rfl, b2⟩
  · have h2' : 2 ≤ wide := by omega
    go_enter Try.func4, Try.ntmps4
    go_wp2_with fail
    refine (live03 _).mono ?_
    rintro e w0 ⟨rfl, b0⟩
    go_wp2_with fail
    refine (put_any n wide _ hn).mono ?_
    rintro e w1 ⟨a, cap, rfl, h1⟩
    have b1 := below_then b0 h1.below
    go_wp2_with fail
    rw [HQ.out]
    refine (put_any (n / 256) _ _ (by omega)).mono ?_
    rintro e w2 ⟨a2, cap2, rfl, h2⟩
    have b2 := below_then b1 h2.below
    go_wp2
    go_ret
    exact ⟨rfl, b2⟩

set_option maxRecDepth 100000 in
set_option maxHeartbeats 400000 in
theorem wordParts_in {n k : Nat} {w : World} (hn : n < 18446744073709551616) (h1 : 1 ≤ k) (h7 : k ≤ 7) :
    Calls Try.prog 4 #[.int .u64 n, .int .i64 ((k : Int) + 1)] w fun e w' => e = .returned (.bool true) ∧ Below w.heap.size w w' := by
  obtain ⟨i0, hi, hz0, hz1, hz2⟩ := info_parts info_u8
  have hq : ((n : Int) / 256) = ((n / 256 : Nat) : Int) := by omega
  have HQ := Lib.hid hq
  obtain ⟨he, hc⟩ := putE_parts (n := n) h1 h7
  have P1 := fun w => put_any n ((k : Int) + 1) w hn
  have P2 := fun w => put_any (n / 256) (k : Int) w (by omega)
  have hr1 : putE n ((k : Int) + 1) = 0 → putR n ((k : Int) + 1) = putR (n / 256) (k : Int) ++ [UInt8.ofNat (n % 256)] := by
    intro h
    rw [putR_of_zero h, putR_of_zero (he.trans h), Int.toNat_natCast, putL_snoc]
    congr 1
  have hl2 : putE n ((k : Int) + 1) = 0 → (putR (n / 256) (k : Int)).length = k := by
    intro h
    rw [putR_of_zero (he.trans h), Int.toNat_natCast, length_putL]
  rw [he] at P2
  generalize putR n ((k : Int) + 1) = l1 at *
  generalize putR (n / 256) (k : Int) = l2 at *
  generalize putE n ((k : Int) + 1) = e1 at *
  clear hq he
  go_enter Try.func4, Try.ntmps4
  go_wp2_with fail
  refine (live03 _).mono ?_
  rintro e w0 ⟨rfl, b0⟩
  go_wp2_with fail
  refine (P1 _).mono ?_
  rintro e w1 ⟨a, cap, rfl, f1⟩
  have b1 := below_then b0 f1.below
  go_wp2_with fail
  rw [HQ.out]
  refine (P2 _).mono ?_
  rintro e w2 ⟨a2, cap2, rfl, f2⟩
  have b2 := below_then b1 f2.below
  have hsw := b1.size
  have hbw1 := b1
  clear P1 P2 b0 b1
  rcases hc with rfl | rfl
  · have HR := Lib.hid (hr1 rfl)
    have HL := Lib.hid (hl2 rfl)
    clear hr1 hl2
    rw [HL.out] at f2 ⊢
    have hcells := cells_lit w2 #[.int .u8 ((n : Int) % 256)] 5 1 1 (by unfold maxLen; omega) rfl
    have hbb := f2.below.alloc f2.below.size (.cells #[.int .u8 ((n : Int) % 256)] 5)
    have hs2 := b2.size
    have hs1 := f2.below.size
    go_wp2_with (at_builtin; refine wpList_append_row_g rfl (.tmp 44) (.tmp 48) 24 rfl w1.heap.size 5 i0 (.int .u8 0) 1 1 Try.underlying24 hi hz0 hz1 hz2 rfl (by decide) _ _ _ _ rfl (f2.owns.alloc _) _ _ _ _ rfl hcells (by simp [Value.oneCell']) (by unfold maxLen; omega) (by omega) w1 hbb (by simp; omega) ?_)
    intro a3 cap3 w3 ho hb3
    have e3 : Value.int IntKind.u8 ((n : Int) % 256) = B (UInt8.ofNat (n % 256)) := by
      rw [B, ofNat_toNat_int]; congr 1; omega
    rw [e3] at ho
    have ho' : w3.ownsRow w1.heap.size 5 1 (.slice a3 (k + 1) cap3) (k + 1) ((l2 ++ [UInt8.ofNat (n % 256)]).map B) := by
      rw [List.map_append]; exact ho
    rw [← HR.out] at ho'
    obtain ⟨a4, c4, hv, hF⟩ := FreshB.of ho' hb3
    cases hv
    have x1 := f1.bytes.keep hb3
    clear ho ho' hcells hbb e3
    have bw : Below w.heap.size w w3 := by
      have hw1 : w.heap.size ≤ w1.heap.size := hsw
      exact hbw1.trans (hb3.mono hw1)
    go_wp2_with fail
    refine (same_any x1 hF.bytes).mono ?_
    rintro e w4 ⟨rfl, rfl⟩
    go_wp2
    go_ret
    exact ⟨by simp, bw⟩
  · clear hr1 hl2
    go_wp2
    go_ret
    exact ⟨rfl, b2⟩

theorem wordParts_walk {n : Nat} {wide : Int} {w : World} (hn : n < 18446744073709551616) (_ : (Lit.int .i64 wide).wf = true) :
    Calls Try.prog 4 #[.int .u64 n, .int .i64 wide] w fun e w' => e = .returned (.bool true) ∧ Below w.heap.size w w' := by
  by_cases h : wide < 2 ∨ 8 < wide
  · exact wordParts_out hn h
  · obtain ⟨k, hk⟩ := Int.eq_ofNat_of_zero_le (show 0 ≤ wide - 1 by omega)
    obtain rfl : wide = (k : Int) + 1 := by omega
    exact wordParts_in hn (by omega) (by omega)

set_option maxRecDepth 100000 in
set_option maxHeartbeats 400000 in
theorem wordNumbers_walk {n : Nat} {wide : Int} {w : World} {a : Option Addr} {m cap : Nat} {l : List UInt8} (hn : n < 18446744073709551616) (_ : (Lit.int .i64 wide).wf = true) (hb : Bytes w a m cap l) :
    Calls Try.prog 5 #[.int .u64 n, .int .i64 wide, .slice a m cap] w fun e w' => e = .returned (.bool true) ∧ Below w.heap.size w w' := by
  have hm := hb.le_i64
  by_cases h4 : 400 < m
  · clear hb
    go_enter Try.func5, Try.ntmps5
    go_wp2_with fail
    refine (live03 _).mono ?_
    rintro e w0 ⟨rfl, b0⟩
    go_wp2
    go_ret
    exact ⟨rfl, b0⟩
  · go_enter Try.func5, Try.ntmps5
    go_wp2_with fail
    refine (live03 _).mono ?_
    rintro e w0 ⟨rfl, b0⟩
    have hb0 := hb.keep b0
    go_wp2_with fail
    refine (put_any n wide _ hn).mono ?_
    rintro e w1 ⟨a1, cap1, rfl, f1⟩
    have b1 := below_then b0 f1.below
    have hb1 := hb0.keep f1.below
    go_wp2_with fail
    refine (rput_any n wide _ hn).mono ?_
    rintro e w2 ⟨a2, cap2, rfl, f2⟩
    have b2 := below_then b1 f2.below
    have hb2 := hb1.keep f2.below
    have x1 := f1.bytes.keep f2.below
    have x2 := f2.bytes
    clear f1 f2 b0 b1 hb hb0 hb1
    generalize putR n wide = l1 at *
    generalize putE n wide = e1 at *
    go_wp2_with fail
    refine (get_any hb2).mono ?_
    rintro e w3 ⟨rfl, rfl⟩
    go_wp2_with fail
    refine (rget_any hb2).mono ?_
    rintro e w3 ⟨rfl, rfl⟩
    generalize getN l = g at *
    generalize getE l = e2 at *
    go_wp2_with fail
    refine (same_any x1 x2).mono ?_
    rintro e w3 ⟨rfl, rfl⟩
    go_wp2
    all_goals
      go_ret
      exact ⟨by simp, b2⟩

set_option maxRecDepth 100000 in
set_option maxHeartbeats 800000 in
theorem wordBack_walk {n : Nat} {wide : Int} {w : World} {a : Option Addr} {m cap : Nat} {l : List UInt8} (hn : n < 18446744073709551616) (_ : (Lit.int .i64 wide).wf = true) (hb : Bytes w a m cap l) :
    Calls Try.prog 6 #[.int .u64 n, .int .i64 wide, .slice a m cap] w fun e w' => e = .returned (.bool true) ∧ Below w.heap.size w w' := by
  have hm := hb.le_i64
  by_cases h4 : 400 < m
  · clear hb
    go_enter Try.func6, Try.ntmps6
    go_wp2_with fail
    refine (live03 _).mono ?_
    rintro e w0 ⟨rfl, b0⟩
    go_wp2
    go_ret
    exact ⟨rfl, b0⟩
  · have hgp := @get_put n wide
    have hz := @putE_zero n wide
    go_enter Try.func6, Try.ntmps6
    go_wp2_with fail
    refine (live03 _).mono ?_
    rintro e w0 ⟨rfl, b0⟩
    have hb0 := hb.keep b0
    go_wp2_with fail
    refine (put_any n wide _ hn).mono ?_
    rintro e w1 ⟨a1, cap1, rfl, f1⟩
    have b1 := below_then b0 f1.below
    have hb1 := hb0.keep f1.below
    have x1 := f1.bytes
    clear f1 b0 hb hb0
    generalize putR n wide = l1 at *
    generalize putE n wide = e1 at *
    have HL := Lib.hid hb1.len
    by_cases he : e1 = 0
    · subst he
      obtain ⟨hg1, hg2, hg3⟩ := hgp rfl
      have hg4 : ((l1.length : Int) != wide) = false := by rw [bne_eq_false_iff_eq]; exact hg3
      clear hgp hz hg3
      go_wp2_with fail
      refine (get_any x1).mono ?_
      rintro e w2 ⟨rfl, rfl⟩
      rw [hg1, hg2]
      clear hg1 hg2
      go_wp2_with fail
      refine (get_any hb1).mono ?_
      rintro e w2 ⟨rfl, rfl⟩
      rcases getE_cases l with ⟨hg, hl1, hl8, hv⟩ | ⟨hg, hv⟩
      · have hu := val_u64 hl8
        obtain ⟨hp1, hp2⟩ := put_get hl1 hl8
        rw [HL.out] at hp1 hp2
        rw [hg, hv]
        have P := fun w => put_any (val l) (m : Int) w hu
        rw [hp1, hp2] at P
        clear hg hv hl1 hl8 hp1 hp2
        generalize val l = q at *
        go_wp2_with fail
        refine (P _).mono ?_
        rintro e w3 ⟨a3, cap3, rfl, f3⟩
        have b3 := below_then b1 f3.below
        have x3 := hb1.keep f3.below
        go_wp2_with fail
        refine (same_any f3.bytes x3).mono ?_
        rintro e w4 ⟨rfl, rfl⟩
        go_wp2
        go_ret
        exact ⟨by simp, b3⟩
      · rw [hg, hv]
        clear hg hv
        go_wp2
        go_ret
        exact ⟨by simp, b1⟩
    · have he1 : (e1 == 0) = false := by rw [beq_eq_false_iff_ne]; exact he
      clear hgp hz he
      go_wp2_with fail
      refine (get_any hb1).mono ?_
      rintro e w2 ⟨rfl, rfl⟩
      rcases getE_cases l with ⟨hg, hl1, hl8, hv⟩ | ⟨hg, hv⟩
      · have hu := val_u64 hl8
        obtain ⟨hp1, hp2⟩ := put_get hl1 hl8
        rw [HL.out] at hp1 hp2
        rw [hg, hv]
        have P := fun w => put_any (val l) (m : Int) w hu
        rw [hp1, hp2] at P
        clear hg hv hl1 hl8 hp1 hp2
        generalize val l = q at *
        go_wp2_with fail
        refine (P _).mono ?_
        rintro e w3 ⟨a3, cap3, rfl, f3⟩
        have b3 := below_then b1 f3.below
        have x3 := hb1.keep f3.below
        go_wp2_with fail
        refine (same_any f3.bytes x3).mono ?_
        rintro e w4 ⟨rfl, rfl⟩
        go_wp2
        go_ret
        exact ⟨by simp, b3⟩
      · rw [hg, hv]
        clear hg hv
        go_wp2
        go_ret
        exact ⟨by simp, b1⟩
end Go.Proofs.Ytmkfpfnjimmmaaa
