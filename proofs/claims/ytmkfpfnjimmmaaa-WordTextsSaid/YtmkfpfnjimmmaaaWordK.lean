/- The laws of package word: the walks of WordTexts, WordFilled. -/
import Derived.Test.YtmkfpfnjimmmaaaWordM
namespace Go.Proofs.Ytmkfpfnjimmmaaa
open Go.RowKit

set_option maxRecDepth 100000 in
set_option maxHeartbeats 800000 in
theorem wordTexts_in {wide : Int} {w : World} {a a' : Option Addr} {m cap m' cap' : Nat} {t l : List UInt8} (hb : Bytes w a m cap t) (hb' : Bytes w a' m' cap' l) (h4 : m ≤ 400) (h4' : m' ≤ 400) :
    Calls Try.prog 7 #[.slice a m cap, .int .i64 wide, .slice a' m' cap'] w fun e w' => e = .returned (.bool true) ∧ Below w.heap.size w w' := by
  obtain ⟨i0, hi, hz0, hz1, hz2⟩ := info_parts info_u8
  go_enter Try.func7, Try.ntmps7
  go_wp2_with fail
  refine (live03 _).mono ?_
  rintro e w0 ⟨rfl, b0⟩
  have k0 := hb.keep b0
  have k0' := hb'.keep b0
  go_wp2_with (at_builtin; refine wpList_append_row rfl (.const (.slice none 0 0)) (.tmp 28) 24 rfl w0.heap.size 5 i0 (.int .u8 0) 1 1 Try.underlying24 hi hz0 hz1 hz2 rfl (by decide) _ _ _ _ rfl (World.ownsRow_nil _ _ _ _) _ _ _ _ rfl k0'.cells (oneCell_bytes _) (by unfold maxLen; omega) (by omega) w0 (Below.refl _ _) (Nat.le_refl _) ?_)
  intro a1 cap1 w1 ho1 hb1
  obtain ⟨_, _, hv, f1⟩ := FreshB.of ho1 hb1
  cases hv
  have b1 := below_then b0 f1.below
  have k1 := k0.keep f1.below
  have k1' := k0'.keep f1.below
  have y1 := f1.bytes
  clear ho1 hb1 f1 k0 k0' b0 hb hb'
  go_wp2_with fail
  refine (fill_any wide k1).mono ?_
  rintro e w2 ⟨a2, cap2, rfl, f2⟩
  have b2 := below_then b1 f2.below
  have k2 := k1.keep f2.below
  have k2' := k1'.keep f2.below
  have y2 := y1.keep f2.below
  go_wp2_with fail
  refine (rfill_any wide k2).mono ?_
  rintro e w3 ⟨a3, cap3, rfl, f3⟩
  have b3 := below_then b2 f3.below
  have k3' := k2'.keep f3.below
  have y3 := y2.keep f3.below
  have x3 := f2.bytes.keep f3.below
  have z3 := f3.bytes
  clear f2 f3 k1 k1' k2 k2' y1 y2 b1 b2
  generalize fillR t wide = L1 at *
  generalize fillE t wide = E1 at *
  go_wp2_with fail
  refine (unfill_any k3').mono ?_
  rintro e w4 ⟨a4, cap4, rfl, f4⟩
  go_wp2_with fail
  refine (runfill_any (k3'.keep f4.below)).mono ?_
  rintro e w5 ⟨a5, cap5, rfl, f5⟩
  have b35 := below_then f4.below f5.below
  have o5 := owns_keep f4.owns f5.below
  have x5 := x3.keep b35
  have z5 := z3.keep b35
  have u5 := f4.bytes.keep f5.below
  have v5 := f5.bytes
  clear f4 f5 x3 z3
  have hm5 : (unfillR l).length ≤ 400 := by have := length_unfillR l; have := k3'.len; omega
  generalize unfillR l = L2 at *
  generalize unfillE l = E2 at *
  go_wp2_with fail
  refine (same_any x5 z5).mono ?_
  rintro e w6 ⟨rfl, rfl⟩
  go_wp2_with fail
  refine (same_any u5 v5).mono ?_
  rintro e w6 ⟨rfl, rfl⟩
  have e1 : (L1 == L1) = true := by simp
  have e2 : (L2 == L2) = true := by simp
  clear x5 z5 u5 v5
  go_wp2
  go_loopw [72] (fun i wr => ∃ k ys, k ≤ L2.length ∧ i = .int .i64 (k : Nat) ∧ Hid (wr.ownsRow w3.heap.size 5 1 (.slice a4 L2.length cap4) L2.length ys) ∧ Hid (∀ y ∈ ys, ∃ u : UInt8, y = B u) ∧ Below w3.heap.size w3 wr) (fun i _ => L2.length - (intOf i).toNat)
  case atStart => exact ⟨0, _, Nat.zero_le _, rfl, o5, fun y hy => by obtain ⟨u, _, rfl⟩ := List.mem_map.1 hy; exact ⟨u, rfl⟩, b35⟩
  case round =>
    obtain ⟨k, ys, hk, rfl, ho, hys, hbr⟩ := hrel
    by_cases hlt : k < L2.length
    · obtain ⟨g, rfl, hg⟩ := owns_shape ho.out (by omega)
      have hyl : ys.length = L2.length := by have := ho.out.1; omega
      obtain ⟨u, hu⟩ := hys.out (ys[k]'(by omega)) (List.getElem_mem _)
      have hc : wr.cell? ⟨g, k, none⟩ = some (.int .u8 (u.toNat : Int)) := by
        rw [ho.out.cellAt k (by omega), List.getElem?_eq_getElem (by omega), hu]; rfl
      have hf := ho.out.frozenAt k
      have hul := u.toNat_lt
      have hu0 : (0 : Int) ≤ u.toNat := by omega
      have HU : Hid (∀ y ∈ ys.set k (B (UInt8.ofNat (u.toNat + 1))), ∃ u : UInt8, y = B u) := by
        intro y hy
        rcases List.mem_or_eq_of_mem_set hy with h | h
        · exact hys.out y h
        · exact ⟨_, h⟩
      clear hu hyl
      go_wp2
      refine ⟨⟨k + 1, ys.set k (B (UInt8.ofNat (u.toNat + 1))), by omega, by go_num, ?_, HU, hbr.setCell hg _⟩, by simp [intOf]; omega⟩
      have e3 : Value.int IntKind.u8 (((u.toNat : Int) + 1) % 256) = B (UInt8.ofNat (u.toNat + 1)) := by
        rw [B, ofNat_toNat_int]; rfl
      rw [e3]
      exact (ho.out.stored _ _).1
    · go_wp2_with fail
      refine (same_any (k3'.keep hbr) (y3.keep hbr)).mono ?_
      rintro e w6 ⟨rfl, rfl⟩
      go_wp2
      go_ret
      exact ⟨by simp, below_then b3 hbr⟩

set_option maxRecDepth 100000 in
set_option maxHeartbeats 400000 in
theorem wordTexts_walk {wide : Int} {w : World} {a a' : Option Addr} {m cap m' cap' : Nat} {t l : List UInt8} (hb : Bytes w a m cap t) (_ : (Lit.int .i64 wide).wf = true) (hb' : Bytes w a' m' cap' l) :
    Calls Try.prog 7 #[.slice a m cap, .int .i64 wide, .slice a' m' cap'] w fun e w' => e = .returned (.bool true) ∧ Below w.heap.size w w' := by
  by_cases h : m ≤ 400
  · by_cases h' : m' ≤ 400
    · exact wordTexts_in hb hb' h h'
    · have hm := hb.le_i64
      have hm' := hb'.le_i64
      clear hb hb'
      go_enter Try.func7, Try.ntmps7
      go_wp2_with fail
      refine (live03 _).mono ?_
      rintro e w0 ⟨rfl, b0⟩
      go_wp2
      go_ret
      exact ⟨rfl, b0⟩
  · have hm := hb.le_i64
    have hm' := hb'.le_i64
    clear hb hb'
    go_enter Try.func7, Try.ntmps7
    go_wp2_with fail
    refine (live03 _).mono ?_
    rintro e w0 ⟨rfl, b0⟩
    go_wp2
    go_ret
    exact ⟨rfl, b0⟩

set_option maxRecDepth 100000 in
set_option maxHeartbeats 800000 in
theorem wordFilled_in {wide : Int} {w : World} {a a' : Option Addr} {m cap m' cap' : Nat} {t l : List UInt8} (hb : Bytes w a m cap t) (hb' : Bytes w a' m' cap' l) (h4 : m ≤ 400) (h4' : m' ≤ 400) :
    Calls Try.prog 8 #[.slice a m cap, .int .i64 wide, .slice a' m' cap'] w fun e w' => e = .returned (.bool true) ∧ Below w.heap.size w w' := by
  have hgp := @unfill_fill t wide
  have hz := @fillE_zero t wide
  have HL := Lib.hid hb'.len
  go_enter Try.func8, Try.ntmps8
  go_wp2_with fail
  refine (live03 _).mono ?_
  rintro e w0 ⟨rfl, b0⟩
  go_wp2_with fail
  refine (fill_any wide (hb.keep b0)).mono ?_
  rintro e w1 ⟨a1, cap1, rfl, f1⟩
  have b1 := below_then b0 f1.below
  have x1 := f1.bytes
  have t1 := hb.keep b1
  have l1 := hb'.keep b1
  clear f1 b0 hb hb'
  generalize fillR t wide = L at *
  generalize fillE t wide = E at *
  by_cases he : E = 0
  · subst he
    obtain ⟨hg1, hg2, hg3⟩ := hgp rfl
    obtain ⟨hw1, hw8, _⟩ := hz rfl
    have hg4 : ((L.length : Int) != wide + 1) = false := by rw [bne_eq_false_iff_eq]; exact hg3
    clear hgp hz hg3
    go_wp2_with fail
    refine (unfill_any x1).mono ?_
    rintro e w2 ⟨a2, cap2, rfl, f2⟩
    rw [hg1]
    rw [hg2] at f2 ⊢
    have b2 := below_then b1 f2.below
    have t2 := t1.keep f2.below
    have l2 := l1.keep f2.below
    have x2 := f2.bytes
    clear hg1 hg2 f2 b1 t1 l1 x1
    go_wp2_with fail
    refine (same_any x2 t2).mono ?_
    rintro e w3 ⟨rfl, rfl⟩
    have e2 : (t == t) = true := by simp
    go_wp2_with fail
    refine (unfill_any l2).mono ?_
    rintro e w4 ⟨a4, cap4, rfl, f4⟩
    have b4 := below_then b2 f4.below
    have l4 := l2.keep f4.below
    have u4 := f4.bytes
    have hfu := @fill_unfill l
    have hzz := @unfillR_of_ne l
    have hz2 := @unfillE_zero l
    clear f4
    generalize unfillR l = R at *
    generalize unfillE l = E4 at *
    by_cases he4 : E4 = 0
    · subst he4
      obtain ⟨hp1, hp2⟩ := hfu rfl
      have hl2 := (hz2 rfl).1
      rw [HL.out] at hp1 hp2 hl2
      have P := fun w (hx : Bytes w a4 R.length cap4 R) => fill_any ((m' : Int) - 1) hx
      rw [hp1, hp2] at P
      clear hfu hzz hz2 hp1 hp2
      go_wp2_with fail
      refine (P _ u4).mono ?_
      rintro e w5 ⟨a5, cap5, rfl, f5⟩
      have b5 := below_then b4 f5.below
      have l5 := l4.keep f5.below
      clear P
      go_wp2_with fail
      refine (same_any f5.bytes l5).mono ?_
      rintro e w6 ⟨rfl, rfl⟩
      go_wp2
      go_ret
      exact ⟨by simp, b5⟩
    · have he5 : (E4 != 0) = true := by rw [bne_iff_ne]; exact he4
      obtain rfl := hzz he4
      clear hfu hzz hz2 he4
      go_wp2
      go_ret
      exact ⟨by simp, b4⟩
  · have he1 : (E == 0) = false := by rw [beq_eq_false_iff_ne]; exact he
    clear hgp hz he
    go_wp2_with fail
    refine (unfill_any l1).mono ?_
    rintro e w4 ⟨a4, cap4, rfl, f4⟩
    have b4 := below_then b1 f4.below
    have l4 := l1.keep f4.below
    have u4 := f4.bytes
    have hfu := @fill_unfill l
    have hzz := @unfillR_of_ne l
    have hz2 := @unfillE_zero l
    clear f4
    generalize unfillR l = R at *
    generalize unfillE l = E4 at *
    by_cases he4 : E4 = 0
    · subst he4
      obtain ⟨hp1, hp2⟩ := hfu rfl
      have hl2 := (hz2 rfl).1
      rw [HL.out] at hp1 hp2 hl2
      have P := fun w (hx : Bytes w a4 R.length cap4 R) => fill_any ((m' : Int) - 1) hx
      rw [hp1, hp2] at P
      clear hfu hzz hz2 hp1 hp2
      go_wp2_with fail
      refine (P _ u4).mono ?_
      rintro e w5 ⟨a5, cap5, rfl, f5⟩
      have b5 := below_then b4 f5.below
      have l5 := l4.keep f5.below
      clear P
      go_wp2_with fail
      refine (same_any f5.bytes l5).mono ?_
      rintro e w6 ⟨rfl, rfl⟩
      go_wp2
      go_ret
      exact ⟨by simp, b5⟩
    · have he5 : (E4 != 0) = true := by rw [bne_iff_ne]; exact he4
      obtain rfl := hzz he4
      clear hfu hzz hz2 he4
      go_wp2
      go_ret
      exact ⟨by simp, b4⟩

set_option maxRecDepth 100000 in
set_option maxHeartbeats 400000 in
theorem wordFilled_walk {wide : Int} {w : World} {a a' : Option Addr} {m cap m' cap' : Nat} {t l : List UInt8} (hb : Bytes w a m cap t) (_ : (Lit.int .i64 wide).wf = true) (hb' : Bytes w a' m' cap' l) :
    Calls Try.prog 8 #[.slice a m cap, .int .i64 wide, .slice a' m' cap'] w fun e w' => e = .returned (.bool true) ∧ Below w.heap.size w w' := by
  by_cases h : m ≤ 400
  · by_cases h' : m' ≤ 400
    · exact wordFilled_in hb hb' h h'
    · have hm := hb.le_i64
      have hm' := hb'.le_i64
      clear hb hb'
      go_enter Try.func8, Try.ntmps8
      go_wp2_with fail
      refine (live03 _).mono ?_
      rintro e w0 ⟨rfl, b0⟩
      go_wp2
      go_ret
      exact ⟨rfl, b0⟩
  · have hm := hb.le_i64
    have hm' := hb'.le_i64
    clear hb hb'
    go_enter Try.func8, Try.ntmps8
    go_wp2_with fail
    refine (live03 _).mono ?_
    rintro e w0 ⟨rfl, b0⟩
    go_wp2
    go_ret
    exact ⟨rfl, b0⟩
end Go.Proofs.Ytmkfpfnjimmmaaa
