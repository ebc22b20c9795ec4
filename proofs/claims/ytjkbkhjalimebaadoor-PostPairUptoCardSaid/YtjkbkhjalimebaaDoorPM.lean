/- What was put is taken: numbers, stamps, frames. Nothing of the dump stands here. -/
import Derived.Test.YtjkbkhjalimebaaDoorPK
namespace Go.Proofs.YtjkbkhjalimebaaDoor
open Go.RowKit DoorU
set_option linter.unusedVariables false
set_option linter.unusedSimpArgs false
set_option maxRecDepth 100000
namespace DoorU
theorem putI_succ (n : Int) (w : Nat) : putI n (w + 1) = putI (n / 256) w ++ [n % 256] := by
  unfold putI
  rw [List.range_succ, List.map_append, List.map_cons, List.map_nil]
  congr 1
  · apply List.map_congr_left
    intro j hj
    rw [List.mem_range] at hj
    have e : (256 : Int) ^ (w + 1 - 1 - j) = 256 * 256 ^ (w - 1 - j) := by
      rw [show w + 1 - 1 - j = (w - 1 - j) + 1 by omega, Int.pow_succ, Int.mul_comm]
    rw [e, Int.ediv_ediv_of_nonneg (by decide)]
  · rw [show w + 1 - 1 - w = 0 by omega, Int.pow_zero, Int.ediv_one]
theorem getI_putI : ∀ (w : Nat) (n : Int), 0 ≤ n → n < 256 ^ w → getI (putI n w) = n
  | 0, n, h0, h1 => by
    rw [Int.pow_zero] at h1
    have : n = 0 := by omega
    subst this
    rfl
  | w + 1, n, h0, h1 => by
    rw [Int.pow_succ] at h1
    rw [putI_succ, getI_snoc, getI_putI w (n / 256) (by omega) (Int.ediv_lt_of_lt_mul (by decide) h1)]
    omega
theorem putI_byt (n : Int) (w : Nat) : byt (putI n w) := fun x hx => by
  unfold putI at hx
  obtain ⟨j, _, rfl⟩ := List.mem_map.1 hx
  omega
theorem getR8 {n : Int} (h : okW n) : getR (putI n 8) = n := by
  have e : getE (putI n 8) = 0 := by unfold getE; rw [putI_len, if_neg (by decide), if_neg (by decide)]
  unfold getR
  rw [if_pos e, getI_putI 8 n h.1 h.2]
theorem getR4 {n : Int} (h0 : 0 ≤ n) (h : n < 4294967296) : getR (putI n 4) = n := by
  have e : getE (putI n 4) = 0 := by unfold getE; rw [putI_len, if_neg (by decide), if_neg (by decide)]
  unfold getR
  rw [if_pos e, getI_putI 4 n h0 h]
theorem w8_in {n : Int} (h0 : 0 ≤ n) (h : n < 256) : w8 n = n := by
  show IntKind.u8.wrap n = n
  rw [w8_of]
  omega
theorem okG_mem : ∀ {l p : List Int}, okG p l = true → ∀ x ∈ l, 1 ≤ x ∧ x ≤ 16
  | [], p, _, x, hx => by cases hx
  | n :: r, p, h, x, hx => by
    simp only [okG, Bool.and_eq_true, decide_eq_true_eq] at h
    rcases List.mem_cons.1 hx with rfl | hx
    · exact ⟨h.1, h.2.1⟩
    · exact okG_mem h.2.2.2 x hx
theorem map_w8 : ∀ {l : List Int}, (∀ x ∈ l, 1 ≤ x ∧ x ≤ 16) → l.map w8 = l
  | [], _ => rfl
  | x :: r, h => by
    have hx := h x (List.mem_cons_self ..)
    rw [List.map_cons, w8_in (by omega) (by omega), map_w8 (fun y hy => h y (List.mem_cons_of_mem _ hy))]
theorem okS_mem {s : Sta} (h : okS s = true) : ∀ x ∈ s.2.2.1, 1 ≤ x ∧ x ≤ 16 := by
  simp only [okS, Bool.and_eq_true, decide_eq_true_eq] at h
  exact okG_mem h.2.2
theorem parts {A B D : List Int} {c : Int} {m k : Nat} (hA : A.length = m) (hB : B.length = k) :
    (A ++ B ++ [c] ++ D).take m = A ∧ ((A ++ B ++ [c] ++ D).drop m).take k = B ∧ (A ++ B ++ [c] ++ D).getD (m + k) 0 = c ∧ (A ++ B ++ [c] ++ D).drop (m + k + 1) = D := by
  have e : A ++ B ++ [c] ++ D = A ++ (B ++ ([c] ++ D)) := by simp only [List.append_assoc]
  have e2 : A ++ (B ++ ([c] ++ D)) = (A ++ B) ++ ([c] ++ D) := by simp only [List.append_assoc]
  have e3 : A ++ (B ++ ([c] ++ D)) = (A ++ B ++ [c]) ++ D := by simp only [List.append_assoc]
  rw [e]
  refine ⟨List.take_left' hA, by rw [List.drop_left' hA, List.take_left' hB], ?_, ?_⟩
  · rw [e2, List.getD_eq_getElem?_getD, List.getElem?_append_right (by rw [List.length_append]; omega), show m + k - (A ++ B).length = 0 by rw [List.length_append]; omega]
    rfl
  · rw [e3, List.drop_left' (by rw [List.length_append, List.length_append, hA, hB]; rfl)]
theorem stTk_put {s : Sta} (hs : okSt s) (hk : okS s = true) (R : List Int) : stTkE (stL s ++ R) = 0 ∧ stTkS (stL s ++ R) = s ∧ stTkN (stL s ++ R) = 17 + (s.2.2.1.length : Nat) := by
  obtain ⟨e, r, ch, ⟨⟩⟩ := s
  have hl := okS_len hk
  have hm := map_w8 (okS_mem hk)
  dsimp only at hl hm
  have hL : stL (e, r, ch, ()) ++ R = putI e 8 ++ putI r 8 ++ [w8 ch.length] ++ (ch ++ R) := by
    show putI e 8 ++ putI r 8 ++ [w8 ch.length] ++ ch.map w8 ++ R = _
    rw [hm, List.append_assoc (putI e 8 ++ putI r 8 ++ [w8 ch.length])]
  obtain ⟨p1, p2, p3, p4⟩ := parts (A := putI e 8) (B := putI r 8) (c := w8 ch.length) (D := ch ++ R) (putI_len e 8) (putI_len r 8)
  rw [hL]
  have hlen : (putI e 8 ++ putI r 8 ++ [w8 ch.length] ++ (ch ++ R)).length = 17 + ch.length + R.length := by
    simp only [List.length_append, putI_len, List.length_cons, List.length_nil]
    omega
  generalize putI e 8 ++ putI r 8 ++ [w8 ch.length] ++ (ch ++ R) = l at p1 p2 p3 p4 hlen
  have hg : g16 l = (ch.length : Nat) := by
    show l.getD (8 + 8) 0 = _
    rw [p3, w8_in (by omega) (by omega)]
  have hA : stAt l = (e, r, ch, ()) := by
    unfold stAt g8 g9 g17
    rw [hg, p1, p2, p4, getR8 hs.1, getR8 hs.2, Int.toNat_natCast, List.take_left' rfl]
  have h0 : stTkE l = 0 := by
    unfold stTkE
    rw [if_neg (by omega), hg, if_neg (by omega), if_neg (by omega), hA, if_pos hk]
  exact ⟨h0, by rw [stTkS, if_pos h0, hA], by rw [stTkN, if_pos h0, hg]⟩
theorem frRd_hd {f : Fra} (hc : frChk f = 0) (hs : okSt f.2.2.1) : frRdE (frHd f) = true ∧ frRdF (frHd f) = f := by
  obtain ⟨c1, c2, c3, c4, c5, c6, c7, c8, c9⟩ := frChk_0 hc
  obtain ⟨a, b, s, kd, q, bd, ⟨⟩⟩ := f
  dsimp only at c1 c2 c3 c4 c5 c6 c7 c8 c9 hs
  have hk := stChk_0 c6
  have hbl : bd.length ≤ 65536 := by rcases c9 with h | h <;> omega
  have hkd : 0 ≤ kd ∧ kd < 256 := by rcases c9 with h | h <;> omega
  have hR : frHd (a, b, s, kd, q, bd, ()) = [w8 a, w8 b] ++ (stL s ++ ([w8 kd] ++ putI q 4 ++ putI bd.length 4 ++ bd)) := by
    unfold frHd
    simp only [List.append_assoc]
  obtain ⟨t1, t2, t3⟩ := stTk_put hs hk ([w8 kd] ++ putI q 4 ++ putI bd.length 4 ++ bd)
  have d2 : (frHd (a, b, s, kd, q, bd, ())).drop 2 = stL s ++ ([w8 kd] ++ putI q 4 ++ putI bd.length 4 ++ bd) := by rw [hR]; rfl
  have dR : frRest (frHd (a, b, s, kd, q, bd, ())) = [w8 kd] ++ putI q 4 ++ putI bd.length 4 ++ bd := by
    unfold frRest
    rw [d2, t3, show (2 + (17 + ((s.2.2.1.length : Nat) : Int))).toNat = 2 + (17 + s.2.2.1.length) by omega, ← List.drop_drop, d2, List.drop_left' (stL_len s)]
  have r1 : ([w8 kd] ++ putI q 4 ++ putI bd.length 4 ++ bd).getD 0 0 = kd := by
    rw [← w8_in hkd.1 hkd.2]
    conv => rhs; rw [w8_in hkd.1 hkd.2]
    show w8 (w8 kd) = kd
    rw [w8_in hkd.1 hkd.2, w8_in hkd.1 hkd.2]
  have r2 : (([w8 kd] ++ putI q 4 ++ putI bd.length 4 ++ bd).drop 1).take 4 = putI q 4 := by
    rw [show [w8 kd] ++ putI q 4 ++ putI bd.length 4 ++ bd = [w8 kd] ++ (putI q 4 ++ (putI bd.length 4 ++ bd)) by simp only [List.append_assoc], show List.drop 1 ([w8 kd] ++ (putI q 4 ++ (putI bd.length 4 ++ bd))) = putI q 4 ++ (putI bd.length 4 ++ bd) from rfl, List.take_left' (putI_len q 4)]
  have r3 : (([w8 kd] ++ putI q 4 ++ putI bd.length 4 ++ bd).drop 5).take 4 = putI bd.length 4 := by
    rw [show [w8 kd] ++ putI q 4 ++ putI bd.length 4 ++ bd = ([w8 kd] ++ putI q 4) ++ (putI bd.length 4 ++ bd) by simp only [List.append_assoc], List.drop_left' (by rw [List.length_append, putI_len]; rfl), List.take_left' (putI_len _ 4)]
  have r4 : ([w8 kd] ++ putI q 4 ++ putI bd.length 4 ++ bd).drop 9 = bd := List.drop_left' (by rw [List.length_append, List.length_append, putI_len, putI_len]; rfl)
  have rl : ([w8 kd] ++ putI q 4 ++ putI bd.length 4 ++ bd).length = 9 + bd.length := by
    simp only [List.length_append, putI_len, List.length_cons, List.length_nil]
  have g5 : getR (putI bd.length 4) = (bd.length : Nat) := getR4 (by omega) (by omega)
  have hE : frRdE (frHd (a, b, s, kd, q, bd, ())) = true := by
    unfold frRdE
    rw [d2, t1, dR, r3, r4, rl, g5, frHd_len]
    simp only [Bool.and_eq_true, decide_eq_true_eq, beq_iff_eq, true_and]
    exact ⟨by omega, by omega, trivial⟩
  refine ⟨hE, ?_⟩
  have a0 : (frHd (a, b, s, kd, q, bd, ())).getD 0 0 = a := by
    rw [hR]
    exact w8_in c1 (by omega)
  have a1 : (frHd (a, b, s, kd, q, bd, ())).getD 1 0 = b := by
    rw [hR]
    exact w8_in c3 (by omega)
  rw [frRdF, if_pos hE, frAt, d2, t2, dR, r1, r2, r4, getR4 c7 (by omega), a0, a1]
theorem frTk_put (k : List Int) {f : Fra} (hc : frChk f = 0) (hs : okSt f.2.2.1) : frTkE k (frPutF k f) = 0 ∧ frTkF k (frPutF k f) = f := by
  have e : frPutF k f = frHd f ++ tagF k (frHd f) := by rw [frPutF, if_pos hc]
  obtain ⟨h1, h2⟩ := frRd_hd hc hs
  have hl : (frPutF k f).length = (frHd f).length + 32 := by rw [e, List.length_append, tagF_len]
  have ht : (frPutF k f).take ((frPutF k f).length - 32) = frHd f := by
    rw [hl, Nat.add_sub_cancel, e, List.take_left' rfl]
  have hd : (frPutF k f).drop ((frPutF k f).length - 32) = tagF k (frHd f) := by
    rw [hl, Nat.add_sub_cancel, e, List.drop_left' rfl]
  have h0 : frTkE k (frPutF k f) = 0 := by
    unfold frTkE
    rw [ht, hd, h1, h2, if_neg (by omega), if_pos rfl, if_pos hc, if_pos rfl]
  exact ⟨h0, by rw [frTkF, if_pos h0, ht, h2]⟩
end DoorU
end Go.Proofs.YtjkbkhjalimebaaDoor
