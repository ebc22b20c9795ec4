/- Why letters are taken as they were put: plain Lean. -/
import Derived.Test.YtmkfpfnjimmmaaaLtB
namespace Go.Proofs.Ytmkfpfnjimmmaaa

def LetD.err (x : LetD) : Int := letE x.cover x.frm x.dst x.seq x.text
def LetD.bytes (x : LetD) : List UInt8 := letL x.cover x.frm x.dst x.seq x.text

theorem mayL_some {x y : LetD} (h : mayL x = some y) : y = x ∧ x.err = 0 := by
  unfold mayL at h
  by_cases h1 : letE x.cover x.frm x.dst x.seq x.text = 0
  · rw [if_pos h1] at h; exact ⟨(Option.some.inj h).symm, h1⟩
  · rw [if_neg h1] at h; cases h

theorem bytes_78 {x : LetD} (h : x.err = 0) : x.bytes.length = 78 := by
  obtain ⟨cover, frm, dst, seq, text⟩ := x
  cases cover with
  | true => simp [LetD.bytes, letL]
  | false => exact letL_len (letE_plain h).2.2.2

theorem plain_bytes {frm dst : Int} {seq : Nat} {text : List UInt8} : letL false frm dst seq text = 1 :: (putL frm.toNat 2 ++ (putL dst.toNat 2 ++ (putL seq 8 ++ fillL text 64))) := by rw [letL, if_neg (by decide)]; rfl

/-- A body that begins with a 1, by its pieces. -/
theorem takeLet_pieces {P1 P2 P3 F : List UInt8} (h1 : P1.length = 2) (h2 : P2.length = 2) (h3 : P3.length = 8) (hF : F.length = 65) :
    takeLet (1 :: (P1 ++ (P2 ++ (P3 ++ F)))) = if unfillE F = 0 then mayL ⟨false, (val P1 : Nat), (val P2 : Nat), val P3, unfillR F⟩ else none := by
  have hl : (1 :: (P1 ++ (P2 ++ (P3 ++ F))) : List UInt8).length = 78 := by simp [h1, h2, h3, hF]
  have d1 : (1 :: (P1 ++ (P2 ++ (P3 ++ F))) : List UInt8).drop 1 = P1 ++ (P2 ++ (P3 ++ F)) := rfl
  have d3 : (1 :: (P1 ++ (P2 ++ (P3 ++ F))) : List UInt8).drop 3 = P2 ++ (P3 ++ F) := by
    rw [show (3 : Nat) = 1 + 2 from rfl, ← List.drop_drop, d1, List.drop_left' h1]
  have d5 : (1 :: (P1 ++ (P2 ++ (P3 ++ F))) : List UInt8).drop 5 = P3 ++ F := by
    rw [show (5 : Nat) = 3 + 2 from rfl, ← List.drop_drop, d3, List.drop_left' h2]
  have d13 : (1 :: (P1 ++ (P2 ++ (P3 ++ F))) : List UInt8).drop 13 = F := by
    rw [show (13 : Nat) = 5 + 8 from rfl, ← List.drop_drop, d5, List.drop_left' h3]
  rw [takeLet, if_pos hl, if_neg (by simp), if_pos (by rfl), d1, d3, d5, d13, List.take_left' h1, List.take_left' h2, List.take_left' h3]

theorem takeLet_put {x : LetD} (h : x.err = 0) (hs : x.seq < 18446744073709551616) : takeLet x.bytes = some x := by
  obtain ⟨cover, frm, dst, seq, text⟩ := x
  cases cover with
  | true =>
    obtain ⟨rfl, rfl, rfl, rfl⟩ := letE_cover h
    unfold LetD.bytes
    rw [letL, if_pos rfl, takeLet, if_pos (by simp), if_pos (by simp)]
  | false =>
    obtain ⟨⟨f0, f8⟩, ⟨d0, d8⟩, _, h64⟩ := letE_plain h
    dsimp only at f0 f8 d0 d8 h64 hs
    unfold LetD.bytes
    dsimp only
    have hu := unfill_fill (fill_64 h64).2
    rw [(fill_64 h64).1] at hu
    rw [plain_bytes, takeLet_pieces (length_putL _ _) (length_putL _ _) (length_putL _ _) (length_fillL text 64 h64), if_pos hu.1, hu.2.1,
      val_putL 2 _ (by omega), val_putL 2 _ (by omega), val_putL 8 _ (by simpa using hs), Int.toNat_of_nonneg f0, Int.toNat_of_nonneg d0, mayL]
    exact if_pos h

theorem takeLet_inv {l : List UInt8} {x : LetD} (h : takeLet l = some x) : x.err = 0 ∧ x.bytes = l := by
  unfold takeLet at h
  by_cases hl : l.length = 78
  · rw [if_pos hl] at h
    by_cases hz : l.all (· == 0) = true
    · rw [if_pos hz] at h
      obtain rfl := Option.some.inj h
      have := all_zero_eq hz
      rw [hl] at this
      exact ⟨rfl, by unfold LetD.bytes; rw [letL, if_pos rfl, this]⟩
    · rw [if_neg hz] at h
      by_cases h1 : (l.headD 0).toNat = 1
      · rw [if_pos h1] at h
        by_cases hE : unfillE (l.drop 13) = 0
        · rw [if_pos hE] at h
          obtain ⟨rfl, he⟩ := mayL_some h
          refine ⟨he, ?_⟩
          obtain ⟨u, lt, rfl⟩ : ∃ u lt, l = u :: lt := by
            cases l with
            | nil => cases hl
            | cons u lt => exact ⟨u, lt, rfl⟩
          have hu : u = 1 := by rw [← UInt8.toNat_inj]; exact h1
          subst hu
          unfold LetD.bytes
          dsimp only
          have hf := fill_unfill hE
          have hlen : ((1 :: lt : List UInt8).drop 13).length = 65 := by rw [List.length_drop, hl]
          rw [hlen] at hf
          have hf2 : fillL (unfillR ((1 :: lt : List UInt8).drop 13)) 64 = (1 :: lt : List UInt8).drop 13 := by
            have h5 := hf.2
            rw [fillR_of_zero hf.1] at h5
            exact h5
          have q1 := putL_val (((1 :: lt : List UInt8).drop 1).take 2)
          have q2 := putL_val (((1 :: lt : List UInt8).drop 3).take 2)
          have q3 := putL_val (((1 :: lt : List UInt8).drop 5).take 8)
          rw [show (((1 :: lt : List UInt8).drop 1).take 2).length = 2 by rw [List.length_take, List.length_drop, hl]; rfl] at q1
          rw [show (((1 :: lt : List UInt8).drop 3).take 2).length = 2 by rw [List.length_take, List.length_drop, hl]; rfl] at q2
          rw [show (((1 :: lt : List UInt8).drop 5).take 8).length = 8 by rw [List.length_take, List.length_drop, hl]; rfl] at q3
          rw [plain_bytes, hf2, Int.toNat_natCast, Int.toNat_natCast, q1, q2, q3]
          rw [show (13 : Nat) = 5 + 8 from rfl, ← List.drop_drop, List.take_append_drop, show (5 : Nat) = 3 + 2 from rfl, ← List.drop_drop, List.take_append_drop, show (3 : Nat) = 1 + 2 from rfl, ← List.drop_drop, List.take_append_drop]
          rfl
        · rw [if_neg hE] at h; cases h
      · rw [if_neg h1] at h; cases h
  · rw [if_neg hl] at h; cases h

theorem takeLet_len {l : List UInt8} (h : l.length ≠ 78) : takeLet l = none := by rw [takeLet, if_neg h]

/-- A text that goes on behind its end is none. -/
theorem unfill_set {text : List UInt8} {k : Nat} (h64 : text.length ≤ 64) (hk : 1 + text.length ≤ k) (hk' : k < 65) : unfillE ((fillL text 64).set k 7) ≠ 0 := by
  intro h
  obtain ⟨_, _, h3, h4⟩ := unfillE_zero h
  obtain ⟨j, rfl⟩ : ∃ j, k = j + 1 := ⟨k - 1, by omega⟩
  have e : (fillL text 64).set (j + 1) 7 = UInt8.ofNat text.length :: ((text ++ List.replicate (64 - text.length) 0).set j 7) := rfl
  rw [e] at h4
  have hn : (UInt8.ofNat text.length).toNat = text.length := by rw [UInt8.toNat_ofNat']; exact Nat.mod_eq_of_lt (by omega)
  simp only [List.headD_cons, List.tail_cons, hn] at h4
  have h5 := List.all_eq_true.1 h4 7 (by
    refine List.mem_of_getElem? (i := j - text.length) ?_
    rw [List.getElem?_drop, show text.length + (j - text.length) = j by omega, List.getElem?_set_self (by simp; omega)])
  exact absurd h5 (by decide)

theorem takeLet_set {x : LetD} (h : x.err = 0) (hc : x.cover = false) {k : Nat} (hk : 14 + x.text.length ≤ k) (hk' : k < 78) : takeLet (x.bytes.set k 7) = none := by
  obtain ⟨cover, frm, dst, seq, text⟩ := x
  dsimp only at hc hk
  subst hc
  obtain ⟨_, _, _, h64⟩ := letE_plain h
  dsimp only at h64
  unfold LetD.bytes
  dsimp only
  obtain ⟨j, rfl⟩ : ∃ j, k = 1 + (2 + (2 + (8 + j))) := ⟨k - 13, by omega⟩
  have e : (letL false frm dst seq text).set (1 + (2 + (2 + (8 + j)))) 7 = 1 :: (putL frm.toNat 2 ++ (putL dst.toNat 2 ++ (putL seq 8 ++ (fillL text 64).set j 7))) := by
    rw [plain_bytes, Nat.add_comm 1, List.set_cons_succ, List.set_append_right _ _ (by rw [length_putL]; omega), length_putL, Nat.add_sub_cancel_left, List.set_append_right _ _ (by rw [length_putL]; omega), length_putL, Nat.add_sub_cancel_left,
      List.set_append_right _ _ (by rw [length_putL]; omega), length_putL, Nat.add_sub_cancel_left]
  rw [e, takeLet_pieces (length_putL _ _) (length_putL _ _) (length_putL _ _) (by rw [List.length_set]; exact length_fillL text 64 h64), if_neg (unfill_set h64 (by omega) (by omega))]
end Go.Proofs.Ytmkfpfnjimmmaaa
