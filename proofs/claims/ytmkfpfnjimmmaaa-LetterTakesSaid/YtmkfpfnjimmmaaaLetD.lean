/- letter.Put whole, letter.Same, the chapter's example. -/
import Derived.Test.YtmkfpfnjimmmaaaLetC
import Derived.Test.YtmkfpfnjimmmaaaNoteT
import Derived.Test.YtmkfpfnjimmmaaaRep
namespace Go.Proofs.Ytmkfpfnjimmmaaa
open Go.RowKit

theorem map_rep0 (n : Nat) : (List.replicate n (0 : UInt8)).map B = List.replicate n (Value.int .u8 0) := by rw [List.map_replicate]; rfl

set_option maxRecDepth 100000 in
set_option maxHeartbeats 800000 in
theorem lput_cover {a : Option Addr} {n cap : Nat} {w : World} (hx : Bytes w a n cap []) :
    Calls Try.prog 43 #[.agg #[.bool true, .int .i64 0, .int .i64 0, .int .u64 0, .slice a n cap]] w fun e w' => ∃ a' c', e = .returned (.tuple #[.slice a' 78 c', .int .i64 0]) ∧ FreshB 5 w w' a' 78 c' (List.replicate 78 0) := by
  obtain ⟨i0, hi, hz0, hz1, hz2⟩ := info_parts info_u8
  obtain ⟨W0, hW0⟩ : ∃ W0, W0 = w.alloc (.cells #[.bool true, .int .i64 0, .int .i64 0, .int .u64 0, .slice a n cap] 46) := ⟨_, rfl⟩
  have b0 : Below w.heap.size w W0 := by rw [hW0]; exact (Below.refl w.heap.size w).alloc (Nat.le_refl _) _
  have c0 : W0.cell? ⟨w.heap.size, 0, none⟩ = some (.bool true) := by rw [hW0]; exact cell_lastAt _ _ _ rfl rfl
  have HC : Hid (∀ W, Below W0.heap.size W0 W → W.cell? ⟨w.heap.size, 0, none⟩ = some (.bool true)) := fun W hW => (hW.cell (World.block_lt_of_cell? _ _ c0)).trans c0
  have K := @lcheck_any true 0 0 0 a n cap [] _ (hx.keep b0)
  rw [show letE true 0 0 0 [] = 0 from rfl] at K
  have HK := Lib.hid K
  have HW0 := Lib.hid hW0
  clear hW0 K c0
  go_enter Try.func43, Try.ntmps43
  go_wp2_with fail
  rw [← HW0.out]
  refine HK.out.mono ?_
  rintro e w1 ⟨rfl, b1⟩
  have e0 := HC.out w1 b1
  have hs1 := below_then b0 b1
  go_wp2_with (at_make; refine wpList_make_full _ rfl _ _ 24 rfl w.heap.size 5 i0 (.int .u8 0) 1 Try.underlying24 hi hz0 hz1 _ _ _ _ 78 rfl rfl (by omega) (by omega) (by rw [hz2]; omega) (by unfold maxLen; omega) hs1.size ?_)
  intro w2 hown hg
  rw [toList_madeCells_one, ← map_rep0] at hown
  have hb2 : Below w.heap.size w w2 := hs1.grown hg hs1.size (fun k e => by cases e)
  have HO := Lib.hid hown
  have HB := Lib.hid hb2
  clear hown hg hb2
  go_wp2
  go_ret2
  obtain ⟨a', c', hv, hF⟩ := FreshB.of HO.out HB.out
  cases hv
  exact ⟨_, _, rfl, hF⟩

set_option maxRecDepth 100000 in
set_option maxHeartbeats 400000 in
theorem lput_no {cover : Bool} {frm dst : Int} {seq : Nat} {a : Option Addr} {n cap : Nat} {text : List UInt8} {w : World} (hx : Bytes w a n cap text) (hE : letE cover frm dst seq text ≠ 0) :
    Calls Try.prog 43 #[.agg #[.bool cover, .int .i64 frm, .int .i64 dst, .int .u64 seq, .slice a n cap]] w fun e w' => e = .returned (.tuple #[.slice none 0 0, .int .i64 (letE cover frm dst seq text)]) ∧ Below w.heap.size w w' := by
  have b0 := (Below.refl w.heap.size w).alloc (Nat.le_refl _) (.cells #[.bool cover, .int .i64 frm, .int .i64 dst, .int .u64 seq, .slice a n cap] 46)
  have K := @lcheck_any cover frm dst seq a n cap text _ (hx.keep b0)
  have hne : (letE cover frm dst seq text != 0) = true := by rw [bne_iff_ne]; exact hE
  clear hx hE
  generalize letE cover frm dst seq text = E at *
  go_enter Try.func43, Try.ntmps43
  go_wp2_with fail
  refine K.mono ?_
  rintro e w1 ⟨rfl, hb1⟩
  have hb := below_then b0 hb1
  clear K b0 hb1
  go_wp2
  go_ret2
  exact ⟨rfl, hb⟩

theorem lput_any {cover : Bool} {frm dst : Int} {seq : Nat} {a : Option Addr} {n cap : Nat} {text : List UInt8} {w : World} (hx : Bytes w a n cap text) (hs : seq < 18446744073709551616) :
    Calls Try.prog 43 #[.agg #[.bool cover, .int .i64 frm, .int .i64 dst, .int .u64 seq, .slice a n cap]] w (RetBE 5 w (letR cover frm dst seq text) (letE cover frm dst seq text)) := by
  by_cases hE : letE cover frm dst seq text = 0
  · rw [letR, if_pos hE, hE]
    cases cover with
    | false => exact lput_plain hx hs hE
    | true =>
      obtain ⟨rfl, rfl, rfl, rfl⟩ := letE_cover hE
      have e : letL true 0 0 0 [] = List.replicate 78 0 := by rw [letL, if_pos rfl]
      rw [e]
      refine (lput_cover hx).mono ?_
      rintro e w' ⟨a', c', rfl, hF⟩
      refine ⟨a', c', ?_, ?_⟩
      · rw [List.length_replicate]
      · rw [List.length_replicate]; exact hF
  · refine (lput_no hx hE).mono ?_
    rintro e w' ⟨rfl, hb⟩
    rw [letR, if_neg hE]
    exact ⟨none, 0, rfl, ⟨Bytes.nil _, World.ownsRow_nil _ _ _ _, hb⟩⟩

/-- Two letters are the same in all. -/
def sameL (cover : Bool) (frm dst : Int) (seq : Nat) (text : List UInt8) (cover' : Bool) (frm' dst' : Int) (seq' : Nat) (text' : List UInt8) : Bool :=
  cover == cover' && frm == frm' && dst == dst' && (seq : Int) == (seq' : Int) && text == text'

set_option maxRecDepth 100000 in
set_option maxHeartbeats 1600000 in
theorem lsame_any {cover : Bool} {frm dst : Int} {seq : Nat} {text : List UInt8} {cover' : Bool} {frm' dst' : Int} {seq' : Nat} {text' : List UInt8} {a a' : Option Addr} {n n' cap cap' : Nat} {w : World} (hx : Bytes w a n cap text) (hy : Bytes w a' n' cap' text') :
    Calls Try.prog 44 #[.agg #[.bool cover, .int .i64 frm, .int .i64 dst, .int .u64 seq, .slice a n cap], .agg #[.bool cover', .int .i64 frm', .int .i64 dst', .int .u64 seq', .slice a' n' cap']] w fun e w' => e = .returned (.bool (sameL cover frm dst seq text cover' frm' dst' seq' text')) ∧ Below w.heap.size w w' := by
  have b0 := (Below.refl w.heap.size w).alloc (Nat.le_refl _) (.cells #[.bool cover, .int .i64 frm, .int .i64 dst, .int .u64 seq, .slice a n cap] 46)
  have b1 := b0.alloc b0.size (.cells #[.bool cover', .int .i64 frm', .int .i64 dst', .int .u64 seq', .slice a' n' cap'] 46)
  have K := bequal_any (hx.keep b1) (hy.keep b1)
  have HR : Hid (sameL cover frm dst seq text cover' frm' dst' seq' text' = (cover == cover' && frm == frm' && dst == dst' && (seq : Int) == (seq' : Int) && text == text')) := rfl
  clear hx hy
  rw [HR.out]
  cases h1 : (cover == cover') with
  | false =>
    rw [Bool.false_and, Bool.false_and, Bool.false_and, Bool.false_and]
    go_enter Try.func44, Try.ntmps44
    go_wp2
    go_ret
    exact ⟨rfl, b1⟩
  | true =>
    rw [Bool.true_and]
    cases h2 : (frm == frm') with
    | false =>
      rw [Bool.false_and, Bool.false_and, Bool.false_and]
      go_enter Try.func44, Try.ntmps44
      go_wp2
      go_ret
      exact ⟨rfl, b1⟩
    | true =>
      rw [Bool.true_and]
      cases h3 : (dst == dst') with
      | false =>
        rw [Bool.false_and, Bool.false_and]
        go_enter Try.func44, Try.ntmps44
        go_wp2
        go_ret
        exact ⟨rfl, b1⟩
      | true =>
        rw [Bool.true_and]
        cases h4 : ((seq : Int) == (seq' : Int)) with
        | false =>
          have h4' : ¬ seq = seq' := by intro e; subst e; simp at h4
          rw [Bool.false_and]
          go_enter Try.func44, Try.ntmps44
          go_wp2
          go_ret
          exact ⟨rfl, b1⟩
        | true =>
          obtain rfl : seq = seq' := by have := beq_iff_eq.1 h4; omega
          rw [Bool.true_and]
          clear h4
          generalize (text == text') = r at *
          go_enter Try.func44, Try.ntmps44
          go_wp2_with fail
          refine K.mono ?_
          rintro e w1 ⟨rfl, rfl⟩
          go_wp2
          go_ret
          exact ⟨rfl, b1⟩

theorem let_ex : letE false 0 2 1 [104, 105] = 0 ∧ (letL false 0 2 1 [104, 105]).take 5 = [1, 0, 0, 0, 2] ∧ (letL false 0 2 1 [104, 105])[77]? = some 0 ∧ (letL false 0 2 1 [104, 105]).length = 78 := by decide

set_option maxRecDepth 100000 in
set_option maxHeartbeats 800000 in
theorem live10 (w : World) : Calls Try.prog 42 #[] w fun e w' => e = .returned (.bool true) ∧ Below w.heap.size w w' := by
  obtain ⟨x1, x2, x3, x4⟩ := let_ex
  have HL := Lib.hid x2
  have H77 := Lib.hid x3
  have K : Hid (∀ W, Bytes W (some ⟨w.heap.size, 0, none⟩) 2 2 [104, 105] → Calls Try.prog 43 #[.agg #[.bool false, .int .i64 0, .int .i64 2, .int .u64 1, .slice (some ⟨w.heap.size, 0, none⟩) 2 2]] W (RetBE 5 W (letL false 0 2 1 [104, 105]) 0)) := fun W hW => by
    have := @lput_any false 0 2 1 _ _ _ _ _ hW (by decide)
    rw [letR, if_pos x1, x1] at this
    exact this
  have H4 := Lib.hid x4
  clear x1 x2 x3 x4
  generalize letL false 0 2 1 [104, 105] = L at *
  have kc := fun (w : World) (C : Array Value) (n c : Nat) => Lib.run_convert_bytes_const (P := Try.prog) w 24 5 C n c Try.underlying24 Try.underlying5
  have y0 : Bytes (w.alloc (.cells #[.int .u8 104, .int .u8 105] 5 (2, 3))) (some ⟨w.heap.size, 0, none⟩) 2 2 [104, 105] := bytes_mark _ [104, 105] 5 2 2 3 rfl (by unfold maxLen; omega) rfl
  have b0 := (Below.refl w.heap.size w).alloc (Nat.le_refl _) (.cells #[.int .u8 104, .int .u8 105] 5 (2, 3))
  go_enter Try.func42, Try.ntmps42
  go_wp2_with fail
  refine (K.out _ y0).mono ?_
  rintro e w1 ⟨a1, cap1, rfl, h1⟩
  have hx := h1.bytes
  have hbl := below_then b0 h1.below
  rw [H4.out] at hx ⊢
  obtain ⟨b, off, rfl, hcc⟩ := hx.at (by intro e; have := H4.out; rw [e] at this; cases this)
  have hc77 : w1.cell? ⟨b, off + 77, none⟩ = some (.int .u8 0) := by
    have h77 := H77.out
    have hlt := (List.getElem?_eq_some_iff.1 h77).1
    rw [hcc 77 hlt, (List.getElem?_eq_some_iff.1 h77).2]
    rfl
  have hcap := hx.le
  have hmx := hx.le_i64
  have ht := hx.take (m := 5) (by decide)
  rw [HL.out] at ht
  clear hcc hx h1 y0 b0 kc
  have y2 : Bytes (w1.alloc (.cells #[.int .u8 1, .int .u8 0, .int .u8 0, .int .u8 0, .int .u8 2] 5)) (some ⟨w1.heap.size, 0, none⟩) 5 5 [1, 0, 0, 0, 2] := bytes_lit _ [1, 0, 0, 0, 2] 5 5 rfl (by unfold maxLen; omega) rfl
  have HT := Lib.hid (ht.keep ((Below.refl _ _).alloc (Nat.le_refl _) (.cells #[.int .u8 1, .int .u8 0, .int .u8 0, .int .u8 0, .int .u8 2] 5)))
  have HY := Lib.hid y2
  clear ht y2
  have hcap5 : 5 ≤ cap1 := by omega
  go_wp2_with fail
  refine (same_any HT.out HY.out).mono ?_
  rintro e w3 ⟨rfl, rfl⟩
  have hc78 := fun o : Obj => cell_underAt (o := o) hc77
  go_wp2
  go_ret
  exact ⟨rfl, hbl.alloc hbl.size _⟩
end Go.Proofs.Ytmkfpfnjimmmaaa
