/- The walks of package letter: mayClient, Check, and cmp.Or of four errors. -/
import Derived.Test.YtmkfpfnjimmmaaaLetA
namespace Go.Proofs.Ytmkfpfnjimmmaaa
open Go.RowKit

def mayC (n : Int) : Bool := decide (0 ≤ n) && decide (n < 8)

set_option maxRecDepth 100000 in
set_option maxHeartbeats 400000 in
theorem mayClient_any (n : Int) (w : World) : Calls Try.prog 103 #[.int .i64 n] w fun e w' => e = .returned (.bool (mayC n)) ∧ w = w' := by
  have HE : Hid (mayC n = (decide (0 ≤ n) && decide (n < 8))) := rfl
  by_cases h1 : 0 ≤ n
  · by_cases h2 : n < 8
    · go_enter Try.func103, Try.ntmps103
      go_wp2
      go_ret
      exact ⟨ret_bool (by rw [HE.out]; simp [h1, h2]), rfl⟩
    · go_enter Try.func103, Try.ntmps103
      go_wp2
      go_ret
      exact ⟨ret_bool (by rw [HE.out]; simp [h1, h2]), rfl⟩
  · go_enter Try.func103, Try.ntmps103
    go_wp2
    go_ret
    exact ⟨ret_bool (by rw [HE.out, decide_eq_false (by omega), Bool.false_and]), rfl⟩

/-- May a letter be? -/
def letE (cover : Bool) (frm dst : Int) (seq : Nat) (text : List UInt8) : Int :=
  if cover = true then (if frm = 0 ∧ dst = 0 ∧ seq = 0 ∧ text.length = 0 then 0 else 1)
  else if mayC frm = false ∨ mayC dst = false ∨ seq = 0 then 1 else if 64 < text.length then 2 else 0

theorem bne_i {a b : Int} (h : a ≠ b) : (a != b) = true := by rw [bne_iff_ne]; exact h
theorem beq_i {a b : Int} (h : a ≠ b) : (a == b) = false := beq_eq_false_iff_ne.2 h

set_option maxRecDepth 100000 in
set_option maxHeartbeats 800000 in
theorem lcheck_cover {frm dst : Int} {seq : Nat} {a : Option Addr} {n cap : Nat} {text : List UInt8} (w : World) (hl : text.length = n) (hn : n ≤ 9223372036854775807) :
    Calls Try.prog 68 #[.agg #[.bool true, .int .i64 frm, .int .i64 dst, .int .u64 seq, .slice a n cap]] w fun e w' => e = .returned (.int .i64 (letE true frm dst seq text)) ∧ Below w.heap.size w w' := by
  have HE : Hid (letE true frm dst seq text = if frm = 0 ∧ dst = 0 ∧ seq = 0 ∧ text.length = 0 then 0 else 1) := by show _ = _; rw [letE, if_pos rfl]
  have hb := (Below.refl w.heap.size w).alloc (Nat.le_refl _) (.cells #[.bool true, .int .i64 frm, .int .i64 dst, .int .u64 seq, .slice a n cap] 46)
  have HL := Lib.hid hl
  clear hl
  by_cases h1 : frm = 0
  · subst h1
    by_cases h2 : dst = 0
    · subst h2
      by_cases h3 : seq = 0
      · subst h3
        by_cases h4 : n = 0
        · subst h4
          go_enter Try.func68, Try.ntmps68
          go_wp2
          go_ret
          exact ⟨ret_int (by rw [HE.out, if_pos (by simp [HL.out])]), hb⟩
        · have h4' : 0 < n := by omega
          go_enter Try.func68, Try.ntmps68
          go_wp2
          go_ret
          exact ⟨ret_int (by rw [HE.out, if_neg (by rw [HL.out]; exact fun h => h4 h.2.2.2)]), hb⟩
      · have h3' := bne_i (show ((seq : Int)) ≠ 0 by omega)
        go_enter Try.func68, Try.ntmps68
        go_wp2
        go_ret
        exact ⟨ret_int (by rw [HE.out, if_neg (fun h => h3 h.2.2.1)]), hb⟩
    · have h2' := bne_i h2
      go_enter Try.func68, Try.ntmps68
      go_wp2
      go_ret
      exact ⟨ret_int (by rw [HE.out, if_neg (fun h => h2 h.2.1)]), hb⟩
  · have h1' := bne_i h1
    go_enter Try.func68, Try.ntmps68
    go_wp2
    go_ret
    exact ⟨ret_int (by rw [HE.out, if_neg (fun h => h1 h.1)]), hb⟩

set_option maxRecDepth 100000 in
set_option maxHeartbeats 800000 in
theorem lcheck_plain {frm dst : Int} {seq : Nat} {a : Option Addr} {n cap : Nat} {text : List UInt8} (w : World) (hl : text.length = n) (hn : n ≤ 9223372036854775807) :
    Calls Try.prog 68 #[.agg #[.bool false, .int .i64 frm, .int .i64 dst, .int .u64 seq, .slice a n cap]] w fun e w' => e = .returned (.int .i64 (letE false frm dst seq text)) ∧ Below w.heap.size w w' := by
  have HE : Hid (letE false frm dst seq text = if mayC frm = false ∨ mayC dst = false ∨ seq = 0 then 1 else if 64 < text.length then 2 else 0) := by show _ = _; rw [letE, if_neg (by decide)]
  have hb := (Below.refl w.heap.size w).alloc (Nat.le_refl _) (.cells #[.bool false, .int .i64 frm, .int .i64 dst, .int .u64 seq, .slice a n cap] 46)
  have HL := Lib.hid hl
  have M1 := fun W => mayClient_any frm W
  have M2 := fun W => mayClient_any dst W
  have HM1 := Lib.hid M1
  have HM2 := Lib.hid M2
  clear hl M1 M2
  generalize mayC frm = c1 at *
  generalize mayC dst = c2 at *
  go_enter Try.func68, Try.ntmps68
  go_wp2_with fail
  refine (HM1.out _).mono ?_
  rintro e w1 ⟨rfl, rfl⟩
  cases c1 with
  | false =>
    go_wp2
    go_ret
    exact ⟨ret_int (by rw [HE.out, if_pos (by simp)]), hb⟩
  | true =>
  go_wp2_with fail
  refine (HM2.out _).mono ?_
  rintro e w1 ⟨rfl, rfl⟩
  cases c2 with
  | false =>
    go_wp2
    go_ret
    exact ⟨ret_int (by rw [HE.out, if_pos (by simp)]), hb⟩
  | true =>
  by_cases h3 : seq = 0
  · subst h3
    go_wp2
    go_ret
    exact ⟨ret_int (by rw [HE.out, if_pos (by simp)]), hb⟩
  · have h3' := beq_i (show ((seq : Int)) ≠ 0 by omega)
    have HN : Hid (¬ (true = false ∨ true = false ∨ seq = 0)) := by rintro (h | h | h); cases h; cases h; exact h3 h
    clear h3
    by_cases h4 : 64 < n
    · go_wp2
      go_ret
      exact ⟨ret_int (by rw [HE.out, if_neg HN.out, if_pos (by rw [HL.out]; exact h4)]), hb⟩
    · go_wp2
      go_ret
      exact ⟨ret_int (by rw [HE.out, if_neg HN.out, if_neg (by rw [HL.out]; exact h4)]), hb⟩

theorem lcheck_any {cover : Bool} {frm dst : Int} {seq : Nat} {a : Option Addr} {n cap : Nat} {text : List UInt8} {w : World} (hb : Bytes w a n cap text) :
    Calls Try.prog 68 #[.agg #[.bool cover, .int .i64 frm, .int .i64 dst, .int .u64 seq, .slice a n cap]] w fun e w' => e = .returned (.int .i64 (letE cover frm dst seq text)) ∧ Below w.heap.size w w' := by
  cases cover with
  | true => exact lcheck_cover w hb.len hb.le_i64.1
  | false => exact lcheck_plain w hb.len hb.le_i64.1

set_option maxRecDepth 100000 in
set_option maxHeartbeats 400000 in
/-- Four errors that are none. -/
theorem or_zero {w : World} {k : Nat} (h : ∀ i, i < 4 → w.cell? ⟨k, i, none⟩ = some (.int .i64 0)) :
    Calls Try.prog 76 #[.slice (some ⟨k, 0, none⟩) 4 4] w fun e w' => e = .returned (.int .i64 0) ∧ w = w' := by
  have HC := Lib.hid h
  clear h
  go_enter Try.func76, Try.ntmps76
  go_wp2
  go_loop [8] (fun i => ∃ j : Nat, j ≤ 4 ∧ i = .int .i64 j) (fun i => 4 - (intOf i).toNat)
  case atStart => exact ⟨0, by omega, rfl⟩
  case round =>
    obtain ⟨j, hj, rfl⟩ := hrel
    by_cases hlt : j < 4
    · have hc := HC.out j hlt
      go_wp2
      exact ⟨⟨j + 1, by omega, by go_num⟩, by simp [intOf]; omega⟩
    · go_wp2
      go_ret
      exact ⟨rfl, rfl⟩
end Go.Proofs.Ytmkfpfnjimmmaaa
