/- The walks of Fill and Unfill. -/
import Derived.Test.YtmkfpfnjimmmaaaWordA
import Derived.BigQuiet
import Derived.Deep.QuietTactic
namespace Go.Proofs.Ytmkfpfnjimmmaaa
open Go.RowKit

set_option maxRecDepth 100000 in
set_option maxHeartbeats 400000 in
theorem fill_arg {a : Option Addr} {n cap : Nat} (wide : Int) (w : World) (h : wide < 1 ∨ 255 < wide) :
    Calls Try.prog 30 #[.slice a n cap, .int .i64 wide] w fun e w' => e = .returned (.tuple #[.slice none 0 0, .int .i64 1]) ∧ w = w' := by

  rcases h with h | h
  · go_enter Try.func30, Try.ntmps30
    go_wp2
    go_ret2
    exact ⟨rfl, rfl⟩
  · have h1 : 1 ≤ wide := by omega
    go_enter Try.func30, Try.ntmps30
    go_wp2
    go_ret2
    exact ⟨rfl, rfl⟩

set_option maxRecDepth 100000 in
set_option maxHeartbeats 400000 in
theorem fill_long {a : Option Addr} {n cap : Nat} (wide : Nat) (w : World) (h : 1 ≤ wide) (h' : wide ≤ 255) (hl : wide < n) :
    Calls Try.prog 30 #[.slice a n cap, .int .i64 wide] w fun e w' => e = .returned (.tuple #[.slice none 0 0, .int .i64 2]) ∧ w = w' := by
  go_enter Try.func30, Try.ntmps30
  go_wp2
  go_ret2
  exact ⟨rfl, rfl⟩

set_option maxRecDepth 100000 in
set_option maxHeartbeats 400000 in
theorem fill_fits {w : World} {a : Option Addr} {n cap : Nat} {l : List UInt8} (wide : Nat) (hb : Bytes w a n cap l) (h : 1 ≤ wide) (h' : wide ≤ 255) (hl : n ≤ wide) :
    Calls Try.prog 30 #[.slice a n cap, .int .i64 wide] w fun e w' => e = .returned (.tuple #[.slice (some ⟨w.heap.size, 0, none⟩) (1 + wide) (1 + wide), .int .i64 0]) ∧
      w'.ownsRow w.heap.size 5 1 (.slice (some ⟨w.heap.size, 0, none⟩) (1 + wide) (1 + wide)) (1 + wide) ((fillL l wide).map B) ∧ Below w.heap.size w w' := by
  obtain ⟨i0, hi, hz0, hz1, hz2⟩ := info_parts info_u8
  go_enter Try.func30, Try.ntmps30
  go_wp2_with (at_make; refine wpList_make_full _ rfl _ _ 24 rfl w.heap.size 5 i0 (.int .u8 0) 1 Try.underlying24 hi hz0 hz1 _ _ _ _ (1 + wide) rfl rfl (by omega) (by omega) (by rw [hz2]; omega) (by unfold maxLen; omega) (Nat.le_refl _) ?_)
  intro w1 hown hg
  have hc := hown.cellAt 0 (by omega)
  have hf := hown.frozenAt 0
  have hb1 : Below w.heap.size w w1 := (Below.refl _ _).grown hg (Nat.le_refl _) (fun k e => by cases e)
  rw [toList_madeCells_one] at hc hown
  have hc' : w1.cell? ⟨w.heap.size, 0, none⟩ = some (.int .u8 0) := by rw [hc, List.getElem?_replicate, if_pos (by omega)]
  clear hc
  have hst := (hown.stored 0 (.int .u8 (n : Int))).1
  have hbs := hb1.setCell (p := ⟨w.heap.size, 0, none⟩) (Nat.le_refl _) (.int .u8 (n : Int))
  have hbb := hb.keep hbs
  have hln := Lib.hid hb.len
  have HG := Lib.hid (owns_full hst).2
  have e1 : (List.replicate (1 + wide) (Value.int IntKind.u8 0)).set 0 (.int .u8 (n : Int)) = .int .u8 (n : Int) :: List.replicate wide (.int .u8 0) := by
    rw [Nat.add_comm 1 wide, List.replicate_succ, List.set_cons_zero]
  rw [e1] at HG
  clear hst e1 hown hb1
  have HF : Hid ((splice (Value.int .u8 (n : Int) :: List.replicate wide (.int .u8 0)) 1 (l.map B)) = (fillL l wide).map B) := by
    have h1 := hln.out
    show _ = _
    simp only [splice, fillL, List.length_map, List.take_succ_cons, List.take_zero, List.map_cons, List.map_append, List.map_replicate]
    rw [Nat.add_comm 1 l.length, List.drop_succ_cons, List.drop_replicate]
    have e2 : Value.int IntKind.u8 (n : Int) = B (UInt8.ofNat l.length) := by
      rw [B, ofNat_toNat_int, h1]
      congr 1
      omega
    rw [e2]
    simp [B]
  go_wp2_with (with_reducible refine wpList_copy_splice rfl (.tmp 26) (.tmp 27) 24 24 rfl 5 Try.underlying24 (by rw [hi]; simp [hz1]) _ _ _ _ _ _ rfl rfl w.heap.size 1 _ 5 HG.out (l.map B) (by rw [List.length_map, hln.out]; exact (Nat.min_eq_left hl).symm) (fun hp => ⟨rfl, ?_⟩) (by rw [List.length_map, hln.out]; simp; omega) (oneCell_bytes l) w.heap.size w hbs (Nat.le_refl _) ?_)
  · obtain ⟨b, off, rfl, hc⟩ := hbb.row.at (by intro e; rw [e] at hp; simp at hp)
    exact ⟨_, rfl, fun j v hv => by rw [Addr.add_lit]; exact hc j v hv⟩
  · intro w2 HG2 hb2
    go_wp2
    go_ret2
    refine ⟨rfl, ?_, hb2⟩
    have hg2 := HG2.out
    rw [HF.out] at hg2
    exact owns_of_full hg2 (Nat.le_refl _) (by unfold maxLen; omega) (by rw [List.length_map, length_fillL _ _ (by rw [hln.out]; exact hl)]; omega)

theorem fill_any {w : World} {a : Option Addr} {n cap : Nat} {l : List UInt8} (wide : Int) (hb : Bytes w a n cap l) :
    Calls Try.prog 30 #[.slice a n cap, .int .i64 wide] w (RetBE 5 w (fillR l wide) (fillE l wide)) := by
  by_cases h : wide < 1 ∨ 255 < wide
  · refine (fill_arg wide w h).mono ?_
    rintro e w' ⟨rfl, rfl⟩
    have he : fillE l wide = 1 := by rw [fillE, if_pos h]
    have hr : fillR l wide = [] := by rw [fillR, he]; rfl
    rw [he, hr]
    exact ⟨none, 0, rfl, FreshB.nil _ _⟩
  · obtain ⟨k, rfl⟩ := Int.eq_ofNat_of_zero_le (show 0 ≤ wide by omega)
    by_cases hl : k < n
    · have he : fillE l (k : Int) = 2 := by rw [fillE, if_neg h, if_pos (by rw [hb.len]; omega)]
      have hr : fillR l (k : Int) = [] := by rw [fillR, he]; rfl
      refine (fill_long k w (by omega) (by omega) hl).mono ?_
      rintro e w' ⟨rfl, rfl⟩
      rw [he, hr]
      exact ⟨none, 0, rfl, FreshB.nil _ _⟩
    · have he : fillE l (k : Int) = 0 := by rw [fillE, if_neg h, if_neg (by rw [hb.len]; omega)]
      have hr : fillR l (k : Int) = fillL l k := by rw [fillR, he, if_pos rfl, Int.toNat_natCast]
      refine (fill_fits k hb (by omega) (by omega) (by omega)).mono ?_
      rintro e w' ⟨rfl, ho, hbl⟩
      rw [he, hr]
      have hlen := length_fillL l k (by rw [hb.len]; omega)
      refine ⟨_, 1 + k, by rw [hlen], ?_⟩
      obtain ⟨a', cap', hv, hF⟩ := FreshB.of (e := 5) ho hbl
      cases hv
      rw [hlen]
      exact hF
end Go.Proofs.Ytmkfpfnjimmmaaa
