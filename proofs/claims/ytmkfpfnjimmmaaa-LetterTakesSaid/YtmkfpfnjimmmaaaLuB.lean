/- The walk of the reference of letter.Take. -/
import Derived.Test.YtmkfpfnjimmmaaaLuA
import Derived.Test.YtmkfpfnjimmmaaaLtF
import Derived.Test.YtmkfpfnjimmmaaaWordG
import Derived.Deep.RegionHeld3
import Derived.Deep.DrawnRows
namespace Go.Proofs.Ytmkfpfnjimmmaaa
open Go.RowKit
attribute [local go_sem ↓] Go.wp_at_zero Go.wp_at_succ

/-- What the reference tells. -/
def TookR (w : World) (q : Option LetD) (e : Ending) (w' : World) : Prop :=
  match q with
  | none => e = .returned (.tuple #[.agg #[.bool false, .int .i64 0, .int .i64 0, .int .u64 0, .slice none 0 0], .int .i64 3]) ∧ Below w.heap.size w w'
  | some x => ∃ a n cap, e = .returned (.tuple #[.agg #[.bool x.cover, .int .i64 x.frm, .int .i64 x.dst, .int .u64 x.seq, .slice a n cap], .int .i64 0]) ∧ Bytes w' a n cap x.text ∧ Below w.heap.size w w'

theorem tookR_none {w : World} {q : Option LetD} (h : q = none) {e : Ending} {w' : World} (h' : e = .returned (.tuple #[.agg #[.bool false, .int .i64 0, .int .i64 0, .int .u64 0, .slice none 0 0], .int .i64 3]) ∧ Below w.heap.size w w') : TookR w q e w' := by
  subst h; exact h'

theorem takeLet_cover {l : List UInt8} (hl : l.length = 78) (h1 : (l.headD 0).toNat ≠ 1) : takeLet l = if (List.replicate 78 0 == l) = true then some ⟨true, 0, 0, 0, []⟩ else none := by
  rw [takeLet, if_pos hl]
  by_cases hz : l.all (· == 0) = true
  · have e := all_zero_eq hz
    rw [hl] at e
    rw [if_pos hz, if_pos (by rw [beq_iff_eq]; exact e.symm)]
  · rw [if_neg hz, if_neg h1, if_neg]
    rw [beq_iff_eq]
    rintro rfl
    exact hz (by decide)

theorem takeLet_one {l : List UInt8} {V1 V2 V3 : Nat} {E : Int} {T : List UInt8} (hl : l.length = 78) (h1 : (l.headD 0).toNat = 1) (hV1 : V1 = val ((l.drop 1).take 2)) (hV2 : V2 = val ((l.drop 3).take 2)) (hV3 : V3 = val ((l.drop 5).take 8)) (hE : E = unfillE (l.drop 13)) (hT : T = unfillR (l.drop 13)) :
    takeLet l = if E = 0 then mayL ⟨false, (V1 : Nat), (V2 : Nat), V3, T⟩ else none := by
  subst hV1 hV2 hV3 hE hT
  rw [takeLet, if_pos hl, if_neg, if_pos h1]
  intro hz
  cases l with
  | nil => cases hl
  | cons u t =>
    have := List.all_eq_true.1 hz u (List.mem_cons_self ..)
    rw [beq_iff_eq] at this
    subst this
    cases h1

theorem val_two {l : List UInt8} {k : Nat} {x y : UInt8} (hx : l[k]? = some x) (hy : l[k + 1]? = some y) : val ((l.drop k).take 2) = x.toNat * 256 + y.toNat := by
  have h : (l.drop k).take 2 = [x, y] := by
    rw [show (2 : Nat) = 1 + 1 from rfl, List.take_add_one, List.take_one, List.head?_drop, hx, List.getElem?_drop, hy]
    rfl
  rw [h]
  simp [val]

set_option maxRecDepth 100000 in
set_option maxHeartbeats 800000 in
theorem rltake_len {a : Option Addr} {n cap : Nat} (w : World) (h : n ≠ 78) : Calls Try.prog 67 #[.slice a n cap] w (TookR w none) := by
  have hne : ((n : Int) != 78) = true := by rw [bne_iff_ne]; omega
  go_enter Try.func67, Try.ntmps67
  go_wp2
  refine bodyPost_ret (v := .tuple #[.agg #[.bool false, .int .i64 0, .int .i64 0, .int .u64 0, .slice none 0 0], .int .i64 3]) (by simp [results, Try.results67, go_sem]) rfl ⟨rfl, ?_⟩
  exact (Below.refl _ _).alloc (Nat.le_refl _) _

set_option maxRecDepth 100000 in
set_option maxHeartbeats 3200000 in
theorem rltake_not {a : Option Addr} {cap : Nat} {l : List UInt8} {w : World} (h : Bytes w a 78 cap l) (h1 : (l.headD 0).toNat ≠ 1) : Calls Try.prog 67 #[.slice a 78 cap] w (TookR w (takeLet l)) := by
  have hl := h.len
  obtain ⟨b, off, rfl, hcc⟩ := h.at (by intro e; rw [e] at hl; cases hl)
  have hc0 : w.cell? ⟨b, off, none⟩ = some (.int .u8 ((l.headD 0).toNat : Int)) := by
    have := hcc 0 (by omega)
    rw [show l.headD 0 = l[0]'(by omega) by cases l with | nil => cases hl | cons u t => rfl]
    exact this
  have hcap := h.le
  have hu : (((l.headD 0).toNat : Int) == 1) = false := by rw [beq_eq_false_iff_ne]; omega
  rw [takeLet_cover hl h1]
  obtain ⟨W1, hW1⟩ : ∃ W1, W1 = w.alloc (.cells #[.bool false, .int .i64 0, .int .i64 0, .int .u64 0, .slice none 0 0] 46) := ⟨_, rfl⟩
  obtain ⟨W2, hW2⟩ : ∃ W2, W2 = W1.alloc (.cells #[.bool true, .int .i64 0, .int .i64 0, .int .u64 0, .slice none 0 0] 46) := ⟨_, rfl⟩
  have hs1 : W1.heap.size = w.heap.size + 1 := by rw [hW1]; simp
  have b1 : Below w.heap.size w W1 := by rw [hW1]; exact (Below.refl w.heap.size w).alloc (Nat.le_refl _) _
  have b2 : Below w.heap.size w W2 := by rw [hW2]; exact b1.alloc b1.size _
  have N2 : CellsAt W2 w.heap.size [.bool false, .int .i64 0, .int .i64 0, .int .u64 0, .slice none 0 0] := by
    rw [hW2]; exact CellsAt.below (by rw [hW1]; exact CellsAt.new _ _ _ rfl) ((Below.refl _ _).alloc (Nat.le_refl _) _)
  have M2 : CellsAt W2 (w.heap.size + 1) [.bool true, .int .i64 0, .int .i64 0, .int .u64 0, .slice none 0 0] := by
    rw [hW2]; exact CellsAt.new _ _ _ hs1.symm
  have hW : W2 = (w.alloc (.cells #[.bool false, .int .i64 0, .int .i64 0, .int .u64 0, .slice none 0 0] 46)).alloc (.cells #[.bool true, .int .i64 0, .int .i64 0, .int .u64 0, .slice none 0 0] 46) := by rw [hW2, hW1]
  have HWW := Lib.hid hW
  have b2' := Lib.hid b2
  have y2 := Lib.hid (h.keep b2)
  have P := rlput_any (cover := true) (frm := 0) (dst := 0) (seq := 0) (Bytes.nil W2) (by decide)
  rw [show letE true 0 0 0 [] = 0 from rfl, show letR true 0 0 0 [] = List.replicate 78 0 by rw [letR, if_pos (show letE true 0 0 0 [] = 0 from rfl), letL, if_pos rfl]] at P
  have HP := Lib.hid P
  obtain ⟨Q, hQ⟩ : ∃ Q, Q = if (List.replicate 78 0 == l) = true then some (⟨true, 0, 0, 0, []⟩ : LetD) else none := ⟨_, rfl⟩
  have HQ := Lib.hid hQ
  rw [← hQ]
  have hc0' : ∀ o1 o2 : Obj, ((w.alloc o1).alloc o2).cell? ⟨b, off, none⟩ = some (.int .u8 ((l.headD 0).toNat : Int)) := fun o1 o2 => cell_underAt (cell_underAt hc0)
  clear hcc h hW hW1 hW2 P hQ b1 hs1 h1
  generalize ((l.headD 0).toNat : Int) = un at *
  go_enter Try.func67, Try.ntmps67
  go_wp2_with fail
  rw [← HWW.out]
  refine HP.out.mono ?_
  rintro e w3 ⟨a3, c3, rfl, h3⟩
  have S := same_any h3.bytes (y2.out.keep h3.below)
  have HS := Lib.hid S
  have N3 := N2.below h3.below
  have M3 := M2.below h3.below
  have B3 := Lib.hid (below_then b2'.out h3.below)
  obtain ⟨⟨d0, e0⟩, ⟨d1, e1⟩, ⟨d2, e2⟩, ⟨d3, e3⟩, ⟨d4, e4⟩⟩ := (⟨N3 0 _ rfl, N3 1 _ rfl, N3 2 _ rfl, N3 3 _ rfl, N3 4 _ rfl⟩ : _ ∧ _ ∧ _ ∧ _ ∧ _)
  obtain ⟨⟨k0, f0⟩, ⟨k1, f1⟩, ⟨k2, f2⟩, ⟨k3, f3⟩, ⟨k4, f4⟩⟩ := (⟨M3 0 _ rfl, M3 1 _ rfl, M3 2 _ rfl, M3 3 _ rfl, M3 4 _ rfl⟩ : _ ∧ _ ∧ _ ∧ _ ∧ _)
  clear S h3 HP N2 M2 N3 M3 hc0' hc0
  generalize (List.replicate 78 (0 : UInt8)) = RR at *
  cases hsm : (RR == l) with
  | true =>
    rw [hsm] at HS
    have HQ2 : Hid (Q = some (⟨true, 0, 0, 0, []⟩ : LetD)) := by show _ = _; rw [HQ.out, hsm, if_pos rfl]
    clear HQ hsm
    go_wp2_with fail
    refine HS.out.mono ?_
    rintro e w4 ⟨rfl, rfl⟩
    go_wp2
    refine bodyPost_ret (v := .tuple #[.agg #[.bool true, .int .i64 0, .int .i64 0, .int .u64 0, .slice none 0 0], .int .i64 0]) (by simp [results, Try.results67, go_sem, *]) rfl ?_
    rw [HQ2.out]
    exact ⟨none, 0, 0, rfl, Bytes.nil _, ((((B3.out.setCell (Nat.le_refl _) _).setCell (Nat.le_refl _) _).setCell (Nat.le_refl _) _).setCell (Nat.le_refl _) _).setCell (Nat.le_refl _) _⟩
  | false =>
    rw [hsm] at HS
    have HQ2 : Hid (Q = none) := by show _ = _; rw [HQ.out, hsm, if_neg (by decide)]
    clear HQ hsm
    go_wp2_with fail
    refine HS.out.mono ?_
    rintro e w4 ⟨rfl, rfl⟩
    go_wp2
    refine bodyPost_ret (v := .tuple #[.agg #[.bool false, .int .i64 0, .int .i64 0, .int .u64 0, .slice none 0 0], .int .i64 3]) (by simp [results, Try.results67, go_sem, *]) rfl ?_
    exact tookR_none HQ2.out ⟨rfl, ((((B3.out.setCell (Nat.le_refl _) _).setCell (Nat.le_refl _) _).setCell (Nat.le_refl _) _).setCell (Nat.le_refl _) _).setCell (Nat.le_refl _) _⟩
end Go.Proofs.Ytmkfpfnjimmmaaa
