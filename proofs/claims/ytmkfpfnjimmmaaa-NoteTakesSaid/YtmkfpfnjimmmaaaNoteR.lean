/- note.Put whole; the chapter's example. -/
import Derived.Test.YtmkfpfnjimmmaaaNoteQ
namespace Go.Proofs.Ytmkfpfnjimmmaaa
open Go.RowKit

set_option maxRecDepth 100000 in
set_option maxHeartbeats 400000 in
theorem nput_no {kind hop : Int} {back : Bool} {pa : Option Addr} {pn pc : Nat} {pp : List (List UInt8)} {w : World} (hp : Parts w pa pn pc pp) (hE : noteE kind hop back pp ≠ 0) :
    Calls Try.prog 36 #[.agg #[.int .i64 kind, .slice pa pn pc, .int .i64 hop, .bool back]] w fun e w' => e = .returned (.tuple #[.slice none 0 0, .int .i64 (noteE kind hop back pp)]) ∧ Below w.heap.size w w' := by
  have b0 := (Below.refl w.heap.size w).alloc (Nat.le_refl _) (.cells #[.int .i64 kind, .slice pa pn pc, .int .i64 hop, .bool back] 39)
  have hck := @ncheck_any kind hop back pa pn pc pp _ (hp.keep b0)
  have hne : (noteE kind hop back pp != 0) = true := by rw [bne_iff_ne]; exact hE
  clear hp hE
  generalize noteE kind hop back pp = E at *
  go_enter Try.func36, Try.ntmps36
  go_wp2_with fail
  refine hck.mono ?_
  rintro e w1 ⟨rfl, hb1⟩
  have hb := below_then b0 hb1
  clear hck b0 hb1
  go_wp2
  go_ret2
  exact ⟨rfl, hb⟩

/-- A note's bytes, or none. -/
def noteR (kind hop : Int) (back : Bool) (pp : List (List UInt8)) : List UInt8 := if noteE kind hop back pp = 0 then noteL kind hop back pp else []

theorem nput_any {kind hop : Int} {back : Bool} {pa : Option Addr} {pn pc : Nat} {pp : List (List UInt8)} {w : World} (hp : Parts w pa pn pc pp) :
    Calls Try.prog 36 #[.agg #[.int .i64 kind, .slice pa pn pc, .int .i64 hop, .bool back]] w (RetBE 5 w (noteR kind hop back pp) (noteE kind hop back pp)) := by
  by_cases hE : noteE kind hop back pp = 0
  · refine (nput_yes hp hE).mono ?_
    rintro e w' ⟨a, cap, n, rfl, hF⟩
    rw [noteR, if_pos hE, hE]
    have hl := hF.bytes.len
    subst hl
    exact ⟨a, cap, rfl, hF⟩
  · refine (nput_no hp hE).mono ?_
    rintro e w' ⟨rfl, hb⟩
    rw [noteR, if_neg hE]
    exact ⟨none, 0, rfl, ⟨Bytes.nil _, World.ownsRow_nil _ _ _ _, hb⟩⟩

theorem nput_ex (w : World) : Calls Try.prog 36 #[.agg #[.int .i64 7, .slice none 0 0, .int .i64 2, .bool true]] w (RetBE 5 w [7, 0, 0, 2, 1] 0) := by
  have h := @nput_any 7 2 true none 0 0 [] w (Parts.nil w)
  have e1 : noteE 7 2 true [] = 0 := by
    unfold noteE
    rw [if_neg (by decide), if_neg (by decide), if_neg (by rintro ⟨l, hl, _⟩; cases hl)]
  have e2 : noteR 7 2 true [] = [7, 0, 0, 2, 1] := by rw [noteR, if_pos e1]; rfl
  rw [e1, e2] at h
  exact h

set_option maxRecDepth 100000 in
set_option maxHeartbeats 400000 in
theorem live06 (w : World) : Calls Try.prog 34 #[] w fun e w' => e = .returned (.bool true) ∧ Below w.heap.size w w' := by
  go_enter Try.func34, Try.ntmps34
  go_wp2_with fail
  refine (nput_ex _).mono ?_
  rintro e w1 ⟨a, cap, rfl, h1⟩
  go_wp2_with fail
  have y2 : Bytes (w1.alloc (.cells #[.int .u8 7, .int .u8 0, .int .u8 0, .int .u8 2, .int .u8 1] 5)) (some ⟨w1.heap.size, 0, none⟩) 5 5 [7, 0, 0, 2, 1] := bytes_lit _ [7, 0, 0, 2, 1] 5 5 rfl (by unfold maxLen; omega) rfl
  have hb := h1.below.alloc h1.below.size (.cells #[.int .u8 7, .int .u8 0, .int .u8 0, .int .u8 2, .int .u8 1] 5)
  refine (same_any (h1.bytes.keep ((Below.refl _ _).alloc (Nat.le_refl _) _)) y2).mono ?_
  rintro e w3 ⟨rfl, rfl⟩
  go_wp2
  go_ret
  exact ⟨rfl, hb⟩
end Go.Proofs.Ytmkfpfnjimmmaaa
