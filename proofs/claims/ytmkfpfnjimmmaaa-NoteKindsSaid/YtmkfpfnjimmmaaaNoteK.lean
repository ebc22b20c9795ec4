/- The law NoteKinds: its walk, kind by kind. -/
import Derived.Test.YtmkfpfnjimmmaaaNoteL
namespace Go.Proofs.Ytmkfpfnjimmmaaa
open Go.RowKit

theorem noteE_short {kind hop : Int} {back : Bool} {pp : List (List UInt8)} (h : ∀ l ∈ pp, l.length ≤ 1024) :
    noteE kind hop back pp = if (spanOf kind).2.2 = false ∨ (pp.length : Int) < (spanOf kind).1 ∨ (spanOf kind).2.1 < pp.length then 1
      else if (kind = 7 ∧ (hop < 0 ∨ 7 < hop)) ∨ (kind ≠ 7 ∧ (hop ≠ 0 ∨ back = true)) then 1 else 0 := by
  unfold noteE
  congr 1
  congr 1
  exact if_neg (by rintro ⟨l, hl, h'⟩; have := h l hl; omega)

theorem one_short {l : List UInt8} (h : l.length ≤ 1024) : ∀ x ∈ [l], x.length ≤ 1024 := by
  intro x hx
  have : x = l := by simpa using hx
  rw [this]; exact h

theorem parts_lit (w : World) (a : Option Addr) (l : List UInt8) (c : Nat) (hb : Bytes w a l.length c l) :
    Parts (w.alloc (.cells #[.slice a l.length c] 24)) (some ⟨w.heap.size, 0, none⟩) 1 1 [l] := by
  refine ⟨rfl, Nat.le_refl _, by unfold maxLen; omega, fun h => (by cases h), fun i x hx => ?_⟩
  obtain rfl : i = 0 := by have := (List.getElem?_eq_some_iff.1 hx).1; simp at this; omega
  obtain rfl : l = x := by simpa using hx
  exact ⟨w.heap.size, 0, rfl, a, c, cell_lastAt _ _ _ rfl rfl, hb.keep ((Below.refl _ _).alloc (Nat.le_refl _) _)⟩


set_option maxRecDepth 100000 in
set_option maxHeartbeats 800000 in
theorem nkinds_1hop {hop : Int} {back : Bool} {w : World} {a : Option Addr} {cap : Nat} {l : List UInt8} (hb : Bytes w a l.length cap l) (hl : l.length ≤ 1024) (h0 : (hop == 0) = false) :
    Calls Try.prog 10 #[.int .i64 1, .int .i64 hop, .bool back, .slice a l.length cap] w fun e w' => e = .returned (.bool true) ∧ Below w.heap.size w w' := by
  have E1 : noteE 1 0 false [] = 0 := by
    rw [noteE_short (fun x hx => by cases hx)]
    refine (if_neg (by show ¬ (true = false ∨ (0 : Int) < 0 ∨ (0 : Int) < 0); decide)).trans ?_
    exact if_neg (by rintro (⟨h, _⟩ | ⟨_, h | h⟩); exact absurd h (by decide); exact h rfl; cases h)
  have E2 : noteE 1 0 false [l] = 1 := by
    rw [noteE_short (one_short hl)]
    exact if_pos (by show (true = false ∨ (1 : Int) < 0 ∨ (0 : Int) < 1); decide)
  have E3 : noteE 1 hop back [] = 1 := by
    rw [noteE_short (fun x hx => by cases hx)]
    refine (if_neg (by show ¬ (true = false ∨ (0 : Int) < 0 ∨ (0 : Int) < 0); decide)).trans ?_
    exact if_pos (.inr ⟨by decide, .inl (by simpa using h0)⟩)
  have K1 := fun W => @ncheck_any 1 0 false none 0 0 [] W (Parts.nil W)
  have K2 := fun W pa pn pc (h : Parts W pa pn pc [l]) => @ncheck_any 1 0 false pa pn pc [l] W h
  have K3 := fun W => @ncheck_any 1 hop back none 0 0 [] W (Parts.nil W)
  rw [E1] at K1
  simp only [E2] at K2
  rw [E3] at K3
  clear E1 E2 E3
  go_enter Try.func10, Try.ntmps10
  go_wp2_with fail
  refine (live06 _).mono ?_
  rintro e w0 ⟨rfl, b0⟩
  go_wp2_with fail
  refine (K1 w0).mono ?_
  rintro e w1 ⟨rfl, b1⟩
  have B1 := below_then b0 b1
  have hb1 := hb.keep B1
  go_wp2_with fail
  refine (K2 _ _ _ _ (parts_lit w1 _ _ _ hb1)).mono ?_
  rintro e w2 ⟨rfl, b2⟩
  have B2 := below_then (B1.alloc B1.size _) b2
  go_wp2_with fail
  refine (K3 w2).mono ?_
  rintro e w3 ⟨rfl, b3⟩
  have B3 := below_then B2 b3
  clear K1 K2 K3 hb hb1 b0 b1 b2 b3 B1 B2
  go_wp2
  go_ret
  exact ⟨by first | rfl | (simp; done) | (simp; omega), B3⟩


set_option maxRecDepth 100000 in
set_option maxHeartbeats 800000 in
theorem nkinds_1back {w : World} {a : Option Addr} {cap : Nat} {l : List UInt8} (hb : Bytes w a l.length cap l) (hl : l.length ≤ 1024) :
    Calls Try.prog 10 #[.int .i64 1, .int .i64 0, .bool true, .slice a l.length cap] w fun e w' => e = .returned (.bool true) ∧ Below w.heap.size w w' := by
  have E1 : noteE 1 0 false [] = 0 := by
    rw [noteE_short (fun x hx => by cases hx)]
    refine (if_neg (by show ¬ (true = false ∨ (0 : Int) < 0 ∨ (0 : Int) < 0); decide)).trans ?_
    exact if_neg (by rintro (⟨h, _⟩ | ⟨_, h | h⟩); exact absurd h (by decide); exact h rfl; cases h)
  have E2 : noteE 1 0 false [l] = 1 := by
    rw [noteE_short (one_short hl)]
    exact if_pos (by show (true = false ∨ (1 : Int) < 0 ∨ (0 : Int) < 1); decide)
  have E3 : noteE 1 0 true [] = 1 := by
    rw [noteE_short (fun x hx => by cases hx)]
    refine (if_neg (by show ¬ (true = false ∨ (0 : Int) < 0 ∨ (0 : Int) < 0); decide)).trans ?_
    exact if_pos (.inr ⟨by decide, .inr rfl⟩)
  have K1 := fun W => @ncheck_any 1 0 false none 0 0 [] W (Parts.nil W)
  have K2 := fun W pa pn pc (h : Parts W pa pn pc [l]) => @ncheck_any 1 0 false pa pn pc [l] W h
  have K3 := fun W => @ncheck_any 1 0 true none 0 0 [] W (Parts.nil W)
  rw [E1] at K1
  simp only [E2] at K2
  rw [E3] at K3
  clear E1 E2 E3
  go_enter Try.func10, Try.ntmps10
  go_wp2_with fail
  refine (live06 _).mono ?_
  rintro e w0 ⟨rfl, b0⟩
  go_wp2_with fail
  refine (K1 w0).mono ?_
  rintro e w1 ⟨rfl, b1⟩
  have B1 := below_then b0 b1
  have hb1 := hb.keep B1
  go_wp2_with fail
  refine (K2 _ _ _ _ (parts_lit w1 _ _ _ hb1)).mono ?_
  rintro e w2 ⟨rfl, b2⟩
  have B2 := below_then (B1.alloc B1.size _) b2
  go_wp2_with fail
  refine (K3 w2).mono ?_
  rintro e w3 ⟨rfl, b3⟩
  have B3 := below_then B2 b3
  clear K1 K2 K3 hb hb1 b0 b1 b2 b3 B1 B2
  go_wp2
  go_ret
  exact ⟨by first | rfl | (simp; done) | (simp; omega), B3⟩


set_option maxRecDepth 100000 in
set_option maxHeartbeats 800000 in
theorem nkinds_1ok {w : World} {a : Option Addr} {cap : Nat} {l : List UInt8} (hb : Bytes w a l.length cap l) (hl : l.length ≤ 1024) :
    Calls Try.prog 10 #[.int .i64 1, .int .i64 0, .bool false, .slice a l.length cap] w fun e w' => e = .returned (.bool true) ∧ Below w.heap.size w w' := by
  have E1 : noteE 1 0 false [] = 0 := by
    rw [noteE_short (fun x hx => by cases hx)]
    refine (if_neg (by show ¬ (true = false ∨ (0 : Int) < 0 ∨ (0 : Int) < 0); decide)).trans ?_
    exact if_neg (by rintro (⟨h, _⟩ | ⟨_, h | h⟩); exact absurd h (by decide); exact h rfl; cases h)
  have E2 : noteE 1 0 false [l] = 1 := by
    rw [noteE_short (one_short hl)]
    exact if_pos (by show (true = false ∨ (1 : Int) < 0 ∨ (0 : Int) < 1); decide)
  have E3 : noteE 1 0 false [] = 0 := by
    rw [noteE_short (fun x hx => by cases hx)]
    refine (if_neg (by show ¬ (true = false ∨ (0 : Int) < 0 ∨ (0 : Int) < 0); decide)).trans ?_
    exact if_neg (by rintro (⟨h, _⟩ | ⟨_, h | h⟩); exact absurd h (by decide); exact h rfl; cases h)
  have K1 := fun W => @ncheck_any 1 0 false none 0 0 [] W (Parts.nil W)
  have K2 := fun W pa pn pc (h : Parts W pa pn pc [l]) => @ncheck_any 1 0 false pa pn pc [l] W h
  have K3 := fun W => @ncheck_any 1 0 false none 0 0 [] W (Parts.nil W)
  rw [E1] at K1
  simp only [E2] at K2
  rw [E3] at K3
  clear E1 E2 E3
  go_enter Try.func10, Try.ntmps10
  go_wp2_with fail
  refine (live06 _).mono ?_
  rintro e w0 ⟨rfl, b0⟩
  go_wp2_with fail
  refine (K1 w0).mono ?_
  rintro e w1 ⟨rfl, b1⟩
  have B1 := below_then b0 b1
  have hb1 := hb.keep B1
  go_wp2_with fail
  refine (K2 _ _ _ _ (parts_lit w1 _ _ _ hb1)).mono ?_
  rintro e w2 ⟨rfl, b2⟩
  have B2 := below_then (B1.alloc B1.size _) b2
  go_wp2_with fail
  refine (K3 w2).mono ?_
  rintro e w3 ⟨rfl, b3⟩
  have B3 := below_then B2 b3
  clear K1 K2 K3 hb hb1 b0 b1 b2 b3 B1 B2
  go_wp2
  go_ret
  exact ⟨by first | rfl | (simp; done) | (simp; omega), B3⟩


set_option maxRecDepth 100000 in
set_option maxHeartbeats 800000 in
theorem nkinds_2hop {hop : Int} {back : Bool} {w : World} {a : Option Addr} {cap : Nat} {l : List UInt8} (hb : Bytes w a l.length cap l) (hl : l.length ≤ 1024) (h0 : (hop == 0) = false) :
    Calls Try.prog 10 #[.int .i64 2, .int .i64 hop, .bool back, .slice a l.length cap] w fun e w' => e = .returned (.bool true) ∧ Below w.heap.size w w' := by
  have E1 : noteE 2 0 false [] = 0 := by
    rw [noteE_short (fun x hx => by cases hx)]
    refine (if_neg (by show ¬ (true = false ∨ (0 : Int) < 0 ∨ (0 : Int) < 0); decide)).trans ?_
    exact if_neg (by rintro (⟨h, _⟩ | ⟨_, h | h⟩); exact absurd h (by decide); exact h rfl; cases h)
  have E2 : noteE 2 0 false [l] = 1 := by
    rw [noteE_short (one_short hl)]
    exact if_pos (by show (true = false ∨ (1 : Int) < 0 ∨ (0 : Int) < 1); decide)
  have E3 : noteE 2 hop back [] = 1 := by
    rw [noteE_short (fun x hx => by cases hx)]
    refine (if_neg (by show ¬ (true = false ∨ (0 : Int) < 0 ∨ (0 : Int) < 0); decide)).trans ?_
    exact if_pos (.inr ⟨by decide, .inl (by simpa using h0)⟩)
  have K1 := fun W => @ncheck_any 2 0 false none 0 0 [] W (Parts.nil W)
  have K2 := fun W pa pn pc (h : Parts W pa pn pc [l]) => @ncheck_any 2 0 false pa pn pc [l] W h
  have K3 := fun W => @ncheck_any 2 hop back none 0 0 [] W (Parts.nil W)
  rw [E1] at K1
  simp only [E2] at K2
  rw [E3] at K3
  clear E1 E2 E3
  go_enter Try.func10, Try.ntmps10
  go_wp2_with fail
  refine (live06 _).mono ?_
  rintro e w0 ⟨rfl, b0⟩
  go_wp2_with fail
  refine (K1 w0).mono ?_
  rintro e w1 ⟨rfl, b1⟩
  have B1 := below_then b0 b1
  have hb1 := hb.keep B1
  go_wp2_with fail
  refine (K2 _ _ _ _ (parts_lit w1 _ _ _ hb1)).mono ?_
  rintro e w2 ⟨rfl, b2⟩
  have B2 := below_then (B1.alloc B1.size _) b2
  go_wp2_with fail
  refine (K3 w2).mono ?_
  rintro e w3 ⟨rfl, b3⟩
  have B3 := below_then B2 b3
  clear K1 K2 K3 hb hb1 b0 b1 b2 b3 B1 B2
  go_wp2
  go_ret
  exact ⟨by first | rfl | (simp; done) | (simp; omega), B3⟩


set_option maxRecDepth 100000 in
set_option maxHeartbeats 800000 in
theorem nkinds_2back {w : World} {a : Option Addr} {cap : Nat} {l : List UInt8} (hb : Bytes w a l.length cap l) (hl : l.length ≤ 1024) :
    Calls Try.prog 10 #[.int .i64 2, .int .i64 0, .bool true, .slice a l.length cap] w fun e w' => e = .returned (.bool true) ∧ Below w.heap.size w w' := by
  have E1 : noteE 2 0 false [] = 0 := by
    rw [noteE_short (fun x hx => by cases hx)]
    refine (if_neg (by show ¬ (true = false ∨ (0 : Int) < 0 ∨ (0 : Int) < 0); decide)).trans ?_
    exact if_neg (by rintro (⟨h, _⟩ | ⟨_, h | h⟩); exact absurd h (by decide); exact h rfl; cases h)
  have E2 : noteE 2 0 false [l] = 1 := by
    rw [noteE_short (one_short hl)]
    exact if_pos (by show (true = false ∨ (1 : Int) < 0 ∨ (0 : Int) < 1); decide)
  have E3 : noteE 2 0 true [] = 1 := by
    rw [noteE_short (fun x hx => by cases hx)]
    refine (if_neg (by show ¬ (true = false ∨ (0 : Int) < 0 ∨ (0 : Int) < 0); decide)).trans ?_
    exact if_pos (.inr ⟨by decide, .inr rfl⟩)
  have K1 := fun W => @ncheck_any 2 0 false none 0 0 [] W (Parts.nil W)
  have K2 := fun W pa pn pc (h : Parts W pa pn pc [l]) => @ncheck_any 2 0 false pa pn pc [l] W h
  have K3 := fun W => @ncheck_any 2 0 true none 0 0 [] W (Parts.nil W)
  rw [E1] at K1
  simp only [E2] at K2
  rw [E3] at K3
  clear E1 E2 E3
  go_enter Try.func10, Try.ntmps10
  go_wp2_with fail
  refine (live06 _).mono ?_
  rintro e w0 ⟨rfl, b0⟩
  go_wp2_with fail
  refine (K1 w0).mono ?_
  rintro e w1 ⟨rfl, b1⟩
  have B1 := below_then b0 b1
  have hb1 := hb.keep B1
  go_wp2_with fail
  refine (K2 _ _ _ _ (parts_lit w1 _ _ _ hb1)).mono ?_
  rintro e w2 ⟨rfl, b2⟩
  have B2 := below_then (B1.alloc B1.size _) b2
  go_wp2_with fail
  refine (K3 w2).mono ?_
  rintro e w3 ⟨rfl, b3⟩
  have B3 := below_then B2 b3
  clear K1 K2 K3 hb hb1 b0 b1 b2 b3 B1 B2
  go_wp2
  go_ret
  exact ⟨by first | rfl | (simp; done) | (simp; omega), B3⟩


set_option maxRecDepth 100000 in
set_option maxHeartbeats 800000 in
theorem nkinds_2ok {w : World} {a : Option Addr} {cap : Nat} {l : List UInt8} (hb : Bytes w a l.length cap l) (hl : l.length ≤ 1024) :
    Calls Try.prog 10 #[.int .i64 2, .int .i64 0, .bool false, .slice a l.length cap] w fun e w' => e = .returned (.bool true) ∧ Below w.heap.size w w' := by
  have E1 : noteE 2 0 false [] = 0 := by
    rw [noteE_short (fun x hx => by cases hx)]
    refine (if_neg (by show ¬ (true = false ∨ (0 : Int) < 0 ∨ (0 : Int) < 0); decide)).trans ?_
    exact if_neg (by rintro (⟨h, _⟩ | ⟨_, h | h⟩); exact absurd h (by decide); exact h rfl; cases h)
  have E2 : noteE 2 0 false [l] = 1 := by
    rw [noteE_short (one_short hl)]
    exact if_pos (by show (true = false ∨ (1 : Int) < 0 ∨ (0 : Int) < 1); decide)
  have E3 : noteE 2 0 false [] = 0 := by
    rw [noteE_short (fun x hx => by cases hx)]
    refine (if_neg (by show ¬ (true = false ∨ (0 : Int) < 0 ∨ (0 : Int) < 0); decide)).trans ?_
    exact if_neg (by rintro (⟨h, _⟩ | ⟨_, h | h⟩); exact absurd h (by decide); exact h rfl; cases h)
  have K1 := fun W => @ncheck_any 2 0 false none 0 0 [] W (Parts.nil W)
  have K2 := fun W pa pn pc (h : Parts W pa pn pc [l]) => @ncheck_any 2 0 false pa pn pc [l] W h
  have K3 := fun W => @ncheck_any 2 0 false none 0 0 [] W (Parts.nil W)
  rw [E1] at K1
  simp only [E2] at K2
  rw [E3] at K3
  clear E1 E2 E3
  go_enter Try.func10, Try.ntmps10
  go_wp2_with fail
  refine (live06 _).mono ?_
  rintro e w0 ⟨rfl, b0⟩
  go_wp2_with fail
  refine (K1 w0).mono ?_
  rintro e w1 ⟨rfl, b1⟩
  have B1 := below_then b0 b1
  have hb1 := hb.keep B1
  go_wp2_with fail
  refine (K2 _ _ _ _ (parts_lit w1 _ _ _ hb1)).mono ?_
  rintro e w2 ⟨rfl, b2⟩
  have B2 := below_then (B1.alloc B1.size _) b2
  go_wp2_with fail
  refine (K3 w2).mono ?_
  rintro e w3 ⟨rfl, b3⟩
  have B3 := below_then B2 b3
  clear K1 K2 K3 hb hb1 b0 b1 b2 b3 B1 B2
  go_wp2
  go_ret
  exact ⟨by first | rfl | (simp; done) | (simp; omega), B3⟩


set_option maxRecDepth 100000 in
set_option maxHeartbeats 800000 in
theorem nkinds_3hop {hop : Int} {back : Bool} {w : World} {a : Option Addr} {cap : Nat} {l : List UInt8} (hb : Bytes w a l.length cap l) (hl : l.length ≤ 1024) (_ : (hop == 0) = false) :
    Calls Try.prog 10 #[.int .i64 3, .int .i64 hop, .bool back, .slice a l.length cap] w fun e w' => e = .returned (.bool true) ∧ Below w.heap.size w w' := by
  have E1 : noteE 3 0 false [] = 1 := by
    rw [noteE_short (fun x hx => by cases hx)]
    exact if_pos (by show (true = false ∨ (0 : Int) < 1 ∨ (1 : Int) < 0); decide)
  have E2 : noteE 3 0 false [l] = 0 := by
    rw [noteE_short (one_short hl)]
    refine (if_neg (by show ¬ (true = false ∨ (1 : Int) < 1 ∨ (1 : Int) < 1); decide)).trans ?_
    exact if_neg (by rintro (⟨h, _⟩ | ⟨_, h | h⟩); exact absurd h (by decide); exact h rfl; cases h)
  have E3 : noteE 3 hop back [] = 1 := by
    rw [noteE_short (fun x hx => by cases hx)]
    exact if_pos (by show (true = false ∨ (0 : Int) < 1 ∨ (1 : Int) < 0); decide)
  have K1 := fun W => @ncheck_any 3 0 false none 0 0 [] W (Parts.nil W)
  have K2 := fun W pa pn pc (h : Parts W pa pn pc [l]) => @ncheck_any 3 0 false pa pn pc [l] W h
  have K3 := fun W => @ncheck_any 3 hop back none 0 0 [] W (Parts.nil W)
  rw [E1] at K1
  simp only [E2] at K2
  rw [E3] at K3
  clear E1 E2 E3
  go_enter Try.func10, Try.ntmps10
  go_wp2_with fail
  refine (live06 _).mono ?_
  rintro e w0 ⟨rfl, b0⟩
  go_wp2_with fail
  refine (K1 w0).mono ?_
  rintro e w1 ⟨rfl, b1⟩
  have B1 := below_then b0 b1
  have hb1 := hb.keep B1
  go_wp2_with fail
  refine (K2 _ _ _ _ (parts_lit w1 _ _ _ hb1)).mono ?_
  rintro e w2 ⟨rfl, b2⟩
  have B2 := below_then (B1.alloc B1.size _) b2
  go_wp2_with fail
  refine (K3 w2).mono ?_
  rintro e w3 ⟨rfl, b3⟩
  have B3 := below_then B2 b3
  clear K1 K2 K3 hb hb1 b0 b1 b2 b3 B1 B2
  go_wp2
  go_ret
  exact ⟨by first | rfl | (simp; done) | (simp; omega), B3⟩


set_option maxRecDepth 100000 in
set_option maxHeartbeats 800000 in
theorem nkinds_3back {w : World} {a : Option Addr} {cap : Nat} {l : List UInt8} (hb : Bytes w a l.length cap l) (hl : l.length ≤ 1024) :
    Calls Try.prog 10 #[.int .i64 3, .int .i64 0, .bool true, .slice a l.length cap] w fun e w' => e = .returned (.bool true) ∧ Below w.heap.size w w' := by
  have E1 : noteE 3 0 false [] = 1 := by
    rw [noteE_short (fun x hx => by cases hx)]
    exact if_pos (by show (true = false ∨ (0 : Int) < 1 ∨ (1 : Int) < 0); decide)
  have E2 : noteE 3 0 false [l] = 0 := by
    rw [noteE_short (one_short hl)]
    refine (if_neg (by show ¬ (true = false ∨ (1 : Int) < 1 ∨ (1 : Int) < 1); decide)).trans ?_
    exact if_neg (by rintro (⟨h, _⟩ | ⟨_, h | h⟩); exact absurd h (by decide); exact h rfl; cases h)
  have E3 : noteE 3 0 true [] = 1 := by
    rw [noteE_short (fun x hx => by cases hx)]
    exact if_pos (by show (true = false ∨ (0 : Int) < 1 ∨ (1 : Int) < 0); decide)
  have K1 := fun W => @ncheck_any 3 0 false none 0 0 [] W (Parts.nil W)
  have K2 := fun W pa pn pc (h : Parts W pa pn pc [l]) => @ncheck_any 3 0 false pa pn pc [l] W h
  have K3 := fun W => @ncheck_any 3 0 true none 0 0 [] W (Parts.nil W)
  rw [E1] at K1
  simp only [E2] at K2
  rw [E3] at K3
  clear E1 E2 E3
  go_enter Try.func10, Try.ntmps10
  go_wp2_with fail
  refine (live06 _).mono ?_
  rintro e w0 ⟨rfl, b0⟩
  go_wp2_with fail
  refine (K1 w0).mono ?_
  rintro e w1 ⟨rfl, b1⟩
  have B1 := below_then b0 b1
  have hb1 := hb.keep B1
  go_wp2_with fail
  refine (K2 _ _ _ _ (parts_lit w1 _ _ _ hb1)).mono ?_
  rintro e w2 ⟨rfl, b2⟩
  have B2 := below_then (B1.alloc B1.size _) b2
  go_wp2_with fail
  refine (K3 w2).mono ?_
  rintro e w3 ⟨rfl, b3⟩
  have B3 := below_then B2 b3
  clear K1 K2 K3 hb hb1 b0 b1 b2 b3 B1 B2
  go_wp2
  go_ret
  exact ⟨by first | rfl | (simp; done) | (simp; omega), B3⟩


set_option maxRecDepth 100000 in
set_option maxHeartbeats 800000 in
theorem nkinds_3ok {w : World} {a : Option Addr} {cap : Nat} {l : List UInt8} (hb : Bytes w a l.length cap l) (hl : l.length ≤ 1024) :
    Calls Try.prog 10 #[.int .i64 3, .int .i64 0, .bool false, .slice a l.length cap] w fun e w' => e = .returned (.bool true) ∧ Below w.heap.size w w' := by
  have E1 : noteE 3 0 false [] = 1 := by
    rw [noteE_short (fun x hx => by cases hx)]
    exact if_pos (by show (true = false ∨ (0 : Int) < 1 ∨ (1 : Int) < 0); decide)
  have E2 : noteE 3 0 false [l] = 0 := by
    rw [noteE_short (one_short hl)]
    refine (if_neg (by show ¬ (true = false ∨ (1 : Int) < 1 ∨ (1 : Int) < 1); decide)).trans ?_
    exact if_neg (by rintro (⟨h, _⟩ | ⟨_, h | h⟩); exact absurd h (by decide); exact h rfl; cases h)
  have E3 : noteE 3 0 false [] = 1 := by
    rw [noteE_short (fun x hx => by cases hx)]
    exact if_pos (by show (true = false ∨ (0 : Int) < 1 ∨ (1 : Int) < 0); decide)
  have K1 := fun W => @ncheck_any 3 0 false none 0 0 [] W (Parts.nil W)
  have K2 := fun W pa pn pc (h : Parts W pa pn pc [l]) => @ncheck_any 3 0 false pa pn pc [l] W h
  have K3 := fun W => @ncheck_any 3 0 false none 0 0 [] W (Parts.nil W)
  rw [E1] at K1
  simp only [E2] at K2
  rw [E3] at K3
  clear E1 E2 E3
  go_enter Try.func10, Try.ntmps10
  go_wp2_with fail
  refine (live06 _).mono ?_
  rintro e w0 ⟨rfl, b0⟩
  go_wp2_with fail
  refine (K1 w0).mono ?_
  rintro e w1 ⟨rfl, b1⟩
  have B1 := below_then b0 b1
  have hb1 := hb.keep B1
  go_wp2_with fail
  refine (K2 _ _ _ _ (parts_lit w1 _ _ _ hb1)).mono ?_
  rintro e w2 ⟨rfl, b2⟩
  have B2 := below_then (B1.alloc B1.size _) b2
  go_wp2_with fail
  refine (K3 w2).mono ?_
  rintro e w3 ⟨rfl, b3⟩
  have B3 := below_then B2 b3
  clear K1 K2 K3 hb hb1 b0 b1 b2 b3 B1 B2
  go_wp2
  go_ret
  exact ⟨by first | rfl | (simp; done) | (simp; omega), B3⟩


set_option maxRecDepth 100000 in
set_option maxHeartbeats 800000 in
theorem nkinds_4hop {hop : Int} {back : Bool} {w : World} {a : Option Addr} {cap : Nat} {l : List UInt8} (hb : Bytes w a l.length cap l) (hl : l.length ≤ 1024) (h0 : (hop == 0) = false) :
    Calls Try.prog 10 #[.int .i64 4, .int .i64 hop, .bool back, .slice a l.length cap] w fun e w' => e = .returned (.bool true) ∧ Below w.heap.size w w' := by
  have E1 : noteE 4 0 false [] = 0 := by
    rw [noteE_short (fun x hx => by cases hx)]
    refine (if_neg (by show ¬ (true = false ∨ (0 : Int) < 0 ∨ (64 : Int) < 0); decide)).trans ?_
    exact if_neg (by rintro (⟨h, _⟩ | ⟨_, h | h⟩); exact absurd h (by decide); exact h rfl; cases h)
  have E2 : noteE 4 0 false [l] = 0 := by
    rw [noteE_short (one_short hl)]
    refine (if_neg (by show ¬ (true = false ∨ (1 : Int) < 0 ∨ (64 : Int) < 1); decide)).trans ?_
    exact if_neg (by rintro (⟨h, _⟩ | ⟨_, h | h⟩); exact absurd h (by decide); exact h rfl; cases h)
  have E3 : noteE 4 hop back [] = 1 := by
    rw [noteE_short (fun x hx => by cases hx)]
    refine (if_neg (by show ¬ (true = false ∨ (0 : Int) < 0 ∨ (64 : Int) < 0); decide)).trans ?_
    exact if_pos (.inr ⟨by decide, .inl (by simpa using h0)⟩)
  have K1 := fun W => @ncheck_any 4 0 false none 0 0 [] W (Parts.nil W)
  have K2 := fun W pa pn pc (h : Parts W pa pn pc [l]) => @ncheck_any 4 0 false pa pn pc [l] W h
  have K3 := fun W => @ncheck_any 4 hop back none 0 0 [] W (Parts.nil W)
  rw [E1] at K1
  simp only [E2] at K2
  rw [E3] at K3
  clear E1 E2 E3
  go_enter Try.func10, Try.ntmps10
  go_wp2_with fail
  refine (live06 _).mono ?_
  rintro e w0 ⟨rfl, b0⟩
  go_wp2_with fail
  refine (K1 w0).mono ?_
  rintro e w1 ⟨rfl, b1⟩
  have B1 := below_then b0 b1
  have hb1 := hb.keep B1
  go_wp2_with fail
  refine (K2 _ _ _ _ (parts_lit w1 _ _ _ hb1)).mono ?_
  rintro e w2 ⟨rfl, b2⟩
  have B2 := below_then (B1.alloc B1.size _) b2
  go_wp2_with fail
  refine (K3 w2).mono ?_
  rintro e w3 ⟨rfl, b3⟩
  have B3 := below_then B2 b3
  clear K1 K2 K3 hb hb1 b0 b1 b2 b3 B1 B2
  go_wp2
  go_ret
  exact ⟨by first | rfl | (simp; done) | (simp; omega), B3⟩


set_option maxRecDepth 100000 in
set_option maxHeartbeats 800000 in
theorem nkinds_4back {w : World} {a : Option Addr} {cap : Nat} {l : List UInt8} (hb : Bytes w a l.length cap l) (hl : l.length ≤ 1024) :
    Calls Try.prog 10 #[.int .i64 4, .int .i64 0, .bool true, .slice a l.length cap] w fun e w' => e = .returned (.bool true) ∧ Below w.heap.size w w' := by
  have E1 : noteE 4 0 false [] = 0 := by
    rw [noteE_short (fun x hx => by cases hx)]
    refine (if_neg (by show ¬ (true = false ∨ (0 : Int) < 0 ∨ (64 : Int) < 0); decide)).trans ?_
    exact if_neg (by rintro (⟨h, _⟩ | ⟨_, h | h⟩); exact absurd h (by decide); exact h rfl; cases h)
  have E2 : noteE 4 0 false [l] = 0 := by
    rw [noteE_short (one_short hl)]
    refine (if_neg (by show ¬ (true = false ∨ (1 : Int) < 0 ∨ (64 : Int) < 1); decide)).trans ?_
    exact if_neg (by rintro (⟨h, _⟩ | ⟨_, h | h⟩); exact absurd h (by decide); exact h rfl; cases h)
  have E3 : noteE 4 0 true [] = 1 := by
    rw [noteE_short (fun x hx => by cases hx)]
    refine (if_neg (by show ¬ (true = false ∨ (0 : Int) < 0 ∨ (64 : Int) < 0); decide)).trans ?_
    exact if_pos (.inr ⟨by decide, .inr rfl⟩)
  have K1 := fun W => @ncheck_any 4 0 false none 0 0 [] W (Parts.nil W)
  have K2 := fun W pa pn pc (h : Parts W pa pn pc [l]) => @ncheck_any 4 0 false pa pn pc [l] W h
  have K3 := fun W => @ncheck_any 4 0 true none 0 0 [] W (Parts.nil W)
  rw [E1] at K1
  simp only [E2] at K2
  rw [E3] at K3
  clear E1 E2 E3
  go_enter Try.func10, Try.ntmps10
  go_wp2_with fail
  refine (live06 _).mono ?_
  rintro e w0 ⟨rfl, b0⟩
  go_wp2_with fail
  refine (K1 w0).mono ?_
  rintro e w1 ⟨rfl, b1⟩
  have B1 := below_then b0 b1
  have hb1 := hb.keep B1
  go_wp2_with fail
  refine (K2 _ _ _ _ (parts_lit w1 _ _ _ hb1)).mono ?_
  rintro e w2 ⟨rfl, b2⟩
  have B2 := below_then (B1.alloc B1.size _) b2
  go_wp2_with fail
  refine (K3 w2).mono ?_
  rintro e w3 ⟨rfl, b3⟩
  have B3 := below_then B2 b3
  clear K1 K2 K3 hb hb1 b0 b1 b2 b3 B1 B2
  go_wp2
  go_ret
  exact ⟨by first | rfl | (simp; done) | (simp; omega), B3⟩


set_option maxRecDepth 100000 in
set_option maxHeartbeats 800000 in
theorem nkinds_4ok {w : World} {a : Option Addr} {cap : Nat} {l : List UInt8} (hb : Bytes w a l.length cap l) (hl : l.length ≤ 1024) :
    Calls Try.prog 10 #[.int .i64 4, .int .i64 0, .bool false, .slice a l.length cap] w fun e w' => e = .returned (.bool true) ∧ Below w.heap.size w w' := by
  have E1 : noteE 4 0 false [] = 0 := by
    rw [noteE_short (fun x hx => by cases hx)]
    refine (if_neg (by show ¬ (true = false ∨ (0 : Int) < 0 ∨ (64 : Int) < 0); decide)).trans ?_
    exact if_neg (by rintro (⟨h, _⟩ | ⟨_, h | h⟩); exact absurd h (by decide); exact h rfl; cases h)
  have E2 : noteE 4 0 false [l] = 0 := by
    rw [noteE_short (one_short hl)]
    refine (if_neg (by show ¬ (true = false ∨ (1 : Int) < 0 ∨ (64 : Int) < 1); decide)).trans ?_
    exact if_neg (by rintro (⟨h, _⟩ | ⟨_, h | h⟩); exact absurd h (by decide); exact h rfl; cases h)
  have E3 : noteE 4 0 false [] = 0 := by
    rw [noteE_short (fun x hx => by cases hx)]
    refine (if_neg (by show ¬ (true = false ∨ (0 : Int) < 0 ∨ (64 : Int) < 0); decide)).trans ?_
    exact if_neg (by rintro (⟨h, _⟩ | ⟨_, h | h⟩); exact absurd h (by decide); exact h rfl; cases h)
  have K1 := fun W => @ncheck_any 4 0 false none 0 0 [] W (Parts.nil W)
  have K2 := fun W pa pn pc (h : Parts W pa pn pc [l]) => @ncheck_any 4 0 false pa pn pc [l] W h
  have K3 := fun W => @ncheck_any 4 0 false none 0 0 [] W (Parts.nil W)
  rw [E1] at K1
  simp only [E2] at K2
  rw [E3] at K3
  clear E1 E2 E3
  go_enter Try.func10, Try.ntmps10
  go_wp2_with fail
  refine (live06 _).mono ?_
  rintro e w0 ⟨rfl, b0⟩
  go_wp2_with fail
  refine (K1 w0).mono ?_
  rintro e w1 ⟨rfl, b1⟩
  have B1 := below_then b0 b1
  have hb1 := hb.keep B1
  go_wp2_with fail
  refine (K2 _ _ _ _ (parts_lit w1 _ _ _ hb1)).mono ?_
  rintro e w2 ⟨rfl, b2⟩
  have B2 := below_then (B1.alloc B1.size _) b2
  go_wp2_with fail
  refine (K3 w2).mono ?_
  rintro e w3 ⟨rfl, b3⟩
  have B3 := below_then B2 b3
  clear K1 K2 K3 hb hb1 b0 b1 b2 b3 B1 B2
  go_wp2
  go_ret
  exact ⟨by first | rfl | (simp; done) | (simp; omega), B3⟩


set_option maxRecDepth 100000 in
set_option maxHeartbeats 800000 in
theorem nkinds_5hop {hop : Int} {back : Bool} {w : World} {a : Option Addr} {cap : Nat} {l : List UInt8} (hb : Bytes w a l.length cap l) (hl : l.length ≤ 1024) (h0 : (hop == 0) = false) :
    Calls Try.prog 10 #[.int .i64 5, .int .i64 hop, .bool back, .slice a l.length cap] w fun e w' => e = .returned (.bool true) ∧ Below w.heap.size w w' := by
  have E1 : noteE 5 0 false [] = 0 := by
    rw [noteE_short (fun x hx => by cases hx)]
    refine (if_neg (by show ¬ (true = false ∨ (0 : Int) < 0 ∨ (64 : Int) < 0); decide)).trans ?_
    exact if_neg (by rintro (⟨h, _⟩ | ⟨_, h | h⟩); exact absurd h (by decide); exact h rfl; cases h)
  have E2 : noteE 5 0 false [l] = 0 := by
    rw [noteE_short (one_short hl)]
    refine (if_neg (by show ¬ (true = false ∨ (1 : Int) < 0 ∨ (64 : Int) < 1); decide)).trans ?_
    exact if_neg (by rintro (⟨h, _⟩ | ⟨_, h | h⟩); exact absurd h (by decide); exact h rfl; cases h)
  have E3 : noteE 5 hop back [] = 1 := by
    rw [noteE_short (fun x hx => by cases hx)]
    refine (if_neg (by show ¬ (true = false ∨ (0 : Int) < 0 ∨ (64 : Int) < 0); decide)).trans ?_
    exact if_pos (.inr ⟨by decide, .inl (by simpa using h0)⟩)
  have K1 := fun W => @ncheck_any 5 0 false none 0 0 [] W (Parts.nil W)
  have K2 := fun W pa pn pc (h : Parts W pa pn pc [l]) => @ncheck_any 5 0 false pa pn pc [l] W h
  have K3 := fun W => @ncheck_any 5 hop back none 0 0 [] W (Parts.nil W)
  rw [E1] at K1
  simp only [E2] at K2
  rw [E3] at K3
  clear E1 E2 E3
  go_enter Try.func10, Try.ntmps10
  go_wp2_with fail
  refine (live06 _).mono ?_
  rintro e w0 ⟨rfl, b0⟩
  go_wp2_with fail
  refine (K1 w0).mono ?_
  rintro e w1 ⟨rfl, b1⟩
  have B1 := below_then b0 b1
  have hb1 := hb.keep B1
  go_wp2_with fail
  refine (K2 _ _ _ _ (parts_lit w1 _ _ _ hb1)).mono ?_
  rintro e w2 ⟨rfl, b2⟩
  have B2 := below_then (B1.alloc B1.size _) b2
  go_wp2_with fail
  refine (K3 w2).mono ?_
  rintro e w3 ⟨rfl, b3⟩
  have B3 := below_then B2 b3
  clear K1 K2 K3 hb hb1 b0 b1 b2 b3 B1 B2
  go_wp2
  go_ret
  exact ⟨by first | rfl | (simp; done) | (simp; omega), B3⟩


set_option maxRecDepth 100000 in
set_option maxHeartbeats 800000 in
theorem nkinds_5back {w : World} {a : Option Addr} {cap : Nat} {l : List UInt8} (hb : Bytes w a l.length cap l) (hl : l.length ≤ 1024) :
    Calls Try.prog 10 #[.int .i64 5, .int .i64 0, .bool true, .slice a l.length cap] w fun e w' => e = .returned (.bool true) ∧ Below w.heap.size w w' := by
  have E1 : noteE 5 0 false [] = 0 := by
    rw [noteE_short (fun x hx => by cases hx)]
    refine (if_neg (by show ¬ (true = false ∨ (0 : Int) < 0 ∨ (64 : Int) < 0); decide)).trans ?_
    exact if_neg (by rintro (⟨h, _⟩ | ⟨_, h | h⟩); exact absurd h (by decide); exact h rfl; cases h)
  have E2 : noteE 5 0 false [l] = 0 := by
    rw [noteE_short (one_short hl)]
    refine (if_neg (by show ¬ (true = false ∨ (1 : Int) < 0 ∨ (64 : Int) < 1); decide)).trans ?_
    exact if_neg (by rintro (⟨h, _⟩ | ⟨_, h | h⟩); exact absurd h (by decide); exact h rfl; cases h)
  have E3 : noteE 5 0 true [] = 1 := by
    rw [noteE_short (fun x hx => by cases hx)]
    refine (if_neg (by show ¬ (true = false ∨ (0 : Int) < 0 ∨ (64 : Int) < 0); decide)).trans ?_
    exact if_pos (.inr ⟨by decide, .inr rfl⟩)
  have K1 := fun W => @ncheck_any 5 0 false none 0 0 [] W (Parts.nil W)
  have K2 := fun W pa pn pc (h : Parts W pa pn pc [l]) => @ncheck_any 5 0 false pa pn pc [l] W h
  have K3 := fun W => @ncheck_any 5 0 true none 0 0 [] W (Parts.nil W)
  rw [E1] at K1
  simp only [E2] at K2
  rw [E3] at K3
  clear E1 E2 E3
  go_enter Try.func10, Try.ntmps10
  go_wp2_with fail
  refine (live06 _).mono ?_
  rintro e w0 ⟨rfl, b0⟩
  go_wp2_with fail
  refine (K1 w0).mono ?_
  rintro e w1 ⟨rfl, b1⟩
  have B1 := below_then b0 b1
  have hb1 := hb.keep B1
  go_wp2_with fail
  refine (K2 _ _ _ _ (parts_lit w1 _ _ _ hb1)).mono ?_
  rintro e w2 ⟨rfl, b2⟩
  have B2 := below_then (B1.alloc B1.size _) b2
  go_wp2_with fail
  refine (K3 w2).mono ?_
  rintro e w3 ⟨rfl, b3⟩
  have B3 := below_then B2 b3
  clear K1 K2 K3 hb hb1 b0 b1 b2 b3 B1 B2
  go_wp2
  go_ret
  exact ⟨by first | rfl | (simp; done) | (simp; omega), B3⟩


set_option maxRecDepth 100000 in
set_option maxHeartbeats 800000 in
theorem nkinds_5ok {w : World} {a : Option Addr} {cap : Nat} {l : List UInt8} (hb : Bytes w a l.length cap l) (hl : l.length ≤ 1024) :
    Calls Try.prog 10 #[.int .i64 5, .int .i64 0, .bool false, .slice a l.length cap] w fun e w' => e = .returned (.bool true) ∧ Below w.heap.size w w' := by
  have E1 : noteE 5 0 false [] = 0 := by
    rw [noteE_short (fun x hx => by cases hx)]
    refine (if_neg (by show ¬ (true = false ∨ (0 : Int) < 0 ∨ (64 : Int) < 0); decide)).trans ?_
    exact if_neg (by rintro (⟨h, _⟩ | ⟨_, h | h⟩); exact absurd h (by decide); exact h rfl; cases h)
  have E2 : noteE 5 0 false [l] = 0 := by
    rw [noteE_short (one_short hl)]
    refine (if_neg (by show ¬ (true = false ∨ (1 : Int) < 0 ∨ (64 : Int) < 1); decide)).trans ?_
    exact if_neg (by rintro (⟨h, _⟩ | ⟨_, h | h⟩); exact absurd h (by decide); exact h rfl; cases h)
  have E3 : noteE 5 0 false [] = 0 := by
    rw [noteE_short (fun x hx => by cases hx)]
    refine (if_neg (by show ¬ (true = false ∨ (0 : Int) < 0 ∨ (64 : Int) < 0); decide)).trans ?_
    exact if_neg (by rintro (⟨h, _⟩ | ⟨_, h | h⟩); exact absurd h (by decide); exact h rfl; cases h)
  have K1 := fun W => @ncheck_any 5 0 false none 0 0 [] W (Parts.nil W)
  have K2 := fun W pa pn pc (h : Parts W pa pn pc [l]) => @ncheck_any 5 0 false pa pn pc [l] W h
  have K3 := fun W => @ncheck_any 5 0 false none 0 0 [] W (Parts.nil W)
  rw [E1] at K1
  simp only [E2] at K2
  rw [E3] at K3
  clear E1 E2 E3
  go_enter Try.func10, Try.ntmps10
  go_wp2_with fail
  refine (live06 _).mono ?_
  rintro e w0 ⟨rfl, b0⟩
  go_wp2_with fail
  refine (K1 w0).mono ?_
  rintro e w1 ⟨rfl, b1⟩
  have B1 := below_then b0 b1
  have hb1 := hb.keep B1
  go_wp2_with fail
  refine (K2 _ _ _ _ (parts_lit w1 _ _ _ hb1)).mono ?_
  rintro e w2 ⟨rfl, b2⟩
  have B2 := below_then (B1.alloc B1.size _) b2
  go_wp2_with fail
  refine (K3 w2).mono ?_
  rintro e w3 ⟨rfl, b3⟩
  have B3 := below_then B2 b3
  clear K1 K2 K3 hb hb1 b0 b1 b2 b3 B1 B2
  go_wp2
  go_ret
  exact ⟨by first | rfl | (simp; done) | (simp; omega), B3⟩


set_option maxRecDepth 100000 in
set_option maxHeartbeats 800000 in
theorem nkinds_6hop {hop : Int} {back : Bool} {w : World} {a : Option Addr} {cap : Nat} {l : List UInt8} (hb : Bytes w a l.length cap l) (hl : l.length ≤ 1024) (_ : (hop == 0) = false) :
    Calls Try.prog 10 #[.int .i64 6, .int .i64 hop, .bool back, .slice a l.length cap] w fun e w' => e = .returned (.bool true) ∧ Below w.heap.size w w' := by
  have E1 : noteE 6 0 false [] = 1 := by
    rw [noteE_short (fun x hx => by cases hx)]
    exact if_pos (by show (true = false ∨ (0 : Int) < 1 ∨ (1 : Int) < 0); decide)
  have E2 : noteE 6 0 false [l] = 0 := by
    rw [noteE_short (one_short hl)]
    refine (if_neg (by show ¬ (true = false ∨ (1 : Int) < 1 ∨ (1 : Int) < 1); decide)).trans ?_
    exact if_neg (by rintro (⟨h, _⟩ | ⟨_, h | h⟩); exact absurd h (by decide); exact h rfl; cases h)
  have E3 : noteE 6 hop back [] = 1 := by
    rw [noteE_short (fun x hx => by cases hx)]
    exact if_pos (by show (true = false ∨ (0 : Int) < 1 ∨ (1 : Int) < 0); decide)
  have K1 := fun W => @ncheck_any 6 0 false none 0 0 [] W (Parts.nil W)
  have K2 := fun W pa pn pc (h : Parts W pa pn pc [l]) => @ncheck_any 6 0 false pa pn pc [l] W h
  have K3 := fun W => @ncheck_any 6 hop back none 0 0 [] W (Parts.nil W)
  rw [E1] at K1
  simp only [E2] at K2
  rw [E3] at K3
  clear E1 E2 E3
  go_enter Try.func10, Try.ntmps10
  go_wp2_with fail
  refine (live06 _).mono ?_
  rintro e w0 ⟨rfl, b0⟩
  go_wp2_with fail
  refine (K1 w0).mono ?_
  rintro e w1 ⟨rfl, b1⟩
  have B1 := below_then b0 b1
  have hb1 := hb.keep B1
  go_wp2_with fail
  refine (K2 _ _ _ _ (parts_lit w1 _ _ _ hb1)).mono ?_
  rintro e w2 ⟨rfl, b2⟩
  have B2 := below_then (B1.alloc B1.size _) b2
  go_wp2_with fail
  refine (K3 w2).mono ?_
  rintro e w3 ⟨rfl, b3⟩
  have B3 := below_then B2 b3
  clear K1 K2 K3 hb hb1 b0 b1 b2 b3 B1 B2
  go_wp2
  go_ret
  exact ⟨by first | rfl | (simp; done) | (simp; omega), B3⟩


set_option maxRecDepth 100000 in
set_option maxHeartbeats 800000 in
theorem nkinds_6back {w : World} {a : Option Addr} {cap : Nat} {l : List UInt8} (hb : Bytes w a l.length cap l) (hl : l.length ≤ 1024) :
    Calls Try.prog 10 #[.int .i64 6, .int .i64 0, .bool true, .slice a l.length cap] w fun e w' => e = .returned (.bool true) ∧ Below w.heap.size w w' := by
  have E1 : noteE 6 0 false [] = 1 := by
    rw [noteE_short (fun x hx => by cases hx)]
    exact if_pos (by show (true = false ∨ (0 : Int) < 1 ∨ (1 : Int) < 0); decide)
  have E2 : noteE 6 0 false [l] = 0 := by
    rw [noteE_short (one_short hl)]
    refine (if_neg (by show ¬ (true = false ∨ (1 : Int) < 1 ∨ (1 : Int) < 1); decide)).trans ?_
    exact if_neg (by rintro (⟨h, _⟩ | ⟨_, h | h⟩); exact absurd h (by decide); exact h rfl; cases h)
  have E3 : noteE 6 0 true [] = 1 := by
    rw [noteE_short (fun x hx => by cases hx)]
    exact if_pos (by show (true = false ∨ (0 : Int) < 1 ∨ (1 : Int) < 0); decide)
  have K1 := fun W => @ncheck_any 6 0 false none 0 0 [] W (Parts.nil W)
  have K2 := fun W pa pn pc (h : Parts W pa pn pc [l]) => @ncheck_any 6 0 false pa pn pc [l] W h
  have K3 := fun W => @ncheck_any 6 0 true none 0 0 [] W (Parts.nil W)
  rw [E1] at K1
  simp only [E2] at K2
  rw [E3] at K3
  clear E1 E2 E3
  go_enter Try.func10, Try.ntmps10
  go_wp2_with fail
  refine (live06 _).mono ?_
  rintro e w0 ⟨rfl, b0⟩
  go_wp2_with fail
  refine (K1 w0).mono ?_
  rintro e w1 ⟨rfl, b1⟩
  have B1 := below_then b0 b1
  have hb1 := hb.keep B1
  go_wp2_with fail
  refine (K2 _ _ _ _ (parts_lit w1 _ _ _ hb1)).mono ?_
  rintro e w2 ⟨rfl, b2⟩
  have B2 := below_then (B1.alloc B1.size _) b2
  go_wp2_with fail
  refine (K3 w2).mono ?_
  rintro e w3 ⟨rfl, b3⟩
  have B3 := below_then B2 b3
  clear K1 K2 K3 hb hb1 b0 b1 b2 b3 B1 B2
  go_wp2
  go_ret
  exact ⟨by first | rfl | (simp; done) | (simp; omega), B3⟩


set_option maxRecDepth 100000 in
set_option maxHeartbeats 800000 in
theorem nkinds_6ok {w : World} {a : Option Addr} {cap : Nat} {l : List UInt8} (hb : Bytes w a l.length cap l) (hl : l.length ≤ 1024) :
    Calls Try.prog 10 #[.int .i64 6, .int .i64 0, .bool false, .slice a l.length cap] w fun e w' => e = .returned (.bool true) ∧ Below w.heap.size w w' := by
  have E1 : noteE 6 0 false [] = 1 := by
    rw [noteE_short (fun x hx => by cases hx)]
    exact if_pos (by show (true = false ∨ (0 : Int) < 1 ∨ (1 : Int) < 0); decide)
  have E2 : noteE 6 0 false [l] = 0 := by
    rw [noteE_short (one_short hl)]
    refine (if_neg (by show ¬ (true = false ∨ (1 : Int) < 1 ∨ (1 : Int) < 1); decide)).trans ?_
    exact if_neg (by rintro (⟨h, _⟩ | ⟨_, h | h⟩); exact absurd h (by decide); exact h rfl; cases h)
  have E3 : noteE 6 0 false [] = 1 := by
    rw [noteE_short (fun x hx => by cases hx)]
    exact if_pos (by show (true = false ∨ (0 : Int) < 1 ∨ (1 : Int) < 0); decide)
  have K1 := fun W => @ncheck_any 6 0 false none 0 0 [] W (Parts.nil W)
  have K2 := fun W pa pn pc (h : Parts W pa pn pc [l]) => @ncheck_any 6 0 false pa pn pc [l] W h
  have K3 := fun W => @ncheck_any 6 0 false none 0 0 [] W (Parts.nil W)
  rw [E1] at K1
  simp only [E2] at K2
  rw [E3] at K3
  clear E1 E2 E3
  go_enter Try.func10, Try.ntmps10
  go_wp2_with fail
  refine (live06 _).mono ?_
  rintro e w0 ⟨rfl, b0⟩
  go_wp2_with fail
  refine (K1 w0).mono ?_
  rintro e w1 ⟨rfl, b1⟩
  have B1 := below_then b0 b1
  have hb1 := hb.keep B1
  go_wp2_with fail
  refine (K2 _ _ _ _ (parts_lit w1 _ _ _ hb1)).mono ?_
  rintro e w2 ⟨rfl, b2⟩
  have B2 := below_then (B1.alloc B1.size _) b2
  go_wp2_with fail
  refine (K3 w2).mono ?_
  rintro e w3 ⟨rfl, b3⟩
  have B3 := below_then B2 b3
  clear K1 K2 K3 hb hb1 b0 b1 b2 b3 B1 B2
  go_wp2
  go_ret
  exact ⟨by first | rfl | (simp; done) | (simp; omega), B3⟩


set_option maxRecDepth 100000 in
set_option maxHeartbeats 800000 in
theorem nkinds_7ok {hop : Int} {back : Bool} {w : World} {a : Option Addr} {cap : Nat} {l : List UInt8} (hb : Bytes w a l.length cap l) (hl : l.length ≤ 1024) (h0 : 0 ≤ hop) (h7 : hop ≤ 7) :
    Calls Try.prog 10 #[.int .i64 7, .int .i64 hop, .bool back, .slice a l.length cap] w fun e w' => e = .returned (.bool true) ∧ Below w.heap.size w w' := by
  have E1 : noteE 7 0 false [] = 0 := by
    rw [noteE_short (fun x hx => by cases hx)]
    refine (if_neg (by show ¬ (true = false ∨ (0 : Int) < 0 ∨ (0 : Int) < 0); decide)).trans ?_
    exact if_neg (by rintro (⟨_, h | h⟩ | ⟨h, _⟩); exact absurd h (by decide); exact absurd h (by decide); exact h rfl)
  have E2 : noteE 7 0 false [l] = 1 := by
    rw [noteE_short (one_short hl)]
    exact if_pos (by show (true = false ∨ (1 : Int) < 0 ∨ (0 : Int) < 1); decide)
  have E3 : noteE 7 hop back [] = 0 := by
    rw [noteE_short (fun x hx => by cases hx)]
    refine (if_neg (by show ¬ (true = false ∨ (0 : Int) < 0 ∨ (0 : Int) < 0); decide)).trans ?_
    exact if_neg (by rintro (⟨_, h | h⟩ | ⟨h, _⟩); omega; omega; exact h rfl)
  have K1 := fun W => @ncheck_any 7 0 false none 0 0 [] W (Parts.nil W)
  have K2 := fun W pa pn pc (h : Parts W pa pn pc [l]) => @ncheck_any 7 0 false pa pn pc [l] W h
  have K3 := fun W => @ncheck_any 7 hop back none 0 0 [] W (Parts.nil W)
  rw [E1] at K1
  simp only [E2] at K2
  rw [E3] at K3
  clear E1 E2 E3
  go_enter Try.func10, Try.ntmps10
  go_wp2_with fail
  refine (live06 _).mono ?_
  rintro e w0 ⟨rfl, b0⟩
  go_wp2_with fail
  refine (K1 w0).mono ?_
  rintro e w1 ⟨rfl, b1⟩
  have B1 := below_then b0 b1
  have hb1 := hb.keep B1
  go_wp2_with fail
  refine (K2 _ _ _ _ (parts_lit w1 _ _ _ hb1)).mono ?_
  rintro e w2 ⟨rfl, b2⟩
  have B2 := below_then (B1.alloc B1.size _) b2
  go_wp2_with fail
  refine (K3 w2).mono ?_
  rintro e w3 ⟨rfl, b3⟩
  have B3 := below_then B2 b3
  clear K1 K2 K3 hb hb1 b0 b1 b2 b3 B1 B2
  go_wp2
  go_ret
  exact ⟨by first | rfl | (simp; done) | (simp; omega), B3⟩


set_option maxRecDepth 100000 in
set_option maxHeartbeats 800000 in
theorem nkinds_7lo {hop : Int} {back : Bool} {w : World} {a : Option Addr} {cap : Nat} {l : List UInt8} (hb : Bytes w a l.length cap l) (hl : l.length ≤ 1024) (h0 : hop < 0) :
    Calls Try.prog 10 #[.int .i64 7, .int .i64 hop, .bool back, .slice a l.length cap] w fun e w' => e = .returned (.bool true) ∧ Below w.heap.size w w' := by
  have E1 : noteE 7 0 false [] = 0 := by
    rw [noteE_short (fun x hx => by cases hx)]
    refine (if_neg (by show ¬ (true = false ∨ (0 : Int) < 0 ∨ (0 : Int) < 0); decide)).trans ?_
    exact if_neg (by rintro (⟨_, h | h⟩ | ⟨h, _⟩); exact absurd h (by decide); exact absurd h (by decide); exact h rfl)
  have E2 : noteE 7 0 false [l] = 1 := by
    rw [noteE_short (one_short hl)]
    exact if_pos (by show (true = false ∨ (1 : Int) < 0 ∨ (0 : Int) < 1); decide)
  have E3 : noteE 7 hop back [] = 1 := by
    rw [noteE_short (fun x hx => by cases hx)]
    refine (if_neg (by show ¬ (true = false ∨ (0 : Int) < 0 ∨ (0 : Int) < 0); decide)).trans ?_
    exact if_pos (.inl ⟨rfl, .inl h0⟩)
  have K1 := fun W => @ncheck_any 7 0 false none 0 0 [] W (Parts.nil W)
  have K2 := fun W pa pn pc (h : Parts W pa pn pc [l]) => @ncheck_any 7 0 false pa pn pc [l] W h
  have K3 := fun W => @ncheck_any 7 hop back none 0 0 [] W (Parts.nil W)
  rw [E1] at K1
  simp only [E2] at K2
  rw [E3] at K3
  clear E1 E2 E3
  go_enter Try.func10, Try.ntmps10
  go_wp2_with fail
  refine (live06 _).mono ?_
  rintro e w0 ⟨rfl, b0⟩
  go_wp2_with fail
  refine (K1 w0).mono ?_
  rintro e w1 ⟨rfl, b1⟩
  have B1 := below_then b0 b1
  have hb1 := hb.keep B1
  go_wp2_with fail
  refine (K2 _ _ _ _ (parts_lit w1 _ _ _ hb1)).mono ?_
  rintro e w2 ⟨rfl, b2⟩
  have B2 := below_then (B1.alloc B1.size _) b2
  go_wp2_with fail
  refine (K3 w2).mono ?_
  rintro e w3 ⟨rfl, b3⟩
  have B3 := below_then B2 b3
  clear K1 K2 K3 hb hb1 b0 b1 b2 b3 B1 B2
  go_wp2
  go_ret
  exact ⟨by first | rfl | (simp; done) | (simp; omega), B3⟩


set_option maxRecDepth 100000 in
set_option maxHeartbeats 800000 in
theorem nkinds_7hi {hop : Int} {back : Bool} {w : World} {a : Option Addr} {cap : Nat} {l : List UInt8} (hb : Bytes w a l.length cap l) (hl : l.length ≤ 1024) (h0 : 7 < hop) :
    Calls Try.prog 10 #[.int .i64 7, .int .i64 hop, .bool back, .slice a l.length cap] w fun e w' => e = .returned (.bool true) ∧ Below w.heap.size w w' := by
  have E1 : noteE 7 0 false [] = 0 := by
    rw [noteE_short (fun x hx => by cases hx)]
    refine (if_neg (by show ¬ (true = false ∨ (0 : Int) < 0 ∨ (0 : Int) < 0); decide)).trans ?_
    exact if_neg (by rintro (⟨_, h | h⟩ | ⟨h, _⟩); exact absurd h (by decide); exact absurd h (by decide); exact h rfl)
  have E2 : noteE 7 0 false [l] = 1 := by
    rw [noteE_short (one_short hl)]
    exact if_pos (by show (true = false ∨ (1 : Int) < 0 ∨ (0 : Int) < 1); decide)
  have E3 : noteE 7 hop back [] = 1 := by
    rw [noteE_short (fun x hx => by cases hx)]
    refine (if_neg (by show ¬ (true = false ∨ (0 : Int) < 0 ∨ (0 : Int) < 0); decide)).trans ?_
    exact if_pos (.inl ⟨rfl, .inr h0⟩)
  have K1 := fun W => @ncheck_any 7 0 false none 0 0 [] W (Parts.nil W)
  have K2 := fun W pa pn pc (h : Parts W pa pn pc [l]) => @ncheck_any 7 0 false pa pn pc [l] W h
  have K3 := fun W => @ncheck_any 7 hop back none 0 0 [] W (Parts.nil W)
  rw [E1] at K1
  simp only [E2] at K2
  rw [E3] at K3
  clear E1 E2 E3
  go_enter Try.func10, Try.ntmps10
  go_wp2_with fail
  refine (live06 _).mono ?_
  rintro e w0 ⟨rfl, b0⟩
  go_wp2_with fail
  refine (K1 w0).mono ?_
  rintro e w1 ⟨rfl, b1⟩
  have B1 := below_then b0 b1
  have hb1 := hb.keep B1
  go_wp2_with fail
  refine (K2 _ _ _ _ (parts_lit w1 _ _ _ hb1)).mono ?_
  rintro e w2 ⟨rfl, b2⟩
  have B2 := below_then (B1.alloc B1.size _) b2
  go_wp2_with fail
  refine (K3 w2).mono ?_
  rintro e w3 ⟨rfl, b3⟩
  have B3 := below_then B2 b3
  clear K1 K2 K3 hb hb1 b0 b1 b2 b3 B1 B2
  go_wp2
  go_ret
  exact ⟨by first | rfl | (simp; done) | (simp; omega), B3⟩


set_option maxRecDepth 100000 in
set_option maxHeartbeats 800000 in
theorem nkinds_other {kind hop : Int} {back : Bool} {w : World} {a : Option Addr} {cap : Nat} {l : List UInt8} (hb : Bytes w a l.length cap l) (hl : l.length ≤ 1024) (h1 : (kind == 1) = false) (h2 : (kind == 2) = false) (h3 : (kind == 3) = false) (h4 : (kind == 4) = false) (h5 : (kind == 5) = false) (h6 : (kind == 6) = false) (h7 : (kind == 7) = false) :
    Calls Try.prog 10 #[.int .i64 kind, .int .i64 hop, .bool back, .slice a l.length cap] w fun e w' => e = .returned (.bool true) ∧ Below w.heap.size w w' := by
  have E : ∀ (hop : Int) (back : Bool) (pp : List (List UInt8)), noteE kind hop back pp = 1 := fun hop back pp => by
    rw [noteE]
    exact if_pos (.inl (by simp only [beq_eq_false_iff_ne, ne_eq] at h1 h2 h3 h4 h5 h6 h7; simp [spanOf, h1, h2, h3, h4, h5, h6, h7]))
  have K1 := fun W => @ncheck_any kind 0 false none 0 0 [] W (Parts.nil W)
  have K2 := fun W pa pn pc (h : Parts W pa pn pc [l]) => @ncheck_any kind 0 false pa pn pc [l] W h
  have K3 := fun W => @ncheck_any kind hop back none 0 0 [] W (Parts.nil W)
  rw [E _ _ _] at K1
  simp only [E _ _ _] at K2
  rw [E _ _ _] at K3
  clear E
  go_enter Try.func10, Try.ntmps10
  go_wp2_with fail
  refine (live06 _).mono ?_
  rintro e w0 ⟨rfl, b0⟩
  go_wp2_with fail
  refine (K1 w0).mono ?_
  rintro e w1 ⟨rfl, b1⟩
  have B1 := below_then b0 b1
  have hb1 := hb.keep B1
  go_wp2_with fail
  refine (K2 _ _ _ _ (parts_lit w1 _ _ _ hb1)).mono ?_
  rintro e w2 ⟨rfl, b2⟩
  have B2 := below_then (B1.alloc B1.size _) b2
  go_wp2_with fail
  refine (K3 w2).mono ?_
  rintro e w3 ⟨rfl, b3⟩
  have B3 := below_then B2 b3
  clear K1 K2 K3 hb hb1 b0 b1 b2 b3 B1 B2
  go_wp2
  go_ret
  exact ⟨by first | rfl | (simp; done) | (simp; omega), B3⟩


set_option maxRecDepth 100000 in
set_option maxHeartbeats 400000 in
theorem nkinds_long {kind hop : Int} {back : Bool} {w : World} {a : Option Addr} {n cap : Nat} (hn : n ≤ 9223372036854775807) (hl : 1024 < n) :
    Calls Try.prog 10 #[.int .i64 kind, .int .i64 hop, .bool back, .slice a n cap] w fun e w' => e = .returned (.bool true) ∧ Below w.heap.size w w' := by
  go_enter Try.func10, Try.ntmps10
  go_wp2_with fail
  refine (live06 _).mono ?_
  rintro e w0 ⟨rfl, b0⟩
  go_wp2
  go_ret
  exact ⟨rfl, b0⟩

theorem noteKinds_walk {kind hop : Int} {w : World} {a : Option Addr} {n cap : Nat} {l : List UInt8} (_ : (Lit.int .i64 kind).wf = true) (_ : (Lit.int .i64 hop).wf = true) (back : Bool) (hb : Bytes w a n cap l) :
    Calls Try.prog 10 #[.int .i64 kind, .int .i64 hop, .bool back, .slice a n cap] w fun e w' => e = .returned (.bool true) ∧ Below w.heap.size w w' := by
  have hn := hb.le_i64.1
  by_cases hl : 1024 < n
  · exact nkinds_long hn hl
  have hlen := hb.len
  subst hlen
  have hl' : l.length ≤ 1024 := by omega

  by_cases h1 : kind = 1
  · subst h1
    by_cases a0 : hop = 0
    · subst a0
      cases back with
      | true => exact nkinds_1back hb hl'
      | false => exact nkinds_1ok hb hl'
    · exact nkinds_1hop hb hl' (by simpa using a0)
  by_cases h2 : kind = 2
  · subst h2
    by_cases a0 : hop = 0
    · subst a0
      cases back with
      | true => exact nkinds_2back hb hl'
      | false => exact nkinds_2ok hb hl'
    · exact nkinds_2hop hb hl' (by simpa using a0)
  by_cases h3 : kind = 3
  · subst h3
    by_cases a0 : hop = 0
    · subst a0
      cases back with
      | true => exact nkinds_3back hb hl'
      | false => exact nkinds_3ok hb hl'
    · exact nkinds_3hop hb hl' (by simpa using a0)
  by_cases h4 : kind = 4
  · subst h4
    by_cases a0 : hop = 0
    · subst a0
      cases back with
      | true => exact nkinds_4back hb hl'
      | false => exact nkinds_4ok hb hl'
    · exact nkinds_4hop hb hl' (by simpa using a0)
  by_cases h5 : kind = 5
  · subst h5
    by_cases a0 : hop = 0
    · subst a0
      cases back with
      | true => exact nkinds_5back hb hl'
      | false => exact nkinds_5ok hb hl'
    · exact nkinds_5hop hb hl' (by simpa using a0)
  by_cases h6 : kind = 6
  · subst h6
    by_cases a0 : hop = 0
    · subst a0
      cases back with
      | true => exact nkinds_6back hb hl'
      | false => exact nkinds_6ok hb hl'
    · exact nkinds_6hop hb hl' (by simpa using a0)
  by_cases h7 : kind = 7
  · subst h7
    by_cases a0 : hop < 0
    · exact nkinds_7lo hb hl' a0
    by_cases a7 : 7 < hop
    · exact nkinds_7hi hb hl' a7
    exact nkinds_7ok hb hl' (by omega) (by omega)
  exact nkinds_other hb hl' (by simpa using h1) (by simpa using h2) (by simpa using h3) (by simpa using h4) (by simpa using h5) (by simpa using h6) (by simpa using h7)
end Go.Proofs.Ytmkfpfnjimmmaaa
