/- The walk of note.Take. -/
import Derived.Test.YtmkfpfnjimmmaaaNtB
import Derived.Test.YtmkfpfnjimmmaaaNoteQ
import Derived.Deep.RegionHeld3
import Derived.Deep.DrawnRows
namespace Go.Proofs.Ytmkfpfnjimmmaaa
open Go.RowKit

theorem Parts.of_sl {e : TypeId} {U : Nat → Prop} {w : World} {a : Option Addr} {n cap : Nat} {pp : List (List UInt8)} (h : Sl (rW e) U w a n cap pp) : Parts w a n cap pp := by
  refine ⟨h.len, h.le, h.max, h.zero, fun i l hl => ?_⟩
  obtain ⟨b, off, ha, es, ⟨a', n', c', rfl, hy, _⟩, hc⟩ := h.part i l hl
  have hn := hy.len
  subst hn
  exact ⟨b, off, ha, a', c', by have := hc 0 _ rfl; rwa [show off + (i * (rW e).sz + 0) = off + i by show off + (i * 1 + 0) = _; omega] at this, hy⟩

/-- A note that may be, or none. -/
def mayN (x : NoteD) : Option NoteD := if noteE x.kind x.hop x.back x.parts = 0 then some x else none

/-- Bytes taken as a note. -/
def takeN (l : List UInt8) : Option NoteD := match l with
  | [] => none
  | kd :: r0 => match tpL r0 with
    | none => none
    | some (pp, r) =>
      if kd.toNat = 7 then (if r.length = 2 ∧ (r.getD 1 0).toNat ≤ 1 then mayN ⟨7, pp, (r.getD 0 0).toNat, (r.getD 1 0).toNat == 1⟩ else none)
      else if r.length = 0 then mayN ⟨kd.toNat, pp, 0, false⟩ else none

/-- What Take tells. -/
def Took (w : World) (q : Option NoteD) (e : Ending) (w' : World) : Prop :=
  match q with
  | none => e = .returned (.tuple #[.agg #[.int .i64 0, .slice none 0 0, .int .i64 0, .bool false], .int .i64 3]) ∧ Below w.heap.size w w'
  | some x => ∃ a n cap, e = .returned (.tuple #[.agg #[.int .i64 x.kind, .slice a n cap, .int .i64 x.hop, .bool x.back], .int .i64 0]) ∧ Sl (rW 5) (From w.heap.size) w' a n cap x.parts ∧ n ≤ 64 ∧ Below w.heap.size w w'

theorem took_none {w : World} {q : Option NoteD} (h : q = none) {e : Ending} {w' : World} (h' : e = .returned (.tuple #[.agg #[.int .i64 0, .slice none 0 0, .int .i64 0, .bool false], .int .i64 3]) ∧ Below w.heap.size w w') : Took w q e w' := by
  subst h; exact h'

theorem bcell {W w1 : World} (hb : Below W.heap.size W w1) : (∀ b o, b < W.heap.size → w1.cell? ⟨b, o, none⟩ = W.cell? ⟨b, o, none⟩) ∧ (∀ b o, b < W.heap.size → w1.frozen? ⟨b, o, none⟩ = W.frozen? ⟨b, o, none⟩) :=
  ⟨fun b o h => hb.cell (p := ⟨b, o, none⟩) h, fun b o h => hb.frozen (p := ⟨b, o, none⟩) h⟩

set_option maxRecDepth 100000 in
set_option maxHeartbeats 1600000 in
theorem take_empty {a : Option Addr} {cap : Nat} (w : World) : Calls Try.prog 45 #[.slice a 0 cap] w (Took w none) := by
  have K := cut_no (a := a) (cap := cap) (n := 0) (m := 1)
  go_enter Try.func45, Try.ntmps45
  go_wp2_with fail
  refine (K _ (by omega)).mono ?_
  rintro e w1 ⟨rfl, rfl⟩
  go_wp2
  refine bodyPost_ret (v := .tuple #[.agg #[.int .i64 0, .slice none 0 0, .int .i64 0, .bool false], .int .i64 3]) (by simp [results, Try.results45, go_sem]) rfl ⟨rfl, ?_⟩
  exact (Below.refl _ _).alloc (Nat.le_refl _) _

theorem Same.trans {U : Nat → Prop} {w w1 w2 : World} (hs : w.heap.size ≤ w1.heap.size) (h : Same U w w1) (h' : Same U w1 w2) : Same U w w2 := fun b hu hb => (h' b hu (Nat.lt_of_lt_of_le hb hs)).trans (h b hu hb)

/-- The cells of a note of the call's own. -/
def NoteAt (w : World) (g : Nat) (v0 v1 v2 v3 : Value) : Prop :=
  (w.cell? ⟨g, 0, none⟩ = some v0 ∧ w.cell? ⟨g, 1, none⟩ = some v1 ∧ w.cell? ⟨g, 2, none⟩ = some v2 ∧ w.cell? ⟨g, 3, none⟩ = some v3) ∧
  w.frozen? ⟨g, 0, none⟩ = false ∧ w.frozen? ⟨g, 1, none⟩ = false ∧ w.frozen? ⟨g, 2, none⟩ = false ∧ w.frozen? ⟨g, 3, none⟩ = false

theorem NoteAt.new (w : World) (v0 v1 v2 v3 : Value) (e : TypeId) {g : Nat} (hg : g = w.heap.size) : NoteAt (w.alloc (.cells #[v0, v1, v2, v3] e)) g v0 v1 v2 v3 := by
  subst hg
  refine ⟨⟨cell_lastAt _ _ _ rfl rfl, cell_lastAt _ _ _ rfl rfl, cell_lastAt _ _ _ rfl rfl, cell_lastAt _ _ _ rfl rfl⟩, ?_, ?_, ?_, ?_⟩ <;> (simp only [World.frozen?]; rw [heap_alloc_new]; rfl)

theorem NoteAt.keep {w w' : World} {g : Nat} {v0 v1 v2 v3 : Value} (h : NoteAt w g v0 v1 v2 v3) (hb : w'.heap[g]? = w.heap[g]?) : NoteAt w' g v0 v1 v2 v3 := by
  obtain ⟨⟨c0, c1, c2, c3⟩, f0, f1, f2, f3⟩ := h
  exact ⟨⟨(World.cell?_of_block (a := ⟨g, 0, none⟩) hb).trans c0, (World.cell?_of_block (a := ⟨g, 1, none⟩) hb).trans c1, (World.cell?_of_block (a := ⟨g, 2, none⟩) hb).trans c2, (World.cell?_of_block (a := ⟨g, 3, none⟩) hb).trans c3⟩,
    (World.frozen?_of_block (a := ⟨g, 0, none⟩) hb).trans f0, (World.frozen?_of_block (a := ⟨g, 1, none⟩) hb).trans f1, (World.frozen?_of_block (a := ⟨g, 2, none⟩) hb).trans f2, (World.frozen?_of_block (a := ⟨g, 3, none⟩) hb).trans f3⟩

theorem NoteAt.lt {w : World} {g : Nat} {v0 v1 v2 v3 : Value} (h : NoteAt w g v0 v1 v2 v3) : g < w.heap.size := World.block_lt_of_cell? _ ⟨g, 0, none⟩ h.1.1

theorem NoteAt.set1 {w : World} {g : Nat} {v0 v1 v2 v3 : Value} (h : NoteAt w g v0 v1 v2 v3) (v : Value) : NoteAt (w.setCell ⟨g, 1, none⟩ v) g v0 v v2 v3 := by
  obtain ⟨⟨c0, c1, c2, c3⟩, f0, f1, f2, f3⟩ := h
  exact ⟨⟨by rw [World.cell?_setCell_other _ _ _ _ (by simp)]; exact c0, World.cell?_setCell_same _ _ _ c1, by rw [World.cell?_setCell_other _ _ _ _ (by simp)]; exact c2, by rw [World.cell?_setCell_other _ _ _ _ (by simp)]; exact c3⟩,
    by rw [World.frozen?_setCell]; exact f0, by rw [World.frozen?_setCell]; exact f1, by rw [World.frozen?_setCell]; exact f2, by rw [World.frozen?_setCell]; exact f3⟩
theorem NoteAt.set2 {w : World} {g : Nat} {v0 v1 v2 v3 : Value} (h : NoteAt w g v0 v1 v2 v3) (v : Value) : NoteAt (w.setCell ⟨g, 2, none⟩ v) g v0 v1 v v3 := by
  obtain ⟨⟨c0, c1, c2, c3⟩, f0, f1, f2, f3⟩ := h
  exact ⟨⟨by rw [World.cell?_setCell_other _ _ _ _ (by simp)]; exact c0, by rw [World.cell?_setCell_other _ _ _ _ (by simp)]; exact c1, World.cell?_setCell_same _ _ _ c2, by rw [World.cell?_setCell_other _ _ _ _ (by simp)]; exact c3⟩,
    by rw [World.frozen?_setCell]; exact f0, by rw [World.frozen?_setCell]; exact f1, by rw [World.frozen?_setCell]; exact f2, by rw [World.frozen?_setCell]; exact f3⟩
theorem NoteAt.set3 {w : World} {g : Nat} {v0 v1 v2 v3 : Value} (h : NoteAt w g v0 v1 v2 v3) (v : Value) : NoteAt (w.setCell ⟨g, 3, none⟩ v) g v0 v1 v2 v := by
  obtain ⟨⟨c0, c1, c2, c3⟩, f0, f1, f2, f3⟩ := h
  exact ⟨⟨by rw [World.cell?_setCell_other _ _ _ _ (by simp)]; exact c0, by rw [World.cell?_setCell_other _ _ _ _ (by simp)]; exact c1, by rw [World.cell?_setCell_other _ _ _ _ (by simp)]; exact c2, World.cell?_setCell_same _ _ _ c3⟩,
    by rw [World.frozen?_setCell]; exact f0, by rw [World.frozen?_setCell]; exact f1, by rw [World.frozen?_setCell]; exact f2, by rw [World.frozen?_setCell]; exact f3⟩
theorem NoteAt.far {w : World} {g : Nat} {v0 v1 v2 v3 : Value} (h : NoteAt w g v0 v1 v2 v3) (p : Addr) (v : Value) (hp : p.block ≠ g) : NoteAt (w.setCell p v) g v0 v1 v2 v3 :=
  h.keep (Below.heap_setCell w p v g (fun e => hp e.symm))
theorem NoteAt.drewN {w : World} {g : Nat} {v0 v1 v2 v3 : Value} (h : NoteAt w g v0 v1 v2 v3) (n : Nat) : NoteAt (w.drewN n) g v0 v1 v2 v3 := h.keep rfl

set_option maxRecDepth 100000 in
set_option maxHeartbeats 3200000 in
theorem take_some {b off n cap : Nat} {kd : UInt8} {r0 : List UInt8} {w : World} (h : Bytes w (some ⟨b, off, none⟩) n cap (kd :: r0)) :
    Calls Try.prog 45 #[.slice (some ⟨b, off, none⟩) n cap] w (Took w (takeN (kd :: r0))) := by
  have hln := h.len
  have h1 : 1 ≤ n := by simp at hln; omega
  have hc0 : w.cell? ⟨b, off, none⟩ = some (.int .u8 (kd.toNat : Int)) := by
    obtain ⟨b', off', e, hc⟩ := h.at (by simp)
    cases e
    exact hc 0 (by simp)
  have hbl : b < w.heap.size := World.block_lt_of_cell? _ _ hc0
  have hk8 : (kd.toNat : Int) < 256 := by have := kd.toNat_lt; omega
  have hD := Lib.hid (h.drop h1)
  have K := fun W => cut_yes (a := some ⟨b, off, none⟩) (cap := cap) W h1 h.le
  obtain ⟨W1, hW1⟩ : ∃ W1, W1 = w.alloc (.cells #[.int .i64 0, .slice none 0 0, .int .i64 0, .bool false] 39) := ⟨_, rfl⟩
  have b0 : Below w.heap.size w W1 := by rw [hW1]; exact (Below.refl w.heap.size w).alloc (Nat.le_refl _) _
  have hs1 : W1.heap.size = w.heap.size + 1 := by rw [hW1]; simp
  have hN0 : NoteAt W1 w.heap.size (.int .i64 0) (.slice none 0 0) (.int .i64 0) (.bool false) := by rw [hW1]; exact NoteAt.new _ _ _ _ _ _ rfl
  have HW1 := Lib.hid hW1
  have HN0 := Lib.hid hN0
  have Hs1 := Lib.hid hs1
  have HT : Hid (takeN (kd :: r0) = match tpL r0 with
    | none => none
    | some (pp, r) =>
      if kd.toNat = 7 then (if r.length = 2 ∧ (r.getD 1 0).toNat ≤ 1 then mayN ⟨7, pp, (r.getD 0 0).toNat, (r.getD 1 0).toNat == 1⟩ else none)
      else if r.length = 0 then mayN ⟨kd.toNat, pp, 0, false⟩ else none) := rfl
  obtain ⟨Q, hQ⟩ : ∃ Q, Q = takeN (kd :: r0) := ⟨_, rfl⟩
  rw [← hQ] at HT ⊢
  rw [List.drop_one, List.tail_cons] at hD
  obtain ⟨n2, hn2⟩ : ∃ n2, n2 = n - 1 := ⟨_, rfl⟩
  obtain ⟨c2, hc2⟩ : ∃ c2, c2 = cap - 1 := ⟨_, rfl⟩
  rw [← hn2, ← hc2] at hD K
  have HK := Lib.hid K
  clear hn2 hc2 hW1 hN0 hs1 hQ K hln h
  generalize subA (some ⟨b, off, none⟩) 1 cap = A2 at *
  go_enter Try.func45, Try.ntmps45
  go_wp2_with fail
  rw [← HW1.out]
  refine (HK.out _).mono ?_
  rintro e w1 ⟨rfl, hb1⟩
  have B1 := below_then b0 hb1
  have hc1 : w1.cell? ⟨b, off, none⟩ = some (.int .u8 (kd.toNat : Int)) := (B1.cell (p := ⟨b, off, none⟩) hbl).trans hc0
  have hsz1 : w.heap.size < w1.heap.size := by have := hb1.size; have := Hs1.out; omega
  have hcl : ∀ o : Obj, (w1.alloc o).cell? ⟨b, off, none⟩ = some (.int .u8 (kd.toNat : Int)) := fun o => cell_underAt hc1
  go_wp2_with fail
  obtain ⟨W2, hW2⟩ : ∃ W2, W2 = w1.alloc (.cells #[.int .i64 (kd.toNat : Int), .slice none 0 0, .int .i64 0, .bool false] 39) := ⟨_, rfl⟩
  obtain ⟨g, hg⟩ : ∃ g, g = w1.heap.size := ⟨_, rfl⟩
  have hs2 : W2.heap.size = g + 1 := by rw [hW2, hg]; simp
  have B2 : Below w.heap.size w W2 := by rw [hW2]; exact B1.alloc (by omega) _
  have N2 : NoteAt W2 g (.int .i64 (kd.toNat : Int)) (.slice none 0 0) (.int .i64 0) (.bool false) := by rw [hW2]; exact NoteAt.new _ _ _ _ _ _ hg
  have N0 : NoteAt W2 w.heap.size (.int .i64 0) (.slice none 0 0) (.int .i64 0) (.bool false) := by
    rw [hW2]
    refine HN0.out.keep ?_
    rw [Below.heap_alloc _ _ _ hsz1]
    exact hb1.block _ HN0.out.lt
  rw [← hW2, ← hg]
  have hgH : w.heap.size < g := by rw [hg]; exact hsz1
  have T := takeParts_any (U := fun b => b < w.heap.size) (hD.out.keep B2) (fun hn x hx => ((hD.out.in_lt (U := Any) (fun _ _ _ => trivial)) hn x hx).2)
  clear hcl hc1 hb1 B1 hW2 hg hsz1
  refine T.mono ?_
  clear T
  intro e w3 hT
  cases hq : tpL r0 with
  | none =>
    rw [hq] at hT HT
    obtain ⟨rfl, hb3⟩ := hT
    have B3 := below_then B2 hb3
    obtain ⟨⟨c0, c1, c2, c3⟩, f0, f1, f2, f3⟩ := N2.keep (hb3.block g (by omega))
    obtain ⟨⟨d0, d1, d2, d3⟩, e0, e1, e2, e3⟩ := N0.keep (hb3.block w.heap.size (by omega))
    clear hq
    go_wp2
    refine bodyPost_ret (v := .tuple #[.agg #[.int .i64 0, .slice none 0 0, .int .i64 0, .bool false], .int .i64 3]) (by simp [results, Try.results45, go_sem, *]) rfl ?_
    refine took_none HT.out ⟨rfl, ?_⟩
    exact ((((B3.setCell (by show _ ≤ g; omega) _).setCell (Nat.le_refl _) _).setCell (Nat.le_refl _) _).setCell (Nat.le_refl _) _).setCell (Nat.le_refl _) _
  | some q =>
    obtain ⟨pp, r⟩ := q
    rw [hq] at hT HT
    obtain ⟨a, n3, cap3, a4, n4, c4, rfl, SL, hr, hin, h64, hb3⟩ := hT
    rw [hs2] at SL hb3
    have B3 := below_then B2 (by rw [hs2]; exact hb3)
    have M2 := N2.keep (hb3.block g (by omega))
    have M0 := N0.keep (hb3.block w.heap.size (by omega))
    have E2 := Lib.hid (M2.set1 (.slice a n3 cap3))
    have E0 := Lib.hid (M0.far ⟨g, 1, none⟩ (.slice a n3 cap3) (by show g ≠ _; omega))
    have SL1 := Lib.hid (SL.same (Same.setCell w3 (p := ⟨g, 1, none⟩) (.slice a n3 cap3) (by show ¬ (g + 1 ≤ g); omega)))
    have BB := Lib.hid (B3.setCell (p := ⟨g, 1, none⟩) (by show _ ≤ g; omega) (.slice a n3 cap3))
    obtain ⟨⟨c0, c1, c2, c3⟩, f0, f1, f2, f3⟩ := M2
    obtain ⟨⟨d0, d1, d2, d3⟩, e0, e1, e2, e3⟩ := M0
    have hHg : ¬ w.heap.size = g := by omega
    clear hq N2 N0 SL
    by_cases h7 : kd.toNat = 7
    · have h7i : (kd.toNat : Int) = 7 := by omega
      rw [h7i] at c0 E2 hk8 ⊢
      clear h7i
      by_cases hr2 : n4 = 2
      · subst hr2
        obtain ⟨x, y, rfl⟩ : ∃ x y, r = [x, y] := by
          match r, hr.len with
          | [x, y], _ => exact ⟨x, y, rfl⟩
        obtain ⟨b4, off4, rfl, hcr⟩ := hr.at (by simp)
        have hx : w3.cell? ⟨b4, off4, none⟩ = some (.int .u8 (x.toNat : Int)) := hcr 0 (by simp)
        have hy : w3.cell? ⟨b4, off4 + 1, none⟩ = some (.int .u8 (y.toNat : Int)) := hcr 1 (by simp)
        have hb4 : b4 < w.heap.size := hin (by omega) _ rfl
        have hx8 : (x.toNat : Int) < 256 := by have := x.toNat_lt; omega
        have hy8 : (y.toNat : Int) < 256 := by have := y.toNat_lt; omega
        have hcap4 : 2 ≤ c4 := hr.le
        have hb4g : ¬ b4 = g := by omega
        clear hr hin hcr
        by_cases hy1 : 1 < y.toNat
        · have HT2 : Hid (Q = none) := by
            show _ = _
            rw [HT.out]
            simp only
            rw [if_pos h7, if_neg (by simp; omega)]
          have hy1' : (1 : Int) < (y.toNat : Int) := by omega
          clear HT h7
          go_wp2
          refine bodyPost_ret (v := .tuple #[.agg #[.int .i64 0, .slice none 0 0, .int .i64 0, .bool false], .int .i64 3]) (by simp [results, Try.results45, go_sem, *]) rfl ?_
          refine took_none HT2.out ⟨rfl, ?_⟩
          exact (((BB.out.setCell (Nat.le_refl _) _).setCell (Nat.le_refl _) _).setCell (Nat.le_refl _) _).setCell (Nat.le_refl _) _
        · have hy1' : ¬ ((1 : Int) < (y.toNat : Int)) := by omega
          obtain ⟨BK, hBK⟩ : ∃ BK, BK = (y.toNat == 1) := ⟨_, rfl⟩
          have hyb : ((y.toNat : Int) == 1) = BK := by
            rw [hBK, Bool.eq_iff_iff]; simp; omega
          have HT2 : Hid (Q = mayN ⟨7, pp, x.toNat, BK⟩) := by
            show _ = _
            rw [HT.out]
            simp only
            rw [if_pos h7, if_pos (by simp; omega), hBK]
            rfl
          clear HT h7 hBK hy1
          have hx0 : (0 : Int) ≤ (x.toNat : Int) := by omega
          generalize (y.toNat : Int) = yn at *
          generalize hxn : (x.toNat : Int) = xn at *
          clear hxn
          go_wp2_with fail
          obtain ⟨W4, hW4⟩ : ∃ W4, W4 = w3.setCell ⟨g, 1, none⟩ (.slice a n3 cap3) := ⟨_, rfl⟩
          rw [← hW4] at E2 E0 SL1 BB ⊢
          have hx4 : W4.cell? ⟨b4, off4, none⟩ = some (.int .u8 xn) := by rw [hW4, World.cell?_setCell_far _ _ _ _ (by show g ≠ b4; omega)]; exact hx
          have hy4 : W4.cell? ⟨b4, off4 + 1, none⟩ = some (.int .u8 yn) := by rw [hW4, World.cell?_setCell_far _ _ _ _ (by show g ≠ b4; omega)]; exact hy
          clear hx hy c0 c1 c2 c3 d0 d1 d2 d3 f0 f1 f2 f3 e0 e1 e2 e3 hW4
          obtain ⟨⟨c0, c1, c2, c3⟩, f0, f1, f2, f3⟩ := E2.out
          have hgb : ¬ g = b4 := by omega
          have hwx : IntKind.i64.wrap xn = xn := by rw [IntKind.wrap_i64]; omega
          go_region_held3 (fun W => W.cell? ⟨b4, off4, none⟩ = some (.int .u8 xn) ∧ W.cell? ⟨b4, off4 + 1, none⟩ = some (.int .u8 yn)) (go_keep) (fail)
          · go_wp2_with fail
            obtain ⟨W5, hW5⟩ : ∃ W5, W5 = ((W4.setCell ⟨g, 2, none⟩ (.int .i64 xn)).setCell ⟨g, 3, none⟩ (.bool BK)).drew := ⟨_, rfl⟩
            rw [← hW5]
            have EW2 : Hid (NoteAt W5 g (.int .i64 7) (.slice a n3 cap3) (.int .i64 xn) (.bool BK)) := by
              rw [hW5]; exact ((E2.out.set2 _).set3 _).keep rfl
            have EW0 : Hid (NoteAt W5 w.heap.size (.int .i64 0) (.slice none 0 0) (.int .i64 0) (.bool false)) := by
              rw [hW5]; exact ((E0.out.far _ _ (by show g ≠ _; omega)).far _ _ (by show g ≠ _; omega)).keep rfl
            have BW : Hid (Below w.heap.size w W5) := by
              show Below _ _ _
              rw [hW5]; exact ((BB.out.setCell (by show _ ≤ g; omega) _).setCell (by show _ ≤ g; omega) _).drew
            have SLW : Hid (Sl (rW 5) (From (g + 1)) W5 a n3 cap3 pp) := by
              rw [hW5]; exact ((SL1.out.same (Same.setCell _ _ (by show ¬ (g + 1 ≤ g); omega))).same (Same.setCell _ _ (by show ¬ (g + 1 ≤ g); omega))).same (fun _ _ _ => rfl)
            have C := @ncheck_any 7 xn BK a n3 cap3 pp _ (Parts.of_sl SLW.out)
            clear hW5 E2 E0 BB SL1 c0 c1 c2 c3 f0 f1 f2 f3 hx4 hy4
            refine C.mono ?_
            rintro e w5 ⟨rfl, hb5⟩
            obtain ⟨⟨c0, c1, c2, c3⟩, f0, f1, f2, f3⟩ := EW2.out.keep (hb5.block g EW2.out.lt)
            obtain ⟨⟨d0, d1, d2, d3⟩, e0, e1, e2, e3⟩ := EW0.out.keep (hb5.block w.heap.size EW0.out.lt)
            have B5 := Lib.hid (below_then BW.out hb5)
            have SL5 := Lib.hid (SLW.out.keep hb5)
            clear C hb5
            by_cases hE : noteE 7 xn BK pp = 0
            · have HT3 : Hid (Q = some ⟨7, pp, xn, BK⟩) := by
                show _ = _
                rw [HT2.out, mayN, if_pos hE]
              rw [hE]
              clear hE
              go_wp2
              refine bodyPost_ret (v := .tuple #[.agg #[.int .i64 7, .slice a n3 cap3, .int .i64 xn, .bool BK], .int .i64 0]) (by simp [results, Try.results45, go_sem, *]) rfl ?_
              rw [HT3.out]
              refine ⟨a, n3, cap3, rfl, ?_, h64, ?_⟩
              · refine Sl.mono (U := From (g + 1)) (fun b hb => Nat.le_trans (Nat.le_of_lt (Nat.lt_succ_of_lt hgH)) hb) ?_
                exact (((SL5.out.same (Same.setCell _ _ (by show ¬ (g + 1 ≤ w.heap.size); omega))).same (Same.setCell _ _ (by show ¬ (g + 1 ≤ w.heap.size); omega))).same (Same.setCell _ _ (by show ¬ (g + 1 ≤ w.heap.size); omega))).same (Same.setCell _ _ (by show ¬ (g + 1 ≤ w.heap.size); omega))
              · exact (((B5.out.setCell (Nat.le_refl _) _).setCell (Nat.le_refl _) _).setCell (Nat.le_refl _) _).setCell (Nat.le_refl _) _
            · have hEb : (noteE 7 xn BK pp != 0) = true := by rw [bne_iff_ne]; exact hE
              have HT3 : Hid (Q = none) := by
                show _ = _
                rw [HT2.out, mayN, if_neg hE]
              clear hE
              go_wp2
              refine bodyPost_ret (v := .tuple #[.agg #[.int .i64 0, .slice none 0 0, .int .i64 0, .bool false], .int .i64 3]) (by simp [results, Try.results45, go_sem, *]) rfl ?_
              refine took_none HT3.out ⟨rfl, ?_⟩
              exact (((B5.out.setCell (Nat.le_refl _) _).setCell (Nat.le_refl _) _).setCell (Nat.le_refl _) _).setCell (Nat.le_refl _) _
      · have hne : ((n4 : Int) != 2) = true := by rw [bne_iff_ne]; omega
        have HT2 : Hid (Q = none) := by
          show _ = _
          rw [HT.out]
          simp only
          rw [if_pos h7, if_neg (by rw [hr.len]; exact fun h => hr2 h.1)]
        clear HT h7
        go_wp2
        refine bodyPost_ret (v := .tuple #[.agg #[.int .i64 0, .slice none 0 0, .int .i64 0, .bool false], .int .i64 3]) (by simp [results, Try.results45, go_sem, *]) rfl ?_
        refine took_none HT2.out ⟨rfl, ?_⟩
        exact (((BB.out.setCell (Nat.le_refl _) _).setCell (Nat.le_refl _) _).setCell (Nat.le_refl _) _).setCell (Nat.le_refl _) _
    · have h7b : ((kd.toNat : Int) == 7) = false := by rw [beq_eq_false_iff_ne]; omega
      by_cases hr0 : n4 = 0
      · have HT2 : Hid (Q = mayN ⟨kd.toNat, pp, 0, false⟩) := by
          show _ = _
          rw [HT.out]
          simp only
          rw [if_neg h7, if_pos (by rw [hr.len]; exact hr0)]
        subst hr0
        clear HT h7
        have EW2 := E2
        have EW0 := E0
        have BW := BB
        have SLW := SL1
        have C := @ncheck_any (kd.toNat : Int) 0 false a n3 cap3 pp _ (Parts.of_sl SLW.out)
        go_wp2_with fail
        clear c0 c1 c2 c3 d0 d1 d2 d3 f0 f1 f2 f3 e0 e1 e2 e3
        refine C.mono ?_
        rintro e w5 ⟨rfl, hb5⟩
        obtain ⟨⟨c0, c1, c2, c3⟩, f0, f1, f2, f3⟩ := EW2.out.keep (hb5.block g EW2.out.lt)
        obtain ⟨⟨d0, d1, d2, d3⟩, e0, e1, e2, e3⟩ := EW0.out.keep (hb5.block w.heap.size EW0.out.lt)
        have B5 := Lib.hid (below_then BW.out hb5)
        have SL5 := Lib.hid (SLW.out.keep hb5)
        clear C hb5
        by_cases hE : noteE (kd.toNat : Int) 0 false pp = 0
        · have HT3 : Hid (Q = some ⟨(kd.toNat : Int), pp, 0, false⟩) := by
            show _ = _
            rw [HT2.out, mayN, if_pos hE]
          rw [hE]
          clear hE
          go_wp2
          refine bodyPost_ret (v := .tuple #[.agg #[.int .i64 (kd.toNat : Int), .slice a n3 cap3, .int .i64 0, .bool false], .int .i64 0]) (by simp [results, Try.results45, go_sem, *]) rfl ?_
          rw [HT3.out]
          refine ⟨a, n3, cap3, rfl, ?_, h64, ?_⟩
          · refine Sl.mono (U := From (g + 1)) (fun b hb => Nat.le_trans (Nat.le_of_lt (Nat.lt_succ_of_lt hgH)) hb) ?_
            exact (((SL5.out.same (Same.setCell _ _ (by show ¬ (g + 1 ≤ w.heap.size); omega))).same (Same.setCell _ _ (by show ¬ (g + 1 ≤ w.heap.size); omega))).same (Same.setCell _ _ (by show ¬ (g + 1 ≤ w.heap.size); omega))).same (Same.setCell _ _ (by show ¬ (g + 1 ≤ w.heap.size); omega))
          · exact (((B5.out.setCell (Nat.le_refl _) _).setCell (Nat.le_refl _) _).setCell (Nat.le_refl _) _).setCell (Nat.le_refl _) _
        · have hEb : (noteE (kd.toNat : Int) 0 false pp != 0) = true := by rw [bne_iff_ne]; exact hE
          have HT3 : Hid (Q = none) := by
            show _ = _
            rw [HT2.out, mayN, if_neg hE]
          clear hE
          go_wp2
          refine bodyPost_ret (v := .tuple #[.agg #[.int .i64 0, .slice none 0 0, .int .i64 0, .bool false], .int .i64 3]) (by simp [results, Try.results45, go_sem, *]) rfl ?_
          refine took_none HT3.out ⟨rfl, ?_⟩
          exact (((B5.out.setCell (Nat.le_refl _) _).setCell (Nat.le_refl _) _).setCell (Nat.le_refl _) _).setCell (Nat.le_refl _) _
      · have hne : ((n4 : Int) != 0) = true := by rw [bne_iff_ne]; omega
        have HT2 : Hid (Q = none) := by
          show _ = _
          rw [HT.out]
          simp only
          rw [if_neg h7, if_neg (by rw [hr.len]; exact hr0)]
        clear HT h7
        go_wp2
        refine bodyPost_ret (v := .tuple #[.agg #[.int .i64 0, .slice none 0 0, .int .i64 0, .bool false], .int .i64 3]) (by simp [results, Try.results45, go_sem, *]) rfl ?_
        refine took_none HT2.out ⟨rfl, ?_⟩
        exact (((BB.out.setCell (Nat.le_refl _) _).setCell (Nat.le_refl _) _).setCell (Nat.le_refl _) _).setCell (Nat.le_refl _) _

theorem ntake_any {a : Option Addr} {n cap : Nat} {l : List UInt8} {w : World} (h : Bytes w a n cap l) :
    Calls Try.prog 45 #[.slice a n cap] w (Took w (takeN l)) := by
  cases l with
  | nil =>
    obtain rfl : n = 0 := by simpa using h.len.symm
    exact take_empty w
  | cons kd r0 =>
    obtain ⟨b, off, rfl, _⟩ := h.at (by simp)
    exact take_some h
end Go.Proofs.Ytmkfpfnjimmmaaa
