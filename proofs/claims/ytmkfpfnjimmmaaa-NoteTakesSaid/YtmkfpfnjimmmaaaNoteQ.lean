/- The walk of note.Put. -/
import Derived.Test.YtmkfpfnjimmmaaaNoteP
namespace Go.Proofs.Ytmkfpfnjimmmaaa
open Go.RowKit

def partsL : List (List UInt8) → List UInt8
  | [] => []
  | l :: r => putL l.length 2 ++ (l ++ partsL r)
theorem partsL_append (a b : List (List UInt8)) : partsL (a ++ b) = partsL a ++ partsL b := by
  induction a with
  | nil => rfl
  | cons l r ih => simp [partsL, ih]

def tailL (kind hop : Int) (back : Bool) : List UInt8 := if kind = 7 then [UInt8.ofNat hop.toNat, if back then 1 else 0] else []
def noteL (kind hop : Int) (back : Bool) (pp : List (List UInt8)) : List UInt8 := UInt8.ofNat kind.toNat :: (putL pp.length 2 ++ (partsL pp ++ tailL kind hop back))

theorem noteE_zero {kind hop : Int} {back : Bool} {pp : List (List UInt8)} (h : noteE kind hop back pp = 0) : 1 ≤ kind ∧ kind ≤ 7 ∧ pp.length ≤ 64 ∧ (∀ l ∈ pp, l.length ≤ 1024) ∧ (kind = 7 → 0 ≤ hop ∧ hop ≤ 7) ∧ (kind ≠ 7 → hop = 0 ∧ back = false) := by
  unfold noteE at h
  by_cases h1 : (spanOf kind).2.2 = false ∨ (pp.length : Int) < (spanOf kind).1 ∨ (spanOf kind).2.1 < pp.length
  · rw [if_pos h1] at h; cases h
  rw [if_neg h1] at h
  by_cases h2 : (kind = 7 ∧ (hop < 0 ∨ 7 < hop)) ∨ (kind ≠ 7 ∧ (hop ≠ 0 ∨ back = true))
  · rw [if_pos h2] at h; cases h
  rw [if_neg h2] at h
  by_cases h3 : ∃ l ∈ pp, 1024 < l.length
  · rw [if_pos h3] at h; cases h
  have hk : (1 ≤ kind ∧ kind ≤ 7) ∧ (spanOf kind).2.1 ≤ 64 := by
    unfold spanOf at h1 ⊢
    by_cases a1 : kind = 1
    · subst a1; exact ⟨by decide, by decide⟩
    by_cases a2 : kind = 2
    · subst a2; exact ⟨by decide, by decide⟩
    by_cases a3 : kind = 3
    · subst a3; exact ⟨by decide, by decide⟩
    by_cases a4 : kind = 4
    · subst a4; exact ⟨by decide, by decide⟩
    by_cases a5 : kind = 5
    · subst a5; exact ⟨by decide, by decide⟩
    by_cases a6 : kind = 6
    · subst a6; exact ⟨by decide, by decide⟩
    by_cases a7 : kind = 7
    · subst a7; exact ⟨by decide, by decide⟩
    · exact absurd (.inl (by simp [a1, a2, a3, a4, a5, a6, a7])) h1
  have hlen : (pp.length : Int) ≤ (spanOf kind).2.1 := by
    rcases Int.lt_or_le (spanOf kind).2.1 pp.length with h' | h'
    · exact absurd (.inr (.inr h')) h1
    · exact h'
  refine ⟨hk.1.1, hk.1.2, by omega, fun l hl => ?_, fun h7 => ?_, fun h7 => ?_⟩
  · rcases Nat.lt_or_ge 1024 l.length with h' | h'
    · exact absurd ⟨l, hl, h'⟩ h3
    · exact h'
  · constructor
    · rcases Int.lt_or_le hop 0 with h' | h'
      · exact absurd (.inl ⟨h7, .inl h'⟩) h2
      · exact h'
    · rcases Int.lt_or_le 7 hop with h' | h'
      · exact absurd (.inl ⟨h7, .inr h'⟩) h2
      · exact h'
  · constructor
    · by_cases h' : hop = 0
      · exact h'
      · exact absurd (.inr ⟨h7, .inl h'⟩) h2
    · cases back with
      | false => rfl
      | true => exact absurd (.inr ⟨h7, .inr rfl⟩) h2

theorem partsL_len {pp : List (List UInt8)} (h : ∀ l ∈ pp, l.length ≤ 1024) : (partsL pp).length ≤ pp.length * 1026 := by
  induction pp with
  | nil => simp [partsL]
  | cons l r ih =>
    have h1 := h l (List.mem_cons_self ..)
    have h2 := ih fun x hx => h x (List.mem_cons_of_mem _ hx)
    simp only [partsL, List.length_append, length_putL, List.length_cons, Nat.succ_mul]
    omega

theorem freshB_over {e : TypeId} {w W0 W : World} {a : Option Addr} {n cap : Nat} {L : List UInt8} (ho : W.ownsRow (w.heap.size + 1) e 1 (.slice a n cap) n (L.map B)) (h0 : Below w.heap.size w W0) (hb : Below (w.heap.size + 1) W0 W) : FreshB e w W a n cap L := by
  obtain ⟨a', c', hv, hF⟩ := FreshB.of (owns_mono ho (Nat.le_succ _)) (h0.trans (hb.mono (Nat.le_succ _)))
  cases hv
  exact hF

theorem enters_number (us : Array Value) (u : World) : (callFunc 70 us).run Try.prog u = .ok (.enter 70 us) u := by kernel_rfl

/-- What stands behind the head: the kind's byte and how many parts. -/
def Headed (w : World) (kind : Int) (pn : Nat) (W0 : World) (s5 : Value) (wx : World) : Prop :=
  ∃ a cap, s5 = .slice a 3 cap ∧ wx.ownsRow (w.heap.size + 1) 5 1 (.slice a 3 cap) 3 ((UInt8.ofNat kind.toNat :: putL pn 2).map B) ∧ Below (w.heap.size + 1) W0 wx

set_option maxRecDepth 100000 in
set_option maxHeartbeats 1600000 in
theorem nput_yes {kind hop : Int} {back : Bool} {pa : Option Addr} {pn pc : Nat} {pp : List (List UInt8)} {w : World} (hp : Parts w pa pn pc pp) (hE : noteE kind hop back pp = 0) :
    Calls Try.prog 36 #[.agg #[.int .i64 kind, .slice pa pn pc, .int .i64 hop, .bool back]] w fun e w' => ∃ a cap n, e = .returned (.tuple #[.slice a n cap, .int .i64 0]) ∧ FreshB 5 w w' a n cap (noteL kind hop back pp) := by
  obtain ⟨i0, hi, hz0, hz1, hz2⟩ := info_parts info_u8
  obtain ⟨hk1, hk7, h64, hlong, hhop, hrest⟩ := noteE_zero hE
  obtain ⟨kd, rfl⟩ := Int.eq_ofNat_of_zero_le (show 0 ≤ kind by omega)
  have hpl := Lib.hid hp.len
  rw [hpl.out] at h64
  have HLong := Lib.hid hlong
  have HHop := Lib.hid hhop
  have HRest := Lib.hid hrest
  clear hlong hhop hrest
  have b0 := (Below.refl w.heap.size w).alloc (Nat.le_refl _) (.cells #[.int .i64 kd, .slice pa pn pc, .int .i64 hop, .bool back] 39)
  have hck := @ncheck_any kd hop back pa pn pc pp _ (hp.keep b0)
  rw [hE] at hck
  obtain ⟨W0, hW0⟩ : ∃ W0, W0 = w.alloc (.cells #[.int .i64 kd, .slice pa pn pc, .int .i64 hop, .bool back] 39) := ⟨_, rfl⟩
  have hs0 : W0.heap.size = w.heap.size + 1 := by rw [hW0]; simp
  have hp0 : Parts W0 pa pn pc pp := by rw [hW0]; exact hp.keep b0
  have c0 : W0.cell? ⟨w.heap.size, 0, none⟩ = some (.int .i64 kd) := by rw [hW0]; exact cell_lastAt _ _ _ rfl rfl
  have c1 : W0.cell? ⟨w.heap.size, 1, none⟩ = some (.slice pa pn pc) := by rw [hW0]; exact cell_lastAt _ _ _ rfl rfl
  have c2 : W0.cell? ⟨w.heap.size, 2, none⟩ = some (.int .i64 hop) := by rw [hW0]; exact cell_lastAt _ _ _ rfl rfl
  have c3 : W0.cell? ⟨w.heap.size, 3, none⟩ = some (.bool back) := by rw [hW0]; exact cell_lastAt _ _ _ rfl rfl
  have HC : Hid (∀ W, Below (w.heap.size + 1) W0 W → W.cell? ⟨w.heap.size, 0, none⟩ = some (.int .i64 kd) ∧ W.cell? ⟨w.heap.size, 1, none⟩ = some (.slice pa pn pc) ∧ W.cell? ⟨w.heap.size, 2, none⟩ = some (.int .i64 hop) ∧ W.cell? ⟨w.heap.size, 3, none⟩ = some (.bool back)) := fun W hW =>
    ⟨(hW.cell (p := ⟨w.heap.size, 0, none⟩) (Nat.lt_succ_self _)).trans c0, (hW.cell (p := ⟨w.heap.size, 1, none⟩) (Nat.lt_succ_self _)).trans c1, (hW.cell (p := ⟨w.heap.size, 2, none⟩) (Nat.lt_succ_self _)).trans c2, (hW.cell (p := ⟨w.heap.size, 3, none⟩) (Nat.lt_succ_self _)).trans c3⟩
  have HW : Hid (Below w.heap.size w W0) := by show Below _ _ _; rw [hW0]; exact b0
  have HW0 := Lib.hid hW0
  clear c0 c1 c2 c3 hp b0
  go_enter Try.func36, Try.ntmps36
  go_wp2_with fail
  refine hck.mono ?_
  rintro e w1 ⟨rfl, hb1⟩
  rw [← hW0, hs0] at hb1
  obtain ⟨hc0, hc1, hc2, hc3⟩ := HC.out w1 hb1
  clear hck hW0
  have hsz1 := hb1.size
  rw [hs0] at hsz1
  go_upto_region 4 with fail
  go_cut [5] (fun s5 wx => Headed w kd pn W0 s5 wx)
  case first =>
    have hwk : IntKind.u8.wrap (kd : Int) = (kd : Int) := by simp [IntKind.wrap, IntKind.bits, IntKind.signed]; omega
    have hpn : pn < 65536 := by omega
    have hA0 := fun o : Obj => cell_underAt (o := o) hc0
    have hA1 := fun o : Obj => cell_underAt (o := o) hc1
    have hm1 : 1 ≤ maxLen := by unfold maxLen; omega
    have hm3 : 1 + 2 ≤ maxLen := by unfold maxLen; omega
    have hby3 : (1 + 2) * 1 ≤ 140737488355328 := by omega
    have HB1 := Lib.hid hb1
    have hq1 : ∀ o, w.heap.size + 1 ≤ (w1.alloc o).drew.heap.size := fun o => Nat.le_trans hsz1 (by show _ ≤ (w1.heap.push o).size; simp)
    have hq2 : ∀ (o : Obj) (w2 : World), Below (w1.alloc o).drew.heap.size (w1.alloc o).drew w2 → w.heap.size + 1 ≤ w2.heap.size := fun o w2 h => Nat.le_trans (hq1 o) h.size
    have hq3 : ∀ (w2 : World), Below w1.drew.heap.size w1.drew w2 → w.heap.size + 1 ≤ w2.heap.size := fun w2 h => Nat.le_trans hsz1 h.size
    have hq4 : ∀ (o : Obj) (w2 : World), Below w1.drew.heap.size w1.drew w2 → w.heap.size + 1 ≤ (w2.alloc o).heap.size := fun o w2 h => Nat.le_trans (hq3 w2 h) (by simp)
    have HQ1 := Lib.hid hq1
    have HQ2 := Lib.hid hq2
    have HQ3 := Lib.hid hq3
    have HQ4 := Lib.hid hq4
    clear hq1 hq2 hq3 hq4
    go_region_law (first
      | (refine step_call rfl 70 _ _ rfl enters_number #[.int .i64 pn] ?_ _ (number_any pn hpn _) ?_; go_simp; rintro e w2 ⟨a, cap, rfl, hF⟩; have hB2 : Below (w.heap.size + 1) W0 w2 := (by first | exact (HB1.out.alloc hsz1 _).drew.trans (hF.below.mono (HQ1.out _)) | exact HB1.out.drew.trans (hF.below.mono hsz1)); obtain ⟨hx0, hx1, _, _⟩ := HC.out w2 hB2; refine ⟨_, rfl, ?_⟩)
      | (refine step_append_row rfl (.tmp 17) (.tmp 21) 24 rfl (w.heap.size + 1) 5 i0 (.int .u8 0) 1 1 Try.underlying24 hi hz0 hz1 hz2 rfl (by decide) (some ⟨w1.heap.size, 0, none⟩) 1 1 [.int .u8 kd] ?_ (owns_keep (World.ownsRow_lit (base := w.heap.size + 1) w1 #[.int .u8 kd] 1 hsz1 hm1 rfl).drew hF.below) a 2 cap ((putL pn 2).map B) ?_ hF.bytes.cells (oneCell_bytes _) hm3 hby3 W0 ((HB1.out.alloc hsz1 _).drew.trans (hF.below.mono (HQ1.out _))) (HQ2.out _ _ hF.below) ?_; go_simp; go_simp; intro a2 cap2 w3 ho2 hb2)
      | (refine step_append_row rfl (.tmp 17) (.tmp 21) 24 rfl (w.heap.size + 1) 5 i0 (.int .u8 0) 1 1 Try.underlying24 hi hz0 hz1 hz2 rfl (by decide) (some ⟨w2.heap.size, 0, none⟩) 1 1 [.int .u8 kd] ?_ (World.ownsRow_lit (base := w.heap.size + 1) w2 #[.int .u8 kd] 1 (HQ3.out _ hF.below) hm1 rfl) a 2 cap ((putL pn 2).map B) ?_ (hF.bytes.cells.keep ((Below.refl _ _).alloc (Nat.le_refl _) _)) (oneCell_bytes _) hm3 hby3 W0 ((HB1.out.drew.trans (hF.below.mono hsz1)).alloc (HQ3.out _ hF.below) _) (HQ4.out _ _ hF.below) ?_; go_simp; go_simp; intro a2 cap2 w3 ho2 hb2))
    all_goals
      clear hA0 hA1 HQ1 HQ2 HQ3 HQ4 hwk
      go_wp2_with fail
      go_meet
      refine ⟨a2, cap2, rfl, ?_, hb2⟩
      have e : Value.int IntKind.u8 (kd : Int) = B (UInt8.ofNat kd) := by rw [B, ofNat_toNat_int]; congr 1; omega
      rw [e] at ho2
      exact ho2
  case rest =>
    obtain ⟨a3, cap3, rfl, ho3, hb3⟩ := hcut
    rw [Int.toNat_natCast] at ho3
    obtain ⟨d0, d1, d2, d3⟩ := HC.out wc hb3
    have HO3 := Lib.hid ho3
    have HB3 := Lib.hid hb3
    clear ho3 hb3 hc0 hc1 hc2 hc3 hsz1 hb1
    go_wp2
    go_loopw [5, 26] (fun o i wr => ∃ k a cap n, k ≤ pn ∧ i = .int .i64 (k : Nat) ∧ o = .slice a n cap ∧ Hid (wr.ownsRow (w.heap.size + 1) 5 1 (.slice a n cap) n ((UInt8.ofNat kd :: (putL pn 2 ++ partsL (pp.take k))).map B)) ∧ Hid (Below (w.heap.size + 1) W0 wr)) (fun _ i _ => pn - (intOf i).toNat)
    case atStart => exact ⟨0, a3, cap3, 3, Nat.zero_le _, rfl, rfl, by show World.ownsRow _ _ _ _ _ _ _; simpa [partsL] using HO3.out, HB3⟩
    case round =>
      obtain ⟨k, a, cap, n, hk, rfl, rfl, ho, hb⟩ := hrel
      obtain ⟨d0, d1, d2, d3⟩ := HC.out wr hb.out
      have hwr : w.heap.size + 1 ≤ wr.heap.size := by have := hb.out.size; omega
      by_cases hlt : k < pn
      · obtain ⟨l, hl⟩ : ∃ l, pp[k]? = some l := ⟨_, List.getElem?_eq_getElem (by rw [hpl.out]; exact hlt)⟩
        obtain ⟨b, off, hpa, a', c', hc0, hby⟩ := hp0.part k l hl
        subst hpa
        have hbl := World.block_lt_of_cell? _ _ hc0
        have hc : wr.cell? ⟨b, off + k, none⟩ = some (.slice a' l.length c') := (hb.out.cell (p := ⟨b, off + k, none⟩) (by rw [← hs0]; exact hbl)).trans hc0
        have hl1 : l.length ≤ 1024 := HLong.out l (List.mem_of_getElem? hl)
        have hn0 : n ≤ 70000 := by
          have h1 := ho.out.1
          have h2 := partsL_len (pp := pp.take k) (fun x hx => HLong.out x (List.mem_of_mem_take hx))
          simp only [List.length_map, List.length_cons, List.length_append, length_putL, List.length_take] at h1 h2
          have h3 : min k pp.length * 1026 ≤ 64 * 1026 := Nat.mul_le_mul_right _ (by omega)
          omega
        have HPt : Hid (partsL (pp.take (k + 1)) = partsL (pp.take k) ++ (putL l.length 2 ++ l)) := by
          show _ = _
          rw [take_snoc hl, partsL_append]; simp [partsL]
        obtain ⟨Y, hY⟩ : ∃ Y, Y = UInt8.ofNat kd :: (putL pn 2 ++ partsL (pp.take k)) := ⟨_, rfl⟩
        rw [← hY] at ho
        have HY := Lib.hid hY
        clear hY hc0 hbl hl
        go_wp2_with fail
        refine (number_any l.length (by omega) _).mono ?_
        rintro e w2 ⟨a4, c4, rfl, hF⟩
        have HB2 : Hid (Below (w.heap.size + 1) W0 w2) := hb.out.trans (hF.below.mono hwr)
        have ho2 := owns_keep ho.out hF.below
        have hw2 : w.heap.size + 1 ≤ w2.heap.size := by have := HB2.out.size; omega
        go_wp2_with (at_builtin; refine wpList_append_row rfl (.tmp 30) (.tmp 33) 24 rfl (w.heap.size + 1) 5 i0 (.int .u8 0) 1 1 Try.underlying24 hi hz0 hz1 hz2 rfl (by decide) _ _ _ _ rfl ho2 _ _ _ _ rfl hF.bytes.cells (oneCell_bytes _) (by unfold maxLen; omega) (by omega) W0 HB2.out hw2 ?_)
        intro a5 c5 w3 ho3 hb3
        have HB3' := Lib.hid hb3
        have hby3 : Bytes w3 a' l.length c' l := hby.keepAt hb3 hs0.symm
        have hw3 : w.heap.size + 1 ≤ w3.heap.size := by have := hb3.size; omega
        clear hb3 ho2 hF
        go_wp2_with (at_builtin; refine wpList_append_row rfl (.tmp 35) (.tmp 36) 24 rfl (w.heap.size + 1) 5 i0 (.int .u8 0) 1 1 Try.underlying24 hi hz0 hz1 hz2 rfl (by decide) _ _ _ _ rfl ho3 _ _ _ _ rfl hby3.cells (oneCell_bytes _) (by unfold maxLen; omega) (by omega) W0 HB3'.out hw3 ?_)
        intro a6 c6 w4 ho4 hb4
        have HO4 : Hid (w4.ownsRow (w.heap.size + 1) 5 1 (.slice a6 (n + 2 + l.length) c6) (n + 2 + l.length) ((UInt8.ofNat kd :: (putL pn 2 ++ partsL (pp.take (k + 1)))).map B)) := by
          show World.ownsRow _ _ _ _ _ _ _
          rw [HPt.out, ← List.append_assoc, ← List.cons_append, ← HY.out, List.map_append, List.map_append]
          simpa [List.append_assoc] using ho4
        have HB4 := Lib.hid hb4
        clear ho3 ho4 hb4
        go_wp2
        exact ⟨⟨k + 1, a6, c6, _, by omega, by go_num, rfl, HO4, HB4⟩, by simp [intOf]; omega⟩
      · have hkp : k = pn := by omega
        have hto : pp.take k = pp := List.take_of_length_le (by rw [hpl.out]; omega)
        rw [hto] at ho
        clear hto hkp
        have HN : Hid (noteL (kd : Int) hop back pp = (UInt8.ofNat kd :: (putL pn 2 ++ partsL pp)) ++ tailL (kd : Int) hop back) := by
          show _ = _
          simp [noteL, hpl.out]
        by_cases h7 : kd = 7
        · subst h7
          obtain ⟨hh0, hh7⟩ := HHop.out rfl
          obtain ⟨hp, rfl⟩ := Int.eq_ofNat_of_zero_le hh0
          have hhp : hp ≤ 7 := by omega
          have hn0 : n ≤ 70000 := by
            have h1 := ho.out.1
            have h2 := partsL_len (pp := pp) HLong.out
            have h3 := hpl.out
            simp only [List.length_map, List.length_cons, List.length_append, length_putL] at h1 h2
            have h4 : pp.length * 1026 ≤ 64 * 1026 := Nat.mul_le_mul_right _ (by omega)
            omega
          have HB := hb.out
          obtain ⟨Y, hY⟩ : ∃ Y, Y = UInt8.ofNat 7 :: (putL pn 2 ++ partsL pp) := ⟨_, rfl⟩
          rw [← hY] at ho HN
          clear hY
          cases back with
          | true =>
            have hcc := cells_lit wr #[.int .u8 hp, .int .u8 1] 5 2 1 (by unfold maxLen; omega) rfl
            have hbb := HB.alloc hwr (.cells #[.int .u8 hp, .int .u8 1] 5)
            have ho' := ho.out.alloc (.cells #[.int .u8 hp, .int .u8 1] 5)
            have hwk : IntKind.u8.wrap (hp : Int) = (hp : Int) := by simp [IntKind.wrap, IntKind.bits, IntKind.signed]; omega
            have HTl : Hid (tailL 7 (hp : Int) true = [UInt8.ofNat hp, 1]) := by show _ = _; simp [tailL]
            go_wp2_with (at_builtin; refine wpList_append_row rfl (.tmp 44) (.tmp 49) 24 rfl (w.heap.size + 1) 5 i0 (.int .u8 0) 1 1 Try.underlying24 hi hz0 hz1 hz2 rfl (by decide) _ _ _ _ rfl ho' _ _ _ _ rfl hcc (by simp [Value.oneCell']) (by unfold maxLen; omega) (by omega) W0 hbb (by simp; omega) ?_)
            intro a5 c5 w3 ho3 hb3
            go_wp2
            go_ret2
            refine ⟨a5, c5, n + 2, rfl, ?_⟩
            have e1 : Value.int IntKind.u8 (hp : Int) = B (UInt8.ofNat hp) := by rw [B, ofNat_toNat_int]; congr 1; omega
            have e2 : Value.int IntKind.u8 1 = B 1 := rfl
            have eN : noteL ((7 : Nat) : Int) (hp : Int) true pp = Y ++ [UInt8.ofNat hp, 1] := HN.out.trans (by rw [← HTl.out]; rfl)
            rw [eN]
            refine freshB_over ?_ HW.out hb3
            rw [e1, e2] at ho3
            rw [List.map_append]
            exact ho3
          | false =>
            have hcc := cells_lit wr #[.int .u8 hp, .int .u8 0] 5 2 1 (by unfold maxLen; omega) rfl
            have hbb := HB.alloc hwr (.cells #[.int .u8 hp, .int .u8 0] 5)
            have ho' := ho.out.alloc (.cells #[.int .u8 hp, .int .u8 0] 5)
            have hwk : IntKind.u8.wrap (hp : Int) = (hp : Int) := by simp [IntKind.wrap, IntKind.bits, IntKind.signed]; omega
            have HTl : Hid (tailL 7 (hp : Int) false = [UInt8.ofNat hp, 0]) := by show _ = _; simp [tailL]
            go_wp2_with (at_builtin; refine wpList_append_row rfl (.tmp 44) (.tmp 49) 24 rfl (w.heap.size + 1) 5 i0 (.int .u8 0) 1 1 Try.underlying24 hi hz0 hz1 hz2 rfl (by decide) _ _ _ _ rfl ho' _ _ _ _ rfl hcc (by simp [Value.oneCell']) (by unfold maxLen; omega) (by omega) W0 hbb (by simp; omega) ?_)
            intro a5 c5 w3 ho3 hb3
            go_wp2
            go_ret2
            refine ⟨a5, c5, n + 2, rfl, ?_⟩
            have e1 : Value.int IntKind.u8 (hp : Int) = B (UInt8.ofNat hp) := by rw [B, ofNat_toNat_int]; congr 1; omega
            have e2 : Value.int IntKind.u8 0 = B 0 := rfl
            have eN : noteL ((7 : Nat) : Int) (hp : Int) false pp = Y ++ [UInt8.ofNat hp, 0] := HN.out.trans (by rw [← HTl.out]; rfl)
            rw [eN]
            refine freshB_over ?_ HW.out hb3
            rw [e1, e2] at ho3
            rw [List.map_append]
            exact ho3
        · have h7b : ((kd : Int) == 7) = false := by rw [beq_eq_false_iff_ne]; omega
          have HT : Hid (tailL (kd : Int) hop back = []) := by show _ = _; rw [tailL, if_neg (by omega)]
          clear h7
          go_wp2
          go_ret2
          refine ⟨a, cap, n, rfl, ?_⟩
          rw [HN.out, HT.out, List.append_nil]
          exact freshB_over ho.out HW.out hb.out
end Go.Proofs.Ytmkfpfnjimmmaaa
