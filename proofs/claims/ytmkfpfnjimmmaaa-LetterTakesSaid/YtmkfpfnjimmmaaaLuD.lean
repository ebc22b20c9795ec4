/- The walk of LetterTakes. -/
import Derived.Test.YtmkfpfnjimmmaaaLuC
import Derived.Test.YtmkfpfnjimmmaaaLtG
namespace Go.Proofs.Ytmkfpfnjimmmaaa
open Go.RowKit

/-- So many bytes that may be written. -/
def Soft (w : World) (a : Option Addr) (n : Nat) : Prop := ∀ j, j < n → ∃ (g : Nat) (u : Int), a = some ⟨g, 0, none⟩ ∧ 0 ≤ u ∧ u < 256 ∧ w.cell? ⟨g, j, none⟩ = some (.int .u8 u) ∧ w.frozen? ⟨g, j, none⟩ = false

theorem Soft.of_owns {e : TypeId} {base : Nat} {w : World} {a : Option Addr} {n cap : Nat} {l : List UInt8} (h : n ≠ 0 → w.ownsRow base e 1 (.slice a n cap) n (l.map B)) (hl : l.length = n) : Soft w a n := by
  intro j hj
  have h1 := h (by omega)
  obtain ⟨g, rfl, _⟩ := owns_shape h1 (by omega)
  have hc := h1.cellAt j (by omega)
  have hj' : j < l.length := by omega
  rw [List.getElem?_map, List.getElem?_eq_getElem hj'] at hc
  have := (l[j]).toNat_lt
  exact ⟨g, ((l[j]).toNat : Int), rfl, by omega, by omega, hc, h1.frozenAt j⟩

theorem Soft.set {w : World} {a : Option Addr} {n : Nat} (h : Soft w a n) (p : Addr) {v : Int} (h0 : 0 ≤ v) (h1 : v < 256) : Soft (w.setCell p (.int .u8 v)) a n := by
  intro j hj
  obtain ⟨g, u, ha, h2, h3, hc, hf⟩ := h j hj
  by_cases e : p = ⟨g, j, none⟩
  · subst e
    exact ⟨g, v, ha, h0, h1, World.cell?_setCell_same _ _ _ hc, by rw [World.frozen?_setCell]; exact hf⟩
  · exact ⟨g, u, ha, h2, h3, by rw [World.cell?_setCell_other _ _ _ _ e]; exact hc, by rw [World.frozen?_setCell]; exact hf⟩

theorem Soft.keep {w w' : World} {a : Option Addr} {n : Nat} (h : Soft w a n) (hb : Below w.heap.size w w') : Soft w' a n := by
  intro j hj
  obtain ⟨g, u, ha, h2, h3, hc, hf⟩ := h j hj
  exact ⟨g, u, ha, h2, h3, (hb.cell (World.block_lt_of_cell? _ _ hc)).trans hc, (hb.frozen (World.block_lt_of_cell? _ _ hc)).trans hf⟩

theorem u8_wrap_in (z : Int) : 0 ≤ IntKind.u8.wrap z ∧ IntKind.u8.wrap z < 256 := by simp [IntKind.wrap, IntKind.bits, IntKind.signed]; omega

set_option maxRecDepth 100000 in
set_option maxHeartbeats 3200000 in
theorem letterTakes_walk {w : World} {ba : Option Addr} {bn bc : Nat} {l : List UInt8} (hb : Bytes w ba bn bc l) :
    Calls Try.prog 21 #[.slice ba bn bc] w fun e w' => e = .returned (.bool true) ∧ Below w.heap.size w w' := by
  obtain ⟨i0, hi, hz0, hz1, hz2⟩ := info_parts info_u8
  have hbx := hb.le_i64
  have hbl := Lib.hid hb.len
  have HB : Hid (∀ W, Below w.heap.size w W → Bytes W ba bn bc l) := fun W hW => hb.keep hW
  clear hb
  go_enter Try.func21, Try.ntmps21
  go_wp2_with fail
  refine (live10 _).mono ?_
  rintro e w1 ⟨rfl, b1⟩
  by_cases h300 : 300 < bn
  · go_wp2
    go_ret
    exact ⟨rfl, b1⟩
  have hb1 := HB.out _ b1
  have hr1 := Below.refl w1.heap.size w1
  go_wp2_with (at_builtin; refine wpList_append_row rfl (.const (.slice none 0 0)) (.tmp 15) 24 rfl w1.heap.size 5 i0 (.int .u8 0) 1 1 Try.underlying24 hi hz0 hz1 hz2 rfl (by decide) none 0 0 [] rfl (World.ownsRow_nil _ _ _ _) _ _ _ _ rfl hb1.cells (oneCell_bytes _) (by unfold maxLen; omega) (by omega) w1 hr1 (Nat.le_refl _) ?_)
  intro a2 c2 w2 ho2 hb2
  obtain ⟨a2', c2', hv, hF2⟩ := FreshB.of ho2 hb2
  cases hv
  have B2 := Lib.hid (below_then b1 hb2)
  have W2s := Lib.hid hF2.bytes
  have T := ltake_any (HB.out _ B2.out)
  have HTk := Lib.hid T
  clear ho2 hb2 hF2 T b1 hb1 hr1
  go_wp2_with fail
  refine HTk.out.mono ?_
  intro e w3 hT3
  clear HTk
  -- what is taken, whole
  obtain ⟨cv, f1, d1, sq, a3, n3, c3, E3, rfl, y3, o3, hl3, B23, hq3⟩ : ∃ cv f1 d1 sq a3 n3 c3 E3, e = .returned (.tuple #[.agg #[.bool cv, .int .i64 f1, .int .i64 d1, .int .u64 (sq : Nat), .slice a3 n3 c3], .int .i64 E3]) ∧ (∃ tx, Bytes w3 a3 n3 c3 tx ∧ (n3 ≠ 0 → w3.ownsRow w2.heap.size 5 1 (.slice a3 n3 c3) n3 (tx.map B)) ∧
      (∀ W, Below w3.heap.size w3 W → Calls Try.prog 67 #[.slice ba bn bc] W fun e w' => ∃ a4 n4 c4, e = .returned (.tuple #[.agg #[.bool cv, .int .i64 f1, .int .i64 d1, .int .u64 (sq : Nat), .slice a4 n4 c4], .int .i64 E3]) ∧ Bytes w' a4 n4 c4 tx ∧ Below W.heap.size W w')) ∧ True ∧ True ∧ Below w2.heap.size w2 w3 ∧ True := by
    cases hq : takeLet l with
    | none =>
      rw [hq] at hT3
      obtain ⟨rfl, hb3⟩ := hT3
      refine ⟨false, 0, 0, 0, none, 0, 0, 3, rfl, ⟨[], Bytes.nil _, fun h => absurd rfl h, fun W hW => ?_⟩, trivial, trivial, hb3, trivial⟩
      have R := rltake_any (HB.out _ (below_then (below_then B2.out hb3) hW))
      rw [hq] at R
      refine R.mono ?_
      rintro e w' ⟨rfl, hb⟩
      exact ⟨none, 0, 0, rfl, Bytes.nil _, hb⟩
    | some x =>
      rw [hq] at hT3
      obtain ⟨a3, n3, c3, rfl, y3, o3, _, hb3⟩ := hT3
      refine ⟨x.cover, x.frm, x.dst, x.seq, a3, n3, c3, 0, rfl, ⟨x.text, y3, o3, fun W hW => ?_⟩, trivial, trivial, hb3, trivial⟩
      have R := rltake_any (HB.out _ (below_then (below_then B2.out hb3) hW))
      rw [hq] at R
      refine R.mono ?_
      rintro e w' ⟨a4, n4, c4, rfl, y4, hb⟩
      exact ⟨a4, n4, c4, rfl, y4, hb⟩
  obtain ⟨tx, y3, o3, HR⟩ := y3
  clear hT3 hl3 hq3
  have hn3 := y3.le_i64
  have Y3 := Lib.hid y3
  have O3 := Lib.hid o3
  have HRk := Lib.hid HR
  have B3 := Lib.hid (below_then B2.out B23)
  have B23' := Lib.hid B23
  obtain ⟨W4, hW4⟩ : ∃ W4, W4 = w3.alloc (.cells #[.bool cv, .int .i64 f1, .int .i64 d1, .int .u64 (sq : Nat), .slice a3 n3 c3] 46) := ⟨_, rfl⟩
  have M4 : CellsAt W4 w3.heap.size [.bool cv, .int .i64 f1, .int .i64 d1, .int .u64 (sq : Nat), .slice a3 n3 c3] := by rw [hW4]; exact CellsAt.new _ _ _ rfl
  have b34 : Below w3.heap.size w3 W4 := by rw [hW4]; exact (Below.refl _ _).alloc (Nat.le_refl _) _
  have R4 := HRk.out W4 b34
  have HR4 := Lib.hid R4
  have HW4 := Lib.hid hW4
  have b34' := Lib.hid b34
  obtain ⟨g, hg⟩ : ∃ g, g = w3.heap.size := ⟨_, rfl⟩
  have Hg := Lib.hid hg
  rw [← hg] at M4
  clear y3 o3 HR B23 hW4 R4 b34 HRk hg
  go_wp2_with fail
  rw [← HW4.out, ← Hg.out]
  refine HR4.out.mono ?_
  rintro e w5 ⟨a5, n5, c5, rfl, y5, b45⟩
  have M5 := M4.below b45
  have hgl := M4.lt
  obtain ⟨W6, hW6⟩ : ∃ W6, W6 = w5.alloc (.cells #[.bool cv, .int .i64 f1, .int .i64 d1, .int .u64 (sq : Nat), .slice a5 n5 c5] 46) := ⟨_, rfl⟩
  have hgl6 : g < w5.heap.size := M5.lt
  have b56 : Below w5.heap.size w5 W6 := by rw [hW6]; exact (Below.refl _ _).alloc (Nat.le_refl _) _
  have M6 := M5.below b56
  have N6 : CellsAt W6 w5.heap.size [.bool cv, .int .i64 f1, .int .i64 d1, .int .u64 (sq : Nat), .slice a5 n5 c5] := by rw [hW6]; exact CellsAt.new _ _ _ rfl
  have b36 := below_then (below_then b34'.out b45) b56
  have K := rlsame_any (cover := cv) (frm := f1) (dst := d1) (seq := sq) (cover' := cv) (frm' := f1) (dst' := d1) (seq' := sq) (Y3.out.keep b36) (y5.keep b56)
  rw [sameL_refl ⟨cv, f1, d1, sq, tx⟩] at K
  have HK := Lib.hid K
  have b36' := Lib.hid b36
  have HW6 := Lib.hid hW6
  obtain ⟨⟨m0, _⟩, ⟨m1, _⟩, ⟨m2, _⟩, ⟨m3, _⟩, ⟨m4, _⟩⟩ := (⟨M6 0 _ rfl, M6 1 _ rfl, M6 2 _ rfl, M6 3 _ rfl, M6 4 _ rfl⟩ : _ ∧ _ ∧ _ ∧ _ ∧ _)
  obtain ⟨⟨n0, _⟩, ⟨n1, _⟩, ⟨n2, _⟩, ⟨n33, _⟩, ⟨n4, _⟩⟩ := (⟨N6 0 _ rfl, N6 1 _ rfl, N6 2 _ rfl, N6 3 _ rfl, N6 4 _ rfl⟩ : _ ∧ _ ∧ _ ∧ _ ∧ _)
  rw [hW6] at m0 m1 m2 m3 m4 n0 n1 n2 n33 n4
  clear hW6 K b36 b45 y5 M5 N6 HR4 M4
  go_wp2_with fail
  rw [← HW6.out]
  refine HK.out.mono ?_
  rintro e w7 ⟨rfl, b67⟩
  have M7 := M6.below b67
  have b37 := Lib.hid (below_then b36'.out b67)
  have b07 := Lib.hid (below_then B3.out b37.out)
  have S7 : Hid (Soft w7 a3 n3) := (Soft.of_owns O3.out Y3.out.len).keep b37.out
  have hBb := Lib.hid (HB.out _ b07.out)
  have hWas := Lib.hid (W2s.out.keep (below_then B23'.out b37.out))
  -- where these lie
  have inB : Hid (In (fun b => b < w2.heap.size) ba bn) := fun hn x hx => (((HB.out _ B2.out).in_lt (U := Any) (fun _ _ _ => trivial)) hn x hx).2
  have inW : Hid (In (fun b => b < w2.heap.size) a2 bn) := fun hn x hx => ((W2s.out.in_lt (U := Any) (fun _ _ _ => trivial)) hn x hx).2
  have inT : Hid (∀ gt, n3 ≠ 0 → a3 = some ⟨gt, 0, none⟩ → w2.heap.size ≤ gt ∧ gt < g) := fun gt hn ha => by
    obtain ⟨gt', hgt', hge⟩ := owns_shape (O3.out hn) hn
    rw [ha] at hgt'
    cases hgt'
    obtain ⟨b', off', hab, hcc⟩ := Y3.out.at (by intro e; have := Y3.out.len; rw [e] at this; exact hn this.symm)
    rw [ha] at hab
    cases hab
    refine ⟨hge, ?_⟩
    rw [Hg.out]
    exact World.block_lt_of_cell? _ _ (hcc 0 (by rw [Y3.out.len]; omega))
  obtain ⟨hm4, _⟩ := M7 4 _ rfl
  have H2w : Hid (w.heap.size ≤ w2.heap.size) := B2.out.size
  have HM4 := Lib.hid hm4
  clear m0 m1 m2 m3 m4 n0 n1 n2 n33 n4 M6 b67 HK M7 hgl hgl6
  go_wp2
  go_loopw [38] (fun i wr => ∃ k : Nat, k ≤ n3 ∧ i = .int .i64 k ∧ Hid (Soft wr a3 n3) ∧ Hid (Same (fun b => b < w2.heap.size ∨ b = g) w7 wr ∧ w7.heap.size ≤ wr.heap.size) ∧ Hid (Below w.heap.size w wr)) (fun i _ => n3 - (intOf i).toNat)
  case atStart => exact ⟨0, Nat.zero_le _, rfl, S7, Lib.hid ⟨fun _ _ _ => rfl, Nat.le_refl _⟩, b07⟩
  case round =>
    obtain ⟨k, hk, rfl, hS, hSm, hbw⟩ := hrel
    have hmc : wr.cell? ⟨g, 4, none⟩ = some (.slice a3 n3 c3) := hSm.out.1.cell (.inr rfl) HM4.out
    by_cases hlt : k < n3
    · obtain ⟨gt, u, rfl, hu0, hu8, hc, hf⟩ := hS.out k hlt
      obtain ⟨t1, t2⟩ := inT.out gt (by omega) rfl
      have hne : ¬ g = gt := by omega
      have hcap : n3 ≤ c3 := Y3.out.le
      have H2 := H2w.out
      obtain ⟨v, hv⟩ : ∃ v, v = IntKind.u8.wrap (u + 1) := ⟨_, rfl⟩
      have hv8 : 0 ≤ v ∧ v < 256 := by rw [hv]; exact u8_wrap_in _
      have hvv : IntKind.u8.wrap (u + 1) = v := hv.symm
      have hS2 : Hid (Soft (wr.setCell ⟨gt, k, none⟩ (.int .u8 v)) (some ⟨gt, 0, none⟩) n3) := hS.out.set _ hv8.1 hv8.2
      have hSm2 : Hid (Same (fun b => b < w2.heap.size ∨ b = g) w7 (wr.setCell ⟨gt, k, none⟩ (.int .u8 v)) ∧ w7.heap.size ≤ (wr.setCell ⟨gt, k, none⟩ (.int .u8 v)).heap.size) := by
        refine ⟨fun b hb hl => ?_, by simpa [World.setCell] using hSm.out.2⟩
        rw [Below.heap_setCell _ _ _ _ (by show b ≠ gt; rcases hb with hb | hb <;> omega)]
        exact hSm.out.1 b hb hl
      have hbw2 : Hid (Below w.heap.size w (wr.setCell ⟨gt, k, none⟩ (.int .u8 v))) := hbw.out.setCell (by show _ ≤ gt; omega) _
      clear hv
      go_wp2
      exact ⟨⟨k + 1, by omega, by go_num, hS2, hSm2, hbw2⟩, by simp [intOf]; omega⟩
    · have hbF := hBb.out.same inB.out (hSm.out.1.mono fun b h => .inl h)
      have hwF := hWas.out.same inW.out (hSm.out.1.mono fun b h => .inl h)
      have K2 := same_any hbF hwF
      rw [beq_self_eq_true] at K2
      have HK2 := Lib.hid K2
      clear K2 hbF hwF
      go_wp2_with fail
      refine HK2.out.mono ?_
      rintro e w9 ⟨rfl, rfl⟩
      go_wp2
      go_ret
      exact ⟨rfl, hbw.out⟩
end Go.Proofs.Ytmkfpfnjimmmaaa
