/- The walk of NoteTakes. -/
import Derived.Test.YtmkfpfnjimmmaaaNuB
import Derived.Test.YtmkfpfnjimmmaaaNtH
namespace Go.Proofs.Ytmkfpfnjimmmaaa
open Go.RowKit

/-- So many bytes that may be written, in blocks from a number on. -/
def SoftB (base : Nat) (w : World) (a : Option Addr) (n : Nat) : Prop := ∀ j, j < n → ∃ (g : Nat) (u : Int), a = some ⟨g, 0, none⟩ ∧ base ≤ g ∧ 0 ≤ u ∧ u < 256 ∧ w.cell? ⟨g, j, none⟩ = some (.int .u8 u) ∧ w.frozen? ⟨g, j, none⟩ = false

theorem SoftB.of_owns {e : TypeId} {base b0 : Nat} {w : World} {a : Option Addr} {n cap : Nat} {l : List UInt8} (h : n ≠ 0 → w.ownsRow b0 e 1 (.slice a n cap) n (l.map B)) (hi : In (From base) a n) (hl : l.length = n) : SoftB base w a n := by
  intro j hj
  have h1 := h (by omega)
  obtain ⟨g, rfl, _⟩ := owns_shape h1 (by omega)
  have hc := h1.cellAt j (by omega)
  have hj' : j < l.length := by omega
  rw [List.getElem?_map, List.getElem?_eq_getElem hj'] at hc
  have := (l[j]).toNat_lt
  exact ⟨g, ((l[j]).toNat : Int), rfl, hi (by omega) _ rfl, by omega, by omega, hc, h1.frozenAt j⟩

theorem SoftB.set {base : Nat} {w : World} {a : Option Addr} {n : Nat} (h : SoftB base w a n) (p : Addr) {v : Int} (h0 : 0 ≤ v) (h1 : v < 256) : SoftB base (w.setCell p (.int .u8 v)) a n := by
  intro j hj
  obtain ⟨g, u, ha, hb, h2, h3, hc, hf⟩ := h j hj
  by_cases e : p = ⟨g, j, none⟩
  · subst e
    exact ⟨g, v, ha, hb, h0, h1, World.cell?_setCell_same _ _ _ hc, by rw [World.frozen?_setCell]; exact hf⟩
  · exact ⟨g, u, ha, hb, h2, h3, by rw [World.cell?_setCell_other _ _ _ _ e]; exact hc, by rw [World.frozen?_setCell]; exact hf⟩

theorem SoftB.keep {base : Nat} {w w' : World} {a : Option Addr} {n : Nat} (h : SoftB base w a n) (hb : Below w.heap.size w w') : SoftB base w' a n := by
  intro j hj
  obtain ⟨g, u, ha, h0, h2, h3, hc, hf⟩ := h j hj
  exact ⟨g, u, ha, h0, h2, h3, (hb.cell (World.block_lt_of_cell? _ _ hc)).trans hc, (hb.frozen (World.block_lt_of_cell? _ _ hc)).trans hf⟩

/-- The parts' headers, and their bytes. -/
def Soften (base : Nat) (pa : Option Addr) (pn : Nat) (F : Nat → Option Addr × Nat × Nat) (w : World) : Prop :=
  ∀ i, i < pn → ∃ b off, pa = some ⟨b, off, none⟩ ∧ w.cell? ⟨b, off + i, none⟩ = some (.slice (F i).1 (F i).2.1 (F i).2.2) ∧ (F i).2.1 ≤ (F i).2.2 ∧ (F i).2.2 ≤ 9223372036854775807 ∧ SoftB base w (F i).1 (F i).2.1

theorem Soften.set {base : Nat} {pa : Option Addr} {pn : Nat} {F : Nat → Option Addr × Nat × Nat} {w : World} (h : Soften base pa pn F w) (p : Addr) {u v : Int} (hp : w.cell? p = some (.int .u8 u)) (h0 : 0 ≤ v) (h1 : v < 256) : Soften base pa pn F (w.setCell p (.int .u8 v)) := by
  intro i hi
  obtain ⟨b, off, ha, hc, h2, h3, h4⟩ := h i hi
  refine ⟨b, off, ha, ?_, h2, h3, h4.set p h0 h1⟩
  rw [World.cell?_setCell_other _ _ _ _ (by rintro rfl; rw [hp] at hc; cases hc)]
  exact hc

theorem Soften.keep {base : Nat} {pa : Option Addr} {pn : Nat} {F : Nat → Option Addr × Nat × Nat} {w w' : World} (h : Soften base pa pn F w) (hb : Below w.heap.size w w') : Soften base pa pn F w' := by
  intro i hi
  obtain ⟨b, off, ha, hc, h2, h3, h4⟩ := h i hi
  exact ⟨b, off, ha, (hb.cell (World.block_lt_of_cell? _ _ hc)).trans hc, h2, h3, h4.keep hb⟩

theorem Soften.of {e : TypeId} {base : Nat} {pa : Option Addr} {pn pc : Nat} {pp : List (List UInt8)} {w : World} (h : Sl (rW e) (From base) w pa pn pc pp) : ∃ F, Soften base pa pn F w := by
  obtain ⟨F, hF⟩ := Go.Deep.choose_lt (n := pn) (p := fun i (q : Option Addr × Nat × Nat) => ∃ b off, pa = some ⟨b, off, none⟩ ∧ w.cell? ⟨b, off + i, none⟩ = some (.slice q.1 q.2.1 q.2.2) ∧ q.2.1 ≤ q.2.2 ∧ q.2.2 ≤ 9223372036854775807 ∧ SoftB base w q.1 q.2.1) fun i hi => by
    obtain ⟨x, hx⟩ : ∃ x, pp[i]? = some x := ⟨_, List.getElem?_eq_getElem (by rw [h.len]; exact hi)⟩
    obtain ⟨b, off, ha, es, ⟨a', n', c', rfl, hy, _, hin, ho⟩, hc⟩ := h.part i x hx
    refine ⟨(a', n', c'), b, off, ha, ?_, hy.le, hy.le_i64.2, SoftB.of_owns ho hin hy.len⟩
    have := hc 0 _ rfl
    rwa [show off + (i * (rW e).sz + 0) = off + i by show off + (i * 1 + 0) = _; omega] at this
  exact ⟨F, hF⟩

theorem u8_in (z : Int) : 0 ≤ IntKind.u8.wrap z ∧ IntKind.u8.wrap z < 256 := by simp [IntKind.wrap, IntKind.bits, IntKind.signed]; omega

set_option maxRecDepth 100000 in
set_option maxHeartbeats 3200000 in
theorem noteTakes_walk {w : World} {ba : Option Addr} {bn bc : Nat} {l : List UInt8} (hb : Bytes w ba bn bc l) :
    Calls Try.prog 14 #[.slice ba bn bc] w fun e w' => e = .returned (.bool true) ∧ Below w.heap.size w w' := by
  obtain ⟨i0, hi, hz0, hz1, hz2⟩ := info_parts info_u8
  have hbx := hb.le_i64
  have hbl := Lib.hid hb.len
  have HB : Hid (∀ W, Below w.heap.size w W → Bytes W ba bn bc l) := fun W hW => hb.keep hW
  clear hb
  go_enter Try.func14, Try.ntmps14
  go_wp2_with fail
  refine (live06 _).mono ?_
  rintro e w1 ⟨rfl, b1⟩
  by_cases h3000 : 3000 < bn
  · go_wp2
    go_ret
    exact ⟨rfl, b1⟩
  have hb1 := HB.out _ b1
  have hr1 := Below.refl w1.heap.size w1
  go_wp2_with (at_builtin; refine wpList_append_row rfl (.const (.slice none 0 0)) (.tmp 17) 24 rfl w1.heap.size 5 i0 (.int .u8 0) 1 1 Try.underlying24 hi hz0 hz1 hz2 rfl (by decide) none 0 0 [] rfl (World.ownsRow_nil _ _ _ _) _ _ _ _ rfl hb1.cells (oneCell_bytes _) (by unfold maxLen; omega) (by omega) w1 hr1 (Nat.le_refl _) ?_)
  intro a2 c2 w2 ho2 hb2
  obtain ⟨a2', c2', hv, hF2⟩ := FreshB.of ho2 hb2
  cases hv
  have B2 := Lib.hid (below_then b1 hb2)
  have W2s := Lib.hid hF2.bytes
  have T := ntake_any (HB.out _ B2.out)
  have HTk := Lib.hid T
  clear ho2 hb2 hF2 T b1 hb1 hr1
  go_wp2_with fail
  refine HTk.out.mono ?_
  intro e w3 hT3
  clear HTk
  obtain ⟨kd, hp, bk, pa, pn, pc, pp, E3, rfl, S3, h64, B23, HR⟩ : ∃ kd hp bk pa pn pc pp E3, e = .returned (.tuple #[.agg #[.int .i64 kd, .slice pa pn pc, .int .i64 hp, .bool bk], .int .i64 E3]) ∧ Sl (rW 5) (From w2.heap.size) w3 pa pn pc pp ∧ pn ≤ 64 ∧ Below w2.heap.size w2 w3 ∧
      (∀ W, Below w3.heap.size w3 W → Calls Try.prog 46 #[.slice ba bn bc] W fun e w' => ∃ a4 n4 c4, e = .returned (.tuple #[.agg #[.int .i64 kd, .slice a4 n4 c4, .int .i64 hp, .bool bk], .int .i64 E3]) ∧ Parts w' a4 n4 c4 pp ∧ Below W.heap.size W w') := by
    cases hq : takeN l with
    | none =>
      rw [hq] at hT3
      obtain ⟨rfl, hb3⟩ := hT3
      refine ⟨0, 0, false, none, 0, 0, [], 3, rfl, Sl.nil _ _ _, by decide, hb3, fun W hW => ?_⟩
      have R := rtake_any (HB.out _ (below_then (below_then B2.out hb3) hW)) (by omega)
      rw [hq] at R
      refine R.mono ?_
      rintro e w' ⟨rfl, hb⟩
      exact ⟨none, 0, 0, rfl, Parts.nil _, hb⟩
    | some x =>
      rw [hq] at hT3
      obtain ⟨a3, n3, c3, rfl, S3, h64, hb3⟩ := hT3
      refine ⟨x.kind, x.hop, x.back, a3, n3, c3, x.parts, 0, rfl, S3, h64, hb3, fun W hW => ?_⟩
      have R := rtake_any (HB.out _ (below_then (below_then B2.out hb3) hW)) (by omega)
      rw [hq] at R
      refine R.mono ?_
      rintro e w' ⟨a4, n4, c4, rfl, y4, hb⟩
      exact ⟨a4, n4, c4, rfl, y4, hb⟩
  clear hT3
  have hpx := S3.le_i64
  have SS := Lib.hid S3
  have HRk := Lib.hid HR
  have B3 := Lib.hid (below_then B2.out B23)
  have B23' := Lib.hid B23
  obtain ⟨W4, hW4⟩ : ∃ W4, W4 = w3.alloc (.cells #[.int .i64 kd, .slice pa pn pc, .int .i64 hp, .bool bk] 39) := ⟨_, rfl⟩
  have M4 : CellsAt W4 w3.heap.size [.int .i64 kd, .slice pa pn pc, .int .i64 hp, .bool bk] := by rw [hW4]; exact CellsAt.new _ _ _ rfl
  have b34 : Below w3.heap.size w3 W4 := by rw [hW4]; exact (Below.refl _ _).alloc (Nat.le_refl _) _
  have R4 := HRk.out W4 b34
  have HR4 := Lib.hid R4
  have HW4 := Lib.hid hW4
  have b34' := Lib.hid b34
  obtain ⟨g, hg⟩ : ∃ g, g = w3.heap.size := ⟨_, rfl⟩
  have Hg := Lib.hid hg
  rw [← hg] at M4
  clear S3 HR B23 hW4 R4 b34 HRk hg
  go_wp2_with fail
  rw [← HW4.out, ← Hg.out]
  refine HR4.out.mono ?_
  rintro e w5 ⟨a5, n5, c5, rfl, y5, b45⟩
  have M5 := M4.below b45
  obtain ⟨W6, hW6⟩ : ∃ W6, W6 = w5.alloc (.cells #[.int .i64 kd, .slice a5 n5 c5, .int .i64 hp, .bool bk] 39) := ⟨_, rfl⟩
  have b56 : Below w5.heap.size w5 W6 := by rw [hW6]; exact (Below.refl _ _).alloc (Nat.le_refl _) _
  have M6 := M5.below b56
  have N6 : CellsAt W6 w5.heap.size [.int .i64 kd, .slice a5 n5 c5, .int .i64 hp, .bool bk] := by rw [hW6]; exact CellsAt.new _ _ _ rfl
  have b36 := below_then (below_then b34'.out b45) b56
  have K := rsame_any (kind := kd) (hop := hp) (back := bk) (kind' := kd) (hop' := hp) (back' := bk) (Parts.of_sl (SS.out.keep b36)) (y5.keep b56)
  rw [sameN_refl] at K
  have HK := Lib.hid K
  have b36' := Lib.hid b36
  have HW6 := Lib.hid hW6
  obtain ⟨⟨m0, _⟩, ⟨m1, _⟩, ⟨m2, _⟩, ⟨m3, _⟩⟩ := (⟨M6 0 _ rfl, M6 1 _ rfl, M6 2 _ rfl, M6 3 _ rfl⟩ : _ ∧ _ ∧ _ ∧ _)
  obtain ⟨⟨n0, _⟩, ⟨n1, _⟩, ⟨n2, _⟩, ⟨n33, _⟩⟩ := (⟨N6 0 _ rfl, N6 1 _ rfl, N6 2 _ rfl, N6 3 _ rfl⟩ : _ ∧ _ ∧ _ ∧ _)
  rw [hW6] at m0 m1 m2 m3 n0 n1 n2 n33
  clear hW6 K b36 b45 y5 M5 N6 HR4 M4
  go_wp2_with fail
  rw [← HW6.out]
  refine HK.out.mono ?_
  rintro e w7 ⟨rfl, b67⟩
  have M7 := M6.below b67
  have b37 := Lib.hid (below_then b36'.out b67)
  have b07 := Lib.hid (below_then B3.out b37.out)
  obtain ⟨F, hF⟩ := Soften.of SS.out
  have S7 : Hid (Soften w2.heap.size pa pn F w7) := hF.keep b37.out
  have hBb := Lib.hid (HB.out _ b07.out)
  have hWas := Lib.hid (W2s.out.keep (below_then B23'.out b37.out))
  have inB : Hid (In (fun b => b < w2.heap.size) ba bn) := fun hn x hx => (((HB.out _ B2.out).in_lt (U := Any) (fun _ _ _ => trivial)) hn x hx).2
  have inW : Hid (In (fun b => b < w2.heap.size) a2 bn) := fun hn x hx => ((W2s.out.in_lt (U := Any) (fun _ _ _ => trivial)) hn x hx).2
  obtain ⟨hm1, _⟩ := M7 1 _ rfl
  have H2w : Hid (w.heap.size ≤ w2.heap.size) := B2.out.size
  clear m0 m1 m2 m3 n0 n1 n2 n33 M6 b67 HK M7 hF
  go_wp2
  go_loopw [40] (fun i wr => ∃ k : Nat, k ≤ pn ∧ i = .int .i64 k ∧ Hid (Soften w2.heap.size pa pn F wr) ∧ Hid (Same (fun b => b < w2.heap.size) w7 wr ∧ w7.heap.size ≤ wr.heap.size) ∧ Hid (Below w.heap.size w wr)) (fun i _ => pn - (intOf i).toNat)
  case atStart => exact ⟨0, Nat.zero_le _, rfl, S7, Lib.hid ⟨fun _ _ _ => rfl, Nat.le_refl _⟩, b07⟩
  case round =>
    obtain ⟨k, hk, rfl, hS, hSm, hbw⟩ := hrel
    clear hm1
    by_cases hlt : k < pn
    · obtain ⟨b, off, rfl, hc, hl1, hl2, _⟩ := hS.out k hlt
      rcases hFk : F k with ⟨a', n', c'⟩
      rw [hFk] at hc hl1 hl2
      dsimp only at hc hl1 hl2
      have HFk := Lib.hid hFk
      have hl3 : n' ≤ 9223372036854775807 := by omega
      have hk0 : (k : Int) < (pn : Int) := by omega
      clear hFk
      obtain ⟨wo, rfl⟩ : ∃ wo : World, wo = wr := ⟨_, rfl⟩
      go_wp2
      go_loopw [46] (fun i wr => ∃ j : Nat, j ≤ n' ∧ i = .int .i64 j ∧ Hid (Soften w2.heap.size (some ⟨b, off, none⟩) pn F wr) ∧ Hid (Same (fun b => b < w2.heap.size) w7 wr ∧ w7.heap.size ≤ wr.heap.size) ∧ Hid (Below w.heap.size w wr)) (fun i _ => n' - (intOf i).toNat)
      case atStart => exact ⟨0, Nat.zero_le _, rfl, hS, hSm, hbw⟩
      case round =>
        obtain ⟨j, hj, rfl, iS, iSm, ibw⟩ := hrel
        clear hc
        by_cases hjl : j < n'
        · obtain ⟨_, _, _, _, _, _, hso⟩ := iS.out k hlt
          rw [HFk.out] at hso
          obtain ⟨gt, u, hag, hge, hu0, hu8, hcc, hff⟩ := hso j hjl
          dsimp only at hag
          subst hag
          have H2 := H2w.out
          obtain ⟨v, hv⟩ : ∃ v, v = IntKind.u8.wrap (u + 1) := ⟨_, rfl⟩
          have hv8 : 0 ≤ v ∧ v < 256 := by rw [hv]; exact u8_in _
          have hvv : IntKind.u8.wrap (u + 1) = v := hv.symm
          have hS2 : Hid (Soften w2.heap.size (some ⟨b, off, none⟩) pn F (wr.setCell ⟨gt, j, none⟩ (.int .u8 v))) := iS.out.set _ hcc hv8.1 hv8.2
          have hSm2 : Hid (Same (fun b => b < w2.heap.size) w7 (wr.setCell ⟨gt, j, none⟩ (.int .u8 v)) ∧ w7.heap.size ≤ (wr.setCell ⟨gt, j, none⟩ (.int .u8 v)).heap.size) := by
            refine ⟨fun b hb hl => ?_, by simpa [World.setCell] using iSm.out.2⟩
            rw [Below.heap_setCell _ _ _ _ (by show b ≠ gt; omega)]
            exact iSm.out.1 b hb hl
          have hbw2 : Hid (Below w.heap.size w (wr.setCell ⟨gt, j, none⟩ (.int .u8 v))) := ibw.out.setCell (by show _ ≤ gt; omega) _
          clear hv hso
          go_wp2
          exact ⟨⟨j + 1, by omega, by go_num, hS2, hSm2, hbw2⟩, by simp [intOf]; omega⟩
        · go_wp2
          exact ⟨⟨k + 1, by omega, by go_num, iS, iSm, ibw⟩, by simp [intOf]; omega⟩
    · have hbF := hBb.out.same inB.out hSm.out.1
      have hwF := hWas.out.same inW.out hSm.out.1
      have K2 := same_any hbF hwF
      rw [beq_self_eq_true] at K2
      have HK2 := Lib.hid K2
      clear K2 hbF hwF
      go_wp2_with fail
      refine HK2.out.mono ?_
      rintro e w9 ⟨rfl, rfl⟩
      go_wp2
      go_ret
      exact ⟨rfl, hbw.out⟩
end Go.Proofs.Ytmkfpfnjimmmaaa
