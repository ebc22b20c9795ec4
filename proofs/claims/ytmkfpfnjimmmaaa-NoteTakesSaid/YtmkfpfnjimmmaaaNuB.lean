/- The walk of the reference of note.Take: its loop. -/
import Derived.Test.YtmkfpfnjimmmaaaNuA
namespace Go.Proofs.Ytmkfpfnjimmmaaa
open Go.RowKit
attribute [local go_sem ↓] Go.wp_at_zero Go.wp_at_succ

theorem wrap_in {z : Int} (h : -9223372036854775808 ≤ z) (h' : z ≤ 9223372036854775807) : IntKind.i64.wrap z = z := by rw [IntKind.wrap_i64]; omega

theorem val_pair {l : List UInt8} {k : Nat} {x y : UInt8} (hx : l[k]? = some x) (hy : l[k + 1]? = some y) : val ((l.drop k).take 2) = x.toNat * 256 + y.toNat := by
  have h : (l.drop k).take 2 = [x, y] := by
    rw [show (2 : Nat) = 1 + 1 from rfl, List.take_add_one, List.take_one, List.head?_drop, hx, List.getElem?_drop, hy]
    rfl
  rw [h]
  simp [val]

set_option maxRecDepth 100000 in
set_option maxHeartbeats 6400000 in
theorem rtake_long {a : Option Addr} {n cap : Nat} {l : List UInt8} {w : World} (h : Bytes w a n cap l) (h3 : 3 ≤ n) (hn : n ≤ 4294967296) : Calls Try.prog 46 #[.slice a n cap] w (TookS w (takeN l)) := by
  obtain ⟨i0, hi, hz0, hz1, hz2⟩ := info_parts info_u8
  obtain ⟨j0, hj, hy0, hy1, hy2⟩ := info_parts info_bytes
  have hl := h.len
  obtain ⟨b, off, rfl, hcc⟩ := h.at (by intro e; rw [e] at hl; simp at hl; omega)
  have hbl : b < w.heap.size := World.block_lt_of_cell? _ _ (hcc 0 (by omega))
  have hcap := h.le
  obtain ⟨u, x, y, r0, rfl⟩ : ∃ u x y r0, l = u :: x :: y :: r0 := by
    match l, hl with
    | [], hl => simp at hl; omega
    | [_], hl => simp at hl; omega
    | [_, _], hl => simp at hl; omega
    | u :: x :: y :: r0, _ => exact ⟨u, x, y, r0, rfl⟩
  have r1 : w.cell? ⟨b, off, none⟩ = some (.int .u8 (u.toNat : Int)) := hcc 0 (by simp)
  have r2 : w.cell? ⟨b, off + 1, none⟩ = some (.int .u8 (x.toNat : Int)) := hcc 1 (by simp)
  have r3 : w.cell? ⟨b, off + 2, none⟩ = some (.int .u8 (y.toNat : Int)) := hcc 2 (by simp)
  have HCC : Hid (∀ W, Below w.heap.size w W → ∀ k (hk : k < (u :: x :: y :: r0).length), W.cell? ⟨b, off + k, none⟩ = some (B (u :: x :: y :: r0)[k])) := fun W hW k hk => (hW.cell (p := ⟨b, off + k, none⟩) hbl).trans (hcc k hk)
  have HB : Hid (∀ W, Below w.heap.size w W → Bytes W (some ⟨b, off, none⟩) n cap (u :: x :: y :: r0)) := fun W hW => h.keep hW
  have hu8 : (u.toNat : Int) < 256 := by have := u.toNat_lt; omega
  have hx8 : (x.toNat : Int) < 256 := by have := x.toNat_lt; omega
  have hy8 : (y.toNat : Int) < 256 := by have := y.toNat_lt; omega
  obtain ⟨V, hV⟩ : ∃ V, V = x.toNat * 256 + y.toNat := ⟨_, rfl⟩
  have hV16 : V < 65536 := by omega
  have HQ := Lib.hid (takeN_ref (u := u) (x := x) (y := y) (r0 := r0))
  rw [← hV] at HQ
  obtain ⟨Q, hQ⟩ : ∃ Q, Q = takeN (u :: x :: y :: r0) := ⟨_, rfl⟩
  rw [← hQ] at HQ ⊢
  obtain ⟨W1, hW1⟩ : ∃ W1, W1 = w.alloc (.cells #[.int .i64 0, .slice none 0 0, .int .i64 0, .bool false] 39) := ⟨_, rfl⟩
  obtain ⟨W2, hW2⟩ : ∃ W2, W2 = W1.alloc (.cells #[.int .i64 (u.toNat : Int), .slice none 0 0, .int .i64 0, .bool false] 39) := ⟨_, rfl⟩
  have hs1 : W1.heap.size = w.heap.size + 1 := by rw [hW1]; simp
  obtain ⟨g, hg⟩ : ∃ g, g = w.heap.size + 1 := ⟨_, rfl⟩
  have hs2 : W2.heap.size = g + 1 := by rw [hW2, hg]; simp [hs1]
  have b1 : Below w.heap.size w W1 := by rw [hW1]; exact (Below.refl w.heap.size w).alloc (Nat.le_refl _) _
  have b2 : Below w.heap.size w W2 := by rw [hW2]; exact b1.alloc b1.size _
  have N2 : CellsAt W2 w.heap.size [.int .i64 0, .slice none 0 0, .int .i64 0, .bool false] := by
    rw [hW2]; exact CellsAt.below (by rw [hW1]; exact CellsAt.new _ _ _ rfl) ((Below.refl _ _).alloc (Nat.le_refl _) _)
  have M2 : CellsAt W2 g [.int .i64 (u.toNat : Int), .slice none 0 0, .int .i64 0, .bool false] := by
    rw [hW2]; exact CellsAt.new _ _ _ (by rw [hg, hs1])
  have hW : W2 = (w.alloc (.cells #[.int .i64 0, .slice none 0 0, .int .i64 0, .bool false] 39)).alloc (.cells #[.int .i64 (u.toNat : Int), .slice none 0 0, .int .i64 0, .bool false] 39) := by rw [hW2, hW1]
  have HWW := Lib.hid hW
  have b2' := Lib.hid b2
  have k1 : ∀ o1 : Obj, (w.alloc o1).cell? ⟨b, off, none⟩ = some (.int .u8 (u.toNat : Int)) := fun o1 => cell_underAt r1
  have k2 : ∀ o1 o2 : Obj, ((w.alloc o1).alloc o2).cell? ⟨b, off + 1, none⟩ = some (.int .u8 (x.toNat : Int)) := fun o1 o2 => cell_underAt (cell_underAt r2)
  have k3 : ∀ o1 o2 : Obj, ((w.alloc o1).alloc o2).cell? ⟨b, off + 2, none⟩ = some (.int .u8 (y.toNat : Int)) := fun o1 o2 => cell_underAt (cell_underAt r3)
  have w1 : IntKind.i64.wrap (x.toNat : Int) = (x.toNat : Int) := wrap_in (by omega) (by omega)
  have w2 : IntKind.i64.wrap (y.toNat : Int) = (y.toNat : Int) := wrap_in (by omega) (by omega)
  have w3 : IntKind.i64.wrap ((x.toNat : Int) * 256) = (x.toNat : Int) * 256 := wrap_in (by omega) (by omega)
  have w4 : IntKind.i64.wrap ((x.toNat : Int) * 256 + (y.toNat : Int)) = (V : Int) := by rw [wrap_in (by omega) (by omega), hV]; omega
  have hgH : w.heap.size < g := by omega
  have Hlen : Hid ((u :: x :: y :: r0).length = n) := hl
  have Hg := Lib.hid hg
  obtain ⟨L, hL⟩ : ∃ L, L = u :: x :: y :: r0 := ⟨_, rfl⟩
  have HL := Lib.hid hL
  obtain ⟨un, hun⟩ : ∃ un, un = u.toNat := ⟨_, rfl⟩
  have HQ2 : Hid (Q = match ptake 65535 V r0 with | none => none | some (pp, r) => tailN un pp r) := by show _ = _; rw [hun]; exact HQ.out
  rw [← hL] at HCC HB Hlen
  rw [← hun] at hu8 M2 HWW k1
  clear hcc h hW hW1 hW2 hQ b1 hs1 hl r1 r2 r3 hV HQ hL hg b2 hun
  generalize (x.toNat : Int) = xn at *
  generalize (y.toNat : Int) = yn at *
  go_enter Try.func46, Try.ntmps46
  go_wp2_with fail
  rw [← Hg.out, ← HWW.out]
  have c2 : W2.cell? ⟨b, off + 1, none⟩ = some (.int .u8 xn) := by rw [HWW.out]; exact k2 _ _
  have c3 : W2.cell? ⟨b, off + 2, none⟩ = some (.int .u8 yn) := by rw [HWW.out]; exact k3 _ _
  have h3c : (3 : Int) ≤ (n : Int) := by omega
  clear k1 k2 k3 HWW
  go_quiet (fail)
  have N3 := Lib.hid (N2.keep (w' := W2.drewN nq) rfl)
  have M3 := Lib.hid (M2.keep (w' := W2.drewN nq) rfl)
  have b3 := Lib.hid (below_drewN b2'.out nq)
  have hs3 : Hid ((W2.drewN nq).heap.size = g + 1) := hs2
  obtain ⟨W3, hW3⟩ : ∃ W3, W3 = W2.drewN nq := ⟨_, rfl⟩
  rw [← hW3] at N3 M3 b3 hs3 ⊢
  clear hW3 c2 c3 w1 w2 w3 w4 N2 M2 b2' hs2
  go_wp2
  go_loopw [6, 28] (fun s6 i wr => ∃ k at' a n1 cap1 ps r, k ≤ V ∧ i = .int .i64 (k : Nat) ∧ s6 = .int .i64 (at' : Nat) ∧ at' ≤ n ∧ Hid (r = L.drop at') ∧ Hid (n1 = k) ∧ Hid (CellsAt wr g [.int .i64 (un : Int), .slice a n1 cap1, .int .i64 0, .bool false]) ∧ Hid (CellsAt wr w.heap.size [.int .i64 0, .slice none 0 0, .int .i64 0, .bool false]) ∧
      Hid (Own rY (g + 1) 24 (From (g + 1)) wr a n1 cap1 ps) ∧ Hid (Below w.heap.size w wr) ∧ Hid (g + 1 ≤ wr.heap.size) ∧ Hid (ptake 65535 V r0 = ahead ps (ptake 65535 (V - k) r))) (fun _ i _ => V - (intOf i).toNat)
  case atStart => exact ⟨0, 3, none, 0, 0, [], r0, Nat.zero_le _, rfl, rfl, h3, by show _ = _; rw [HL.out]; rfl, rfl, M3, N3, Own.nil _ _ _ _ _, b3, by show _ ≤ _; rw [hs3.out]; exact Nat.le_refl _, by show _ = _; rw [ahead_nil, Nat.sub_zero]⟩
  case round =>
    obtain ⟨k, at', a, n1, cap1, ps, r, hk, rfl, rfl, hat, hr, hnk, hM, hN, ho, hb, hgw, hq⟩ := hrel
    have hrl : Hid (r.length = n - at') := by show _ = _; rw [hr.out, List.length_drop, Hlen.out]
    obtain ⟨⟨m0, f0⟩, ⟨m1, f1⟩, ⟨m2, f2⟩, ⟨m3, f3⟩⟩ := (⟨hM.out 0 _ rfl, hM.out 1 _ rfl, hM.out 2 _ rfl, hM.out 3 _ rfl⟩ : _ ∧ _ ∧ _ ∧ _)
    obtain ⟨⟨d0, e0⟩, ⟨d1, e1⟩, ⟨d2, e2⟩, ⟨d3, e3⟩⟩ := (⟨hN.out 0 _ rfl, hN.out 1 _ rfl, hN.out 2 _ rfl, hN.out 3 _ rfl⟩ : _ ∧ _ ∧ _ ∧ _)
    have hgHn : ¬ w.heap.size = g := by omega
    by_cases hlt : k < V
    · have HK1 : Hid (V - k = (V - (k + 1)) + 1) := by show _ = _; omega
      rw [HK1.out] at hq
      by_cases g2 : n < at' + 2
      · have hnone : Hid (ptake 65535 V r0 = none) := by
          show _ = _
          rw [hq.out, ptake_num_no (by rw [hrl.out]; omega), ahead_none]
        have HQ3 : Hid (Q = none) := by show _ = _; rw [HQ2.out, hnone.out]
        clear hq HK1 hnone
        go_wp2
        refine bodyPost_ret (v := .tuple #[.agg #[.int .i64 0, .slice none 0 0, .int .i64 0, .bool false], .int .i64 3]) (by simp [results, Try.results46, go_sem, *]) rfl ?_
        exact tookS_none HQ3.out ⟨rfl, (((hb.out.setCell (Nat.le_refl _) _).setCell (Nat.le_refl _) _).setCell (Nat.le_refl _) _).setCell (Nat.le_refl _) _⟩
      · obtain ⟨p1, q1, c1, p18, p10⟩ := cell_get (HCC.out wr hb.out) at' (by rw [Hlen.out]; omega)
        obtain ⟨p2, q2, c2, p28, p20⟩ := cell_get (HCC.out wr hb.out) (at' + 1) (by rw [Hlen.out]; omega)
        obtain ⟨V2, hV2⟩ : ∃ V2, V2 = val (r.take 2) := ⟨_, rfl⟩
        have hV2e : V2 = p1.toNat * 256 + p2.toNat := by rw [hV2, hr.out]; exact val_pair q1 q2
        have hV216 : V2 < 65536 := by omega
        have HV2 := Lib.hid hV2
        have w1 : IntKind.i64.wrap (p1.toNat : Int) = (p1.toNat : Int) := wrap_in (by omega) (by omega)
        have w2 : IntKind.i64.wrap (p2.toNat : Int) = (p2.toNat : Int) := wrap_in (by omega) (by omega)
        have w3 : IntKind.i64.wrap ((p1.toNat : Int) * 256) = (p1.toNat : Int) * 256 := wrap_in (by omega) (by omega)
        have w4 : IntKind.i64.wrap ((p1.toNat : Int) * 256 + (p2.toNat : Int)) = (V2 : Int) := by rw [wrap_in (by omega) (by omega), hV2e]; omega
        have w5 : IntKind.i64.wrap ((at' : Int) + 1) = (at' : Int) + 1 := wrap_in (by omega) (by omega)
        have w6 : ((at' : Int) + 1).toNat = at' + 1 := by omega
        have w7 : (0 : Int) ≤ (at' : Int) + 1 := by omega
        have w8 : (at' : Int) + 1 < (n : Int) := by omega
        have w9 : (at' : Int) < (n : Int) := by omega
        have w10 : (0 : Int) ≤ (at' : Int) := by omega
        clear q1 q2 hV2 hV2e
        generalize (p1.toNat : Int) = y1 at *
        generalize (p2.toNat : Int) = y2 at *
        go_wp2_with fail
        go_quiet (fail)
        clear w1 w2 w3 w4 w5 w6 w7 w8 w9 w10 c1 c2 p18 p10 p28 p20
        obtain ⟨W4, hW4⟩ : ∃ W4, W4 = wr.drewN nq := ⟨_, rfl⟩
        have M4 := Lib.hid (hM.out.keep (w' := wr.drewN nq) rfl)
        have N4 := Lib.hid (hN.out.keep (w' := wr.drewN nq) rfl)
        have o4 : Hid (Own rY (g + 1) 24 (From (g + 1)) (wr.drewN nq) a n1 cap1 ps) := ho.out.keep (below_drewN (Below.refl _ _) _)
        have b4 := Lib.hid (below_drewN hb.out nq)
        have g4 : Hid (g + 1 ≤ (wr.drewN nq).heap.size) := hgw.out
        rw [← hW4] at M4 N4 o4 b4 g4 ⊢
        clear hW4 m0 m1 m2 m3 f0 f1 f2 f3 d0 d1 d2 d3 e0 e1 e2 e3
        obtain ⟨⟨m0, f0⟩, ⟨m1, f1⟩, ⟨m2, f2⟩, ⟨m3, f3⟩⟩ := (⟨M4.out 0 _ rfl, M4.out 1 _ rfl, M4.out 2 _ rfl, M4.out 3 _ rfl⟩ : _ ∧ _ ∧ _ ∧ _)
        obtain ⟨⟨d0, e0⟩, ⟨d1, e1⟩, ⟨d2, e2⟩, ⟨d3, e3⟩⟩ := (⟨N4.out 0 _ rfl, N4.out 1 _ rfl, N4.out 2 _ rfl, N4.out 3 _ rfl⟩ : _ ∧ _ ∧ _ ∧ _)
        have gl : V2 ≤ 65535 := by omega
        by_cases gs : n < at' + 2 + V2
        · have hnone : Hid (ptake 65535 V r0 = none) := by
            show _ = _
            rw [hq.out, ptake_short (by rw [hrl.out]; omega) (by rw [← HV2.out]; exact gl) (by rw [← HV2.out, hrl.out]; omega), ahead_none]
          have HQ3 : Hid (Q = none) := by show _ = _; rw [HQ2.out, hnone.out]
          have gs' : (n : Int) < (at' : Int) + 2 + (V2 : Int) := by omega
          clear hq HK1 hnone
          go_wp2
          refine bodyPost_ret (v := .tuple #[.agg #[.int .i64 0, .slice none 0 0, .int .i64 0, .bool false], .int .i64 3]) (by simp [results, Try.results46, go_sem, *]) rfl ?_
          exact tookS_none HQ3.out ⟨rfl, (((b4.out.setCell (Nat.le_refl _) _).setCell (Nat.le_refl _) _).setCell (Nat.le_refl _) _).setCell (Nat.le_refl _) _⟩
        · have gs' : ¬ (n : Int) < (at' : Int) + 2 + (V2 : Int) := by omega
          have hq' : Hid (ptake 65535 V r0 = ahead (ps ++ [(r.drop 2).take (val (r.take 2))]) (ptake 65535 (V - (k + 1)) ((r.drop 2).drop (val (r.take 2))))) := by
            show _ = _
            rw [hq.out, ptake_step ps (by rw [hrl.out]; omega) (by rw [← HV2.out]; exact gl) (by rw [← HV2.out, hrl.out]; omega)]
          rw [← HV2.out] at hq'
          obtain ⟨sg, hsg⟩ : ∃ sg, sg = (r.drop 2).take V2 := ⟨_, rfl⟩
          obtain ⟨r', hr'⟩ : ∃ r', r' = (r.drop 2).drop V2 := ⟨_, rfl⟩
          have hr'' : Hid (r' = L.drop (at' + 2 + V2)) := by
            show _ = _
            rw [hr', hr.out, List.drop_drop, List.drop_drop]
            congr 1
            omega
          have hpc := (HB.out W4 b4.out).piece (lo := at' + 2) (hi := at' + 2 + V2) (by omega) (by omega)
          rw [show at' + 2 + V2 - (at' + 2) = V2 by omega, show (L.drop (at' + 2)).take V2 = sg by rw [hsg, hr.out, List.drop_drop]] at hpc
          have s1 : ∀ W, (Instr.slice 24 (.slice (some ⟨b, off, none⟩) n cap) (some (.int .i64 ((at' : Int) + 2))) (some (.int .i64 ((at' : Int) + 2 + (V2 : Int)))) none).run Try.prog W = .ok (.slice (subA (some ⟨b, off, none⟩) (at' + 2) cap) V2 (cap - (at' + 2))) W := fun W => by
            have := run_slice_two (P := Try.prog) (t := 24) (a := some ⟨b, off, none⟩) (n := n) (cap := cap) (lo := at' + 2) (hi := at' + 2 + V2) Try.underlying24 size_u8 (by omega) (by omega) W
            rw [show at' + 2 + V2 - (at' + 2) = V2 by omega] at this
            exact this
          rw [← hsg, ← hr'] at hq'
          generalize subA (some ⟨b, off, none⟩) (at' + 2) cap = A2 at *
          obtain ⟨c2, hc2⟩ : ∃ c2, c2 = cap - (at' + 2) := ⟨_, rfl⟩
          rw [← hc2] at hpc s1
          have w1 : IntKind.i64.wrap ((at' : Int) + 2 + (V2 : Int)) = (at' : Int) + 2 + (V2 : Int) := wrap_in (by omega) (by omega)
          clear hsg hr' hc2 hq
          have HEL : Hid (∀ w5 a5 c5, w5.ownsRow W4.heap.size 5 1 (.slice a5 V2 c5) V2 (sg.map B) → Below W4.heap.size W4 w5 →
              Own rY (g + 1) 24 (From (g + 1)) (w5.alloc (.cells #[.slice a5 V2 c5] 24)) a n1 cap1 ps ∧
              rY.R (fun b => From (g + 1) b ∧ (Value.slice a n1 cap1).ownBlock ≠ some b) (w5.alloc (.cells #[.slice a5 V2 c5] 24)) [.slice a5 V2 c5] sg ∧
              Below (g + 1) W4 (w5.alloc (.cells #[.slice a5 V2 c5] 24)) ∧ g + 1 ≤ (w5.alloc (.cells #[.slice a5 V2 c5] 24)).heap.size) := fun w5 a5 c5 ho5 hb5 => by
            have hal : Below w5.heap.size w5 (w5.alloc (.cells #[.slice a5 V2 c5] 24)) := (Below.refl _ _).alloc (Nat.le_refl _) _
            have hsz := hb5.size
            have hg4 : g + 1 ≤ W4.heap.size := g4.out
            obtain ⟨a', c', hv, hF⟩ := FreshB.of ho5 hb5
            cases hv
            refine ⟨(o4.out.keep hb5).keep hal, ?_, (hb5.mono hg4).trans (hal.mono (Nat.le_trans hg4 hsz)), Nat.le_trans (Nat.le_trans hg4 hsz) hal.size⟩
            refine rY.below hal ⟨a5, V2, c5, rfl, hF.bytes, by omega, fun hn x hx => ?_⟩
            obtain ⟨g', hg', hge⟩ := owns_shape hF.owns hn
            rw [hg'] at hx
            cases hx
            exact ⟨Nat.le_trans hg4 hge, fun e => by have h1 : g' < W4.heap.size := (o4.out.lt e).1; have h2 : W4.heap.size ≤ g' := hge; omega⟩
          have hpcD := hpc.keep ((Below.refl W4.heap.size W4).drew)
          have hbD : Below W4.heap.size W4 W4.drew := (Below.refl _ _).drew
          have hszD : W4.heap.size ≤ W4.drew.heap.size := Nat.le_refl _
          have hn1 : n1 ≤ 65536 := by have := hnk.out; omega
          have h63a : 0 + V2 ≤ maxLen := by unfold maxLen; omega
          have h47a : (0 + V2) * 1 ≤ 140737488355328 := by omega
          have h63b : n1 + 1 ≤ maxLen := by unfold maxLen; omega
          have h47b : (n1 + 1) * 24 ≤ 140737488355328 := by omega
          have HpcD := Lib.hid hpcD
          clear hpc hpcD
          go_wp2_with fail
          go_region_law (first
            | (refine step_append_row rfl (.const (.slice none 0 0)) (.tmp 65) 24 rfl W4.heap.size 5 i0 (.int .u8 0) 1 1 Try.underlying24 hi hz0 hz1 hz2 rfl (by decide) none 0 0 [] ?_ (World.ownsRow_nil _ _ _ _) A2 V2 c2 (sg.map B) ?_ HpcD.out.cells (oneCell_bytes _) h63a h47a W4 hbD hszD ?_; go_simp; go_simp; intro a5 c5 w5 ho5 hb5; rw [Nat.zero_add, List.nil_append] at ho5; have m5 := (hb5.cell (p := ⟨g, 1, none⟩) g4.out).trans m1; have m6 := fun o : Obj => cell_underAt (o := o) m5)
            | (refine step_own_push (r := rY) rfl (.tmp 59) (.tmp 67) 37 rfl (g + 1) 24 j0 (.slice none 0 0) Try.underlying37 hj hy0 hy1 hy2 rfl a n1 cap1 ps ?_ (HEL.out w5 a5 c5 ho5 hb5).1 (some ⟨w5.heap.size, 0, none⟩) 1 1 [.slice a5 V2 c5] [sg] ?_ (cells_lit w5 #[.slice a5 V2 c5] 24 1 1 (by unfold maxLen; omega) rfl) rfl (by simp [Value.oneCell']) (take_all_one (HEL.out w5 a5 c5 ho5 hb5).2.1) h63b h47b W4 (HEL.out w5 a5 c5 ho5 hb5).2.2.1 (HEL.out w5 a5 c5 ho5 hb5).2.2.2 ?_; go_simp; go_simp; intro a7 c7 w7 ho7 hb7 _; have m7 := (hb7.cell (p := ⟨g, 1, none⟩) (Nat.lt_succ_self g)).trans m1; have f7 := (hb7.frozen (p := ⟨g, 1, none⟩) (Nat.lt_succ_self g)).trans f1))
          all_goals
            have M7 : Hid (CellsAt (w7.setCell ⟨g, 1, none⟩ (.slice a7 (n1 + 1) c7)) g [.int .i64 (un : Int), .slice a7 (n1 + 1) c7, .int .i64 0, .bool false]) := (M4.out.keep (hb7.block g (Nat.lt_succ_self g))).set (k := 1) (by simp) _
            have N7 : Hid (CellsAt (w7.setCell ⟨g, 1, none⟩ (.slice a7 (n1 + 1) c7)) w.heap.size [.int .i64 0, .slice none 0 0, .int .i64 0, .bool false]) := (N4.out.keep (hb7.block w.heap.size (by omega))).far _ _ (by show g ≠ _; omega)
            have o7 : Hid (Own rY (g + 1) 24 (From (g + 1)) (w7.setCell ⟨g, 1, none⟩ (.slice a7 (n1 + 1) c7)) a7 (n1 + 1) c7 (ps ++ [sg])) := ho7.setCell _ _ (Nat.lt_succ_self g) (fun _ h => h)
            have b7 : Hid (Below w.heap.size w (w7.setCell ⟨g, 1, none⟩ (.slice a7 (n1 + 1) c7))) := (b4.out.trans (hb7.mono (by omega))).setCell (by show _ ≤ g; omega) _
            have g7 : Hid (g + 1 ≤ (w7.setCell ⟨g, 1, none⟩ (.slice a7 (n1 + 1) c7)).heap.size) := by show _ ≤ _; have h1 := hb7.size; have h2 : g + 1 ≤ W4.heap.size := g4.out; simp only [World.setCell, Array.size_modify]; omega
            have hnk' : Hid (n1 + 1 = k + 1) := by show _ = _; rw [hnk.out]
            clear m0 m1 m2 m3 f0 f1 f2 f3 d0 d1 d2 d3 e0 e1 e2 e3 m5 m6 m7 f7 ho5 hb5 ho7 hb7 HEL s1 hbD hszD
            go_wp2
            exact ⟨⟨k + 1, at' + 2 + V2, a7, n1 + 1, c7, ps ++ [sg], r', by omega, by go_num, by go_num, by omega, hr'', hnk', M7, N7, o7, b7, g7, hq'⟩, by simp [intOf]; omega⟩
    · have hkV : V - k = 0 := by omega
      rw [hkV] at hq
      have hsome : Hid (ptake 65535 V r0 = some (ps, r)) := by
        show _ = _
        rw [hq.out, ptake, ahead]
        simp
      have HQt : Hid (Q = tailN un ps r) := by show _ = _; rw [HQ2.out, hsome.out]
      clear hkV hq hsome HQ2
      by_cases h7 : un = 7
      · subst h7
        by_cases h2 : n = at' + 2
        · obtain ⟨p1, q1, c1, p18, p10⟩ := cell_get (HCC.out wr hb.out) at' (by rw [Hlen.out]; omega)
          obtain ⟨p2, q2, c2, p28, p20⟩ := cell_get (HCC.out wr hb.out) (at' + 1) (by rw [Hlen.out]; omega)
          have hr2 : r = [p1, p2] := by
            have hrl2 : r.length = 2 := by rw [hrl.out]; omega
            have e1 : r[0]? = some p1 := by rw [hr.out, List.getElem?_drop]; exact q1
            have e2 : r[1]? = some p2 := by rw [hr.out, List.getElem?_drop]; exact q2
            match r, hrl2 with
            | [z1, z2], _ =>
              simp only [List.getElem?_cons_zero, List.getElem?_cons_succ, Option.some.injEq] at e1 e2
              rw [e1, e2]
          by_cases hy1 : 1 < p2.toNat
          · have HQ3 : Hid (Q = none) := by
              show _ = _
              rw [HQt.out, hr2, tailN, if_pos rfl, if_neg (by simp; omega)]
            have hy1' : (1 : Int) < (p2.toNat : Int) := by omega
            have hat2 : ((n : Int) != (at' : Int) + 2) = false := by rw [h2]; simp
            have hat4 : (at' : Int) + 1 < (n : Int) := by omega
            have hat6 : (0 : Int) ≤ (at' : Int) + 1 := by omega
            have hat7 : ((at' : Int) + 1).toNat = at' + 1 := by omega
            clear HQt hr2 h2 q1 q2
            go_wp2
            refine bodyPost_ret (v := .tuple #[.agg #[.int .i64 0, .slice none 0 0, .int .i64 0, .bool false], .int .i64 3]) (by simp [results, Try.results46, go_sem, *]) rfl ?_
            exact tookS_none HQ3.out ⟨rfl, (((hb.out.setCell (Nat.le_refl _) _).setCell (Nat.le_refl _) _).setCell (Nat.le_refl _) _).setCell (Nat.le_refl _) _⟩
          · have hy1' : ¬ (1 : Int) < (p2.toNat : Int) := by omega
            obtain ⟨BK, hBK⟩ : ∃ BK, BK = (p2.toNat == 1) := ⟨_, rfl⟩
            have hyb : ((p2.toNat : Int) == 1) = BK := by
              rw [hBK, Bool.eq_iff_iff]; simp; omega
            have HQ3 : Hid (Q = mayN ⟨7, ps, p1.toNat, BK⟩) := by
              show _ = _
              rw [HQt.out, hr2, tailN, if_pos rfl, if_pos (by simp; omega), hBK]
              rfl
            have hat2 : ((n : Int) != (at' : Int) + 2) = false := by rw [h2]; simp
            have hat3 : ((at' : Int) + 2 != (n : Int)) = false := by rw [h2]; simp
            have hat4 : (at' : Int) + 1 < (n : Int) := by omega
            have hat5 : (at' : Int) < (n : Int) := by omega
            have hat6 : (0 : Int) ≤ (at' : Int) + 1 := by omega
            have hat7 : ((at' : Int) + 1).toNat = at' + 1 := by omega
            have hp1 : (0 : Int) ≤ (p1.toNat : Int) := by omega
            have hbg : ¬ g = b := by omega
            clear HQt hr2 h2 q1 q2 hBK hy1
            generalize (p2.toNat : Int) = yn2 at *
            generalize (p1.toNat : Int) = xn2 at *
            have EM : Hid (CellsAt ((wr.setCell ⟨g, 2, none⟩ (.int .i64 xn2)).setCell ⟨g, 3, none⟩ (.bool BK)) g [.int .i64 7, .slice a n1 cap1, .int .i64 xn2, .bool BK]) := (hM.out.set (k := 2) (by simp) _).set (k := 3) (by simp) _
            have EN : Hid (CellsAt ((wr.setCell ⟨g, 2, none⟩ (.int .i64 xn2)).setCell ⟨g, 3, none⟩ (.bool BK)) w.heap.size [.int .i64 0, .slice none 0 0, .int .i64 0, .bool false]) := (hN.out.far _ _ (by show g ≠ _; omega)).far _ _ (by show g ≠ _; omega)
            have EO : Hid (Own rY (g + 1) 24 (From (g + 1)) ((wr.setCell ⟨g, 2, none⟩ (.int .i64 xn2)).setCell ⟨g, 3, none⟩ (.bool BK)) a n1 cap1 ps) := (ho.out.setCell _ _ (Nat.lt_succ_self g) (fun _ h => h)).setCell _ _ (Nat.lt_succ_self g) (fun _ h => h)
            have EB : Hid (Below w.heap.size w ((wr.setCell ⟨g, 2, none⟩ (.int .i64 xn2)).setCell ⟨g, 3, none⟩ (.bool BK))) := (hb.out.setCell (by show _ ≤ g; omega) _).setCell (by show _ ≤ g; omega) _
            have EP := Lib.hid (Parts.of_slY (EO.out.sl (fun _ h => h)))
            have C := @rcheck_any 7 xn2 BK a n1 cap1 ps _ EP.out
            clear d0 d1 d2 d3 e0 e1 e2 e3
            go_wp2_with fail
            clear m0 m1 m2 m3 f0 f1 f2 f3 c1 c2
            refine C.mono ?_
            rintro e w5 ⟨rfl, hb5⟩
            have M5 := EM.out.below hb5
            have N5 := EN.out.below hb5
            have B5 := Lib.hid (below_then EB.out hb5)
            have P5 := Lib.hid (EP.out.keep hb5)
            have hcl := EM.out.lt
            obtain ⟨⟨m0, f0⟩, ⟨m1, f1⟩, ⟨m2, f2⟩, ⟨m3, f3⟩⟩ := (⟨M5 0 _ rfl, M5 1 _ rfl, M5 2 _ rfl, M5 3 _ rfl⟩ : _ ∧ _ ∧ _ ∧ _)
            obtain ⟨⟨d0, e0⟩, ⟨d1, e1⟩, ⟨d2, e2⟩, ⟨d3, e3⟩⟩ := (⟨N5 0 _ rfl, N5 1 _ rfl, N5 2 _ rfl, N5 3 _ rfl⟩ : _ ∧ _ ∧ _ ∧ _)
            have S5 := Lib.hid (EO.out.keep hb5)
            clear C hb5 M5 N5
            by_cases hE : noteE 7 xn2 BK ps = 0
            · have HT3 : Hid (Q = some ⟨7, ps, xn2, BK⟩) := by
                show _ = _
                rw [HQ3.out, mayN, if_pos hE]
              rw [hE]
              clear hE
              go_wp2
              refine bodyPost_ret (v := .tuple #[.agg #[.int .i64 7, .slice a n1 cap1, .int .i64 xn2, .bool BK], .int .i64 0]) (by simp [results, Try.results46, go_sem, *]) rfl ?_
              rw [HT3.out]
              refine ⟨a, n1, cap1, rfl, ?_, (((B5.out.setCell (Nat.le_refl _) _).setCell (Nat.le_refl _) _).setCell (Nat.le_refl _) _).setCell (Nat.le_refl _) _⟩
              refine Parts.of_slY (U := From (g + 1)) ?_
              have hHn : (⟨w.heap.size, 0, none⟩ : Addr).block < g + 1 := by show w.heap.size < _; omega
              exact ((((S5.out.setCell ⟨w.heap.size, 0, none⟩ _ hHn (fun _ h => h)).setCell ⟨w.heap.size, 1, none⟩ _ hHn (fun _ h => h)).setCell ⟨w.heap.size, 2, none⟩ _ hHn (fun _ h => h)).setCell ⟨w.heap.size, 3, none⟩ _ hHn (fun _ h => h)).sl (fun _ h => h)
            · have hEb : (noteE 7 xn2 BK ps != 0) = true := by rw [bne_iff_ne]; exact hE
              have HT3 : Hid (Q = none) := by
                show _ = _
                rw [HQ3.out, mayN, if_neg hE]
              clear hE
              generalize noteE 7 xn2 BK ps = EE at *
              go_wp2
              refine bodyPost_ret (v := .tuple #[.agg #[.int .i64 0, .slice none 0 0, .int .i64 0, .bool false], .int .i64 3]) (by simp [results, Try.results46, go_sem, *]) rfl ?_
              exact tookS_none HT3.out ⟨rfl, (((B5.out.setCell (Nat.le_refl _) _).setCell (Nat.le_refl _) _).setCell (Nat.le_refl _) _).setCell (Nat.le_refl _) _⟩
        · have hne : ((n : Int) != (at' : Int) + 2) = true := by rw [bne_iff_ne]; omega
          have HQ3 : Hid (Q = none) := by
            show _ = _
            rw [HQt.out, tailN, if_pos rfl, if_neg (by rw [hrl.out]; omega)]
          clear HQt h2
          go_wp2
          refine bodyPost_ret (v := .tuple #[.agg #[.int .i64 0, .slice none 0 0, .int .i64 0, .bool false], .int .i64 3]) (by simp [results, Try.results46, go_sem, *]) rfl ?_
          exact tookS_none HQ3.out ⟨rfl, (((hb.out.setCell (Nat.le_refl _) _).setCell (Nat.le_refl _) _).setCell (Nat.le_refl _) _).setCell (Nat.le_refl _) _⟩
      · have h7b : ((un : Int) == 7) = false := by rw [beq_eq_false_iff_ne]; omega
        by_cases h2 : at' = n
        · have HQ3 : Hid (Q = mayN ⟨un, ps, 0, false⟩) := by
            show _ = _
            rw [HQt.out, tailN, if_neg h7, if_pos (by rw [hrl.out]; omega)]
          have hat3 : ((at' : Int) != (n : Int)) = false := by rw [h2]; simp
          clear HQt h7 h2
          have EM := hM
          have EN := hN
          have EO := ho
          have EB := hb
          have EP := Lib.hid (Parts.of_slY (EO.out.sl (fun _ h => h)))
          have C := @rcheck_any (un : Int) 0 false a n1 cap1 ps _ EP.out
          clear d0 d1 d2 d3 e0 e1 e2 e3
          go_wp2_with fail
          clear m0 m1 m2 m3 f0 f1 f2 f3
          refine C.mono ?_
          rintro e w5 ⟨rfl, hb5⟩
          have M5 := EM.out.below hb5
          have N5 := EN.out.below hb5
          have B5 := Lib.hid (below_then EB.out hb5)
          have P5 := Lib.hid (EP.out.keep hb5)
          have hcl := EM.out.lt
          obtain ⟨⟨m0, f0⟩, ⟨m1, f1⟩, ⟨m2, f2⟩, ⟨m3, f3⟩⟩ := (⟨M5 0 _ rfl, M5 1 _ rfl, M5 2 _ rfl, M5 3 _ rfl⟩ : _ ∧ _ ∧ _ ∧ _)
          obtain ⟨⟨d0, e0⟩, ⟨d1, e1⟩, ⟨d2, e2⟩, ⟨d3, e3⟩⟩ := (⟨N5 0 _ rfl, N5 1 _ rfl, N5 2 _ rfl, N5 3 _ rfl⟩ : _ ∧ _ ∧ _ ∧ _)
          have S5 := Lib.hid (EO.out.keep hb5)
          clear C hb5 M5 N5
          by_cases hE : noteE (un : Int) 0 false ps = 0
          · have HT3 : Hid (Q = some ⟨(un : Int), ps, 0, false⟩) := by
              show _ = _
              rw [HQ3.out, mayN, if_pos hE]
            rw [hE]
            clear hE
            go_wp2
            refine bodyPost_ret (v := .tuple #[.agg #[.int .i64 (un : Int), .slice a n1 cap1, .int .i64 0, .bool false], .int .i64 0]) (by simp [results, Try.results46, go_sem, *]) rfl ?_
            rw [HT3.out]
            refine ⟨a, n1, cap1, rfl, ?_, (((B5.out.setCell (Nat.le_refl _) _).setCell (Nat.le_refl _) _).setCell (Nat.le_refl _) _).setCell (Nat.le_refl _) _⟩
            refine Parts.of_slY (U := From (g + 1)) ?_
            have hHn : (⟨w.heap.size, 0, none⟩ : Addr).block < g + 1 := by show w.heap.size < _; omega
            exact ((((S5.out.setCell ⟨w.heap.size, 0, none⟩ _ hHn (fun _ h => h)).setCell ⟨w.heap.size, 1, none⟩ _ hHn (fun _ h => h)).setCell ⟨w.heap.size, 2, none⟩ _ hHn (fun _ h => h)).setCell ⟨w.heap.size, 3, none⟩ _ hHn (fun _ h => h)).sl (fun _ h => h)
          · have hEb : (noteE (un : Int) 0 false ps != 0) = true := by rw [bne_iff_ne]; exact hE
            have HT3 : Hid (Q = none) := by
              show _ = _
              rw [HQ3.out, mayN, if_neg hE]
            clear hE
            generalize noteE (un : Int) 0 false ps = EE at *
            go_wp2
            refine bodyPost_ret (v := .tuple #[.agg #[.int .i64 0, .slice none 0 0, .int .i64 0, .bool false], .int .i64 3]) (by simp [results, Try.results46, go_sem, *]) rfl ?_
            exact tookS_none HT3.out ⟨rfl, (((B5.out.setCell (Nat.le_refl _) _).setCell (Nat.le_refl _) _).setCell (Nat.le_refl _) _).setCell (Nat.le_refl _) _⟩
        · have hne : ((at' : Int) != (n : Int)) = true := by rw [bne_iff_ne]; omega
          have HQ3 : Hid (Q = none) := by
            show _ = _
            rw [HQt.out, tailN, if_neg h7, if_neg (by rw [hrl.out]; omega)]
          clear HQt h7 h2
          go_wp2
          refine bodyPost_ret (v := .tuple #[.agg #[.int .i64 0, .slice none 0 0, .int .i64 0, .bool false], .int .i64 3]) (by simp [results, Try.results46, go_sem, *]) rfl ?_
          exact tookS_none HQ3.out ⟨rfl, (((hb.out.setCell (Nat.le_refl _) _).setCell (Nat.le_refl _) _).setCell (Nat.le_refl _) _).setCell (Nat.le_refl _) _⟩

theorem rtake_any {a : Option Addr} {n cap : Nat} {l : List UInt8} {w : World} (h : Bytes w a n cap l) (hn : n ≤ 4294967296) : Calls Try.prog 46 #[.slice a n cap] w (TookS w (takeN l)) := by
  by_cases h3 : n < 3
  · have e : takeN l = none := by
      have hl := h.len
      match l, hl with
      | [], _ => rfl
      | [_], _ => rfl
      | [_, _], _ => rfl
      | _ :: _ :: _ :: _, hl => simp at hl; omega
    rw [e]
    exact rtake_short w h3
  · exact rtake_long h (by omega) hn
end Go.Proofs.Ytmkfpfnjimmmaaa
