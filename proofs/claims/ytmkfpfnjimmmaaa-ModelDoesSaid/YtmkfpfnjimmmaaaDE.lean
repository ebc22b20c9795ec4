/- The word of the reference's Few, out of its walk: an inner loop's sum hangs on the outer one's. -/
import Derived.Test.YtmkfpfnjimmmaaaEF
namespace Go.Proofs.Ytmkfpfnjimmmaaa
open Go.RowKit
open DoorU
set_option linter.unusedVariables false
set_option linter.unusedSimpArgs false

theorem tabIn_any (w : World) : TabIn w := fun g k l ht => by cases ht

/-- A call whose result is a truth value. -/
theorem SC.callB {P : Program} {w : World} {f : FuncId} {S : Spec} (h : SC P f S) (hnv : S.sig.nv = 0) (hfv : S.fin.nv = 0) (x : S.sig.V) (hx : S.pre x) (hbs : (S.inU x).bs = []) (ht : TabIn w) {b : Bool} (hr : (S.outU (S.fn x)).cs = [.bool b]) (hb2 : (S.outU (S.fn x)).bs = []) {vs : List Value} (hl : vs.length = (S.inU x).cs.length)
    (hv : ∀ (i : Nat) (y : TV) (v : Value), (S.inU x).cs[i]? = some y → vs[i]? = some v → VA E0 w (fun _ => False) (fun _ => True) w.heap.size (denV (fun _ => .free) y) v) :
    Calls P f vs.toArray w fun e w' => e = .returned (.bool b) ∧ Below w.heap.size w w' := by
  have h1 := h (by rw [hnv, hfv]) x hx w (fun _ => True) E0 vs
  have hB : bsOf (S.inU x).bs = fun _ => TB.free := by rw [hbs]; rfl
  have hF : Fof E0 (fun g => denB (bsOf (S.inU x).bs) (bsOf (S.inU x).bs g)) = fun _ => False := by
    rw [hB]
    funext b
    exact propext ⟨fun ⟨g, q1, _⟩ => q1, False.elim⟩
  refine (h1 ?_ ?_ ?_ ?_).mono ?_
  · refine ⟨Cx.call_kept _ _ _ _ (fun g hg => by rw [hnv] at hg; exact absurd hg (Nat.not_lt_zero _)) ht (fun g x _ hf => by rw [hF] at hf; exact hf), ⟨fun b _ => trivial, fun g b hp => hp.2.1.elim⟩, fun g => ?_, fun g g' hg => ?_⟩
    · rw [hB]; exact id
    · rw [hB] at hg; exact hg.elim
  · intro g hg
    rw [hnv] at hg
    exact absurd hg (Nat.not_lt_zero _)
  · rw [List.length_map, hl]
  · intro i y v hy hv'
    rw [List.getElem?_map] at hy
    obtain ⟨z, hz, rfl⟩ := Option.map_eq_some_iff.1 hy
    rw [hF, hB]
    exact hv i z v hz hv'
  · rintro e w' ⟨r, B', v, E', ⟨rfl, rfl⟩, rfl, hm, hva⟩
    rw [hr, hb2] at hva
    have hk := hm.below
    refine ⟨?_, hk.below.os, hk.below.tape, hk.below.output, hk.below.size, fun b hb => hk.keep b hb fun hh => ?_⟩
    · cases hva with
      | d h => cases h; rfl
    · have hh' : Fof E0 (fun g => denB (bsOf (S.inU x).bs) (bsOf (S.inU x).bs g)) b := hh
      rw [hF] at hh'
      exact hh'

theorem qfew_any {w : World} {U : Nat → Prop} {q : Que} {ia : Option Addr} {n c : Nat} (h : Sl rE U w ia n c (denS (T := tL) q.2.1)) :
    Calls Try.prog 81 #[.agg #[.int .u64 q.1, .slice ia n c]] w fun e w' => e = .returned (.bool (fewQ q)) ∧ Below w.heap.size w w' := by
  refine SC.callB (vs := [.agg #[.int .u64 q.1, .slice ia n c]]) sc_qFew rfl rfl (q, ()) trivial rfl (tabIn_any w) rfl rfl rfl (atT_cons ?_ atT_nil)
  refine VA.agg (vs := [.d (.int .u64 q.1), .d (.view 5 (denS (T := tL) q.2.1))]) (us := [.int .u64 q.1, .slice ia n c]) rfl fun i x u hx hu => ?_
  match i, hx, hu with
  | 0, hx, hu => cases hx; cases hu; exact .d (.int _ _)
  | 1, hx, hu => cases hx; cases hu; exact .d ((view_of_sl h).chg (fun _ _ h => h) fun b _ _ => .inl trivial)

/-- A box's slice. -/
theorem box_at {w : World} {U : Nat → Prop} {a : Option Addr} {n c i : Nat} {B : List (List Let)} {b : List Let} (h : Sl rX U w a n c (denS (T := .sl tL) B)) (hi : B[i]? = some b) :
    ∃ bb off ia n' c', a = some ⟨bb, off, none⟩ ∧ i < n ∧ w.cell? ⟨bb, off + i, none⟩ = some (.slice ia n' c') ∧ Sl rE U w ia n' c' (denS (T := tL) b) := by
  have hx : (denS (T := .sl tL) B)[i]? = some (flatD (.sl tL) b) := denS_get (T := .sl tL) hi
  obtain ⟨bb, off, ha, cs, ⟨_, hl, hv⟩, hc⟩ := h.part i _ hx
  match cs, hl, hv, hc with
  | [v0], _, hv, hc =>
    have h0 : VD w NoF U w.heap.size (.view 5 (denS (T := tL) b)) v0 := hv 0 _ _ rfl rfl
    obtain ⟨ia, n', c', rfl, hs⟩ := sl_of_view (bytes := 56) (p1 := by decide) (p2 := by decide) h0
    have := (List.getElem?_eq_some_iff.1 hx).1
    rw [h.len] at this
    have hc0 := hc 0 _ rfl
    rw [show i * rX.sz + 0 = i from Nat.mul_one i] at hc0
    exact ⟨bb, off, ia, n', c', ha, this, hc0, hs⟩

/-- A letter's text. -/
theorem txt_at {w : World} {U : Nat → Prop} {a : Option Addr} {n c i : Nat} {L : List Let} {l : Let} (h : Sl rE U w a n c (denS (T := tL) L)) (hi : L[i]? = some l) :
    ∃ b off ta tn tc, a = some ⟨b, off, none⟩ ∧ i < n ∧ w.cell? ⟨b, off + i * 5, none⟩ = some (.bool l.1) ∧ w.cell? ⟨b, off + i * 5 + 1, none⟩ = some (.int .i64 l.2.1) ∧ w.cell? ⟨b, off + i * 5 + 2, none⟩ = some (.int .i64 l.2.2.1) ∧
      w.cell? ⟨b, off + i * 5 + 3, none⟩ = some (.int .u64 l.2.2.2.1) ∧ w.cell? ⟨b, off + i * 5 + 4, none⟩ = some (.slice ta tn tc) ∧ l.2.2.2.2.1.length = tn ∧ tn ≤ 9223372036854775807 := by
  obtain ⟨b, off, ta, tn, tc, h1, h2, h3, h4, h5, h6, h7, hR⟩ := let_at h hi
  have h8 : VD w NoF U w.heap.size (.view 1 (denS (T := tY) l.2.2.2.2.1)) (.slice ta tn tc) := hR.2.2 4 _ _ rfl rfl
  obtain ⟨ta', tn', tc', e, hs⟩ := sl_of_view (bytes := 1) (p1 := by decide) (p2 := by decide) h8
  cases e
  exact ⟨b, off, ta, tn, tc, h1, h2, h3, h4, h5, h6, h7, (denS_len (T := tY) l.2.2.2.2.1).symm.trans hs.len, hs.le_i64.1⟩

set_option maxRecDepth 100000 in
set_option maxHeartbeats 1600000 in
theorem rfew_any {w : World} {U : Nat → Prop} {s1 s2 s3 : Value} {m : Mod} (hm : VM w U m s1 s2 s3) :
    Calls Try.prog 48 #[.agg #[s1, s2, s3]] w fun e w' => e = .returned (.bool (fewM m)) ∧ Below w.heap.size w w' := by
  obtain ⟨qa, qn, qc, rfl, hq⟩ := sl_of_view (bytes := 32) (p1 := by decide) (p2 := by decide) hm.1
  obtain ⟨ca, cn, cc, rfl, hc⟩ := sl_of_view (bytes := 8) (p1 := by decide) (p2 := by decide) hm.2.1
  obtain ⟨ba, bn, bc, rfl, hb⟩ := sl_of_view (bytes := 24) (p1 := by decide) (p2 := by decide) hm.2.2
  have lq : m.1.length = qn := (denS_len (T := tQ) m.1).symm.trans hq.len
  have lc : m.2.1.length = cn := (denS_len (T := tI) m.2.1).symm.trans hc.len
  have lb : m.2.2.1.length = bn := (denS_len (T := .sl tL) m.2.2.1).symm.trans hb.len
  have mq := hq.le_i64.1
  have mc := hc.le_i64.1
  have mb := hb.le_i64.1
  obtain ⟨W1, hW1⟩ : ∃ W1, W1 = w.alloc (.cells #[.slice qa qn qc, .slice ca cn cc, .slice ba bn bc] 60) := ⟨_, rfl⟩
  have b1 : Below w.heap.size w W1 := by rw [hW1]; exact (Below.refl w.heap.size w).alloc (Nat.le_refl _) _
  have N1 : CellsAt W1 w.heap.size [.slice qa qn qc, .slice ca cn cc, .slice ba bn bc] := by rw [hW1]; exact CellsAt.new _ _ _ rfl
  have HAll : Hid (∀ W, Below W1.heap.size W1 W → CellsAt W w.heap.size [.slice qa qn qc, .slice ca cn cc, .slice ba bn bc] ∧ Below w.heap.size w W) := fun W hW => ⟨N1.below hW, below_then b1 hW⟩
  have HQ : Hid (∀ W, Below w.heap.size w W → Sl rQ U W qa qn qc (denS (T := tQ) m.1)) := fun W hW => hq.keep hW
  have HB : Hid (∀ W, Below w.heap.size w W → Sl rX U W ba bn bc (denS (T := .sl tL) m.2.2.1)) := fun W hW => hb.keep hW
  have HW1 := Lib.hid hW1
  obtain ⟨R, hR⟩ : ∃ R, R = fewM m := ⟨_, rfl⟩
  have HR := Lib.hid hR
  rw [← hR]
  obtain ⟨S0, hS0⟩ : ∃ S0, S0 = IntKind.i64.wrap (IntKind.i64.wrap ((qn : Int) + (cn : Int)) + (bn : Int)) := ⟨_, rfl⟩
  have HS0 := Lib.hid hS0
  have HSF : Hid (fewS m = boxS S0 m.2.2.1) := by show _ = _; unfold fewS; rw [lq, lc, lb, hS0]
  clear hm hq hc hb hW1 b1 N1 hR hS0
  go_enter Try.func48, Try.ntmps48
  go_wp2_with fail
  have e0 : wrap64 (wrap64 ((qn : Int) + (cn : Int)) + (bn : Int)) = S0 := by rw [HS0.out, IntWalk.i64_left, IntWalk.i64_left]
  rw [e0]
  clear e0
  go_loopw [24] (fun i wr => ∃ k, k ≤ qn ∧ i = .int .i64 (k : Nat) ∧ Hid (Below W1.heap.size W1 wr ∧ ∀ q ∈ m.1.take k, fewQ q = true)) (fun i _ => qn - (intOf i).toNat)
  case atStart => exact ⟨0, Nat.zero_le _, rfl, ⟨by rw [HW1.out]; exact Below.refl _ _, fun q hq => by simp at hq⟩⟩
  case round =>
    obtain ⟨k, hk, rfl, hH⟩ := hrel
    obtain ⟨bw1, hall⟩ := hH.out
    obtain ⟨cN, bw⟩ := HAll.out wr bw1
    by_cases hlt : k < qn
    · obtain ⟨q, hqk⟩ : ∃ q, m.1[k]? = some q := ⟨_, List.getElem?_eq_getElem (by rw [lq]; exact hlt)⟩
      obtain ⟨bq, oq, ia, n', c', rfl, _, c0, c1, hs⟩ := que_at (HQ.out wr bw) hqk
      have HK : Hid (∀ W, Below wr.heap.size wr W → Calls Try.prog 81 #[.agg #[.int .u64 q.1, .slice ia n' c']] W fun e w' => e = .returned (.bool (fewQ q)) ∧ Below W.heap.size W w') := fun W hW => qfew_any (hs.keep hW)
      have HBW1 := Lib.hid bw1
      have HT := Lib.hid (take_snoc hqk)
      have HM := Lib.hid (List.mem_of_getElem? hqk)
      have HA := Lib.hid hall
      clear bw bw1 hall cN hs hqk
      go_wp2_with fail
      refine (HK.out _ (by repeat (first | assumption | exact Below.refl _ _ | refine Below.drew ?_ | refine Below.alloc ?_ (by first | (simp; done) | (simp; omega) | omega) _))).mono ?_
      rintro e w2 ⟨rfl, bb⟩
      have bw2 : Below W1.heap.size W1 w2 := below_then (HBW1.out.alloc HBW1.out.size _) bb
      cases hf : fewQ q with
      | false =>
        have HRf : Hid (R = false) := by
          show _ = _
          rw [HR.out]
          have : m.1.all fewQ = false := by rw [List.all_eq_false]; exact ⟨q, HM.out, by rw [hf]; exact Bool.false_ne_true⟩
          unfold fewM
          rw [this, Bool.false_and]
        have HBE := Lib.hid ((HAll.out w2 bw2).2)
        clear HK HAll HQ HB bw2 bb HBW1
        go_wp2
        go_ret
        exact ⟨ret_boolC HRf.out.symm, HBE.out⟩
      | true =>
        have hN : Hid (Below W1.heap.size W1 w2 ∧ ∀ q ∈ m.1.take (k + 1), fewQ q = true) := ⟨bw2, fun x hx => by
          rw [HT.out] at hx
          rcases List.mem_append.1 hx with h | h
          · exact HA.out x h
          · have : x = q := by simpa using h
            rw [this]; exact hf⟩
        clear HK HAll HQ HB bw2 bb HBW1
        go_wp2
        exact ⟨⟨k + 1, by omega, by go_num, hN⟩, by simp [intOf]; omega⟩
    · have hkq : k = qn := by omega
      have HALL : Hid (m.1.all fewQ = true) := by
        show _ = _
        rw [List.all_eq_true]
        intro x hx
        exact hall x (by rw [List.take_of_length_le (by omega)]; exact hx)
      subst hkq
      obtain ⟨⟨k0, _⟩, ⟨k1, _⟩, ⟨k2, _⟩⟩ := (⟨cN 0 _ rfl, cN 1 _ rfl, cN 2 _ rfl⟩ : _ ∧ _ ∧ _)
      have HBW1 := Lib.hid bw1
      clear bw1 hall cN bw hH
      go_wp2_with fail
      clear k0 k1 k2
      go_loopw [3, 35] (fun s i w3 => ∃ j, j ≤ bn ∧ i = .int .i64 (j : Nat) ∧ s = .int .i64 (boxS S0 (m.2.2.1.take j)) ∧ Hid (Below W1.heap.size W1 w3)) (fun _ i _ => bn - (intOf i).toNat)
      case atStart => exact ⟨0, Nat.zero_le _, rfl, rfl, HBW1⟩
      case round =>
        obtain ⟨j, hj, rfl, rfl, hB⟩ := hrel
        by_cases hlt2 : j < bn
        · obtain ⟨b, hbj⟩ : ∃ b, m.2.2.1[j]? = some b := ⟨_, List.getElem?_eq_getElem (by rw [lb]; exact hlt2)⟩
          obtain ⟨bb, ob, ia, n', c', rfl, _, c0, hs⟩ := box_at (HB.out _ (HAll.out _ hB.out).2) hbj
          have lbn : b.length = n' := (denS_len (T := tL) b).symm.trans hs.len
          have hmn := hs.le_i64.1
          obtain ⟨S1, hS1⟩ : ∃ S1, S1 = boxS S0 (m.2.2.1.take j) := ⟨_, rfl⟩
          obtain ⟨S2, hS2⟩ : ∃ S2, S2 = wrap64 (S1 + (n' : Int)) := ⟨_, rfl⟩
          have HS1 : Hid (boxS S0 (m.2.2.1.take (j + 1)) = txtS S2 b) := by
            show _ = _
            rw [take_snoc hbj]
            unfold boxS
            rw [List.foldl_append]
            show txtS (IntKind.i64.wrap (boxS S0 (m.2.2.1.take j) + (b.length : Nat))) b = txtS S2 b
            rw [← hS1, lbn, IntWalk.i64_left, ← hS2]
          have HB2 := Lib.hid hB.out
          obtain ⟨W4, hW4⟩ : ∃ W4, W4 = wr := ⟨_, rfl⟩
          rw [← hW4] at hs HB2
          have HSL : Hid (∀ W, Below W4.heap.size W4 W → Sl rE U W ia n' c' (denS (T := tL) b)) := fun W hW => hs.keep hW
          have HW4 := Lib.hid hW4
          rw [← hS1]
          have HS2 := Lib.hid hS2
          clear hS1 hS2 hs hbj hB hW4
          go_wp2_with fail
          rw [← HS2.out]
          go_loopw [3, 45] (fun s i w4 => ∃ h, h ≤ n' ∧ i = .int .i64 (h : Nat) ∧ s = .int .i64 (txtS S2 (b.take h)) ∧ Hid (Below W4.heap.size W4 w4)) (fun _ i _ => n' - (intOf i).toNat)
          case atStart => exact ⟨0, Nat.zero_le _, rfl, rfl, by rw [HW4.out]; exact Below.refl _ _⟩
          case round =>
            obtain ⟨h, hh, rfl, rfl, hB4⟩ := hrel
            by_cases hlt3 : h < n'
            · obtain ⟨l, hl⟩ : ∃ l, b[h]? = some l := ⟨_, List.getElem?_eq_getElem (by rw [lbn]; exact hlt3)⟩
              obtain ⟨bl, ol, ta, tn, tc, rfl, _, l0, l1, l2, l3, l4, ltx, mtn⟩ := txt_at (HSL.out _ hB4.out) hl
              obtain ⟨S3, hS3⟩ : ∃ S3, S3 = txtS S2 (b.take h) := ⟨_, rfl⟩
              have HS3 : Hid (txtS S2 (b.take (h + 1)) = wrap64 (S3 + (tn : Int) / 64)) := by
                show _ = _
                rw [take_snoc hl]
                unfold txtS
                rw [List.foldl_append]
                show IntKind.i64.wrap (txtS S2 (b.take h) + IntKind.i64.wrap (Int.tdiv (l.2.2.2.2.1.length : Nat) 64)) = _
                rw [← hS3, ltx, Int.tdiv_eq_ediv_of_nonneg (by omega), IntWalk.i64_in ((tn : Int) / 64) (by omega), IntWalk.i64_left]
              have HB5 : Hid (∀ o : Obj, Below W4.heap.size W4 (wr.alloc o)) := fun o => hB4.out.alloc hB4.out.size o
              rw [← hS3]
              clear hS3 hl hB4 ltx
              go_wp2
              exact ⟨⟨h + 1, by omega, by go_num, by rw [HS3.out], HB5.out _⟩, by simp [intOf]; omega⟩
            · have hhn : h = n' := by omega
              subst hhn
              have HT : Hid (txtS S2 (b.take h) = boxS S0 (m.2.2.1.take (j + 1))) := by
                show _ = _
                rw [HS1.out, List.take_of_length_le (by omega)]
              have HBE : Hid (Below W1.heap.size W1 _) := below_then HB2.out hB4.out
              obtain ⟨T, hT⟩ : ∃ T, T = boxS S0 (m.2.2.1.take (j + 1)) := ⟨_, rfl⟩
              have HTT := Lib.hid hT
              rw [HT.out, ← hT]
              clear HSL HS1 HS2 HB2 hB4 HT hT
              go_wp2
              exact ⟨⟨j + 1, by omega, by go_num, by rw [HTT.out], HBE⟩, by simp [intOf]; omega⟩
        · have hjb : j = bn := by omega
          subst hjb
          have HE : Hid (R = decide (boxS S0 (m.2.2.1.take j) ≤ 200)) := by
            show _ = _
            rw [HR.out]
            unfold fewM
            rw [HALL.out, Bool.true_and, HSF.out, List.take_of_length_le (by omega)]
          have HBE := Lib.hid ((HAll.out _ hB.out).2)
          clear HR HALL HSF HAll HQ HB hB
          generalize boxS S0 (m.2.2.1.take j) = T at *
          go_wp2
          go_ret
          exact ⟨ret_boolC HE.out.symm, HBE.out⟩

def S_mFew : Spec := ⟨.pair aM .unit, .pair .bool .unit, fun _ => True, fun (x : Mod × Unit) => ((fewM x.1, ()) : Bool × Unit)⟩
theorem sc_mFew : SC Try.prog 48 S_mFew :=
  SC.pure rfl (fun _ => rfl) (fun _ => rfl) fun x hx w U E vs hT hl hv => by
    obtain ⟨m, ⟨⟩⟩ := x
    obtain ⟨v, rfl⟩ : ∃ v, vs = [v] := by
      match vs, hl with
      | [v], _ => exact ⟨v, rfl⟩
    have h0 : VA E w NoF U w.heap.size (.agg [.d (.view 2 (denS (T := tQ) m.1)), .d (.view 1 (denS (T := tI) m.2.1)), .d (.view 1 (denS (T := .sl tL) m.2.2.1))]) v := hv 0 _ v rfl rfl
    obtain ⟨s1, s2, s3, rfl, hm⟩ : ∃ s1 s2 s3, v = .agg #[s1, s2, s3] ∧ VM w U m s1 s2 s3 := by
      cases h0 with
      | @agg _ us hl h =>
        match us, hl, h with
        | [u0, u1, u2], _, h =>
          have a0 := h 0 _ _ rfl rfl
          have a1 := h 1 _ _ rfl rfl
          have a2 := h 2 _ _ rfl rfl
          refine ⟨u0, u1, u2, rfl, ?_, ?_, ?_⟩
          · cases a0 with
            | d a0 => exact a0
          · cases a1 with
            | d a1 => exact a1
          · cases a2 with
            | d a2 => exact a2
    refine (rfew_any hm).mono ?_
    rintro e w' ⟨rfl, hb⟩
    exact ⟨_, rfl, hb, .d (.bool _)⟩
theorem en_mFew (us : Array Value) (u : World) : (callFunc 48 us).run Try.prog u = .ok (.enter 48 us) u := by kernel_rfl
end Go.Proofs.Ytmkfpfnjimmmaaa
