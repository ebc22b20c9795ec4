/- The walk of note's takeParts. -/
import Derived.Test.YtmkfpfnjimmmaaaBlk
namespace Go.Proofs.Ytmkfpfnjimmmaaa
open Go.RowKit

/-- Bytes of the call's own, that may be written. -/
def rW (e : TypeId) : Rep (List UInt8) where
  sz := 1
  bytes := 24
  R := fun U w cs x => ∃ a n cap, cs = [.slice a n cap] ∧ Bytes w a n cap x ∧ n ≤ 140737488351232 ∧ In U a n ∧ (n ≠ 0 → w.ownsRow 0 e 1 (.slice a n cap) n (x.map B))
  pos := by decide
  pos' := by decide
  len := fun ⟨_, _, _, h, _⟩ => by rw [h]; rfl
  one := fun ⟨_, _, _, h, _⟩ v hv => by rw [h, List.mem_singleton] at hv; subst hv; rfl
  mono := fun hu ⟨a, n, cap, h, hy, hr, hi, ho⟩ => ⟨a, n, cap, h, hy, hr, fun hn x hx => hu _ (hi hn x hx), ho⟩
  keep := fun hs ⟨a, n, cap, h, hy, hr, hi, ho⟩ => ⟨a, n, cap, h, hy.same hi hs, hr, hi, fun hn => by
    have h1 := ho hn
    refine ⟨h1.1, ?_⟩
    rcases h1.2 with h2 | ⟨g, cp, cur, hv, hg, hh, r⟩
    · exact .inl h2
    · refine .inr ⟨g, cp, cur, hv, hg, ?_, r⟩
      rw [hs g (hi hn _ (by cases hv; rfl)) (Array.getElem?_eq_some_iff.1 hh).1]
      exact hh⟩
  lt := fun ⟨a, n, cap, h, hy, hr, hi, ho⟩ => ⟨a, n, cap, h, hy, hr, hy.in_lt hi, ho⟩

/-- So many parts, none longer than so much, and what is behind. -/
def ptake (lim : Nat) : Nat → List UInt8 → Option (List (List UInt8) × List UInt8)
  | 0, l => some ([], l)
  | k + 1, l => match numL l with
    | none => none
    | some (m, r) => if lim < m then none else if r.length < m then none else match ptake lim k (r.drop m) with
      | none => none
      | some (ps, r') => some (r.take m :: ps, r')

def tpL (l : List UInt8) : Option (List (List UInt8) × List UInt8) := match numL l with
  | none => none
  | some (c, r) => if 64 < c then none else ptake 1024 c r

/-- What ps is ahead of. -/
def ahead (ps : List (List UInt8)) (q : Option (List (List UInt8) × List UInt8)) : Option (List (List UInt8) × List UInt8) := q.map fun x => (ps ++ x.1, x.2)
theorem ahead_nil (q : Option (List (List UInt8) × List UInt8)) : ahead [] q = q := by cases q <;> rfl
theorem ahead_none (ps : List (List UInt8)) : ahead ps none = none := rfl

theorem ptake_num_no {lim k : Nat} {l : List UInt8} (h : l.length < 2) : ptake lim (k + 1) l = none := by
  simp only [ptake]
  rw [numL, if_neg (by omega)]
theorem ptake_long {lim k : Nat} {l : List UInt8} (h : 2 ≤ l.length) (hm : lim < val (l.take 2)) : ptake lim (k + 1) l = none := by
  simp only [ptake]
  rw [numL, if_pos h]
  simp only [if_pos hm]
theorem ptake_short {lim k : Nat} {l : List UInt8} (h : 2 ≤ l.length) (hm : val (l.take 2) ≤ lim) (hs : l.length - 2 < val (l.take 2)) : ptake lim (k + 1) l = none := by
  simp only [ptake]
  rw [numL, if_pos h]
  simp only
  rw [if_neg (by omega), if_pos (by rw [List.length_drop]; exact hs)]
theorem ptake_step {lim k : Nat} {l : List UInt8} (ps : List (List UInt8)) (h : 2 ≤ l.length) (hm : val (l.take 2) ≤ lim) (hs : val (l.take 2) ≤ l.length - 2) :
    ahead ps (ptake lim (k + 1) l) = ahead (ps ++ [(l.drop 2).take (val (l.take 2))]) (ptake lim k ((l.drop 2).drop (val (l.take 2)))) := by
  simp only [ptake]
  rw [numL, if_pos h]
  simp only
  rw [if_neg (by omega), if_neg (by rw [List.length_drop]; omega)]
  cases ptake lim k ((l.drop 2).drop (val (l.take 2))) with
  | none => rfl
  | some q => simp [ahead]

theorem info_bytes : (Try.prog.info? 24).map (fun i => (i.zero, i.size, i.bytes)) = some (some (.slice none 0 0), 1, 24) := by kernel_rfl

theorem In.drop {U : Nat → Prop} {a : Option Addr} {n : Nat} (h : In U a n) (m cap : Nat) : In U (subA a m cap) (n - m) := fun hn x hx => by
  unfold subA at hx
  by_cases hc : cap = m
  · rw [if_pos hc] at hx; exact h (by omega) x hx
  · rw [if_neg hc] at hx
    cases a with
    | none => cases hx
    | some y =>
      have e : x = y.add m := by simpa using hx.symm
      have hb : x.block = y.block := by rw [e]; unfold Addr.add; split <;> rfl
      rw [hb]
      exact h (by omega) y rfl

/-- What takeParts tells. -/
def TookParts (U : Nat → Prop) (w : World) (q : Option (List (List UInt8) × List UInt8)) (e : Ending) (w' : World) : Prop :=
  match q with
  | none => e = .returned (.tuple #[.slice none 0 0, .slice none 0 0, .bool false]) ∧ Below w.heap.size w w'
  | some (pp, r) => ∃ a n cap a2 n2 c2, e = .returned (.tuple #[.slice a n cap, .slice a2 n2 c2, .bool true]) ∧ Sl (rW 5) (From w.heap.size) w' a n cap pp ∧ Bytes w' a2 n2 c2 r ∧ In U a2 n2 ∧ n ≤ 64 ∧ Below w.heap.size w w'

theorem tookParts_none {U : Nat → Prop} {w : World} {q : Option (List (List UInt8) × List UInt8)} (h : q = none) {e : Ending} {w' : World} (h' : e = .returned (.tuple #[.slice none 0 0, .slice none 0 0, .bool false]) ∧ Below w.heap.size w w') : TookParts U w q e w' := by
  subst h; exact h'

set_option maxRecDepth 100000 in
set_option maxHeartbeats 1600000 in
theorem takeParts_any {U : Nat → Prop} {a : Option Addr} {n cap : Nat} {l : List UInt8} {w : World} (h : Bytes w a n cap l) (hin : In U a n) :
    Calls Try.prog 79 #[.slice a n cap] w (TookParts U w (tpL l)) := by
  obtain ⟨i0, hi, hz0, hz1, hz2⟩ := info_parts info_bytes
  have hl := h.len
  by_cases h2 : 2 ≤ n
  · have K := takeNumber_yes h h2
    have hv : val (l.take 2) < 65536 := by
      have h1 := val_lt (l.take 2)
      have h3 : (l.take 2).length = 2 := by rw [List.length_take, h.len]; omega
      rw [h3] at h1
      omega
    have HTP : Hid (tpL l = if 64 < val (l.take 2) then none else ptake 1024 (val (l.take 2)) (l.drop 2)) := by
      show _ = _
      rw [tpL, numL, if_pos (by omega)]
    have HD := Lib.hid (h.drop h2)
    have HI := Lib.hid (hin.drop 2 cap)
    obtain ⟨V, hV⟩ : ∃ V, V = val (l.take 2) := ⟨_, rfl⟩
    obtain ⟨r0, hr0⟩ : ∃ r0, r0 = l.drop 2 := ⟨_, rfl⟩
    rw [← hV] at K hv HTP
    rw [← hr0] at HTP HD
    obtain ⟨n2, hn2⟩ : ∃ n2, n2 = n - 2 := ⟨_, rfl⟩
    obtain ⟨c2, hc2⟩ : ∃ c2, c2 = cap - 2 := ⟨_, rfl⟩
    rw [← hn2, ← hc2] at K HD
    rw [← hn2] at HI
    clear hn2 hc2 hV hr0 hl h hin
    generalize subA a 2 cap = A2 at *
    by_cases h64 : 64 < V
    · rw [HTP.out, if_pos h64]
      clear HTP
      go_enter Try.func79, Try.ntmps79
      go_wp2_with fail
      refine K.mono ?_
      rintro e w1 ⟨rfl, hb1⟩
      go_wp2
      go_ret3
      exact ⟨rfl, hb1⟩
    · rw [HTP.out, if_neg h64]
      clear HTP
      have HN : Hid (∀ q, ptake 1024 V r0 = q → TookParts U w (ptake 1024 V r0) = TookParts U w q) := fun q hq => by rw [hq]
      obtain ⟨Q, hQ⟩ : ∃ Q, Q = TookParts U w (ptake 1024 V r0) := ⟨_, rfl⟩
      have HQ := Lib.hid hQ
      rw [← hQ]
      clear hQ
      go_enter Try.func79, Try.ntmps79
      go_wp2_with fail
      refine K.mono ?_
      rintro e w1 ⟨rfl, hb1⟩
      have HB1 := Lib.hid hb1
      clear hb1
      go_wp2
      go_loopw [2, 3, 21] (fun p s i wr => ∃ k a n cap a3 n3 c3 ps r, k ≤ V ∧ i = .int .i64 (k : Nat) ∧ p = .slice a n cap ∧ s = .slice a3 n3 c3 ∧ Hid (n = k) ∧ Hid (Own (rW 5) w.heap.size 24 (From w.heap.size) wr a n cap ps) ∧ Hid (Bytes w a3 n3 c3 r ∧ In U a3 n3) ∧ Hid (Below w.heap.size w wr) ∧ Hid (ptake 1024 V r0 = ahead ps (ptake 1024 (V - k) r))) (fun _ _ i _ => V - (intOf i).toNat)
      case atStart => exact ⟨0, none, 0, 0, A2, n2, c2, [], r0, Nat.zero_le _, rfl, rfl, rfl, rfl, Own.nil _ _ _ _ _, Lib.hid ⟨HD.out, HI.out⟩, HB1, by show _ = _; rw [ahead_nil, Nat.sub_zero]⟩
      case round =>
        obtain ⟨k, a, n, cap, a3, n3, c3, ps, r, hk, rfl, rfl, rfl, hnk, ho, hri, hb, hq⟩ := hrel
        have hr := Lib.hid hri.out.1
        have hrl := Lib.hid hr.out.len
        by_cases hlt : k < V
        · have HK1 : Hid (V - k = (V - (k + 1)) + 1) := by show _ = _; omega
          rw [HK1.out] at hq
          by_cases g2 : 2 ≤ n3
          · have hrw := hr.out.keep hb.out
            have K2 := takeNumber_yes hrw g2
            have D1 := hr.out.drop g2
            have hv2 : val (r.take 2) < 65536 := by
              have h1 := val_lt (r.take 2)
              have h3 : (r.take 2).length = 2 := by rw [List.length_take, hrl.out]; omega
              rw [h3] at h1
              omega
            by_cases gl : val (r.take 2) ≤ 1024
            · by_cases gs : val (r.take 2) ≤ n3 - 2
              · have hq' : Hid (ptake 1024 V r0 = ahead (ps ++ [(r.drop 2).take (val (r.take 2))]) (ptake 1024 (V - (k + 1)) ((r.drop 2).drop (val (r.take 2))))) := by
                  show _ = _
                  rw [hq.out, ptake_step ps (by rw [hrl.out]; exact g2) gl (by rw [hrl.out]; exact gs)]
                have D2 := Lib.hid (And.intro (D1.drop gs) ((hri.out.2.drop 2 c3).drop (val (r.take 2)) (c3 - 2)))
                have D3 := Lib.hid (D1.takeCap gs)
                obtain ⟨s, hs⟩ : ∃ s, s = (r.drop 2).take (val (r.take 2)) := ⟨_, rfl⟩
                obtain ⟨r', hr'⟩ : ∃ r', r' = (r.drop 2).drop (val (r.take 2)) := ⟨_, rfl⟩
                rw [← hs] at hq' D3
                rw [← hr'] at hq' D2
                obtain ⟨V2, hV2⟩ : ∃ V2, V2 = val (r.take 2) := ⟨_, rfl⟩
                rw [← hV2] at K2 gl gs D2 D3 hv2
                have K3 := fun W => cut_yes (a := subA a3 2 c3) (cap := c3 - 2) W gs (Nat.sub_le_sub_right hr.out.le 2)
                obtain ⟨n4, hn4⟩ : ∃ n4, n4 = n3 - 2 := ⟨_, rfl⟩
                obtain ⟨c4, hc4⟩ : ∃ c4, c4 = c3 - 2 := ⟨_, rfl⟩
                rw [← hn4, ← hc4] at K2 K3 D2
                generalize subA a3 2 c3 = A3 at *
                generalize subA A3 V2 c4 = A4 at *
                obtain ⟨n5, hn5⟩ : ∃ n5, n5 = n4 - V2 := ⟨_, rfl⟩
                obtain ⟨c5, hc5⟩ : ∃ c5, c5 = c4 - V2 := ⟨_, rfl⟩
                rw [← hn5, ← hc5] at K3 D2
                have HK3 := Lib.hid K3
                clear hn4 hc4 hn5 hc5 hV2 hs hr' hrw D1 K3 hq HK1
                go_wp2_with fail
                refine K2.mono ?_
                rintro e w2 ⟨rfl, hb2⟩
                have B2 := below_then hb.out hb2
                clear K2
                go_wp2_with fail
                refine (HK3.out _).mono ?_
                rintro e w3 ⟨rfl, hb3⟩
                have B3 := below_then B2 hb3
                go_wp2_with fail
                refine (bclone_any (D3.out.keep B3) (by omega)).mono ?_
                rintro e w4 ⟨a4, c6, rfl, h4⟩
                have B4 := below_then B3 h4.below
                have hwr : w.heap.size ≤ wr.heap.size := hb.out.size
                have hw3 : wr.heap.size ≤ w3.heap.size := Nat.le_trans hb2.size hb3.size
                have hw4 : w3.heap.size ≤ w4.heap.size := h4.below.size
                have ho4 := (((ho.out.keep hb2).keep hb3).keep h4.below).keep ((Below.refl w4.heap.size w4).alloc (Nat.le_refl _) (.cells #[.slice a4 V2 c6] 24))
                have hblk : ∀ g, (Value.slice a n cap).ownBlock = some g → g < w3.heap.size := fun g hg => Nat.lt_of_lt_of_le (ho.out.lt hg).1 hw3
                have hel : (rW 5).R (fun b => From w.heap.size b ∧ (Value.slice a n cap).ownBlock ≠ some b) w4 [.slice a4 V2 c6] s := by
                  refine ⟨a4, V2, c6, rfl, h4.bytes, by omega, fun hn x hx => ?_, fun hn => owns_mono h4.owns (Nat.zero_le _)⟩
                  obtain ⟨g, hg, hge⟩ := owns_shape h4.owns hn
                  rw [hg] at hx
                  cases hx
                  exact ⟨Nat.le_trans (Nat.le_trans hwr hw3) hge, fun e => by have := hblk g e; omega⟩
                have hel2 := (rW 5).below ((Below.refl w4.heap.size w4).alloc (Nat.le_refl _) (.cells #[.slice a4 V2 c6] 24)) hel
                have hcc := cells_lit w4 #[.slice a4 V2 c6] 24 1 1 (by unfold maxLen; omega) rfl
                have hbb := B4.alloc (Nat.le_trans (Nat.le_trans hwr hw3) hw4) (.cells #[.slice a4 V2 c6] 24)
                have hsz : w.heap.size ≤ (w4.alloc (.cells #[.slice a4 V2 c6] 24)).heap.size := by simp; omega
                have hn65 : n + 1 ≤ 65 := by have := hnk.out; omega
                have HH := Lib.hid (And.intro ho4 hel2)
                have hbbH := Lib.hid hbb
                clear ho4 hel2 hel h4 hbb hblk
                go_wp2_with (at_builtin; refine wpList_own_push (r := rW 5) rfl (.tmp 44) (.tmp 47) 37 rfl w.heap.size 24 i0 (.slice none 0 0) Try.underlying37 hi hz0 hz1 hz2 rfl _ _ _ _ rfl HH.out.1 _ 1 1 _ [s] rfl hcc rfl (by simp [Value.oneCell']) (take_all_one HH.out.2) (by unfold maxLen; omega) (by show (n + 1) * 24 ≤ _; omega) w hbbH.out hsz ?_)
                intro a7 c7 w7 ho7 hb7 _
                have HO7 := Lib.hid ho7
                have HB7 := Lib.hid hb7
                have hnk' : Hid (n + 1 = k + 1) := by show _ = _; rw [hnk.out]
                clear ho7 hb7 hcc HH
                go_wp2
                exact ⟨⟨k + 1, a7, n + 1, c7, A4, n5, c5, ps ++ [s], r', by omega, by go_num, rfl, rfl, hnk', HO7, D2, HB7, hq'⟩, by simp [intOf]; omega⟩
              · have hnone : Hid (ptake 1024 V r0 = none) := by
                  show _ = _
                  rw [hq.out, ptake_short (by rw [hrl.out]; exact g2) gl (by rw [hrl.out]; omega), ahead_none]
                have K3 := fun W => cut_no (a := subA a3 2 c3) (cap := c3 - 2) (n := n3 - 2) (m := val (r.take 2)) W (by omega)
                have HK3 := Lib.hid K3
                obtain ⟨V2, hV2⟩ : ∃ V2, V2 = val (r.take 2) := ⟨_, rfl⟩
                rw [← hV2] at K2 gl gs HK3 hv2
                obtain ⟨n4, hn4⟩ : ∃ n4, n4 = n3 - 2 := ⟨_, rfl⟩
                obtain ⟨c4, hc4⟩ : ∃ c4, c4 = c3 - 2 := ⟨_, rfl⟩
                rw [← hn4, ← hc4] at K2 HK3
                generalize subA a3 2 c3 = A3 at *
                clear hn4 hc4 hV2 hrw D1 K3 hq HK1
                go_wp2_with fail
                refine K2.mono ?_
                rintro e w2 ⟨rfl, hb2⟩
                have B2 := below_then hb.out hb2
                clear K2
                go_wp2_with fail
                refine (HK3.out _).mono ?_
                rintro e w3 ⟨rfl, rfl⟩
                go_wp2
                go_ret3
                rw [HQ.out]
                exact tookParts_none hnone.out ⟨rfl, B2⟩
            · have hnone : Hid (ptake 1024 V r0 = none) := by
                show _ = _
                rw [hq.out, ptake_long (by rw [hrl.out]; exact g2) (by omega), ahead_none]
              obtain ⟨V2, hV2⟩ : ∃ V2, V2 = val (r.take 2) := ⟨_, rfl⟩
              rw [← hV2] at K2 gl hv2
              generalize subA a3 2 c3 = A3 at *
              clear hV2 hrw D1 hq HK1
              go_wp2_with fail
              refine K2.mono ?_
              rintro e w2 ⟨rfl, hb2⟩
              have B2 := below_then hb.out hb2
              clear K2
              go_wp2
              go_ret3
              rw [HQ.out]
              exact tookParts_none hnone.out ⟨rfl, B2⟩
          · have hnone : Hid (ptake 1024 V r0 = none) := by
              show _ = _
              rw [hq.out, ptake_num_no (by rw [hrl.out]; omega), ahead_none]
            have K2 := takeNumber_no (a := a3) (cap := c3) wr (show n3 < 2 by omega)
            clear hq HK1
            go_wp2_with fail
            refine K2.mono ?_
            rintro e w2 ⟨rfl, rfl⟩
            go_wp2
            go_ret3
            rw [HQ.out]
            exact tookParts_none hnone.out ⟨rfl, hb.out⟩
        · have hkV : V - k = 0 := by omega
          rw [hkV] at hq
          have hsome : Hid (ptake 1024 V r0 = some (ps, r)) := by
            show _ = _
            rw [hq.out, ptake, ahead]
            simp
          clear hkV hq
          go_wp2
          go_ret3
          rw [HQ.out, hsome.out]
          exact ⟨a, n, cap, a3, n3, c3, rfl, ho.out.sl (fun _ h => h), hr.out.keep hb.out, hri.out.2, by have := hnk.out; omega, hb.out⟩
  · have hnone : tpL l = none := by rw [tpL, numL, if_neg (by omega)]
    rw [hnone]
    have K := takeNumber_no (a := a) (cap := cap) w (show n < 2 by omega)
    clear hnone hl h
    go_enter Try.func79, Try.ntmps79
    go_wp2_with fail
    refine K.mono ?_
    rintro e w1 ⟨rfl, rfl⟩
    go_wp2
    go_ret3
    exact ⟨rfl, Below.refl _ _⟩
end Go.Proofs.Ytmkfpfnjimmmaaa
