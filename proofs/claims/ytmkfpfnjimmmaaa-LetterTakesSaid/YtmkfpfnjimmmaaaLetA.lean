/- The walks of slices.Grow (of no slice) and slices.Concat, of bytes. -/
import Derived.Test.YtmkfpfnjimmmaaaNoteP
import Derived.Lib.AppendZerosOnto
import Derived.Lib.Walk
namespace Go.Proofs.Ytmkfpfnjimmmaaa
open Go.RowKit

theorem zeroCells_one (v : Value) (n : Nat) : Builtin.zeroCells #[v] n = (List.replicate n v).toArray := by
  apply Array.ext
  · simp [Builtin.zeroCells]
  · intro i h1 h2
    simp [Builtin.zeroCells, Nat.mod_one]

set_option maxRecDepth 100000 in
set_option maxHeartbeats 400000 in
theorem grow_nil (n : Nat) (w : World) (hn : n ≤ 1099511627776) :
    Calls Try.prog 104 #[.slice none 0 0, .int .i64 n] w fun e w' => ∃ a cap, e = .returned (.slice a 0 cap) ∧ FreshB 5 w w' a 0 cap [] := by
  obtain ⟨i0, hi, hz0, hz1, hz2⟩ := info_parts info_u8
  by_cases h0 : n = 0
  · subst h0
    go_enter Try.func104, Try.ntmps104
    go_wp2
    go_ret
    exact ⟨none, 0, rfl, FreshB.nil _ _⟩
  · have hpos : (0 : Int) < (n : Int) := by omega
    have hrz : ∀ ty, (Builtin.append_ #[24, 3] ty #[.slice none 0 0, .int .i64 n]).run Try.prog w =
        .ok (.slice (some ⟨w.heap.size, 0, none⟩) n (grownCap w n 0 5)) (w.drew.alloc (.cells (List.replicate (grownCap w n 0 5) (Value.int .u8 0)).toArray 5)) := fun ty => by
      have h := Lib.run_append_grow_zeros (P := Try.prog) w 24 3 ty 5 i0 (.int .u8 0) .i64 .i64 Try.underlying24 Try.underlying3 hi hz0 none 0 0 [] (run_firstCells_none w.drew i0.size 0 0 0) n (by omega) (by rw [hz1]; decide) (by omega) (by omega)
        (by rw [hz2]; omega) (by rw [hz2]; exact growslice_fits (by omega) (by omega))
      have hG : n ≤ grownCap w (0 + n) 0 5 := by have := grownCap_ge w (0 + n) 0 5; omega
      rw [Nat.zero_add] at h hG
      rw [h]
      congr 4
      rw [show (Value.int IntKind.u8 0).cells = #[Value.int IntKind.u8 0] from rfl, zeroCells_one, zeroCells_one]
      simp only [List.append_toArray, List.nil_append]
      rw [List.replicate_append_replicate, show n + (grownCap w n 0 5 - n) = grownCap w n 0 5 by omega]
    have hG1 : n ≤ grownCap w n 0 5 := grownCap_ge w n 0 5
    have hG2 : grownCap w n 0 5 ≤ maxLen := grownCap_le_maxLen w n 0 5 (by unfold maxLen; omega)
    generalize grownCap w n 0 5 = G at *
    have hG3 : G ≤ 9223372036854775807 := by unfold maxLen at hG2; omega
    obtain ⟨L, hL⟩ : ∃ L, L = List.replicate G (Value.int .u8 0) := ⟨_, rfl⟩
    rw [← hL] at hrz
    have HL := Lib.hid hL
    have HG2 := Lib.hid hG2
    clear hL hG2 h0
    go_enter Try.func104, Try.ntmps104
    go_wp2_with (at_builtin; refine Lib.wpList_append_run _ rfl _ _ _ _ rfl _ _ rfl rfl _ _ (hrz _) ?_)
    go_ret
    refine ⟨_, _, rfl, ⟨⟨rfl, Nat.zero_le _, HG2.out, fun h => (by cases h), Row.nil _ _⟩, ?_, ((Below.refl _ _).drew).alloc (Nat.le_refl _) _⟩⟩
    refine ⟨rfl, .inr ⟨w.heap.size, G, L.toArray, rfl, Nat.le_refl _, heap_alloc_new w.drew _, Nat.zero_le _, HG2.out, by rw [HL.out]; simp, rfl⟩⟩

theorem flatten_snoc {pp : List (List UInt8)} {k : Nat} {l : List UInt8} (h : pp[k]? = some l) : (pp.take (k + 1)).flatten = (pp.take k).flatten ++ l := by
  rw [take_snoc h, List.flatten_append]; simp
theorem total_flatten (pp : List (List UInt8)) : pp.flatten.length = total pp := by
  induction pp with
  | nil => rfl
  | cons l r ih => simp only [List.flatten_cons, List.length_append, ih, total]

set_option maxRecDepth 100000 in
set_option maxHeartbeats 800000 in
theorem concat_any {pa : Option Addr} {pn pc : Nat} {pp : List (List UInt8)} {w : World} (hp : Parts w pa pn pc pp) (ht : total pp ≤ 1099511627776) :
    Calls Try.prog 77 #[.slice pa pn pc] w fun e w' => ∃ a cap, e = .returned (.slice a pp.flatten.length cap) ∧ FreshB 5 w w' a pp.flatten.length cap pp.flatten := by
  obtain ⟨i0, hi, hz0, hz1, hz2⟩ := info_parts info_u8
  have hpl := Lib.hid hp.len
  have hmx := hp.le_i64
  have HP := Lib.hid hp
  have HT := Lib.hid ht
  clear hp ht
  go_enter Try.func77, Try.ntmps77
  go_wp2
  go_loop [3, 11] (fun s i => ∃ k : Nat, k ≤ pn ∧ i = .int .i64 k ∧ s = .int .i64 (total (pp.take k))) (fun _ i => pn - (intOf i).toNat)
  case atStart => exact ⟨0, Nat.zero_le _, rfl, rfl⟩
  case round =>
    obtain ⟨k, hk, rfl, rfl⟩ := hrel
    by_cases hlt : k < pn
    · obtain ⟨l, hl⟩ : ∃ l, pp[k]? = some l := ⟨_, List.getElem?_eq_getElem (by rw [hpl.out]; exact hlt)⟩
      obtain ⟨b, off, hpa, a', c', hc, hby⟩ := HP.out.part k l hl
      subst hpa
      have HS : Hid (total (pp.take (k + 1)) = total (pp.take k) + l.length) := by
        show _ = _
        rw [take_snoc hl, total_append]; simp [total]
      have hml := hby.le_i64.1
      have hbd : total (pp.take k) + l.length ≤ 1099511627776 := by
        rw [← HS.out]; exact Nat.le_trans (total_take_le pp (k + 1)) HT.out
      clear hby hl
      generalize total (pp.take k) = q at *
      have hneg : ¬ ((q : Int) + (l.length : Int) < 0) := by omega
      go_wp2
      refine ⟨⟨k + 1, by omega, by go_num, ?_⟩, by simp [intOf]; omega⟩
      rw [HS.out]; go_num
    · have hto : pp.take k = pp := List.take_of_length_le (by rw [hpl.out]; omega)
      rw [hto]
      clear hto
      have hq1 : total pp ≤ 1099511627776 := HT.out
      go_wp2_with fail
      refine (grow_nil (total pp) w hq1).mono ?_
      rintro e w1 ⟨a1, cap1, rfl, h1⟩
      have HO1 := Lib.hid h1.owns
      have HB1 := Lib.hid h1.below
      clear h1
      go_wp2
      go_loopw [6, 27] (fun o i wr => ∃ k a cap n, k ≤ pn ∧ i = .int .i64 (k : Nat) ∧ o = .slice a n cap ∧ Hid (n = total (pp.take k)) ∧ Hid (wr.ownsRow w.heap.size 5 1 (.slice a n cap) n ((pp.take k).flatten.map B)) ∧ Hid (Below w.heap.size w wr)) (fun _ i _ => pn - (intOf i).toNat)
      case atStart => exact ⟨0, a1, cap1, 0, Nat.zero_le _, rfl, rfl, rfl, HO1, HB1⟩
      case round =>
        obtain ⟨k, a, cap, n, hk, rfl, rfl, hn, ho, hb⟩ := hrel
        by_cases hlt : k < pn
        · obtain ⟨l, hl⟩ : ∃ l, pp[k]? = some l := ⟨_, List.getElem?_eq_getElem (by rw [hpl.out]; exact hlt)⟩
          obtain ⟨b, off, hpa, a', c', hc, hby⟩ := (HP.out.keep hb.out).part k l hl
          subst hpa
          have HS : Hid (total (pp.take (k + 1)) = total (pp.take k) + l.length) := by
            show _ = _
            rw [take_snoc hl, total_append]; simp [total]
          have HF := Lib.hid (flatten_snoc hl)
          have hml := hby.le_i64.1
          have hbd : n + l.length ≤ 1099511627776 := by
            rw [hn.out, ← HS.out]; exact Nat.le_trans (total_take_le pp (k + 1)) HT.out
          have hwr := hb.out.size
          obtain ⟨Y, hY⟩ : ∃ Y, Y = (pp.take k).flatten := ⟨_, rfl⟩
          rw [← hY] at HF ho
          have ho1 := ho.out
          clear hl hY
          go_wp2_with (at_builtin; refine wpList_append_row rfl (.tmp 31) (.tmp 32) 24 rfl w.heap.size 5 i0 (.int .u8 0) 1 1 Try.underlying24 hi hz0 hz1 hz2 rfl (by decide) _ _ _ _ rfl ho1 _ _ _ _ rfl hby.cells (oneCell_bytes _) (by unfold maxLen; omega) (by omega) w hb.out hwr ?_)
          intro a5 c5 w3 ho3 hb3
          have HO3 : Hid (w3.ownsRow w.heap.size 5 1 (.slice a5 (n + l.length) c5) (n + l.length) ((pp.take (k + 1)).flatten.map B)) := by
            show World.ownsRow _ _ _ _ _ _ _
            rw [HF.out, List.map_append]
            exact ho3
          have HB3 := Lib.hid hb3
          clear ho3 hb3 ho1
          go_wp2
          exact ⟨⟨k + 1, a5, c5, _, by omega, by go_num, rfl, by show _ = _; rw [HS.out, hn.out], HO3, HB3⟩, by simp [intOf]; omega⟩
        · have hto : pp.take k = pp := List.take_of_length_le (by rw [hpl.out]; omega)
          rw [hto] at ho hn
          have HL := Lib.hid (total_flatten pp)
          clear hto
          go_wp2
          go_ret
          have e : n = pp.flatten.length := by rw [HL.out, hn.out]
          subst e
          obtain ⟨a', c', hv, hF⟩ := FreshB.of ho.out hb.out
          cases hv
          exact ⟨_, _, rfl, hF⟩
end Go.Proofs.Ytmkfpfnjimmmaaa
