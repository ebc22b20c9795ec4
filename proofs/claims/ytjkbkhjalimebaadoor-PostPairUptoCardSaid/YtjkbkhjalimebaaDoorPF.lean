/- slices.Concat, of bytes as numbers; bytes.Equal; a word whose result is a row of its own. -/
import Derived.Test.YtjkbkhjalimebaaDoorPE
import Derived.Lib.AppendZerosOnto
import Derived.Lib.Walk
namespace Go.Proofs.YtjkbkhjalimebaaDoor
open Go.RowKit DoorU
set_option linter.unusedVariables false
set_option linter.unusedSimpArgs false

theorem info_u8 : (Tryd.prog.info? 5).map (fun i => (i.zero, i.size, i.bytes)) = some (some (.int .u8 0), 1, 1) := by kernel_rfl
def totV : List (List Value) → Nat
  | [] => 0
  | l :: r => l.length + totV r
theorem totV_append : ∀ (a b : List (List Value)), totV (a ++ b) = totV a + totV b
  | [], b => by simp [totV]
  | x :: a, b => by simp only [List.cons_append, totV, totV_append a b]; omega
theorem totV_take_le (pp : List (List Value)) (k : Nat) : totV (pp.take k) ≤ totV pp := by
  have h := totV_append (pp.take k) (pp.drop k)
  rw [List.take_append_drop] at h
  omega
theorem totV_flatten : ∀ (pp : List (List Value)), pp.flatten.length = totV pp
  | [] => rfl
  | l :: r => by simp only [List.flatten_cons, List.length_append, totV_flatten r, totV]
theorem flatV_snoc {pp : List (List Value)} {k : Nat} {l : List Value} (h : pp[k]? = some l) : (pp.take (k + 1)).flatten = (pp.take k).flatten ++ l := by
  rw [take_snoc h, List.flatten_append]; simp
structure PartsV (w : World) (a : Option Addr) (n cap : Nat) (pp : List (List Value)) : Prop where
  len : pp.length = n
  le : n ≤ cap
  max : cap ≤ maxLen
  part : ∀ i l, pp[i]? = some l → ∃ b off, a = some ⟨b, off, none⟩ ∧ ∃ a' c', w.cell? ⟨b, off + i, none⟩ = some (.slice a' l.length c') ∧ Cells w a' l.length c' 1 l ∧ ∀ u ∈ l, u.oneCell' = true
theorem PartsV.le_i64 {w : World} {a : Option Addr} {n cap : Nat} {pp : List (List Value)} (h : PartsV w a n cap pp) : n ≤ 9223372036854775807 ∧ cap ≤ 9223372036854775807 := by
  have h1 := h.max
  have h2 := h.le
  unfold maxLen at h1
  omega
theorem PartsV.keep {w w' : World} {a : Option Addr} {n cap : Nat} {pp : List (List Value)} (h : PartsV w a n cap pp) (hb : Below w.heap.size w w') : PartsV w' a n cap pp := by
  refine ⟨h.len, h.le, h.max, fun i l hl => ?_⟩
  obtain ⟨b, off, rfl, a', c', hc, hcs, h1⟩ := h.part i l hl
  exact ⟨b, off, rfl, a', c', (hb.cell (p := ⟨b, off + i, none⟩) (World.block_lt_of_cell? _ _ hc)).trans hc, hcs.keep hb, h1⟩

theorem zeroCells_one (v : Value) (n : Nat) : Builtin.zeroCells #[v] n = (List.replicate n v).toArray := by
  apply Array.ext
  · simp [Builtin.zeroCells]
  · intro i h1 h2
    simp [Builtin.zeroCells, Nat.mod_one]

set_option maxRecDepth 100000 in
set_option maxHeartbeats 400000 in
theorem grow_nil (n : Nat) (w : World) (hn : n ≤ 1099511627776) :
    Calls Tryd.prog 110 #[.slice none 0 0, .int .i64 n] w fun e w' => ∃ a cap, e = .returned (.slice a 0 cap) ∧ w'.ownsRow w.heap.size 5 1 (.slice a 0 cap) 0 [] ∧ Below w.heap.size w w' := by
  obtain ⟨i0, hi, hz0, hz1, hz2⟩ := info_parts info_u8
  by_cases h0 : n = 0
  · subst h0
    go_enter Tryd.func110, Tryd.ntmps110
    go_wp2
    go_ret
    exact ⟨none, 0, rfl, World.ownsRow_nil _ _ _ _, Below.refl _ _⟩
  · have hpos : (0 : Int) < (n : Int) := by omega
    have hrz : ∀ ty, (Builtin.append_ #[22, 3] ty #[.slice none 0 0, .int .i64 n]).run Tryd.prog w =
        .ok (.slice (some ⟨w.heap.size, 0, none⟩) n (grownCap w n 0 5)) (w.drew.alloc (.cells (List.replicate (grownCap w n 0 5) (Value.int .u8 0)).toArray 5)) := fun ty => by
      have h := Lib.run_append_grow_zeros (P := Tryd.prog) w 22 3 ty 5 i0 (.int .u8 0) .i64 .i64 Tryd.underlying22 Tryd.underlying3 hi hz0 none 0 0 [] (run_firstCells_none w.drew i0.size 0 0 0) n (by omega) (by rw [hz1]; decide) (by omega) (by omega)
        (by rw [hz2]; omega) (by rw [hz2]; exact growslice_fits (by omega) (by omega))
      have hG : n ≤ grownCap w (0 + n) 0 5 := by have := grownCap_ge w (0 + n) 0 5; omega
      rw [Nat.zero_add] at h hG
      rw [h]
      congr 4
      rw [show (Value.int IntKind.u8 0).cells = #[Value.int IntKind.u8 0] from rfl, zeroCells_one, zeroCells_one]
      simp only [List.append_toArray, List.nil_append]
      rw [List.replicate_append_replicate, show n + (grownCap w n 0 5 - n) = grownCap w n 0 5 by omega]
    have hG1 : n ≤ grownCap w n 0 5 := grownCap_ge w n 0 5
    have hG2 : grownCap w n 0 5 ≤ maxLen := grownCap_le_maxLen w n 0 5 (by unfold maxLen; omega)
    generalize grownCap w n 0 5 = G at *
    have hG3 : G ≤ 9223372036854775807 := by unfold maxLen at hG2; omega
    obtain ⟨L, hL⟩ : ∃ L, L = List.replicate G (Value.int .u8 0) := ⟨_, rfl⟩
    rw [← hL] at hrz
    have HL := Lib.hid hL
    have HG2 := Lib.hid hG2
    clear hL hG2 h0
    go_enter Tryd.func110, Tryd.ntmps110
    go_wp2_with (at_builtin; refine Lib.wpList_append_run _ rfl _ _ _ _ rfl _ _ rfl rfl _ _ (hrz _) ?_)
    go_ret
    refine ⟨_, _, rfl, ?_, ((Below.refl _ _).drew).alloc (Nat.le_refl _) _⟩
    refine ⟨rfl, .inr ⟨w.heap.size, G, L.toArray, rfl, Nat.le_refl _, heap_alloc_new w.drew _, Nat.zero_le _, HG2.out, by rw [HL.out]; simp, rfl⟩⟩

set_option maxRecDepth 100000 in
set_option maxHeartbeats 800000 in
theorem concat_any {pa : Option Addr} {pn pc : Nat} {pp : List (List Value)} {w : World} (hp : PartsV w pa pn pc pp) (ht : totV pp ≤ 1099511627776) :
    Calls Tryd.prog 80 #[.slice pa pn pc] w fun e w' => ∃ a cap, e = .returned (.slice a pp.flatten.length cap) ∧ w'.ownsRow w.heap.size 5 1 (.slice a pp.flatten.length cap) pp.flatten.length pp.flatten ∧ Below w.heap.size w w' := by
  obtain ⟨i0, hi, hz0, hz1, hz2⟩ := info_parts info_u8
  have hpl := Lib.hid hp.len
  have hmx := hp.le_i64
  have HP := Lib.hid hp
  have HT := Lib.hid ht
  clear hp ht
  go_enter Tryd.func80, Tryd.ntmps80
  go_wp2
  go_loop [3, 11] (fun s i => ∃ k : Nat, k ≤ pn ∧ i = .int .i64 k ∧ s = .int .i64 (totV (pp.take k))) (fun _ i => pn - (intOf i).toNat)
  case atStart => exact ⟨0, Nat.zero_le _, rfl, rfl⟩
  case round =>
    obtain ⟨k, hk, rfl, rfl⟩ := hrel
    by_cases hlt : k < pn
    · obtain ⟨l, hl⟩ : ∃ l, pp[k]? = some l := ⟨_, List.getElem?_eq_getElem (by rw [hpl.out]; exact hlt)⟩
      obtain ⟨b, off, hpa, a', c', hc, hby⟩ := HP.out.part k l hl
      subst hpa
      have HS : Hid (totV (pp.take (k + 1)) = totV (pp.take k) + l.length) := by
        show _ = _
        rw [take_snoc hl, totV_append]; simp [totV]
      have hml := hby.1.le_i64.1
      have hbd : totV (pp.take k) + l.length ≤ 1099511627776 := by
        rw [← HS.out]; exact Nat.le_trans (totV_take_le pp (k + 1)) HT.out
      clear hby hl
      generalize totV (pp.take k) = q at *
      have hneg : ¬ ((q : Int) + (l.length : Int) < 0) := by omega
      go_wp2
      refine ⟨⟨k + 1, by omega, by go_num, ?_⟩, by simp [intOf]; omega⟩
      rw [HS.out]; go_num
    · have hto : pp.take k = pp := List.take_of_length_le (by rw [hpl.out]; omega)
      rw [hto]
      clear hto
      have hq1 : totV pp ≤ 1099511627776 := HT.out
      go_wp2_with fail
      refine (grow_nil (totV pp) w hq1).mono ?_
      rintro e w1 ⟨a1, cap1, rfl, h1, h1'⟩
      have HO1 := Lib.hid h1
      have HB1 := Lib.hid h1'
      clear h1 h1'
      go_wp2
      go_loopw [6, 27] (fun o i wr => ∃ k a cap n, k ≤ pn ∧ i = .int .i64 (k : Nat) ∧ o = .slice a n cap ∧ Hid (n = totV (pp.take k)) ∧ Hid (wr.ownsRow w.heap.size 5 1 (.slice a n cap) n (pp.take k).flatten) ∧ Hid (Below w.heap.size w wr)) (fun _ i _ => pn - (intOf i).toNat)
      case atStart => exact ⟨0, a1, cap1, 0, Nat.zero_le _, rfl, rfl, rfl, HO1, HB1⟩
      case round =>
        obtain ⟨k, a, cap, n, hk, rfl, rfl, hn, ho, hb⟩ := hrel
        by_cases hlt : k < pn
        · obtain ⟨l, hl⟩ : ∃ l, pp[k]? = some l := ⟨_, List.getElem?_eq_getElem (by rw [hpl.out]; exact hlt)⟩
          obtain ⟨b, off, hpa, a', c', hc, hby⟩ := (HP.out.keep hb.out).part k l hl
          subst hpa
          have HS : Hid (totV (pp.take (k + 1)) = totV (pp.take k) + l.length) := by
            show _ = _
            rw [take_snoc hl, totV_append]; simp [totV]
          have HF := Lib.hid (flatV_snoc hl)
          have hml := hby.1.le_i64.1
          have hbd : n + l.length ≤ 1099511627776 := by
            rw [hn.out, ← HS.out]; exact Nat.le_trans (totV_take_le pp (k + 1)) HT.out
          have hwr := hb.out.size
          obtain ⟨Y, hY⟩ : ∃ Y, Y = (pp.take k).flatten := ⟨_, rfl⟩
          rw [← hY] at HF ho
          have ho1 := ho.out
          clear hl hY
          go_wp2_with (at_builtin; refine wpList_append_row rfl (.tmp 31) (.tmp 32) 22 rfl w.heap.size 5 i0 (.int .u8 0) 1 1 Tryd.underlying22 hi hz0 hz1 hz2 rfl (by decide) _ _ _ _ rfl ho1 _ _ _ _ rfl hby.1 hby.2 (by unfold maxLen; omega) (by omega) w hb.out hwr ?_)
          intro a5 c5 w3 ho3 hb3
          have HO3 : Hid (w3.ownsRow w.heap.size 5 1 (.slice a5 (n + l.length) c5) (n + l.length) (pp.take (k + 1)).flatten) := by
            show World.ownsRow _ _ _ _ _ _ _
            rw [HF.out]
            exact ho3
          have HB3 := Lib.hid hb3
          clear ho3 hb3 ho1
          go_wp2
          exact ⟨⟨k + 1, a5, c5, _, by omega, by go_num, rfl, by show _ = _; rw [HS.out, hn.out], HO3, HB3⟩, by simp [intOf]; omega⟩
        · have hto : pp.take k = pp := List.take_of_length_le (by rw [hpl.out]; omega)
          rw [hto] at ho hn
          have HL := Lib.hid (totV_flatten pp)
          clear hto
          go_wp2
          go_ret
          have e : n = pp.flatten.length := by rw [HL.out, hn.out]
          subst e
          exact ⟨_, _, rfl, ho.out, hb.out⟩

theorem dS2 (pp : List (List Int)) : denS (T := .sl (.int .u8)) pp = pp.map fun (l : List Int) => [D.view 1 (l.map fun x => [D.int .u8 x])] := rfl
/-- The rows of a slice of slices of numbers. -/
theorem parts_of {E : Env} {w : World} {U : Nat → Prop} {pp : List (List Int)} {v : Value} (h : VA E w NoF U w.heap.size (denV (fun _ => .free) (.view true (.sl (.int .u8)) pp)) v) : ∃ a n cap, v = .slice a n cap ∧ PartsV w a n cap (pp.map fun l => l.map (Value.int .u8)) := by
  have h1 : VA E w NoF U w.heap.size (.lent 1 (denS (T := .sl (.int .u8)) pp)) v := h
  rw [dS2] at h1
  cases h1 with
  | lent u hl hc hm hz hsz hat hV =>
    refine ⟨_, _, _, rfl, by rw [List.length_map] at hl ⊢; exact hl, hc, hm, fun i l hl' => ?_⟩
    rw [List.getElem?_map] at hl'
    obtain ⟨q, hq, rfl⟩ := Option.map_eq_some_iff.1 hl'
    have hx : (pp.map fun (l : List Int) => [D.view 1 (l.map fun x => [D.int .u8 x])])[i]? = some [D.view 1 (q.map fun x => [D.int .u8 x])] := by rw [List.getElem?_map, hq]; rfl
    obtain ⟨b, off, ha, _, h5⟩ := hat i _ hx
    have h6 := h5 0 (by decide)
    have h7 := hV i _ 0 _ hx rfl
    rw [Nat.mul_one, Nat.add_zero] at h6
    refine ⟨b, off, ha, ?_⟩
    generalize u i 0 = z at h6 h7
    by_cases hne : q = []
    · subst hne
      cases h7 with
      | view u' r1 r2 r3 r4 _ _ _ =>
        have r1' : 0 = _ := r1
        subst r1'
        exact ⟨_, _, h6, ⟨rfl, r2, r3, r4, ⟨fun j y hy => by cases hy⟩⟩, fun y hy => by cases hy⟩
    · obtain ⟨b', off', cap', rfl, r1, r2, _, _, _, r3⟩ := view_cells (k := .u8) h7 hne
      refine ⟨_, cap', by rw [List.length_map]; exact h6, ⟨by simp, by rw [List.length_map]; exact r1, r2, (fun h => by cases h), Row.of fun j y hy => ?_⟩, fun y hy => ?_⟩
      · rw [List.getElem?_map] at hy
        obtain ⟨x, hx', rfl⟩ := Option.map_eq_some_iff.1 hy
        exact r3 j x hx'
      · obtain ⟨x, _, rfl⟩ := List.mem_map.1 hy
        rfl
abbrev lYs : Sh := .view true tYs
def S_cat : Spec := ⟨.pair lYs .unit, .pair oY .unit, fun (x : List (List Int) × Unit) => x.1.flatten.length ≤ 1099511627776, fun (x : List (List Int) × Unit) => ((x.1.flatten, ()) : List Int × Unit)⟩
theorem totV_map (pp : List (List Int)) : totV (pp.map fun l => l.map (Value.int .u8)) = pp.flatten.length := by
  induction pp with
  | nil => rfl
  | cons l r ih => simp only [List.map_cons, totV, List.length_map, ih, List.flatten_cons, List.length_append]
theorem flat_map (pp : List (List Int)) : (pp.map fun l => l.map (Value.int .u8)).flatten = pp.flatten.map (Value.int .u8) := by
  rw [List.map_flatten]
theorem cat_in {pp : List (List Int)} (hx : pp.flatten.length ≤ 1099511627776) {E : Env} {U : Nat → Prop} {w : World} {v : Value} (h : VA E w NoF U w.heap.size (denV (fun _ => .free) (.view true tYs pp)) v) :
    Calls Tryd.prog 80 #[v] w fun en w' => ∃ a n cap, en = .returned (.slice a n cap) ∧ Below w.heap.size w w' ∧ w'.ownsRow w.heap.size 5 1 (.slice a n cap) n (pp.flatten.map (Value.int .u8)) := by
  obtain ⟨a, n, cap, rfl, hp⟩ := parts_of h
  refine (concat_any hp (by rw [totV_map]; exact hx)).mono ?_
  rintro e w' ⟨a', c', rfl, ho, hb⟩
  refine ⟨_, _, _, rfl, hb, ?_⟩
  rw [flat_map] at ho ⊢
  exact ho
theorem sc_cat : SC Tryd.prog 80 S_cat :=
  SC.own .u8 5 (by decide) rfl (fun _ => rfl) (fun x => x.1.flatten) (fun _ => rfl) (fun _ => rfl) fun x hx w U E vs hT hl hv => by
    obtain ⟨pp, ⟨⟩⟩ := x
    obtain ⟨v, rfl⟩ : ∃ v, vs = [v] := by
      match vs, hl with
      | [v], _ => exact ⟨v, rfl⟩
    exact cat_in (pp := pp) hx (hv 0 (.view true tYs pp) v rfl rfl)
theorem en_cat (us : Array Value) (u : World) : (callFunc 80 us).run Tryd.prog u = .ok (.enter 80 us) u := by kernel_rfl

/- bytes.Equal -/
def byt (l : List Int) : Prop := ∀ x ∈ l, 0 ≤ x ∧ x < 256
set_option maxRecDepth 100000 in
set_option maxHeartbeats 400000 in
theorem equal_any {w : World} {a a' : Option Addr} {n n' cap cap' : Nat} {l m : List UInt8} (h : Bytes w a n cap l) (h' : Bytes w a' n' cap' m) :
    Calls Tryd.prog 97 #[.slice a n cap, .slice a' n' cap'] w fun e w' => e = .returned (.bool (l == m)) ∧ w = w' := by
  have k1 := h.toStr (P := Tryd.prog) 22 9 5 Tryd.underlying22 Tryd.underlying5 Tryd.underlying9
  have k2 := h'.toStr (P := Tryd.prog) 22 9 5 Tryd.underlying22 Tryd.underlying5 Tryd.underlying9
  clear h h'
  go_enter Tryd.func97, Tryd.ntmps97
  go_wp2
  go_ret
  exact ⟨rfl, rfl⟩
set_option maxRecDepth 100000 in
set_option maxHeartbeats 400000 in
theorem same1_any {w : World} {a a' : Option Addr} {n n' cap cap' : Nat} {l m : List UInt8} (h : Bytes w a n cap l) (h' : Bytes w a' n' cap' m) :
    Calls Tryd.prog 37 #[.slice a n cap, .slice a' n' cap'] w fun e w' => e = .returned (.bool (l == m)) ∧ w = w' := by
  have k1 := h.toStr (P := Tryd.prog) 22 9 5 Tryd.underlying22 Tryd.underlying5 Tryd.underlying9
  have k2 := h'.toStr (P := Tryd.prog) 22 9 5 Tryd.underlying22 Tryd.underlying5 Tryd.underlying9
  clear h h'
  go_enter Tryd.func37, Tryd.ntmps37
  go_wp2
  go_ret
  exact ⟨rfl, rfl⟩
def S_eq : Spec := ⟨.pair lY (.pair lY .unit), .pair .bool .unit, fun (x : List Int × List Int × Unit) => byt x.1 ∧ byt x.2.1, fun (x : List Int × List Int × Unit) => ((x.1 == x.2.1, ()) : Bool × Unit)⟩
theorem bI_beq (l m : List UInt8) : (bI l == bI m) = (l == m) := by
  rw [Bool.eq_iff_iff, beq_iff_eq, beq_iff_eq]
  exact ⟨bI_inj, fun h => by rw [h]⟩
theorem sc_two {f : FuncId} (h : ∀ {w : World} {a a' : Option Addr} {n n' cap cap' : Nat} {l m : List UInt8}, Bytes w a n cap l → Bytes w a' n' cap' m → Calls Tryd.prog f #[.slice a n cap, .slice a' n' cap'] w fun e w' => e = .returned (.bool (l == m)) ∧ w = w') : SC Tryd.prog f S_eq :=
  SC.pure rfl (fun _ => rfl) (fun _ => rfl) fun x hx w U E vs hT hl hv => by
    obtain ⟨l, m, ⟨⟩⟩ := x
    obtain ⟨v, v', rfl⟩ : ∃ v v', vs = [v, v'] := by
      match vs, hl with
      | [v, v'], _ => exact ⟨v, v', rfl⟩
    obtain ⟨l, rfl⟩ := bI_of hx.1
    obtain ⟨m, rfl⟩ := bI_of hx.2
    obtain ⟨a, n, cap, rfl, h1⟩ := VA.taken (hv 0 (.view true tY (bI l)) v rfl rfl)
    obtain ⟨a', n', cap', rfl, h2⟩ := VA.taken (hv 1 (.view true tY (bI m)) v' rfl rfl)
    refine (h h1 h2).mono ?_
    rintro e w' ⟨rfl, rfl⟩
    refine ⟨_, rfl, Below.refl _ _, ?_⟩
    show VA _ _ _ _ _ (.d (.bool (bI l == bI m))) _
    rw [bI_beq]
    exact .d (.bool _)
theorem sc_eq : SC Tryd.prog 97 S_eq := sc_two equal_any
theorem en_eq (us : Array Value) (u : World) : (callFunc 97 us).run Tryd.prog u = .ok (.enter 97 us) u := by kernel_rfl
theorem sc_same1 : SC Tryd.prog 37 S_eq := sc_two same1_any
theorem en_same1 (us : Array Value) (u : World) : (callFunc 37 us).run Tryd.prog u = .ok (.enter 37 us) u := by kernel_rfl
end Go.Proofs.YtjkbkhjalimebaaDoor
