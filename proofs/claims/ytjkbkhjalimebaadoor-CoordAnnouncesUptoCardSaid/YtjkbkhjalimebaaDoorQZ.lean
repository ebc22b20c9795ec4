/- The words of link.Again and post.Again. Printed by gen.py. -/
/- The word of note.Check for notes without parts, out of the walk of its map. -/
/- Small words that coord uses. Printed by gen.py. -/
/- The words of coord: send, begin, end, Tick, New. Printed by gen.py. -/
/- The references that the laws of coord use; CoordSuspects, CoordHalts. Printed by gen.py. -/
/- What the bulk bounds, for the laws of coord. -/
/- note.Take of notes without parts; CoordAnnounces. Printed by gen.py. -/
import Derived.Test.YtjkbkhjalimebaaDoorPL
import Derived.Deep.RegionWith
import Derived.Deep.DeepCutAuto
import Derived.Test.YtjkbkhjalimebaaDoorPV
namespace Go.Proofs.YtjkbkhjalimebaaDoor
open Go.RowKit DoorU
set_option linter.unusedVariables false
set_option linter.unusedSimpArgs false
set_option maxRecDepth 100000
set_option maxHeartbeats 1000000

namespace DoorU
def agU (after now : Int) (x : Itm) : Itm := if after ≤ i64 (now - x.2.2.1) then (x.1, x.2.1, now, ()) else x
def agT (after now : Int) (l : List Itm) : List Itm := (l.filter fun x => decide (after ≤ i64 (now - x.2.2.1))).map fun x => (x.1, x.2.1, now, ())
def agnF (o : Ouq) (after now : Int) : Ouq × List Itm × Unit := ((o.1, o.2.1.map (agU after now), o.2.2.1, ()), agT after now o.2.1, ())
def agaC (c : Cfg) : Int := c.2.2.2.2.2.2.2.1
def agPe (c : Cfg) (now : Int) (q : Pee) : Pee := (q.1, (agnF q.2.1 (agaC c) now).1, q.2.2.1, ())
def agPs (c : Cfg) (p : Pos) (now : Int) (l : List Pee) : List Par := l.flatMap fun q => iparF c p q.1 (agnF q.2.1 (agaC c) now).2.1 false
def pagF (c : Cfg) (p : Pos) (now : Int) : Pos × List Par × Unit := ((p.1, p.2.1, p.2.2.1.map (agPe c now), ()), agPs c p now p.2.2.1, ())
theorem set_same {α : Type} : ∀ {l : List α} {i : Nat} {c : α}, l[i]? = some c → l.set i c = l
  | [], _, _, _ => rfl
  | x :: l, 0, c, h => by
    obtain rfl : x = c := by simpa using h
    rfl
  | x :: l, i + 1, c, h => by rw [List.set_cons_succ, set_same (l := l) (i := i) (by simpa using h)]
theorem mid_at {α : Type} {f : α → α} {l : List α} {i : Nat} {c : α} (hi : i < l.length) (h : ((l.take i).map f ++ l.drop i)[i]? = some c) : l[i]? = some c := by
  rw [List.getElem?_append_right (by rw [List.length_map, List.length_take]; omega), List.length_map, List.length_take, List.getElem?_drop] at h
  rw [show i + (i - min i l.length) = i by omega] at h
  exact h
theorem mid_set {α : Type} {f : α → α} {l : List α} {i : Nat} {c : α} (h : l[i]? = some c) : ((l.take i).map f ++ l.drop i).set i (f c) = (l.take (i + 1)).map f ++ l.drop (i + 1) := by
  have hi : i < l.length := (List.getElem?_eq_some_iff.1 h).1
  rw [take_snoc h, List.map_append, List.set_append_right _ _ (by rw [List.length_map, List.length_take]; omega), List.length_map, List.length_take, show i - min i l.length = 0 by omega, drop_of h, List.set_cons_zero, List.append_assoc]
  rfl
theorem mid_len {α : Type} {f : α → α} {l : List α} (i : Nat) : ((l.take i).map f ++ l.drop i).length = l.length := by
  rw [List.length_append, List.length_map, List.length_take, List.length_drop]
  omega
theorem agT_snoc (af now : Int) (l : List Itm) (c : Itm) : agT af now (l ++ [c]) = agT af now l ++ (if af ≤ i64 (now - c.2.2.1) then [(c.1, c.2.1, now, ())] else []) := by
  unfold agT
  rw [List.filter_append, List.map_append]
  congr 1
  by_cases h : af ≤ i64 (now - c.2.2.1)
  · rw [if_pos h, List.filter_cons, if_pos (decide_eq_true h)]
    rfl
  · rw [if_neg h, List.filter_cons, if_neg (by rw [decide_eq_false h]; decide)]
    rfl
theorem agT_len (af now : Int) (l : List Itm) : (agT af now l).length ≤ l.length := by
  unfold agT
  rw [List.length_map]
  exact List.length_filter_le _ _
theorem iparF_len (c : Cfg) (p : Pos) (tn : Int) (b : Bool) : ∀ l : List Itm, (iparF c p tn l b).length ≤ l.length
  | [] => Nat.le_refl 0
  | x :: l => by
    have h1 := iparF_len c p tn b l
    have h2 := parF_len c (p.1, tn, p.2.1, 1, x.1, x.2.1, ()) b
    unfold iparF at h1 ⊢
    rw [List.flatMap_cons, List.length_append, List.length_cons]
    omega
def itPo (l : List Pee) : Nat := (l.map fun q => q.2.1.2.1.length).sum
theorem agPs_len (c : Cfg) (p : Pos) (now : Int) : ∀ l : List Pee, (agPs c p now l).length ≤ itPo l
  | [] => Nat.le_refl 0
  | q :: l => by
    have h1 := agPs_len c p now l
    have h2 := iparF_len c p q.1 false (agnF q.2.1 (agaC c) now).2.1
    have h3 := agT_len (agaC c) now q.2.1.2.1
    unfold agPs at h1 ⊢
    unfold itPo at h1 ⊢
    rw [List.flatMap_cons, List.length_append, List.map_cons, List.sum_cons]
    have h4 : (agnF q.2.1 (agaC c) now).2.1.length = (agT (agaC c) now q.2.1.2.1).length := rfl
    omega
theorem itPo_take : ∀ (l : List Pee) (i : Nat), itPo (l.take i) ≤ itPo l
  | [], i => by rw [List.take_nil]; exact Nat.le_refl _
  | q :: l, 0 => Nat.zero_le _
  | q :: l, i + 1 => by
    have := itPo_take l i
    unfold itPo at this ⊢
    rw [List.take_succ_cons, List.map_cons, List.sum_cons, List.map_cons, List.sum_cons]
    omega
theorem agPs_snoc (c : Cfg) (p : Pos) (now : Int) (l : List Pee) (q : Pee) : agPs c p now (l ++ [q]) = agPs c p now l ++ iparF c p q.1 (agT (agaC c) now q.2.1.2.1) false := by
  unfold agPs
  rw [List.flatMap_append, List.flatMap_cons, List.flatMap_nil, List.append_nil]
  rfl
end DoorU
def S_lagn : Spec := ⟨.pair aOut (.pair nI (.pair nI .unit)), .pair (.tup (.pair vOut (.pair vIts .unit))) .unit, fun (x : Ouq × Int × Int × Unit) => okOut x.1, fun (x : Ouq × Int × Int × Unit) => ((agnF x.1 x.2.1 x.2.2.1, ()) : (Ouq × List Itm × Unit) × Unit)⟩
def A_lagn (x : Ouq × Int × Int × Unit) : Nat → Option LA
  | 0 => some ⟨[23, 9, 8], [(9, tIt, 151)], .pair nI (.pair oIts (.pair pOut .unit)), fun (v : Int × List Itm × Ouq × Unit) => 0 ≤ v.1 ∧ v.1 ≤ (x.1.2.1.length : Nat) ∧ v.2.1 = agT x.2.1 x.2.2.1 (x.1.2.1.take v.1.toNat) ∧ v.2.2.1.1 = x.1.1 ∧ v.2.2.1.2.1 = (x.1.2.1.take v.1.toNat).map (agU x.2.1 x.2.2.1) ++ x.1.2.1.drop v.1.toNat ∧ v.2.2.1.2.2.1 = x.1.2.2.1, fun (v : Int × List Itm × Ouq × Unit) => ((x.1.2.1.length : Nat) - v.1).toNat⟩
  | _ => none
def S_pagn : Spec := ⟨.pair aC (.pair aPo (.pair nI .unit)), .pair (.tup (.pair vPo (.pair (.own tPa 62) .unit))) .unit, fun (x : Cfg × Pos × Int × Unit) => x.1.1.length ≤ big ∧ okPo x.2.1 ∧ okSt x.2.1.2.1 ∧ itPo x.2.1.2.2.1 ≤ big, fun (x : Cfg × Pos × Int × Unit) => ((pagF x.1 x.2.1 x.2.2.1, ()) : (Pos × List Par × Unit) × Unit)⟩
def A_pagn (x : Cfg × Pos × Int × Unit) : Nat → Option LA
  | 0 => some ⟨[19, 9, 8], [(9, tPa, 62)], .pair nI (.pair (.own tPa 62) (.pair (pPo fPes) .unit)), fun (v : Int × List Par × Pos × Unit) => 0 ≤ v.1 ∧ v.1 ≤ (x.2.1.2.2.1.length : Nat) ∧ v.2.1 = agPs x.1 x.2.1 x.2.2.1 (x.2.1.2.2.1.take v.1.toNat) ∧ v.2.2.1.1 = x.2.1.1 ∧ v.2.2.1.2.1 = x.2.1.2.1 ∧ v.2.2.1.2.2.1 = (x.2.1.2.2.1.take v.1.toNat).map (agPe x.1 x.2.2.1) ++ x.2.1.2.2.1.drop v.1.toNat, fun (v : Int × List Par × Pos × Unit) => ((x.2.1.2.2.1.length : Nat) - v.1).toNat⟩
  | _ => none

theorem vc_lagn : VC Tryd.prog Tryd.f105 (bodyOf Tryd.f105) S_lagn [(91, S_cpis), (90, S_cpbs), (88, S_cpi)] A_lagn = (∀ (x : (Int × List (Int × List Int × Int × Unit) × List (List Int) × Unit) × Int × Int × Unit), okOut x.fst →
  List.length x.fst.snd.fst ≤ (9223372036854775807 : Nat) →
  List.length x.fst.snd.snd.fst ≤ (9223372036854775807 : Nat) →
  okIts x.fst.snd.fst ∧ okBs x.fst.snd.snd.fst ∧ ((0 : Int) ≤ (0 : Int) ∧ (0 : Int) ≤ (↑(List.length x.fst.snd.fst) : Int) ∧ [] = agT x.snd.fst x.snd.snd.fst (List.take (Int.toNat (0 : Int)) x.fst.snd.fst) ∧ x.fst.fst = x.fst.fst ∧ x.fst.snd.fst = List.map (agU x.snd.fst x.snd.snd.fst) (List.take (Int.toNat (0 : Int)) x.fst.snd.fst) ++ List.drop (Int.toNat (0 : Int)) x.fst.snd.fst ∧ x.fst.snd.snd.fst = x.fst.snd.snd.fst) ∧ ∀ (v : Int × List (Int × List Int × Int × Unit) × (Int × List (Int × List Int × Int × Unit) × List (List Int) × Unit) × Unit), (0 : Int) ≤ v.fst ∧ v.fst ≤ (↑(List.length x.fst.snd.fst) : Int) ∧ v.snd.fst = agT x.snd.fst x.snd.snd.fst (List.take (Int.toNat v.fst) x.fst.snd.fst) ∧ v.snd.snd.fst.fst = x.fst.fst ∧ v.snd.snd.fst.snd.fst = List.map (agU x.snd.fst x.snd.snd.fst) (List.take (Int.toNat v.fst) x.fst.snd.fst) ++ List.drop (Int.toNat v.fst) x.fst.snd.fst ∧ v.snd.snd.fst.snd.snd.fst = x.fst.snd.snd.fst →
  bif decide (v.fst < (↑(List.length x.fst.snd.fst) : Int)) then (0 : Int) ≤ v.fst ∧ v.fst < (↑(List.length v.snd.snd.fst.snd.fst) : Int) ∧ Int.toNat v.fst < List.length v.snd.snd.fst.snd.fst ∧ ∀ (x_1 : Int × List Int × Int × Unit), v.snd.snd.fst.snd.fst[Int.toNat v.fst]? = some x_1 →
  bif decide (x.snd.fst ≤ IntKind.wrap IntKind.i64 (x.snd.snd.fst - x_1.snd.snd.fst)) then (0 : Int) ≤ v.fst ∧ v.fst < (↑(List.length v.snd.snd.fst.snd.fst) : Int) ∧ Int.toNat v.fst < List.length v.snd.snd.fst.snd.fst ∧ ∀ (x0 : Int × List Int × Int × Unit), v.snd.snd.fst.snd.fst[Int.toNat v.fst]? = some x0 →
  (0 : Int) ≤ v.fst ∧ v.fst < (↑(List.length (List.set v.snd.snd.fst.snd.fst (Int.toNat v.fst) (x0.fst, x0.snd.fst, x.snd.snd))) : Int) ∧ Int.toNat v.fst < List.length (List.set v.snd.snd.fst.snd.fst (Int.toNat v.fst) (x0.fst, x0.snd.fst, x.snd.snd)) ∧ ∀ (x_2 : Int × List Int × Int × Unit), (List.set v.snd.snd.fst.snd.fst (Int.toNat v.fst) (x0.fst, x0.snd.fst, x.snd.snd))[Int.toNat v.fst]? = some x_2 →
  List.length x_2.snd.fst ≤ (1000000000000 : Nat) ∧ (List.length v.snd.fst + List.length [x_2]) * (40 : Nat) ≤ (140737488351232 : Nat) ∧ ((0 : Int) ≤ IntKind.wrap IntKind.i64 (v.fst + (1 : Int)) ∧ IntKind.wrap IntKind.i64 (v.fst + (1 : Int)) ≤ (↑(List.length x.fst.snd.fst) : Int) ∧ v.snd.fst ++ [x_2] = agT x.snd.fst x.snd.snd.fst (List.take (Int.toNat (IntKind.wrap IntKind.i64 (v.fst + (1 : Int)))) x.fst.snd.fst) ∧ v.snd.snd.fst.fst = x.fst.fst ∧ List.set v.snd.snd.fst.snd.fst (Int.toNat v.fst) (x0.fst, x0.snd.fst, x.snd.snd) = List.map (agU x.snd.fst x.snd.snd.fst) (List.take (Int.toNat (IntKind.wrap IntKind.i64 (v.fst + (1 : Int)))) x.fst.snd.fst) ++ List.drop (Int.toNat (IntKind.wrap IntKind.i64 (v.fst + (1 : Int)))) x.fst.snd.fst ∧ v.snd.snd.fst.snd.snd.fst = x.fst.snd.snd.fst) ∧ Int.toNat ((↑(List.length x.fst.snd.fst) : Int) - IntKind.wrap IntKind.i64 (v.fst + (1 : Int))) < Int.toNat ((↑(List.length x.fst.snd.fst) : Int) - v.fst) else ((0 : Int) ≤ IntKind.wrap IntKind.i64 (v.fst + (1 : Int)) ∧ IntKind.wrap IntKind.i64 (v.fst + (1 : Int)) ≤ (↑(List.length x.fst.snd.fst) : Int) ∧ v.snd.fst = agT x.snd.fst x.snd.snd.fst (List.take (Int.toNat (IntKind.wrap IntKind.i64 (v.fst + (1 : Int)))) x.fst.snd.fst) ∧ v.snd.snd.fst.fst = x.fst.fst ∧ v.snd.snd.fst.snd.fst = List.map (agU x.snd.fst x.snd.snd.fst) (List.take (Int.toNat (IntKind.wrap IntKind.i64 (v.fst + (1 : Int)))) x.fst.snd.fst) ++ List.drop (Int.toNat (IntKind.wrap IntKind.i64 (v.fst + (1 : Int)))) x.fst.snd.fst ∧ v.snd.snd.fst.snd.snd.fst = x.fst.snd.snd.fst) ∧ Int.toNat ((↑(List.length x.fst.snd.fst) : Int) - IntKind.wrap IntKind.i64 (v.fst + (1 : Int))) < Int.toNat ((↑(List.length x.fst.snd.fst) : Int) - v.fst) else ((v.snd.snd.fst, v.snd.fst, ()), ()) = (agnF x.fst x.snd.fst x.snd.snd.fst, ())) := by kernel_rfl
theorem en_lagn (us : Array Value) (u : World) : (callFunc 105 us).run Tryd.prog u = .ok (.enter 105 us) u := by kernel_rfl
theorem sc_lagn : SC Tryd.prog 105 S_lagn := by
  refine SC.of Tryd.func105 (c := bodyOf Tryd.f105) (by kernel_rfl) (by kernel_rfl) (fun x => (by decide : (3:Nat) ≤ Tryd.f105.ntmps)) (DOk.cons sc_cpis en_cpis (DOk.cons sc_cpbs en_cpbs (DOk.cons sc_cpi en_cpi DOk.nil))) (Eq.mpr vc_lagn ?_)
  rintro ⟨⟨nx, l, q, ⟨⟩⟩, af, now, ⟨⟩⟩ ⟨⟨h1, h1b⟩, h2, h2b⟩ - -
  dsimp only at h1 h1b h2 h2b ⊢
  have e1 : l.length ≤ 1000000000 := h1
  refine ⟨⟨h1, h1b⟩, ⟨h2, h2b⟩, ⟨Int.le_refl 0, by omega, rfl, rfl, rfl, rfl⟩, ?_⟩
  rintro ⟨i, t, ⟨o1, o2, o3, ⟨⟩⟩, ⟨⟩⟩ ⟨q0, q1, k1, k2, k3, k4⟩
  dsimp only at q0 q1 k1 k2 k3 k4 ⊢
  have wi : i < l.length → IntKind.i64.wrap (i + 1) = i + 1 := fun _ => IntWalk.i64_in _ (by omega)
  have l2 : o2.length = l.length := by rw [k3, mid_len]
  have tl := agT_len af now (l.take i.toNat)
  rw [List.length_take] at tl
  by_cases hi : i < (l.length : Int)
  rotate_left 1
  · rw [decide_eq_false hi, cond_false]
    obtain rfl : i = (l.length : Int) := by omega
    rw [show ((l.length : Nat) : Int).toNat = l.length by omega, List.take_length] at k1 k3
    rw [List.drop_length, List.append_nil] at k3
    rw [k1, k2, k3, k4]
    rfl
  have e2 : (i + 1).toNat = i.toNat + 1 := by omega
  rw [decide_eq_true hi, cond_true, wi hi, e2]
  refine ⟨q0, by omega, by omega, fun c hc => ?_⟩
  have hc1 : l[i.toNat]? = some c := mid_at (by omega) (by rw [← k3]; exact hc)
  have hsn := agT_snoc af now (l.take i.toNat) c
  rw [← take_snoc hc1] at hsn
  by_cases ha : af ≤ IntKind.i64.wrap (now - c.2.2.1)
  · rw [decide_eq_true ha, cond_true]
    rw [if_pos (show af ≤ i64 (now - c.2.2.1) from ha)] at hsn
    refine ⟨q0, by omega, by omega, fun c' hc' => ?_⟩
    obtain rfl := Option.some.inj (hc.symm.trans hc')
    refine ⟨q0, by rw [List.length_set]; omega, by rw [List.length_set]; omega, fun d hd => ?_⟩
    rw [List.getElem?_set_self (by omega)] at hd
    obtain rfl := Option.some.inj hd
    have hU : agU af now c = (c.1, c.2.1, now, ()) := if_pos ha
    have hb : c.2.1.length ≤ 1000000000 := h1b c (List.mem_of_getElem? hc1)
    refine ⟨by show c.2.1.length ≤ _; omega, by rw [k1, List.length_cons, List.length_nil]; omega, ⟨by omega, by omega, by rw [hsn, k1], k2, ?_, k4⟩, by omega⟩
    rw [k3, ← mid_set hc1, hU]
  · rw [decide_eq_false ha, cond_false]
    rw [if_neg (show ¬ af ≤ i64 (now - c.2.2.1) from ha), List.append_nil] at hsn
    have hU : agU af now c = c := if_neg ha
    refine ⟨⟨by omega, by omega, by rw [hsn, k1], k2, ?_, k4⟩, by omega⟩
    rw [← mid_set hc1, hU, ← k3, set_same hc]

theorem vc_pagn : VC Tryd.prog Tryd.f68 (bodyOf Tryd.f68) S_pagn [(59, S_cpo), (105, S_lagn), (48, S_ipar)] A_pagn = (∀ (x : (List Int × Int × Int × Int × Int × Int × Int × Int × Int × Int × Int × Unit) × (Int × (Int × Int × List Int × Unit) × List (Int × (Int × List (Int × List Int × Int × Unit) × List (List Int) × Unit) × (Int × List (Int × List Int × Int × Unit) × Unit) × Unit) × Unit) × Int × Unit), List.length x.fst.fst ≤ big ∧ okPo x.snd.fst ∧ okSt x.snd.fst.snd.fst ∧ itPo x.snd.fst.snd.snd.fst ≤ big →
  List.length x.fst.fst ≤ (9223372036854775807 : Nat) →
  List.length x.snd.fst.snd.fst.snd.snd.fst ≤ (9223372036854775807 : Nat) →
  List.length x.snd.fst.snd.snd.fst ≤ (9223372036854775807 : Nat) →
  okPo x.snd.fst ∧ ((0 : Int) ≤ (0 : Int) ∧ (0 : Int) ≤ (↑(List.length x.snd.fst.snd.snd.fst) : Int) ∧ [] = agPs x.fst x.snd.fst x.snd.snd.fst (List.take (Int.toNat (0 : Int)) x.snd.fst.snd.snd.fst) ∧ x.snd.fst.fst = x.snd.fst.fst ∧ x.snd.fst.snd.fst = x.snd.fst.snd.fst ∧ x.snd.fst.snd.snd.fst = List.map (agPe x.fst x.snd.snd.fst) (List.take (Int.toNat (0 : Int)) x.snd.fst.snd.snd.fst) ++ List.drop (Int.toNat (0 : Int)) x.snd.fst.snd.snd.fst) ∧ ∀ (v : Int × List (Int × List Int × Bool × Unit) × (Int × (Int × Int × List Int × Unit) × List (Int × (Int × List (Int × List Int × Int × Unit) × List (List Int) × Unit) × (Int × List (Int × List Int × Int × Unit) × Unit) × Unit) × Unit) × Unit), (0 : Int) ≤ v.fst ∧ v.fst ≤ (↑(List.length x.snd.fst.snd.snd.fst) : Int) ∧ v.snd.fst = agPs x.fst x.snd.fst x.snd.snd.fst (List.take (Int.toNat v.fst) x.snd.fst.snd.snd.fst) ∧ v.snd.snd.fst.fst = x.snd.fst.fst ∧ v.snd.snd.fst.snd.fst = x.snd.fst.snd.fst ∧ v.snd.snd.fst.snd.snd.fst = List.map (agPe x.fst x.snd.snd.fst) (List.take (Int.toNat v.fst) x.snd.fst.snd.snd.fst) ++ List.drop (Int.toNat v.fst) x.snd.fst.snd.snd.fst →
  bif decide (v.fst < (↑(List.length x.snd.fst.snd.snd.fst) : Int)) then (0 : Int) ≤ v.fst ∧ v.fst < (↑(List.length v.snd.snd.fst.snd.snd.fst) : Int) ∧ Int.toNat v.fst < List.length v.snd.snd.fst.snd.snd.fst ∧ ∀ (x_1 : Int × (Int × List (Int × List Int × Int × Unit) × List (List Int) × Unit) × (Int × List (Int × List Int × Int × Unit) × Unit) × Unit), v.snd.snd.fst.snd.snd.fst[Int.toNat v.fst]? = some x_1 →
  okOut x_1.snd.fst ∧ Int.toNat v.fst < List.length v.snd.snd.fst.snd.snd.fst ∧ ∀ (x0 : Int × (Int × List (Int × List Int × Int × Unit) × List (List Int) × Unit) × (Int × List (Int × List Int × Int × Unit) × Unit) × Unit), v.snd.snd.fst.snd.snd.fst[Int.toNat v.fst]? = some x0 →
  Int.toNat v.fst < List.length (List.set v.snd.snd.fst.snd.snd.fst (Int.toNat v.fst) (x0.fst, (x_1.snd.fst.fst, List.map (agU x.fst.snd.snd.snd.snd.snd.snd.snd.fst x.snd.snd.fst) x_1.snd.fst.snd.fst, x_1.snd.fst.snd.snd), x0.snd.snd)) ∧ ∀ (x_2 : Int × (Int × List (Int × List Int × Int × Unit) × List (List Int) × Unit) × (Int × List (Int × List Int × Int × Unit) × Unit) × Unit), (List.set v.snd.snd.fst.snd.snd.fst (Int.toNat v.fst) (x0.fst, (x_1.snd.fst.fst, List.map (agU x.fst.snd.snd.snd.snd.snd.snd.snd.fst x.snd.snd.fst) x_1.snd.fst.snd.fst, x_1.snd.fst.snd.snd), x0.snd.snd))[Int.toNat v.fst]? = some x_2 →
  (List.length x.fst.fst ≤ big ∧ okSt v.snd.snd.fst.snd.fst ∧ List.length (agT x.fst.snd.snd.snd.snd.snd.snd.snd.fst x.snd.snd.fst x_1.snd.fst.snd.fst) ≤ (2000000000 : Nat)) ∧ (List.length v.snd.fst + List.length (iparF x.fst (v.snd.snd.fst.fst, v.snd.snd.fst.snd.fst, List.set v.snd.snd.fst.snd.snd.fst (Int.toNat v.fst) (x0.fst, (x_1.snd.fst.fst, List.map (agU x.fst.snd.snd.snd.snd.snd.snd.snd.fst x.snd.snd.fst) x_1.snd.fst.snd.fst, x_1.snd.fst.snd.snd), x0.snd.snd), ()) x_2.fst (agT x.fst.snd.snd.snd.snd.snd.snd.snd.fst x.snd.snd.fst x_1.snd.fst.snd.fst) false)) * (40 : Nat) ≤ (140737488351232 : Nat) ∧ ((0 : Int) ≤ IntKind.wrap IntKind.i64 (v.fst + (1 : Int)) ∧ IntKind.wrap IntKind.i64 (v.fst + (1 : Int)) ≤ (↑(List.length x.snd.fst.snd.snd.fst) : Int) ∧ v.snd.fst ++ iparF x.fst (v.snd.snd.fst.fst, v.snd.snd.fst.snd.fst, List.set v.snd.snd.fst.snd.snd.fst (Int.toNat v.fst) (x0.fst, (x_1.snd.fst.fst, List.map (agU x.fst.snd.snd.snd.snd.snd.snd.snd.fst x.snd.snd.fst) x_1.snd.fst.snd.fst, x_1.snd.fst.snd.snd), x0.snd.snd), ()) x_2.fst (agT x.fst.snd.snd.snd.snd.snd.snd.snd.fst x.snd.snd.fst x_1.snd.fst.snd.fst) false = agPs x.fst x.snd.fst x.snd.snd.fst (List.take (Int.toNat (IntKind.wrap IntKind.i64 (v.fst + (1 : Int)))) x.snd.fst.snd.snd.fst) ∧ v.snd.snd.fst.fst = x.snd.fst.fst ∧ v.snd.snd.fst.snd.fst = x.snd.fst.snd.fst ∧ List.set v.snd.snd.fst.snd.snd.fst (Int.toNat v.fst) (x0.fst, (x_1.snd.fst.fst, List.map (agU x.fst.snd.snd.snd.snd.snd.snd.snd.fst x.snd.snd.fst) x_1.snd.fst.snd.fst, x_1.snd.fst.snd.snd), x0.snd.snd) = List.map (agPe x.fst x.snd.snd.fst) (List.take (Int.toNat (IntKind.wrap IntKind.i64 (v.fst + (1 : Int)))) x.snd.fst.snd.snd.fst) ++ List.drop (Int.toNat (IntKind.wrap IntKind.i64 (v.fst + (1 : Int)))) x.snd.fst.snd.snd.fst) ∧ Int.toNat ((↑(List.length x.snd.fst.snd.snd.fst) : Int) - IntKind.wrap IntKind.i64 (v.fst + (1 : Int))) < Int.toNat ((↑(List.length x.snd.fst.snd.snd.fst) : Int) - v.fst) else ((v.snd.snd.fst, v.snd.fst, ()), ()) = (pagF x.fst x.snd.fst x.snd.snd.fst, ())) := by kernel_rfl
theorem en_pagn (us : Array Value) (u : World) : (callFunc 68 us).run Tryd.prog u = .ok (.enter 68 us) u := by kernel_rfl
theorem sc_pagn : SC Tryd.prog 68 S_pagn := by
  refine SC.of Tryd.func68 (c := bodyOf Tryd.f68) (by kernel_rfl) (by kernel_rfl) (fun x => (by decide : (3:Nat) ≤ Tryd.f68.ntmps)) (DOk.cons sc_cpo en_cpo (DOk.cons sc_lagn en_lagn (DOk.cons sc_ipar en_ipar DOk.nil))) (Eq.mpr vc_pagn ?_)
  rintro ⟨c, ⟨n, s, l, ⟨⟩⟩, now, ⟨⟩⟩ ⟨h1, ⟨h2, h3, h3b⟩, h4, h5⟩ - - -
  dsimp only at h1 h2 h3 h3b h4 h5 ⊢
  have e1 : l.length ≤ 1000000000 := h3
  have e5 : itPo l ≤ 1000000000 := h5
  refine ⟨⟨h2, h3, h3b⟩, ⟨Int.le_refl 0, by omega, rfl, rfl, rfl, rfl⟩, ?_⟩
  rintro ⟨i, t, ⟨m, r, o2, ⟨⟩⟩, ⟨⟩⟩ ⟨q0, q1, k1, k2, k4, k3⟩
  dsimp only at q0 q1 k1 k2 k3 k4 ⊢
  subst k2
  subst k4
  have wi : i < l.length → IntKind.i64.wrap (i + 1) = i + 1 := fun _ => IntWalk.i64_in _ (by omega)
  have l2 : o2.length = l.length := by rw [k3, mid_len]
  by_cases hi : i < (l.length : Int)
  rotate_left 1
  · rw [decide_eq_false hi, cond_false]
    obtain rfl : i = (l.length : Int) := by omega
    rw [show ((l.length : Nat) : Int).toNat = l.length by omega, List.take_length] at k1 k3
    rw [List.drop_length, List.append_nil] at k3
    rw [k1, k3]
    rfl
  have e2 : (i + 1).toNat = i.toNat + 1 := by omega
  rw [decide_eq_true hi, cond_true, wi hi, e2]
  refine ⟨q0, by omega, by omega, fun q hq => ?_⟩
  have hq1 : l[i.toNat]? = some q := mid_at (by omega) (by rw [← k3]; exact hq)
  have okq := h3b q (List.mem_of_getElem? hq1)
  refine ⟨okq.1, by omega, fun q' hq' => ?_⟩
  obtain rfl := Option.some.inj (hq.symm.trans hq')
  refine ⟨by rw [List.length_set]; omega, fun d hd => ?_⟩
  rw [List.getElem?_set_self (by omega)] at hd
  obtain rfl := Option.some.inj hd
  dsimp only
  have hsn := agPs_snoc c (m, r, l, ()) now (l.take i.toNat) q
  rw [← take_snoc hq1] at hsn
  have hl := agPs_len c (m, r, l, ()) now (l.take (i.toNat + 1))
  have hl2 := itPo_take l (i.toNat + 1)
  have h6 := agT_len (agaC c) now q.2.1.2.1
  have h7 : q.2.1.2.1.length ≤ 1000000000 := okq.1.1.1
  have hsn2 : t ++ iparF c (m, r, o2.set i.toNat (q.1, (q.2.1.1, q.2.1.2.1.map (agU c.2.2.2.2.2.2.2.1 now), q.2.1.2.2), q.2.2), ()) q.1 (agT c.2.2.2.2.2.2.2.1 now q.2.1.2.1) false = agPs c (m, r, l, ()) now (l.take (i.toNat + 1)) := by rw [hsn, k1]; rfl
  refine ⟨⟨h1, h4, Nat.le_trans h6 (by omega)⟩, by rw [← List.length_append, hsn2]; omega, ⟨by omega, by omega, hsn2, rfl, rfl, ?_⟩, by omega⟩
  rw [k3, ← mid_set hq1]
  rfl
end Go.Proofs.YtjkbkhjalimebaaDoor

namespace Go.Proofs.YtjkbkhjalimebaaDoor
open Go.RowKit

theorem heap_setLast (w : World) (o o' : Obj) : ({ w.alloc o with heap := (w.alloc o).heap.setIfInBounds w.heap.size o' } : World) = w.alloc o' := by
  simp only [World.alloc]
  congr 1
  apply Array.ext
  · simp
  · intro i h1 h2
    rw [Array.getElem_setIfInBounds (by simpa using h1)]
    by_cases h : w.heap.size = i
    · subst h; simp
    · rw [if_neg h]
      simp only [Array.size_setIfInBounds, Array.size_push] at h1
      rw [Array.getElem_push_lt (by omega), Array.getElem_push_lt (by omega)]

theorem heap_last (w : World) (o : Obj) : (w.alloc o).heap[w.heap.size]? = some o := heap_alloc_new w o

theorem run_getObj_map' {P : Program} {w : World} {r : Nat} {es : Array MapEntry} {c : Nat} (h : w.heap[r]? = some (.map es c)) : (getObj r).run P w = .ok (.map es c) w := by
  simp only [getObj, Sem.run, h]

theorem run_setObj_map' {P : Program} {w : World} {r : Nat} {es : Array MapEntry} {c : Nat} {o : Obj} (h : w.heap[r]? = some (.map es c)) : (setObj r o).run P w = .ok () { w with heap := w.heap.setIfInBounds r o } := by
  simp only [setObj, Sem.run, h]

theorem run_checkKey_int {P : Program} {w : World} {kt : TypeId} {ik : IntKind} {k : Int} {b : Bool} (n : Nat) (hk : P.underlying kt = some (.int ik)) : (Instr.checkKey b (n + 1) kt (.int ik k)).run P w = .ok () w := by
  simp [Instr.checkKey, run_underlying hk, Sem.run_pure]

theorem run_findKey_int {P : Program} {w : World} {kt : TypeId} {ik : IntKind} {k : Int} {es : List MapEntry} {r : Option (Nat × Value)} (hk : P.underlying kt = some (.int ik)) (hf : Instr.findNow (.int ik) (.int ik k) es 0 = some r) :
    (Instr.findKey kt (.int ik k) es).run P w = .ok r w := by
  simp [Instr.findKey, run_underlying hk, hf, Sem.run_pure]

theorem run_insert_last {P : Program} (w : World) (t kt et : TypeId) (ik : IntKind) (k : Int) (v : Value) (es : Array MapEntry) (c : Nat)
    (ht : P.underlying t = some (.map kt et)) (hk : P.underlying kt = some (.int ik)) (hf : Instr.findNow (.int ik) (.int ik k) es.toList 0 = some none) :
    (Instr.mapUpdate t (.map (some w.heap.size)) (.int ik k) v).run P (w.alloc (.map es c)) = .ok () (w.alloc (.map (es.push { key := .int ik k, val := v, born := c }) (c + 1))) := by
  have h1 := run_checkKey_int (P := P) (w := w.alloc (.map es c)) (b := false) (k := k) 9999 hk
  have h2 := run_findKey_int (P := P) (w := w.alloc (.map es c)) hk hf
  have h3 := run_getObj_map' (P := P) (heap_last w (.map es c))
  have h4 := fun o => run_setObj_map' (P := P) (o := o) (heap_last w (.map es c))
  unfold Instr.mapUpdate
  simp only [Sem.run_bind, run_underlying ht, Result.andThen, h3, h1, h2, h4, heap_setLast]

theorem run_lookup_int {P : Program} (w : World) (t kt et : TypeId) (ik : IntKind) (k : Int) (r : Nat) (es : Array MapEntry) (c : Nat) (z : Value) (x : Option (Nat × Value))
    (ht : P.underlying t = some (.map kt et)) (hk : P.underlying kt = some (.int ik)) (hz : (zeroValue et).run P w = .ok z w) (hr : w.heap[r]? = some (.map es c))
    (hf : Instr.findNow (.int ik) (.int ik k) es.toList 0 = some x) :
    (Instr.lookup t (.map (some r)) (.int ik k) true).run P w = .ok (.tuple #[(x.map (·.2)).getD z, .bool x.isSome]) w := by
  have h1 := run_checkKey_int (P := P) (w := w) (b := es.isEmpty) (k := k) 9999 hk
  have h2 := run_findKey_int (P := P) (w := w) hk hf
  have h3 := run_getObj_map' (P := P) hr
  unfold Instr.lookup
  cases x with
  | none => simp only [Sem.run_bind, run_underlying ht, Result.andThen, h3, h1, h2, hz, Sem.run_pure]; rfl
  | some y => simp only [Sem.run_bind, run_underlying ht, Result.andThen, h3, h1, h2, Sem.run_pure]; rfl

theorem cell_lastAt (w : World) (cs : Array Value) (e : TypeId) {k j : Nat} {v : Value} (hk : k = w.heap.size) (hv : cs[j]? = some v) : (w.alloc (.cells cs e)).cell? ⟨k, j, none⟩ = some v := by
  subst hk
  simp only [World.cell?, heap_alloc_new]
  simpa using hv

theorem cell_underAt {w : World} {o : Obj} {a : Addr} {v : Value} (h : w.cell? a = some v) : (w.alloc o).cell? a = some v := by
  have hlt := World.block_lt_of_cell? _ _ h
  exact (World.cell?_of_block (w := w) (Below.heap_alloc w o a.block hlt)).trans h
end Go.Proofs.YtjkbkhjalimebaaDoor
namespace Go.Proofs.YtjkbkhjalimebaaDoor
open Go.RowKit

/-- A kind's entry. -/
def kindE (k a b : Int) (c : Nat) : MapEntry := { key := .int .i64 k, val := .agg #[.int .i64 a, .int .i64 b], born := c }
def kindEs : Array MapEntry := #[kindE 1 0 0 0, kindE 2 0 0 1, kindE 3 1 1 2, kindE 4 0 64 3, kindE 5 0 64 4, kindE 6 1 1 5, kindE 7 0 0 6]

theorem ins (w : World) (k a b : Int) (es : Array MapEntry) (c : Nat) (hf : Instr.findNow (.int .i64) (.int .i64 k) es.toList 0 = some none) :
    (Instr.mapUpdate 176 (.map (some w.heap.size)) (.int .i64 k) (.agg #[.int .i64 a, .int .i64 b])).run Tryd.prog (w.alloc (.map es c)) = .ok () (w.alloc (.map (es.push (kindE k a b c)) (c + 1))) :=
  run_insert_last w _ _ _ _ k _ es c Tryd.underlying176 Tryd.underlying3 hf

set_option maxRecDepth 100000 in
set_option maxHeartbeats 400000 in
theorem kinds_any (w : World) : Calls Tryd.prog 109 #[] w fun e w' => e = .returned (.map (some w.heap.size)) ∧ w' = w.alloc (.map kindEs 7) := by
  have hmm := @run_makeMap Tryd.prog
  have h1 := ins w 1 0 0 #[] 0 rfl
  have h2 := ins w 2 0 0 #[kindE 1 0 0 0] 1 rfl
  have h3 := ins w 3 1 1 #[kindE 1 0 0 0, kindE 2 0 0 1] 2 rfl
  have h4 := ins w 4 0 64 #[kindE 1 0 0 0, kindE 2 0 0 1, kindE 3 1 1 2] 3 rfl
  have h5 := ins w 5 0 64 #[kindE 1 0 0 0, kindE 2 0 0 1, kindE 3 1 1 2, kindE 4 0 64 3] 4 rfl
  have h6 := ins w 6 1 1 #[kindE 1 0 0 0, kindE 2 0 0 1, kindE 3 1 1 2, kindE 4 0 64 3, kindE 5 0 64 4] 5 rfl
  have h7 := ins w 7 0 0 #[kindE 1 0 0 0, kindE 2 0 0 1, kindE 3 1 1 2, kindE 4 0 64 3, kindE 5 0 64 4, kindE 6 1 1 5] 6 rfl
  go_enter Tryd.func109, Tryd.ntmps109
  go_wp2
  go_ret
  exact ⟨rfl, rfl⟩
end Go.Proofs.YtjkbkhjalimebaaDoor
namespace Go.Proofs.YtjkbkhjalimebaaDoor
open Go.RowKit

/-- The span of a kind, and whether it is one. -/
def spanOf (k : Int) : Int × Int × Bool :=
  if k = 1 then (0, 0, true) else if k = 2 then (0, 0, true) else if k = 3 then (1, 1, true) else if k = 4 then (0, 64, true) else if k = 5 then (0, 64, true) else if k = 6 then (1, 1, true) else if k = 7 then (0, 0, true) else (0, 0, false)

def kindFound (k : Int) : Option (Nat × Value) :=
  if k = 1 then some (0, .agg #[.int .i64 0, .int .i64 0]) else if k = 2 then some (1, .agg #[.int .i64 0, .int .i64 0]) else if k = 3 then some (2, .agg #[.int .i64 1, .int .i64 1]) else if k = 4 then some (3, .agg #[.int .i64 0, .int .i64 64])
  else if k = 5 then some (4, .agg #[.int .i64 0, .int .i64 64]) else if k = 6 then some (5, .agg #[.int .i64 1, .int .i64 1]) else if k = 7 then some (6, .agg #[.int .i64 0, .int .i64 0]) else none

theorem find_kind (k : Int) : Instr.findNow (.int .i64) (.int .i64 k) kindEs.toList 0 = some (kindFound k) := by
  unfold kindFound
  by_cases h1 : k = 1
  · subst h1; rfl
  by_cases h2 : k = 2
  · subst h2; rfl
  by_cases h3 : k = 3
  · subst h3; rfl
  by_cases h4 : k = 4
  · subst h4; rfl
  by_cases h5 : k = 5
  · subst h5; rfl
  by_cases h6 : k = 6
  · subst h6; rfl
  by_cases h7 : k = 7
  · subst h7; rfl
  have e1 : (k == 1) = false := by simpa using h1
  have e2 : (k == 2) = false := by simpa using h2
  have e3 : (k == 3) = false := by simpa using h3
  have e4 : (k == 4) = false := by simpa using h4
  have e5 : (k == 5) = false := by simpa using h5
  have e6 : (k == 6) = false := by simpa using h6
  have e7 : (k == 7) = false := by simpa using h7
  simp [h1, h2, h3, h4, h5, h6, h7, e1, e2, e3, e4, e5, e6, e7, kindEs, kindE, Instr.findNow, Instr.sameNow]

theorem zero_span (w : World) : (zeroValue 174).run Tryd.prog w = .ok (.agg #[.int .i64 0, .int .i64 0]) w := by kernel_rfl

theorem look_kind (w : World) (k : Int) (r : Nat) (h : w.heap[r]? = some (.map kindEs 7)) :
    (Instr.lookup 176 (.map (some r)) (.int .i64 k) true).run Tryd.prog w = .ok (.tuple #[.agg #[.int .i64 (spanOf k).1, .int .i64 (spanOf k).2.1], .bool (spanOf k).2.2]) w := by
  rw [run_lookup_int w _ _ _ _ k r kindEs 7 _ _ Tryd.underlying176 Tryd.underlying3 (zero_span w) h (find_kind k)]
  unfold kindFound spanOf
  (repeat' split) <;> rfl

theorem ret_int {k : IntKind} {a b : Int} (h : a = b) : Ending.returned (.int k a) = .returned (.int k b) := by rw [h]

/-- May a note be? -/
def noteE (kind hop : Int) (back : Bool) (pp : List (List UInt8)) : Int :=
  if (spanOf kind).2.2 = false ∨ (pp.length : Int) < (spanOf kind).1 ∨ (spanOf kind).2.1 < pp.length then 1
  else if (kind = 7 ∧ (hop < 0 ∨ 7 < hop)) ∨ (kind ≠ 7 ∧ (hop ≠ 0 ∨ back = true)) then 1
  else if ∃ l ∈ pp, 1024 < l.length then 2 else 0

/-- What stands behind the map's look-up. -/
def Looked (kind hop : Int) (back : Bool) (pa : Option Addr) (pn pc : Nat) (w : World) (s3 s4 : Value) (wx : World) : Prop :=
  ∃ g : Nat, s3 = .pointer (some ⟨g, 0, none⟩) ∧ s4 = .bool (spanOf kind).2.2 ∧ wx.cell? ⟨g, 0, none⟩ = some (.int .i64 (spanOf kind).1) ∧ wx.cell? ⟨g, 1, none⟩ = some (.int .i64 (spanOf kind).2.1) ∧
    Below (w.heap.size + 1) (w.alloc (.cells #[.int .i64 kind, .slice pa pn pc, .int .i64 hop, .bool back] 90)) wx

set_option maxRecDepth 100000 in
set_option maxHeartbeats 1600000 in
theorem ncheck_any {kind hop : Int} {back : Bool} {pa : Option Addr} {pn pc : Nat} {pp : List (List UInt8)} {w : World} (hp : Parts w pa pn pc pp) :
    Calls Tryd.prog 77 #[.agg #[.int .i64 kind, .slice pa pn pc, .int .i64 hop, .bool back]] w fun e w' => e = .returned (.int .i64 (noteE kind hop back pp)) ∧ Below w.heap.size w w' := by
  obtain ⟨W0, hW0⟩ : ∃ W0, W0 = w.alloc (.cells #[.int .i64 kind, .slice pa pn pc, .int .i64 hop, .bool back] 90) := ⟨_, rfl⟩
  have hs0 : W0.heap.size = w.heap.size + 1 := by rw [hW0]; simp
  have hl1 := look_kind (W0.alloc (.map kindEs 7)).drew kind (w.heap.size + 1) (by rw [← hs0]; exact heap_last _ _)
  have hl2 := look_kind ((W0.alloc (.map kindEs 7)).alloc (.cells #[.int .i64 0, .int .i64 0] 174)).drew kind (w.heap.size + 1) (by rw [← hs0]; exact (Below.heap_alloc _ _ _ (by simp)).trans (heap_last _ _))
  have hl3 := look_kind ((W0.alloc (.cells #[.int .i64 0, .int .i64 0] 174)).alloc (.map kindEs 7)).drew kind (w.heap.size + 1 + 1) (by rw [← hs0]; have := heap_last (W0.alloc (.cells #[.int .i64 0, .int .i64 0] 174)) (.map kindEs 7); simp only [World.size_alloc] at this; exact this)
  rw [hW0] at hl1 hl2 hl3
  clear hW0 hs0
  have hmx := hp.le_i64
  go_enter Tryd.func77, Tryd.ntmps77
  go_upto_region 1 with fail
  go_cut [3, 4] (fun s3 s4 wx => Looked kind hop back pa pn pc w s3 s4 wx)
  case first =>
    go_region_with (go_at_call 109; refine (kinds_any _).mono ?_; rintro e w1 ⟨rfl, rfl⟩)
    all_goals
      clear hl1 hl2 hl3
      go_wp2_with fail
      go_meet
      exact ⟨_, rfl, rfl, by first | exact cell_lastAt _ _ _ (by simp) rfl | exact cell_underAt (cell_lastAt _ _ _ (by simp) rfl), by first | exact cell_lastAt _ _ _ (by simp) rfl | exact cell_underAt (cell_lastAt _ _ _ (by simp) rfl), by repeat (first | exact Below.refl _ _ | refine Below.drew ?_ | refine Below.alloc ?_ (by simp) _ | refine Below.setCell ?_ (by simp) _)⟩
  case rest =>
    clear hl1 hl2 hl3
    obtain ⟨g, rfl, rfl, hg0, hg1, hbx⟩ := hcut
    have hb : Below w.heap.size w wc := ((Below.refl w.heap.size w).alloc (Nat.le_refl _) _).trans (hbx.mono (by omega))
    have HP := Lib.hid (hp.keep hb)
    have hc0 : wc.cell? ⟨w.heap.size, 0, none⟩ = some (.int .i64 kind) := (hbx.cell (p := ⟨w.heap.size, 0, none⟩) (Nat.lt_succ_self _)).trans (cell_lastAt _ _ _ rfl rfl)
    have hc1 : wc.cell? ⟨w.heap.size, 1, none⟩ = some (.slice pa pn pc) := (hbx.cell (p := ⟨w.heap.size, 1, none⟩) (Nat.lt_succ_self _)).trans (cell_lastAt _ _ _ rfl rfl)
    have hc2 : wc.cell? ⟨w.heap.size, 2, none⟩ = some (.int .i64 hop) := (hbx.cell (p := ⟨w.heap.size, 2, none⟩) (Nat.lt_succ_self _)).trans (cell_lastAt _ _ _ rfl rfl)
    have hc3 : wc.cell? ⟨w.heap.size, 3, none⟩ = some (.bool back) := (hbx.cell (p := ⟨w.heap.size, 3, none⟩) (Nat.lt_succ_self _)).trans (cell_lastAt _ _ _ rfl rfl)
    have HE : Hid (noteE kind hop back pp = if (spanOf kind).2.2 = false ∨ (pn : Int) < (spanOf kind).1 ∨ (spanOf kind).2.1 < pn then 1
        else if (kind = 7 ∧ (hop < 0 ∨ 7 < hop)) ∨ (kind ≠ 7 ∧ (hop ≠ 0 ∨ back = true)) then 1
        else if ∃ l ∈ pp, 1024 < l.length then 2 else 0) := by show _ = _; rw [noteE, HP.out.len]
    clear hp hbx
    generalize spanOf kind = s at *
    obtain ⟨lo, hi, ok⟩ := s
    dsimp only at hg0 hg1 ⊢
    cases ok with
    | false =>
      go_wp2
      go_ret
      exact ⟨ret_int (by rw [HE.out, if_pos (.inl (by first | rfl | trivial))]), hb⟩
    | true =>
    by_cases h1 : (pn : Int) < lo
    · go_wp2
      go_ret
      exact ⟨ret_int (by rw [HE.out, if_pos (.inr (.inl h1))]), hb⟩
    by_cases h2 : hi < (pn : Int)
    · go_wp2
      go_ret
      exact ⟨ret_int (by rw [HE.out, if_pos (.inr (.inr h2))]), hb⟩
    have HE2 : Hid (¬ (true = false ∨ (pn : Int) < lo ∨ hi < (pn : Int))) := by rintro (h | h | h); cases h; exact h1 h; exact h2 h
    by_cases h7 : kind = 7
    · subst h7
      by_cases h3 : hop < 0
      · go_wp2
        go_ret
        exact ⟨ret_int (by rw [HE.out, if_neg HE2.out, if_pos (.inl ⟨(by first | rfl | trivial), .inl h3⟩)]), hb⟩
      by_cases h4 : 7 < hop
      · go_wp2
        go_ret
        exact ⟨ret_int (by rw [HE.out, if_neg HE2.out, if_pos (.inl ⟨(by first | rfl | trivial), .inr h4⟩)]), hb⟩
      have HE3 : Hid (¬ ((((7 : Int) = 7) ∧ (hop < 0 ∨ 7 < hop)) ∨ ((7 : Int) ≠ 7 ∧ (hop ≠ 0 ∨ back = true)))) := by
        rintro (⟨_, h | h⟩ | ⟨h, _⟩); exact h3 h; exact h4 h; exact h rfl
      have hlongE : Hid ((∃ l ∈ pp, 1024 < l.length) → 2 = noteE 7 hop back pp) := fun h => by rw [HE.out, if_neg HE2.out, if_neg HE3.out, if_pos h]
      have hokE : Hid ((∀ l ∈ pp, l.length ≤ 1024) → 0 = noteE 7 hop back pp) := fun h => by
        rw [HE.out, if_neg HE2.out, if_neg HE3.out, if_neg]; rintro ⟨l, hl, h'⟩; have := h l hl; omega
      go_wp2
      go_loop [53] (fun i => ∃ k : Nat, k ≤ pn ∧ i = .int .i64 k ∧ Hid (∀ l ∈ pp.take k, l.length ≤ 1024)) (fun i => pn - (intOf i).toNat)
      case atStart => exact ⟨0, Nat.zero_le _, rfl, fun l hl => by simp at hl⟩
      case round =>
        obtain ⟨k, hk, rfl, HA⟩ := hrel
        by_cases hlt : k < pn
        · obtain ⟨l, hl⟩ : ∃ l, pp[k]? = some l := ⟨_, List.getElem?_eq_getElem (by rw [HP.out.len]; exact hlt)⟩
          obtain ⟨b, off, hpa, a', c', hc, hby⟩ := HP.out.part k l hl
          subst hpa
          have HT := Lib.hid (take_snoc hl)
          have HM := Lib.hid (List.mem_of_getElem? hl)
          have hml := hby.le_i64.1
          clear hby hl
          by_cases hlong : 1024 < l.length
          · go_wp2
            go_ret
            exact ⟨ret_int (hlongE.out ⟨l, HM.out, hlong⟩), hb⟩
          · go_wp2
            refine ⟨⟨k + 1, by omega, by go_num, ?_⟩, by simp [intOf]; omega⟩
            intro x hx
            rw [HT.out] at hx
            rcases List.mem_append.1 hx with h | h
            · exact HA.out x h
            · have : x = l := by simpa using h
              subst this
              omega
        · go_wp2
          go_ret
          refine ⟨ret_int (hokE.out fun l hl => HA.out l ?_), hb⟩
          rw [List.take_of_length_le (by rw [HP.out.len]; omega)]
          exact hl
    · have h7b : (kind == 7) = false := by simpa using h7
      by_cases h3 : hop = 0
      · subst h3
        cases back with
        | true =>
          clear h7
          go_wp2
          go_ret
          exact ⟨ret_int (by rw [HE.out, if_neg HE2.out, if_pos (.inr ⟨by simpa using h7b, .inr (by first | rfl | trivial)⟩)]), hb⟩
        | false =>
        have HE3 : Hid (¬ ((kind = 7 ∧ ((0 : Int) < 0 ∨ (7 : Int) < 0)) ∨ (kind ≠ 7 ∧ ((0 : Int) ≠ 0 ∨ false = true)))) := by
          rintro (⟨h, _⟩ | ⟨_, h | h⟩); exact h7 h; exact h rfl; cases h
        have hlongE : Hid ((∃ l ∈ pp, 1024 < l.length) → 2 = noteE kind 0 false pp) := fun h => by rw [HE.out, if_neg HE2.out, if_neg HE3.out, if_pos h]
        have hokE : Hid ((∀ l ∈ pp, l.length ≤ 1024) → 0 = noteE kind 0 false pp) := fun h => by
          rw [HE.out, if_neg HE2.out, if_neg HE3.out, if_neg]; rintro ⟨l, hl, h'⟩; have := h l hl; omega
        clear h7
        go_wp2
        go_loop [53] (fun i => ∃ k : Nat, k ≤ pn ∧ i = .int .i64 k ∧ Hid (∀ l ∈ pp.take k, l.length ≤ 1024)) (fun i => pn - (intOf i).toNat)
        case atStart => exact ⟨0, Nat.zero_le _, rfl, fun l hl => by simp at hl⟩
        case round =>
          obtain ⟨k, hk, rfl, HA⟩ := hrel
          by_cases hlt : k < pn
          · obtain ⟨l, hl⟩ : ∃ l, pp[k]? = some l := ⟨_, List.getElem?_eq_getElem (by rw [HP.out.len]; exact hlt)⟩
            obtain ⟨b, off, hpa, a', c', hc, hby⟩ := HP.out.part k l hl
            subst hpa
            have HT := Lib.hid (take_snoc hl)
            have HM := Lib.hid (List.mem_of_getElem? hl)
            have hml := hby.le_i64.1
            clear hby hl
            by_cases hlong : 1024 < l.length
            · go_wp2
              go_ret
              exact ⟨ret_int (hlongE.out ⟨l, HM.out, hlong⟩), hb⟩
            · go_wp2
              refine ⟨⟨k + 1, by omega, by go_num, ?_⟩, by simp [intOf]; omega⟩
              intro x hx
              rw [HT.out] at hx
              rcases List.mem_append.1 hx with h | h
              · exact HA.out x h
              · have : x = l := by simpa using h
                subst this
                omega
          · go_wp2
            go_ret
            refine ⟨ret_int (hokE.out fun l hl => HA.out l ?_), hb⟩
            rw [List.take_of_length_le (by rw [HP.out.len]; omega)]
            exact hl
      · have h3b : (hop != 0) = true := by simpa using h3
        go_wp2
        go_ret
        exact ⟨ret_int (by rw [HE.out, if_neg HE2.out, if_pos (.inr ⟨h7, .inl h3⟩)]), hb⟩
end Go.Proofs.YtjkbkhjalimebaaDoor

namespace Go.Proofs.YtjkbkhjalimebaaDoor
open Go.RowKit
abbrev tNo : Ty := .pair tI (.pair (.sl tYs) (.pair tI (.pair .bool .unit)))
abbrev Nte : Type := Int × List (List Int) × Int × Bool × Unit
abbrev aNo : Sh := .agg (shOf true tNo)
namespace DoorU
def nkE (n : Nte) : Int := noteE n.1 n.2.2.1 n.2.2.2.1 []
end DoorU
open DoorU
def S_nchk : Spec := ⟨.pair aNo .unit, .pair nI .unit, fun (x : Nte × Unit) => x.1.2.1 = [], fun (x : Nte × Unit) => ((nkE x.1, ()) : Int × Unit)⟩
theorem sc_nchk : SC Tryd.prog 77 S_nchk :=
  SC.pure rfl (fun _ => rfl) (fun _ => rfl) fun x hx w U E vs hT hl hv => by
    obtain ⟨⟨k, pp, hop, back, ⟨⟩⟩, ⟨⟩⟩ := x
    obtain rfl : pp = [] := hx
    obtain ⟨v, rfl⟩ : ∃ v, vs = [v] := by
      match vs, hl with
      | [v], _ => exact ⟨v, rfl⟩
    have h0 : VA E w NoF U w.heap.size (.agg [.d (.int .i64 k), .lent 1 [], .d (.int .i64 hop), .d (.bool back)]) v := hv 0 _ v rfl rfl
    obtain ⟨a, n, cap, rfl, hp⟩ : ∃ a n cap, v = .agg #[.int .i64 k, .slice a n cap, .int .i64 hop, .bool back] ∧ Parts w a n cap [] := by
      cases h0 with
      | @agg _ us hl h =>
        match us, hl, h with
        | [u0, u1, u2, u3], _, h =>
          have a0 := h 0 _ _ rfl rfl
          have a1 := h 1 _ _ rfl rfl
          have a2 := h 2 _ _ rfl rfl
          have a3 := h 3 _ _ rfl rfl
          cases a0 with
          | d a0 => cases a0; cases a2 with
            | d a2 => cases a2; cases a3 with
              | d a3 => cases a3; cases a1 with
                | lent u hl2 hc hm hz hsz hat hV => exact ⟨_, _, _, rfl, hl2, hc, hm, hz, fun i l h => by simp at h⟩
    refine (ncheck_any hp).mono ?_
    rintro e w' ⟨rfl, hb⟩
    exact ⟨_, rfl, hb, .d (.int _ _)⟩
theorem en_nchk (us : Array Value) (u : World) : (callFunc 77 us).run Tryd.prog u = .ok (.enter 77 us) u := by kernel_rfl
end Go.Proofs.YtjkbkhjalimebaaDoor

namespace Go.Proofs.YtjkbkhjalimebaaDoor
open Go.RowKit DoorU
set_option linter.unusedVariables false
set_option linter.unusedSimpArgs false
set_option maxRecDepth 100000
set_option maxHeartbeats 1000000

namespace DoorU
def npL (n : Nte) : List Int := [w8 n.1] ++ putR 0 2 ++ (bif n.1 == 7 then [w8 n.2.2.1, bif n.2.2.2.1 then 1 else 0] else [])
def npF (n : Nte) : List Int × Int × Unit := bif nkE n == 0 then (npL n, 0, ()) else ([], nkE n, ())
def orF : List Int → Int
  | [] => 0
  | x :: r => bif x != 0 then x else orF r
def abvF (s t : Sta) : Bool := decide (0 < orF [cmpF s.1 t.1, cmpF s.2.1 t.2.1])
def ixF {α : Type} (p : α → Bool) : List α → Int → Int
  | [], _ => -1
  | x :: r, i => bif p x then i else ixF p r (i + 1)
def ixR : List Bool → Int → Int
  | [], _ => -1
  | x :: r, i => bif x then ixR r (i - 1) else i
def bkF (l : List Bool) : Int := ixR l.reverse ((l.length : Nat) - 1)
def susF (a b : List Bool) : Int := bif decide (0 ≤ ixF (fun x => x == false) a 0) then ixF (fun x => x == false) a 0 else bkF b
def nodeF (c : Cfg) (i : Int) : Int := bif decide (i < 0) then -1 else bif decide (c.2.2.2.1 ≤ i) then -1 else i64 (i64 (1 + serversF c) + i)
theorem put02 : putR 0 2 = [0, 0] := by decide
theorem u64_of {n : Int} (h0 : 0 ≤ n) (h1 : n < 18446744073709551616) : IntKind.u64.wrap n = n := by
  unfold IntKind.wrap
  simp only [IntKind.bits, IntKind.signed, Bool.false_and]
  show n % 18446744073709551616 = n
  omega
end DoorU
abbrev lBl : Sh := .view true .bool
def S_num2 : Spec := ⟨.pair nI .unit, .pair vY .unit, fun (x : Int × Unit) => 0 ≤ x.1 ∧ x.1 < 65536, fun (x : Int × Unit) => ((putR x.1 2, ()) : List Int × Unit)⟩
def S_nput : Spec := ⟨.pair aNo .unit, .pair (.tup (.pair vY (.pair nI .unit))) .unit, fun (x : Nte × Unit) => x.1.2.1 = [], fun (x : Nte × Unit) => ((npF x.1, ()) : (List Int × Int × Unit) × Unit)⟩
def A_nput (x : Nte × Unit) : Nat → Option LA
  | 0 => some ⟨[26, 5], [], .pair nI (.pair oY .unit), fun (v : Int × List Int × Unit) => v.1 = 0 ∧ v.2.1 = [w8 x.1.1] ++ putR 0 2, fun (v : Int × List Int × Unit) => 0⟩
  | _ => none
def S_cor : Spec := ⟨.pair lI .unit, .pair nI .unit, fun (x : List Int × Unit) => True, fun (x : List Int × Unit) => ((orF x.1, ()) : Int × Unit)⟩
def A_cor (x : List Int × Unit) : Nat → Option LA
  | 0 => some ⟨[8], [], .pair nI .unit, fun (v : Int × Unit) => 0 ≤ v.1 ∧ v.1 ≤ (x.1.length : Nat) ∧ orF (x.1.drop v.1.toNat) = orF x.1, fun (v : Int × Unit) => ((x.1.length : Nat) - v.1).toNat⟩
  | _ => none
def S_abv : Spec := ⟨.pair aSt (.pair aSt .unit), .pair .bool .unit, fun _ => True, fun (x : Sta × Sta × Unit) => ((abvF x.1 x.2.1, ()) : Bool × Unit)⟩
def S_idxb : Spec := ⟨.pair lBl (.pair .bool .unit), .pair nI .unit, fun _ => True, fun (x : List Bool × Bool × Unit) => ((ixF (fun z => z == x.2.1) x.1 0, ()) : Int × Unit)⟩
def A_idxb (x : List Bool × Bool × Unit) : Nat → Option LA
  | 0 => some ⟨[8], [], .pair nI .unit, fun (v : Int × Unit) => 0 ≤ v.1 ∧ v.1 ≤ (x.1.length : Nat) ∧ ixF (fun z => z == x.2.1) (x.1.drop v.1.toNat) v.1 = ixF (fun z => z == x.2.1) x.1 0, fun (v : Int × Unit) => ((x.1.length : Nat) - v.1).toNat⟩
  | _ => none
def S_idxi : Spec := ⟨.pair lI (.pair nI .unit), .pair nI .unit, fun _ => True, fun (x : List Int × Int × Unit) => ((ixF (fun z => z == x.2.1) x.1 0, ()) : Int × Unit)⟩
def A_idxi (x : List Int × Int × Unit) : Nat → Option LA
  | 0 => some ⟨[8], [], .pair nI .unit, fun (v : Int × Unit) => 0 ≤ v.1 ∧ v.1 ≤ (x.1.length : Nat) ∧ ixF (fun z => z == x.2.1) (x.1.drop v.1.toNat) v.1 = ixF (fun z => z == x.2.1) x.1 0, fun (v : Int × Unit) => ((x.1.length : Nat) - v.1).toNat⟩
  | _ => none
def S_cont : Spec := ⟨.pair lI (.pair nI .unit), .pair .bool .unit, fun _ => True, fun (x : List Int × Int × Unit) => ((decide (0 ≤ ixF (fun z => z == x.2.1) x.1 0), ()) : Bool × Unit)⟩
def S_susp : Spec := ⟨.pair lBl (.pair lBl .unit), .pair nI .unit, fun _ => True, fun (x : List Bool × List Bool × Unit) => ((susF x.1 x.2.1, ()) : Int × Unit)⟩
def A_susp (x : List Bool × List Bool × Unit) : Nat → Option LA
  | 0 => some ⟨[6], [], .pair nI .unit, fun (v : Int × Unit) => -1 ≤ v.1 ∧ v.1 < (x.2.1.length : Nat) ∧ ixR (x.2.1.take (v.1 + 1).toNat).reverse v.1 = bkF x.2.1, fun (v : Int × Unit) => (v.1 + 1).toNat⟩
  | _ => none
def S_node : Spec := ⟨.pair aC (.pair nI .unit), .pair nI .unit, fun _ => True, fun (x : Cfg × Int × Unit) => ((nodeF x.1 x.2.1, ()) : Int × Unit)⟩
def S_isS : Spec := ⟨.pair aC (.pair nI .unit), .pair .bool .unit, fun _ => True, fun (x : Cfg × Int × Unit) => ((wit x.2.1 1 (serversF x.1), ()) : Bool × Unit)⟩
def S_clio : Spec := ⟨.pair lI .unit, .pair oI .unit, fun (x : List Int × Unit) => x.1.length ≤ 1000000000000, fun (x : List Int × Unit) => ((x.1, ()) : List Int × Unit)⟩

theorem vc_num2 : VC Tryd.prog Tryd.f116 (bodyOf Tryd.f116) S_num2 [(41, S_put)] (fun _ _ => none) = (∀ (x : Int × Unit), (0 : Int) ≤ x.fst ∧ x.fst < (65536 : Int) →
  ((0 : Int) ≤ IntKind.wrap IntKind.u64 x.fst ∧ IntKind.wrap IntKind.u64 x.fst < (18446744073709551616 : Int)) ∧ (putR (IntKind.wrap IntKind.u64 x.fst) (2 : Int), ()) = (putR x.fst (2 : Int), ())) := by kernel_rfl
theorem en_num2 (us : Array Value) (u : World) : (callFunc 116 us).run Tryd.prog u = .ok (.enter 116 us) u := by kernel_rfl
theorem sc_num2 : SC Tryd.prog 116 S_num2 := by
  refine SC.of Tryd.func116 (c := bodyOf Tryd.f116) (by kernel_rfl) (by kernel_rfl) (fun x => (by decide : (1:Nat) ≤ Tryd.f116.ntmps)) (DOk.cons sc_put en_put DOk.nil) (Eq.mpr vc_num2 ?_)
  rintro ⟨n, ⟨⟩⟩ ⟨h0, h1⟩
  dsimp only at h0 h1 ⊢
  have w1 : IntKind.u64.wrap n = n := u64_of (by omega) (by omega)
  rw [w1]
  exact ⟨⟨h0, by omega⟩, rfl⟩

theorem vc_nput : VC Tryd.prog Tryd.f107 (bodyOf Tryd.f107) S_nput [(77, S_nchk), (116, S_num2)] A_nput = (∀ (x : (Int × List (List Int) × Int × Bool × Unit) × Unit), x.fst.snd.fst = [] →
  List.length x.fst.snd.fst ≤ (9223372036854775807 : Nat) →
  x.fst.snd.fst = [] ∧ bif nkE x.fst != (0 : Int) then (([], nkE x.fst, ()), ()) = (npF x.fst, ()) else ((0 : Int) ≤ (↑(List.length x.fst.snd.fst) : Int) ∧ (↑(List.length x.fst.snd.fst) : Int) < (65536 : Int)) ∧ (List.length [IntKind.wrap IntKind.u8 x.fst.fst] + List.length (putR (↑(List.length x.fst.snd.fst) : Int) (2 : Int))) * (1 : Nat) ≤ (140737488351232 : Nat) ∧ (List.length x.fst.snd.fst ≤ (9223372036854775807 : Nat) →
  ((0 : Int) = (0 : Int) ∧ [IntKind.wrap IntKind.u8 x.fst.fst] ++ putR (↑(List.length x.fst.snd.fst) : Int) (2 : Int) = [w8 x.fst.fst] ++ putR (0 : Int) (2 : Int)) ∧ ∀ (v : Int × List Int × Unit), v.fst = (0 : Int) ∧ v.snd.fst = [w8 x.fst.fst] ++ putR (0 : Int) (2 : Int) →
  bif decide (v.fst < (↑(List.length x.fst.snd.fst) : Int)) then (0 : Int) ≤ v.fst ∧ v.fst < (↑(List.length x.fst.snd.fst) : Int) ∧ ∀ (c0 : List Int), x.fst.snd.fst[Int.toNat v.fst]? = some c0 →
  List.length c0 ≤ (9223372036854775807 : Nat) →
  ((0 : Int) ≤ (↑(List.length c0) : Int) ∧ (↑(List.length c0) : Int) < (65536 : Int)) ∧ (List.length v.snd.fst + List.length (putR (↑(List.length c0) : Int) (2 : Int))) * (1 : Nat) ≤ (140737488351232 : Nat) ∧ (List.length (v.snd.fst ++ putR (↑(List.length c0) : Int) (2 : Int)) + List.length c0) * (1 : Nat) ≤ (140737488351232 : Nat) ∧ (IntKind.wrap IntKind.i64 (v.fst + (1 : Int)) = (0 : Int) ∧ v.snd.fst ++ putR (↑(List.length c0) : Int) (2 : Int) ++ c0 = [w8 x.fst.fst] ++ putR (0 : Int) (2 : Int)) ∧ (0 : Nat) < (0 : Nat) else bif x.fst.fst == (7 : Int) then bif x.fst.snd.snd.snd.fst then (List.length v.snd.fst + List.length [IntKind.wrap IntKind.u8 x.fst.snd.snd.fst, (1 : Int)]) * (1 : Nat) ≤ (140737488351232 : Nat) ∧ ((v.snd.fst ++ [IntKind.wrap IntKind.u8 x.fst.snd.snd.fst, (1 : Int)], (0 : Int), ()), ()) = (npF x.fst, ()) else (List.length v.snd.fst + List.length [IntKind.wrap IntKind.u8 x.fst.snd.snd.fst, (0 : Int)]) * (1 : Nat) ≤ (140737488351232 : Nat) ∧ ((v.snd.fst ++ [IntKind.wrap IntKind.u8 x.fst.snd.snd.fst, (0 : Int)], (0 : Int), ()), ()) = (npF x.fst, ()) else ((v.snd.fst, (0 : Int), ()), ()) = (npF x.fst, ()))) := by kernel_rfl
theorem en_nput (us : Array Value) (u : World) : (callFunc 107 us).run Tryd.prog u = .ok (.enter 107 us) u := by kernel_rfl
theorem sc_nput : SC Tryd.prog 107 S_nput := by
  refine SC.of Tryd.func107 (c := bodyOf Tryd.f107) (by kernel_rfl) (by kernel_rfl) (fun x => (by decide : (1:Nat) ≤ Tryd.f107.ntmps)) (DOk.cons sc_nchk en_nchk (DOk.cons sc_num2 en_num2 DOk.nil)) (Eq.mpr vc_nput ?_)
  rintro ⟨⟨k, pp, hop, back, ⟨⟩⟩, ⟨⟩⟩ h -
  obtain rfl : pp = [] := h
  dsimp only
  refine ⟨rfl, ?_⟩
  by_cases e : nkE (k, [], hop, back, ()) = 0
  rotate_left 1
  · rw [bneT e, cond_true, npF, beq_eq_false_iff_ne.2 e, cond_false]
  rw [bneF e, cond_false]
  have hF : npF (k, [], hop, back, ()) = (npL (k, [], hop, back, ()), 0, ()) := by rw [npF, beq_iff_eq.2 e, cond_true]
  rw [hF]
  have b0 : ([w8 k] ++ putR 0 2).length = 3 := by rw [put02]; rfl
  refine ⟨⟨by decide, by decide⟩, by show (1 + (putR 0 2).length) * 1 ≤ _; rw [put02]; decide, fun _ => ⟨⟨rfl, rfl⟩, ?_⟩⟩
  rintro ⟨i, o, ⟨⟩⟩ ⟨hi, ho⟩
  dsimp only at hi ho ⊢
  subst hi
  subst ho
  rw [show decide ((0 : Int) < ((([] : List (List Int)).length : Nat) : Int)) = false from rfl, cond_false, b0]
  by_cases k7 : k = 7
  · subst k7
    rw [beq_self_eq_true, cond_true]
    cases back
    · exact ⟨by show (3 + 2) * 1 ≤ _; decide, rfl⟩
    · exact ⟨by show (3 + 2) * 1 ≤ _; decide, rfl⟩
  · rw [beq_eq_false_iff_ne.2 k7, cond_false, npL]
    dsimp only
    rw [beq_eq_false_iff_ne.2 k7, cond_false, List.append_nil]

theorem vc_cor : VC Tryd.prog Tryd.f115 (bodyOf Tryd.f115) S_cor [] A_cor = (∀ (x : List Int × Unit), True →
  List.length x.fst ≤ (9223372036854775807 : Nat) →
  List.length x.fst ≤ (9223372036854775807 : Nat) →
  ((0 : Int) ≤ (0 : Int) ∧ (0 : Int) ≤ (↑(List.length x.fst) : Int) ∧ orF (List.drop (Int.toNat (0 : Int)) x.fst) = orF x.fst) ∧ ∀ (v : Int × Unit), (0 : Int) ≤ v.fst ∧ v.fst ≤ (↑(List.length x.fst) : Int) ∧ orF (List.drop (Int.toNat v.fst) x.fst) = orF x.fst →
  bif decide (v.fst < (↑(List.length x.fst) : Int)) then (0 : Int) ≤ v.fst ∧ v.fst < (↑(List.length x.fst) : Int) ∧ ∀ (c0 : Int), x.fst[Int.toNat v.fst]? = some c0 →
  bif c0 != (0 : Int) then (c0, ()) = (orF x.fst, ()) else ((0 : Int) ≤ IntKind.wrap IntKind.i64 (v.fst + (1 : Int)) ∧ IntKind.wrap IntKind.i64 (v.fst + (1 : Int)) ≤ (↑(List.length x.fst) : Int) ∧ orF (List.drop (Int.toNat (IntKind.wrap IntKind.i64 (v.fst + (1 : Int)))) x.fst) = orF x.fst) ∧ Int.toNat ((↑(List.length x.fst) : Int) - IntKind.wrap IntKind.i64 (v.fst + (1 : Int))) < Int.toNat ((↑(List.length x.fst) : Int) - v.fst) else ((0 : Int), ()) = (orF x.fst, ())) := by kernel_rfl
theorem en_cor (us : Array Value) (u : World) : (callFunc 115 us).run Tryd.prog u = .ok (.enter 115 us) u := by kernel_rfl
theorem sc_cor : SC Tryd.prog 115 S_cor := by
  refine SC.of Tryd.func115 (c := bodyOf Tryd.f115) (by kernel_rfl) (by kernel_rfl) (fun x => (by decide : (1:Nat) ≤ Tryd.f115.ntmps)) DOk.nil (Eq.mpr vc_cor ?_)
  rintro ⟨l, ⟨⟩⟩ - h1 -
  dsimp only at h1 ⊢
  refine ⟨⟨Int.le_refl 0, by omega, rfl⟩, ?_⟩
  rintro ⟨i, ⟨⟩⟩ ⟨q0, q1, hg⟩
  dsimp only at q0 q1 hg ⊢
  by_cases hi : i < (l.length : Int)
  · have wi : IntKind.i64.wrap (i + 1) = i + 1 := IntWalk.i64_in _ (by omega)
    rw [decide_eq_true hi, cond_true, wi]
    refine ⟨q0, hi, fun c hc => ?_⟩
    rw [drop_of hc, orF] at hg
    by_cases e : c = 0
    · rw [bneF e, cond_false] at hg ⊢
      exact ⟨⟨by omega, by omega, by rw [show (i + 1).toNat = i.toNat + 1 by omega]; exact hg⟩, by omega⟩
    · rw [bneT e, cond_true] at hg ⊢
      rw [hg]
  · rw [decide_eq_false hi, cond_false, ← hg, List.drop_eq_nil_of_le (by omega)]
    rfl

theorem vc_abv : VC Tryd.prog Tryd.f106 (bodyOf Tryd.f106) S_abv [(51, S_ccmp), (115, S_cor)] (fun _ _ => none) = (∀ (x : (Int × Int × List Int × Unit) × (Int × Int × List Int × Unit) × Unit), True →
  List.length x.fst.snd.snd.fst ≤ (9223372036854775807 : Nat) →
  List.length x.snd.fst.snd.snd.fst ≤ (9223372036854775807 : Nat) →
  True ∧ True ∧ True ∧ (decide ((0 : Int) < orF [cmpF x.fst.fst x.snd.fst.fst, cmpF x.fst.snd.fst x.snd.fst.snd.fst]), ()) = (abvF x.fst x.snd.fst, ())) := by kernel_rfl
theorem en_abv (us : Array Value) (u : World) : (callFunc 106 us).run Tryd.prog u = .ok (.enter 106 us) u := by kernel_rfl
theorem sc_abv : SC Tryd.prog 106 S_abv := by
  refine SC.of Tryd.func106 (c := bodyOf Tryd.f106) (by kernel_rfl) (by kernel_rfl) (fun x => (by decide : (2:Nat) ≤ Tryd.f106.ntmps)) (DOk.cons sc_ccmp en_ccmp (DOk.cons sc_cor en_cor DOk.nil)) (Eq.mpr vc_abv ?_)
  rintro ⟨s, t, ⟨⟩⟩ - - -
  exact ⟨trivial, trivial, trivial, rfl⟩

theorem vc_idxb : VC Tryd.prog Tryd.f63 (bodyOf Tryd.f63) S_idxb [] A_idxb = (∀ (x : List Bool × Bool × Unit), True →
  List.length x.fst ≤ (9223372036854775807 : Nat) →
  List.length x.fst ≤ (9223372036854775807 : Nat) →
  ((0 : Int) ≤ (0 : Int) ∧ (0 : Int) ≤ (↑(List.length x.fst) : Int) ∧ ixF (fun z => z == x.snd.fst) (List.drop (Int.toNat (0 : Int)) x.fst) (0 : Int) = ixF (fun z => z == x.snd.fst) x.fst (0 : Int)) ∧ ∀ (v : Int × Unit), (0 : Int) ≤ v.fst ∧ v.fst ≤ (↑(List.length x.fst) : Int) ∧ ixF (fun z => z == x.snd.fst) (List.drop (Int.toNat v.fst) x.fst) v.fst = ixF (fun z => z == x.snd.fst) x.fst (0 : Int) →
  bif decide (v.fst < (↑(List.length x.fst) : Int)) then (0 : Int) ≤ v.fst ∧ v.fst < (↑(List.length x.fst) : Int) ∧ ∀ (c0 : Bool), x.fst[Int.toNat v.fst]? = some c0 →
  bif x.snd.fst == c0 then v = (ixF (fun z => z == x.snd.fst) x.fst (0 : Int), ()) else ((0 : Int) ≤ IntKind.wrap IntKind.i64 (v.fst + (1 : Int)) ∧ IntKind.wrap IntKind.i64 (v.fst + (1 : Int)) ≤ (↑(List.length x.fst) : Int) ∧ ixF (fun z => z == x.snd.fst) (List.drop (Int.toNat (IntKind.wrap IntKind.i64 (v.fst + (1 : Int)))) x.fst) (IntKind.wrap IntKind.i64 (v.fst + (1 : Int))) = ixF (fun z => z == x.snd.fst) x.fst (0 : Int)) ∧ Int.toNat ((↑(List.length x.fst) : Int) - IntKind.wrap IntKind.i64 (v.fst + (1 : Int))) < Int.toNat ((↑(List.length x.fst) : Int) - v.fst) else ((-1 : Int), ()) = (ixF (fun z => z == x.snd.fst) x.fst (0 : Int), ())) := by kernel_rfl
theorem en_idxb (us : Array Value) (u : World) : (callFunc 63 us).run Tryd.prog u = .ok (.enter 63 us) u := by kernel_rfl
theorem sc_idxb : SC Tryd.prog 63 S_idxb := by
  refine SC.of Tryd.func63 (c := bodyOf Tryd.f63) (by kernel_rfl) (by kernel_rfl) (fun x => (by decide : (2:Nat) ≤ Tryd.f63.ntmps)) DOk.nil (Eq.mpr vc_idxb ?_)
  rintro ⟨l, b, ⟨⟩⟩ - h1 -
  dsimp only at h1 ⊢
  refine ⟨⟨Int.le_refl 0, by omega, rfl⟩, ?_⟩
  rintro ⟨i, ⟨⟩⟩ ⟨q0, q1, hg⟩
  dsimp only at q0 q1 hg ⊢
  by_cases hi : i < (l.length : Int)
  · have wi : IntKind.i64.wrap (i + 1) = i + 1 := IntWalk.i64_in _ (by omega)
    rw [decide_eq_true hi, cond_true, wi]
    refine ⟨q0, hi, fun c hc => ?_⟩
    rw [drop_of hc] at hg
    change (bif c == b then i else ixF (fun z => z == b) (l.drop (i.toNat + 1)) (i + 1)) = _ at hg
    by_cases e : c = b
    · rw [beq_iff_eq.2 e, cond_true] at hg
      rw [beq_iff_eq.2 e.symm, cond_true, hg]
    · rw [beq_eq_false_iff_ne.2 e, cond_false] at hg
      rw [beq_eq_false_iff_ne.2 (fun h => e h.symm), cond_false]
      exact ⟨⟨by omega, by omega, by rw [show (i + 1).toNat = i.toNat + 1 by omega]; exact hg⟩, by omega⟩
  · rw [decide_eq_false hi, cond_false, ← hg, List.drop_eq_nil_of_le (by omega)]
    rfl

theorem vc_idxi : VC Tryd.prog Tryd.f114 (bodyOf Tryd.f114) S_idxi [] A_idxi = (∀ (x : List Int × Int × Unit), True →
  List.length x.fst ≤ (9223372036854775807 : Nat) →
  List.length x.fst ≤ (9223372036854775807 : Nat) →
  ((0 : Int) ≤ (0 : Int) ∧ (0 : Int) ≤ (↑(List.length x.fst) : Int) ∧ ixF (fun z => z == x.snd.fst) (List.drop (Int.toNat (0 : Int)) x.fst) (0 : Int) = ixF (fun z => z == x.snd.fst) x.fst (0 : Int)) ∧ ∀ (v : Int × Unit), (0 : Int) ≤ v.fst ∧ v.fst ≤ (↑(List.length x.fst) : Int) ∧ ixF (fun z => z == x.snd.fst) (List.drop (Int.toNat v.fst) x.fst) v.fst = ixF (fun z => z == x.snd.fst) x.fst (0 : Int) →
  bif decide (v.fst < (↑(List.length x.fst) : Int)) then (0 : Int) ≤ v.fst ∧ v.fst < (↑(List.length x.fst) : Int) ∧ ∀ (c0 : Int), x.fst[Int.toNat v.fst]? = some c0 →
  bif x.snd.fst == c0 then v = (ixF (fun z => z == x.snd.fst) x.fst (0 : Int), ()) else ((0 : Int) ≤ IntKind.wrap IntKind.i64 (v.fst + (1 : Int)) ∧ IntKind.wrap IntKind.i64 (v.fst + (1 : Int)) ≤ (↑(List.length x.fst) : Int) ∧ ixF (fun z => z == x.snd.fst) (List.drop (Int.toNat (IntKind.wrap IntKind.i64 (v.fst + (1 : Int)))) x.fst) (IntKind.wrap IntKind.i64 (v.fst + (1 : Int))) = ixF (fun z => z == x.snd.fst) x.fst (0 : Int)) ∧ Int.toNat ((↑(List.length x.fst) : Int) - IntKind.wrap IntKind.i64 (v.fst + (1 : Int))) < Int.toNat ((↑(List.length x.fst) : Int) - v.fst) else ((-1 : Int), ()) = (ixF (fun z => z == x.snd.fst) x.fst (0 : Int), ())) := by kernel_rfl
theorem en_idxi (us : Array Value) (u : World) : (callFunc 114 us).run Tryd.prog u = .ok (.enter 114 us) u := by kernel_rfl
theorem sc_idxi : SC Tryd.prog 114 S_idxi := by
  refine SC.of Tryd.func114 (c := bodyOf Tryd.f114) (by kernel_rfl) (by kernel_rfl) (fun x => (by decide : (2:Nat) ≤ Tryd.f114.ntmps)) DOk.nil (Eq.mpr vc_idxi ?_)
  rintro ⟨l, b, ⟨⟩⟩ - h1 -
  dsimp only at h1 ⊢
  refine ⟨⟨Int.le_refl 0, by omega, rfl⟩, ?_⟩
  rintro ⟨i, ⟨⟩⟩ ⟨q0, q1, hg⟩
  dsimp only at q0 q1 hg ⊢
  by_cases hi : i < (l.length : Int)
  · have wi : IntKind.i64.wrap (i + 1) = i + 1 := IntWalk.i64_in _ (by omega)
    rw [decide_eq_true hi, cond_true, wi]
    refine ⟨q0, hi, fun c hc => ?_⟩
    rw [drop_of hc] at hg
    change (bif c == b then i else ixF (fun z => z == b) (l.drop (i.toNat + 1)) (i + 1)) = _ at hg
    by_cases e : c = b
    · rw [beq_iff_eq.2 e, cond_true] at hg
      rw [beq_iff_eq.2 e.symm, cond_true, hg]
    · rw [beq_eq_false_iff_ne.2 e, cond_false] at hg
      rw [beq_eq_false_iff_ne.2 (fun h => e h.symm), cond_false]
      exact ⟨⟨by omega, by omega, by rw [show (i + 1).toNat = i.toNat + 1 by omega]; exact hg⟩, by omega⟩
  · rw [decide_eq_false hi, cond_false, ← hg, List.drop_eq_nil_of_le (by omega)]
    rfl

theorem vc_cont : VC Tryd.prog Tryd.f102 (bodyOf Tryd.f102) S_cont [(114, S_idxi)] (fun _ _ => none) = (∀ (x : List Int × Int × Unit), True →
  List.length x.fst ≤ (9223372036854775807 : Nat) →
  True ∧ (decide ((0 : Int) ≤ ixF (fun z => z == x.snd.fst) x.fst (0 : Int)), ()) = (decide ((0 : Int) ≤ ixF (fun z => z == x.snd.fst) x.fst (0 : Int)), ())) := by kernel_rfl
theorem en_cont (us : Array Value) (u : World) : (callFunc 102 us).run Tryd.prog u = .ok (.enter 102 us) u := by kernel_rfl
theorem sc_cont : SC Tryd.prog 102 S_cont := by
  refine SC.of Tryd.func102 (c := bodyOf Tryd.f102) (by kernel_rfl) (by kernel_rfl) (fun x => (by decide : (2:Nat) ≤ Tryd.f102.ntmps)) (DOk.cons sc_idxi en_idxi DOk.nil) (Eq.mpr vc_cont ?_)
  rintro x - -
  exact ⟨trivial, rfl⟩

theorem vc_susp : VC Tryd.prog Tryd.f23 (bodyOf Tryd.f23) S_susp [(63, S_idxb)] A_susp = (∀ (x : List Bool × List Bool × Unit), True →
  List.length x.fst ≤ (9223372036854775807 : Nat) →
  List.length x.snd.fst ≤ (9223372036854775807 : Nat) →
  True ∧ bif decide ((0 : Int) ≤ ixF (fun z => z == false) x.fst (0 : Int)) then (ixF (fun z => z == false) x.fst (0 : Int), ()) = (susF x.fst x.snd.fst, ()) else List.length x.snd.fst ≤ (9223372036854775807 : Nat) →
  ((-1 : Int) ≤ IntKind.wrap IntKind.i64 ((↑(List.length x.snd.fst) : Int) - (1 : Int)) ∧ IntKind.wrap IntKind.i64 ((↑(List.length x.snd.fst) : Int) - (1 : Int)) < (↑(List.length x.snd.fst) : Int) ∧ ixR (List.reverse (List.take (Int.toNat (IntKind.wrap IntKind.i64 ((↑(List.length x.snd.fst) : Int) - (1 : Int)) + (1 : Int))) x.snd.fst)) (IntKind.wrap IntKind.i64 ((↑(List.length x.snd.fst) : Int) - (1 : Int))) = bkF x.snd.fst) ∧ ∀ (v : Int × Unit), (-1 : Int) ≤ v.fst ∧ v.fst < (↑(List.length x.snd.fst) : Int) ∧ ixR (List.reverse (List.take (Int.toNat (v.fst + (1 : Int))) x.snd.fst)) v.fst = bkF x.snd.fst →
  bif decide ((0 : Int) ≤ v.fst) then (0 : Int) ≤ v.fst ∧ v.fst < (↑(List.length x.snd.fst) : Int) ∧ ∀ (c0 : Bool), x.snd.fst[Int.toNat v.fst]? = some c0 →
  bif c0 then ((-1 : Int) ≤ IntKind.wrap IntKind.i64 (v.fst - (1 : Int)) ∧ IntKind.wrap IntKind.i64 (v.fst - (1 : Int)) < (↑(List.length x.snd.fst) : Int) ∧ ixR (List.reverse (List.take (Int.toNat (IntKind.wrap IntKind.i64 (v.fst - (1 : Int)) + (1 : Int))) x.snd.fst)) (IntKind.wrap IntKind.i64 (v.fst - (1 : Int))) = bkF x.snd.fst) ∧ Int.toNat (IntKind.wrap IntKind.i64 (v.fst - (1 : Int)) + (1 : Int)) < Int.toNat (v.fst + (1 : Int)) else v = (susF x.fst x.snd.fst, ()) else v = (susF x.fst x.snd.fst, ())) := by kernel_rfl
theorem en_susp (us : Array Value) (u : World) : (callFunc 23 us).run Tryd.prog u = .ok (.enter 23 us) u := by kernel_rfl
theorem sc_susp : SC Tryd.prog 23 S_susp := by
  refine SC.of Tryd.func23 (c := bodyOf Tryd.f23) (by kernel_rfl) (by kernel_rfl) (fun x => (by decide : (2:Nat) ≤ Tryd.f23.ntmps)) (DOk.cons sc_idxb en_idxb DOk.nil) (Eq.mpr vc_susp ?_)
  rintro ⟨a, b, ⟨⟩⟩ - - h2
  dsimp only at h2 ⊢
  refine ⟨trivial, ?_⟩
  by_cases e : 0 ≤ ixF (fun z => z == false) a 0
  · have hs : susF a b = ixF (fun z => z == false) a 0 := by rw [susF, decide_eq_true e]; rfl
    rw [decide_eq_true e, cond_true, hs]
  have hs : susF a b = bkF b := by rw [susF, decide_eq_false e]; rfl
  rw [decide_eq_false e, cond_false, hs]
  intro _
  have w1 : IntKind.i64.wrap ((b.length : Int) - 1) = (b.length : Int) - 1 := IntWalk.i64_in _ (by omega)
  rw [w1]
  refine ⟨⟨by omega, by omega, ?_⟩, ?_⟩
  · rw [show ((b.length : Int) - 1 + 1).toNat = b.length by omega, List.take_length]
    rfl
  rintro ⟨i, ⟨⟩⟩ ⟨q0, q1, hg⟩
  dsimp only at q0 q1 hg ⊢
  by_cases hi : 0 ≤ i
  · rw [decide_eq_true hi, cond_true]
    refine ⟨hi, q1, fun c hc => ?_⟩
    rw [show (i + 1).toNat = i.toNat + 1 by omega, take_snoc hc, List.reverse_append] at hg
    change (bif c then ixR (b.take i.toNat).reverse (i - 1) else i) = _ at hg
    cases c
    · rw [cond_false] at hg ⊢
      rw [hg]
    · have w2 : IntKind.i64.wrap (i - 1) = i - 1 := IntWalk.i64_in _ (by omega)
      rw [cond_true] at hg ⊢
      rw [w2]
      exact ⟨⟨by omega, by omega, by rw [show (i - 1 + 1).toNat = i.toNat by omega]; exact hg⟩, by omega⟩
  · rw [decide_eq_false hi, cond_false]
    obtain rfl : i = -1 := by omega
    rw [← hg]
    rfl

theorem vc_node : VC Tryd.prog Tryd.f35 (bodyOf Tryd.f35) S_node [(44, S_serv)] (fun _ _ => none) = (∀ (x : (List Int × Int × Int × Int × Int × Int × Int × Int × Int × Int × Int × Unit) × Int × Unit), True →
  List.length x.fst.fst ≤ (9223372036854775807 : Nat) →
  bif decide (x.snd.fst < (0 : Int)) then ((-1 : Int), ()) = (nodeF x.fst x.snd.fst, ()) else bif decide (x.fst.snd.snd.snd.fst ≤ x.snd.fst) then ((-1 : Int), ()) = (nodeF x.fst x.snd.fst, ()) else True ∧ (IntKind.wrap IntKind.i64 (IntKind.wrap IntKind.i64 ((1 : Int) + serversF x.fst) + x.snd.fst), ()) = (nodeF x.fst x.snd.fst, ())) := by kernel_rfl
theorem en_node (us : Array Value) (u : World) : (callFunc 35 us).run Tryd.prog u = .ok (.enter 35 us) u := by kernel_rfl
theorem sc_node : SC Tryd.prog 35 S_node := by
  refine SC.of Tryd.func35 (c := bodyOf Tryd.f35) (by kernel_rfl) (by kernel_rfl) (fun x => (by decide : (2:Nat) ≤ Tryd.f35.ntmps)) (DOk.cons sc_serv en_serv DOk.nil) (Eq.mpr vc_node ?_)
  rintro ⟨c, i, ⟨⟩⟩ - -
  dsimp only [nodeF]
  cases decide (i < 0)
  · cases decide (c.2.2.2.1 ≤ i)
    · exact ⟨trivial, rfl⟩
    · rfl
  · rfl

theorem vc_isS : VC Tryd.prog Tryd.f101 (bodyOf Tryd.f101) S_isS [(44, S_serv), (104, S_kwit)] (fun _ _ => none) = (∀ (x : (List Int × Int × Int × Int × Int × Int × Int × Int × Int × Int × Int × Unit) × Int × Unit), True →
  List.length x.fst.fst ≤ (9223372036854775807 : Nat) →
  True ∧ True ∧ (wit x.snd.fst (1 : Int) (serversF x.fst), ()) = (wit x.snd.fst (1 : Int) (serversF x.fst), ())) := by kernel_rfl
theorem en_isS (us : Array Value) (u : World) : (callFunc 101 us).run Tryd.prog u = .ok (.enter 101 us) u := by kernel_rfl
theorem sc_isS : SC Tryd.prog 101 S_isS := by
  refine SC.of Tryd.func101 (c := bodyOf Tryd.f101) (by kernel_rfl) (by kernel_rfl) (fun x => (by decide : (2:Nat) ≤ Tryd.f101.ntmps)) (DOk.cons sc_serv en_serv (DOk.cons sc_kwit en_kwit DOk.nil)) (Eq.mpr vc_isS ?_)
  rintro x - -
  exact ⟨trivial, trivial, rfl⟩

theorem vc_clio : VC Tryd.prog Tryd.f103 (bodyOf Tryd.f103) S_clio [] (fun _ _ => none) = (∀ (x : List Int × Unit), List.length x.fst ≤ (1000000000000 : Nat) →
  List.length x.fst ≤ (9223372036854775807 : Nat) →
  (List.length x.fst = (0 : Nat) →
  (([] : List Int), ()) = x) ∧ ((0 : Nat) + List.length x.fst) * (8 : Nat) ≤ (140737488351232 : Nat) ∧ ([] ++ x.fst, ()) = x) := by kernel_rfl
theorem en_clio (us : Array Value) (u : World) : (callFunc 103 us).run Tryd.prog u = .ok (.enter 103 us) u := by kernel_rfl
theorem sc_clio : SC Tryd.prog 103 S_clio := by
  refine SC.of Tryd.func103 (c := bodyOf Tryd.f103) (by kernel_rfl) (by kernel_rfl) (fun x => (by decide : (1:Nat) ≤ Tryd.f103.ntmps)) DOk.nil (Eq.mpr vc_clio ?_)
  rintro ⟨l, ⟨⟩⟩ h -
  dsimp only at h ⊢
  refine ⟨fun h0 => ?_, by omega, by rw [List.nil_append]⟩
  rw [List.eq_nil_of_length_eq_zero h0]
end Go.Proofs.YtjkbkhjalimebaaDoor

namespace Go.Proofs.YtjkbkhjalimebaaDoor
open Go.RowKit DoorU
set_option linter.unusedVariables false
set_option linter.unusedSimpArgs false
set_option maxRecDepth 100000
set_option maxHeartbeats 1000000

abbrev tCo : Ty := .pair tPo (.pair (.sl tI) (.pair tI (.pair .bool (.pair (.sl .bool) (.pair (.sl .bool) (.pair .bool (.pair .bool .unit)))))))
abbrev Cor : Type := Pos × List Int × Int × Bool × List Bool × List Bool × Bool × Bool × Unit
abbrev Doe : Type := Cor × Cfg × Int × List Par × Unit
abbrev oPas : Sh := .own tPa 62
abbrev pDo : Sh := .var 132 (.pair (shOf false tCo) (.pair (shOf false tC) (.pair nI (.pair oPas .unit))))
abbrev vCo : Sh := .agg (shOf false tCo)
abbrev vCf : Sh := .agg (shOf false tC)
namespace DoorU
def annN : Nte := (1, [], 0, false, ())
def cloN : Nte := (2, [], 0, false, ())
def setPo (k : Cor) (p : Pos) : Cor := (p, k.2)
def sndD (d : Doe) (tn : Int) (n : Nte) : Doe :=
  if (npF n).2.1 ≠ 0 then d
  else if (psF d.2.1 d.1.1 tn (npF n).1 d.2.2.1).2.2.1 ≠ 0 then d
  else ((((psF d.2.1 d.1.1 tn (npF n).1 d.2.2.1).1, d.1.2) : Cor), d.2.1, d.2.2.1, d.2.2.2.1 ++ (psF d.2.1 d.1.1 tn (npF n).1 d.2.2.1).2.1, ())
def bgGo : Nat → Int → Doe → Doe
  | 0, _, d => d
  | n + 1, i, d => bgGo n (i + 1) (sndD d (nodeF d.2.1 i) annN)
def bgM (d : Doe) : Int := if 8 < d.2.1.2.2.2.1 then 8 else d.2.1.2.2.2.1
def mx : Int := 18446744073709551615
def halD (d : Doe) : Doe := ((d.1.1, d.1.2.1, d.1.2.2.1, d.1.2.2.2.1, d.1.2.2.2.2.1, d.1.2.2.2.2.2.1, d.1.2.2.2.2.2.2.1, true, ()), d.2)
def newD (d : Doe) (s : Sta) : Doe := ((goF d.1.1 s, d.1.2.1, d.2.2.1, false, List.replicate s.2.2.1.length false, List.replicate s.2.2.1.length false, d.1.2.2.2.2.2.2.1, d.1.2.2.2.2.2.2.2.1, ()), d.2)
def bgX (d : Doe) (s : Sta) : Bool := s.1 == mx || (s.2.1 == mx || !abvF s d.1.1.2.1)
def bgF (d : Doe) (s : Sta) : Doe := if bgX d s = true then halD d else bgGo (bgM d).toNat 0 (newD d s)
def endF (d : Doe) : Doe :=
  bif decide (0 < (d.1.2.2.2.2.2.1.length : Int)) && d.1.2.2.2.2.2.1.headD false then bgF d (d.1.1.2.1.1, IntKind.u64.wrap (d.1.1.2.1.2.1 + 1), d.1.1.2.1.2.2.1, ())
  else bif ((d.1.2.1.length : Int) == 0) || (decide (susF d.1.2.2.2.2.1 d.1.2.2.2.2.2.1 < 0) || decide ((d.1.1.2.1.2.2.1.length : Int) ≤ susF d.1.2.2.2.2.1 d.1.2.2.2.2.2.1))
    then bgF ((d.1.1, d.1.2.1, d.1.2.2.1, d.1.2.2.2.1, d.1.2.2.2.2.1, d.1.2.2.2.2.2.1, true, d.1.2.2.2.2.2.2.2.1, ()), d.2) (d.1.1.2.1.1, IntKind.u64.wrap (d.1.1.2.1.2.1 + 1), d.1.1.2.1.2.2.1, ())
    else bgF ((d.1.1, d.1.2.1.drop 1, d.1.2.2.1, d.1.2.2.2.1, d.1.2.2.2.2.1, d.1.2.2.2.2.2.1, d.1.2.2.2.2.2.2.1, d.1.2.2.2.2.2.2.2.1, ()), d.2) (IntKind.u64.wrap (d.1.1.2.1.1 + 1), IntKind.u64.wrap (d.1.1.2.1.2.1 + 1), d.1.1.2.1.2.2.1.set (susF d.1.2.2.2.2.1 d.1.2.2.2.2.2.1).toNat (d.1.2.1.headD 0), ())
def tkD (c : Cfg) (k : Cor) (now : Int) : Doe := (((pagF c k.1 now).1, k.2), c, now, (pagF c k.1 now).2.1, ())
def sinc (k : Cor) (now : Int) : Int := i64 (now - k.2.2.1)
def closD (d : Doe) : Doe := ((d.1.1, d.1.2.1, d.1.2.2.1, true, d.1.2.2.2.2), d.2)
def tickD (c : Cfg) (k : Cor) (now : Int) : Doe :=
  bif (k.1.2.1.2.2.1.length : Int) == 0 then bgF (tkD c k now) (firstF c)
  else bif decide (c.2.2.2.2.2.2.1 ≤ sinc k now) then endF (tkD c k now)
  else bif decide (c.2.2.2.2.2.1 ≤ sinc k now) && !k.2.2.2.1 then sndD (closD (tkD c k now)) (k.1.2.1.2.2.1.headD 0) cloN
  else tkD c k now
def tickF (c : Cfg) (k : Cor) (now : Int) : Cor × List Par × Unit := bif k.2.2.2.2.2.2.2.1 then (k, [], ()) else ((tickD c k now).1, (tickD c k now).2.2.2.1, ())
def okRo (c : Cfg) : Prop := okW c.2.2.2.2.2.2.2.2.2.1
def okK (c : Cfg) (k : Cor) : Prop := c.1.length ≤ big ∧ okPo k.1 ∧ okSt k.1.2.1 ∧ itPo k.1.2.2.1 ≤ big ∧ k.2.1.length ≤ big ∧ okRo c
def okD (d : Doe) : Prop := d.2.1.1.length ≤ big ∧ okPo d.1.1 ∧ okSt d.1.1.2.1 ∧ d.2.2.2.1.length ≤ big ∧ d.1.2.1.length ≤ big
def smPe (k : Nat) (q : Pee) : Prop := q.2.1.2.1.length ≤ k ∧ q.2.1.2.2.1.length ≤ k ∧ q.2.2.1.2.1 = [] ∧ (∀ x ∈ q.2.1.2.1, x.2.1.length ≤ 5) ∧ ∀ b ∈ q.2.1.2.2.1, b.length ≤ 5
def smPo (k : Nat) (p : Pos) : Prop := p.2.1.2.2.1.length ≤ big ∧ p.2.2.1.length ≤ k ∧ ∀ q ∈ p.2.2.1, smPe k q
def isSb (c : Cfg) (n : Int) : Bool := wit n 1 (serversF c) && !decide (0 ≤ ixF (fun z => z == n) (firstF c).2.2.1 0)
def sbL (c : Cfg) (n : Nat) : List Int := ((List.range n).map fun i : Nat => (i : Int)).filter (isSb c)
def nN (c : Cfg) : Nat := (nodesF c).toNat
def zCo : Cor := (zPo, [], 0, false, [], [], false, false, ())
def nwN (c : Cfg) (n : Int) : Int := if isNodeF c n then n else 0
def nwE (c : Cfg) (n : Int) : Int := if isNodeF c n then 0 else 1
def nwF (c : Cfg) (n : Int) : Pos × Int × Unit := ((nwN c n, (0, 0, [], ()), [], ()), nwE c n, ())
theorem nwF_eq (c : Cfg) (n : Int) : newF c n = nwF c n := by
  unfold newF nwF nwN nwE
  cases isNodeF c n <;> rfl
def cnewF (c : Cfg) : Cor := bif nwE c 0 != 0 then zCo else bif kchkF c != 0 then zCo else ((nwN c 0, (0, 0, [], ()), [], ()), sbL c (nN c), 0, false, [], [], false, false, ())
theorem npF_len (n : Nte) : (npF n).1.length ≤ 5 := by
  have h2 : (putR 0 2).length = 2 := by rw [put02]; rfl
  unfold npF
  cases nkE n == 0
  · exact Nat.zero_le _
  · rw [cond_true]
    show (npL n).length ≤ 5
    unfold npL
    rw [List.length_append, List.length_append, h2]
    cases n.1 == 7
    · exact Nat.le_succ_of_le (Nat.le_succ _)
    · exact Nat.le_refl 5
theorem psF_par (c : Cfg) (p : Pos) (tn : Int) (b : List Int) (now : Int) : (psF c p tn b now).2.1.length ≤ 1 := by
  unfold psF
  split
  · exact Nat.zero_le 1
  · split
    · exact Nat.zero_le 1
    · exact Nat.le_trans (iparF_len _ _ _ _ _) (sendF_len _ _ _ _)
theorem psF_0 {c : Cfg} {p : Pos} {tn : Int} {b : List Int} {now : Int} (h : (psF c p tn b now).2.2.1 = 0) : psF c p tn b now = (sndP c p tn b now, iparF c (sndP c p tn b now) tn (sndQ c p tn b now).2.1 true, 0, ()) ∧ ¬ (isNodeF c tn = false ∨ tn = p.1 ∨ stChk p.2.1 ≠ 0) := by
  unfold psF at h ⊢
  split at h
  · cases h
  · rename_i g1
    split at h
    · cases h
    · rename_i g2
      rw [if_neg g1, if_neg g2]
      exact ⟨rfl, g1⟩
theorem sndD_cfg (d : Doe) (tn : Int) (n : Nte) : (sndD d tn n).2.1 = d.2.1 := by
  unfold sndD
  split
  · rfl
  · split <;> rfl
theorem sndD_len (d : Doe) (tn : Int) (n : Nte) : (sndD d tn n).2.2.2.1.length ≤ d.2.2.2.1.length + 1 := by
  unfold sndD
  split
  · exact Nat.le_succ _
  · split
    · exact Nat.le_succ _
    · show (d.2.2.2.1 ++ _).length ≤ _
      rw [List.length_append]
      have := psF_par d.2.1 d.1.1 tn (npF n).1 d.2.2.1
      omega
theorem sndD_sta (d : Doe) (tn : Int) (n : Nte) : (sndD d tn n).1.1.2.1 = d.1.1.2.1 := by
  unfold sndD
  split
  · rfl
  · split
    · rfl
    · rename_i h
      have := (psF_0 (Decidable.not_not.1 h)).1
      show (psF _ _ _ _ _).1.2.1 = _
      rw [this]
      rfl
theorem lnkL_sm {k : Nat} {l : List Pee} (h : ∀ q ∈ l, smPe k q) (n : Int) : ∀ q ∈ lnkL l n, smPe k q := by
  unfold lnkL
  split
  · intro q hq
    unfold insF at hq
    rw [List.mem_append, List.mem_append, List.mem_singleton] at hq
    rcases hq with (hq | rfl) | hq
    · exact h q (List.mem_of_mem_take hq)
    · exact ⟨Nat.zero_le _, Nat.zero_le _, rfl, fun x h => (List.not_mem_nil h).elim, fun x h => (List.not_mem_nil h).elim⟩
    · exact h q (List.mem_of_mem_drop hq)
  · exact h
theorem lnkL_len (l : List Pee) (n : Int) : (lnkL l n).length ≤ l.length + 1 := by
  unfold lnkL
  split
  · have g2 : gtAt l n ≤ l.length := fIdx_le _ l
    rw [insF_len _ _ _ g2]
    exact Nat.le_refl _
  · exact Nat.le_succ _
theorem linkE_mem (p : Pos) (n : Int) : linkE p n ∈ lnkL p.2.2.1 n := by
  unfold linkE
  rw [List.getD_eq_getElem?_getD, List.getElem?_eq_getElem (lnkI_lt p.2.2.1 n)]
  exact List.getElem_mem _
theorem smPe_up {k : Nat} {q : Pee} (h : smPe k q) : smPe (k + 1) q := ⟨Nat.le_succ_of_le h.1, Nat.le_succ_of_le h.2.1, h.2.2⟩
theorem smPo_snd {k : Nat} {d : Doe} (h : smPo k d.1.1) (tn : Int) (n : Nte) : smPo (k + 1) (sndD d tn n).1.1 := by
  have up : smPo (k + 1) d.1.1 := ⟨h.1, Nat.le_succ_of_le h.2.1, fun q hq => smPe_up (h.2.2 q hq)⟩
  unfold sndD
  split
  · exact up
  · split
    · exact up
    · rename_i hh
      have e := (psF_0 (Decidable.not_not.1 hh)).1
      show smPo (k + 1) (psF _ _ _ _ _).1
      rw [e]
      have hm := lnkL_sm h.2.2 tn _ (linkE_mem d.1.1 tn)
      refine ⟨h.1, ?_, fun q hq => ?_⟩
      · show ((lnkL d.1.1.2.2.1 tn).set _ _).length ≤ _
        rw [List.length_set]
        exact Nat.le_trans (lnkL_len _ _) (Nat.succ_le_succ h.2.1)
      · rcases List.mem_or_eq_of_mem_set hq with hq | rfl
        · exact smPe_up (lnkL_sm h.2.2 tn q hq)
        · have hl := npF_len n
          unfold sndQ sendF
          split
          · refine ⟨Nat.le_succ_of_le hm.1, ?_, hm.2.2.1, hm.2.2.2.1, fun b hb => ?_⟩
            · show (_ ++ [_]).length ≤ _
              rw [List.length_append]
              exact Nat.succ_le_succ hm.2.1
            · rcases List.mem_append.1 hb with hb | hb
              · exact hm.2.2.2.2 b hb
              · rw [List.mem_singleton] at hb
                rw [hb]
                exact hl
          · refine ⟨?_, Nat.le_succ_of_le hm.2.1, hm.2.2.1, fun b hb => ?_, hm.2.2.2.2⟩
            · show (_ ++ [_]).length ≤ _
              rw [List.length_append]
              exact Nat.succ_le_succ hm.1
            · rcases List.mem_append.1 hb with hb | hb
              · exact hm.2.2.2.1 b hb
              · rw [List.mem_singleton] at hb
                rw [hb]
                exact hl
theorem smPo_ok {k : Nat} {p : Pos} (h : smPo k p) (hk : k ≤ 8) : okPo p := by
  have e8 : ∀ n : Nat, n ≤ 8 → n ≤ big := fun n h => Nat.le_trans h (by decide)
  refine ⟨h.1, e8 _ (Nat.le_trans h.2.1 hk), fun q hq => ?_⟩
  obtain ⟨h1, h2, h3, h4, h5⟩ := h.2.2 q hq
  refine ⟨⟨⟨e8 _ (Nat.le_trans h1 hk), fun x hx => e8 _ (Nat.le_trans (h4 x hx) (by decide))⟩, e8 _ (Nat.le_trans h2 hk), fun x hx => e8 _ (Nat.le_trans (h5 x hx) (by decide))⟩, ?_⟩
  show okIts q.2.2.1.2.1
  rw [h3]
  exact ⟨Nat.zero_le _, fun x hx => (List.not_mem_nil hx).elim⟩
theorem abv_cmp (s t : Sta) : abvF s t = decide (0 < stCmp s t) := by
  unfold abvF stCmp
  by_cases h : cmpF s.1 t.1 = 0
  · rw [if_pos h, h]
    show decide (0 < orF [cmpF s.2.1 t.2.1]) = _
    unfold orF
    by_cases g : cmpF s.2.1 t.2.1 = 0
    · rw [g]; rfl
    · rw [bneT g, cond_true]
  · rw [if_neg h]
    unfold orF
    rw [bneT h, cond_true]
theorem goF_abv {p : Pos} {s : Sta} (h : abvF s p.2.1 = true) : goF p s = (p.1, s, [], ()) := by
  rw [abv_cmp, decide_eq_true_eq] at h
  rw [goF, if_neg (by omega)]
theorem bgM_8 (d : Doe) : bgM d ≤ 8 := by
  unfold bgM
  split <;> omega
theorem u64_ok (n : Int) : okW (IntKind.u64.wrap n) := by
  unfold okW
  rw [IntKind.wrap_u64]
  omega
theorem agPe_ok (c : Cfg) (now : Int) {q : Pee} (h : okPe q) : okPe (agPe c now q) := by
  refine ⟨⟨⟨by show (List.map _ _).length ≤ _; rw [List.length_map]; exact h.1.1.1, fun x hx => ?_⟩, h.1.2⟩, h.2⟩
  obtain ⟨y, hy, rfl⟩ := List.mem_map.1 hx
  have := h.1.1.2 y hy
  unfold agU
  split
  · exact this
  · exact this
theorem agPo_ok (c : Cfg) (now : Int) {p : Pos} (h : okPo p) : okPo (pagF c p now).1 := by
  refine ⟨h.1, by show (List.map _ _).length ≤ _; rw [List.length_map]; exact h.2.1, fun q hq => ?_⟩
  obtain ⟨y, hy, rfl⟩ := List.mem_map.1 hq
  exact agPe_ok c now (h.2.2 y hy)
theorem tkD_ok {c : Cfg} {k : Cor} {now : Int} (h : okK c k) : okD (tkD c k now) :=
  ⟨h.1, agPo_ok c now h.2.1, h.2.2.1, Nat.le_trans (agPs_len c k.1 now k.1.2.2.1) h.2.2.2.1, h.2.2.2.2.1⟩
theorem headD_of {α : Type} {l : List α} {c z : α} (h : l[0]? = some c) : l.headD z = c := by
  cases l with
  | nil => simp at h
  | cons x r => simpa using h
theorem firstF_st {c : Cfg} (h : okRo c) : okSt (firstF c) := by
  unfold firstF
  split
  · exact ⟨⟨(by decide : (0 : Int) ≤ 1), (by decide : (1 : Int) < 18446744073709551616)⟩, h⟩
  · exact ⟨⟨by decide, by decide⟩, ⟨by decide, by decide⟩⟩
theorem nodesF_bd {c : Cfg} (h : kchkF c = 0) : 1 ≤ nodesF c ∧ nodesF c ≤ 25 := by
  have hk : okC c = true := by
    cases hk : okC c
    · rw [kchkF, hk] at h; cases h
    · rfl
  simp only [okC, wit, Bool.and_eq_true, decide_eq_true_eq] at hk
  have w1 : serversF c = c.2.1 + c.2.2.1 := IntWalk.i64_in _ (by omega)
  have w2 : IntKind.i64.wrap (1 + serversF c) = 1 + serversF c := IntWalk.i64_in _ (by omega)
  have w3 : nodesF c = 1 + serversF c + c.2.2.2.1 := by
    unfold nodesF
    rw [w2]
    exact IntWalk.i64_in _ (by omega)
  omega
theorem firstF_ok {c : Cfg} : (firstF c).2.2.1.length ≤ 8 := by
  unfold firstF
  split
  · rename_i h
    simp only [okC, wit, Bool.and_eq_true, decide_eq_true_eq] at h
    show (List.map _ _).length ≤ _
    rw [List.length_map, List.length_range]
    omega
  · exact Nat.zero_le _
end DoorU
def S_snd : Spec := ⟨.pair pDo (.pair nI (.pair aNo .unit)), .pair (.tup .unit) (.pair pDo .unit), fun (x : Doe × Int × Nte × Unit) => x.2.2.1.2.1 = [] ∧ x.1.2.1.1.length ≤ big ∧ okPo x.1.1.1 ∧ okSt x.1.1.1.2.1 ∧ x.1.2.2.2.1.length ≤ 2000000000, fun (x : Doe × Int × Nte × Unit) => (((), sndD x.1 x.2.1 x.2.2.1, ()) : Unit × Doe × Unit)⟩
def S_beg : Spec := ⟨.pair pDo (.pair aSt .unit), .pair (.tup .unit) (.pair pDo .unit), fun (x : Doe × Sta × Unit) => okD x.1 ∧ okSt x.2.1 ∧ x.2.1.2.2.1.length ≤ big, fun (x : Doe × Sta × Unit) => (((), bgF x.1 x.2.1, ()) : Unit × Doe × Unit)⟩
def A_beg (x : Doe × Sta × Unit) : Nat → Option LA
  | 0 => some ⟨[73, 0], [], .pair nI (.pair pDo .unit), fun (v : Int × Doe × Unit) => 0 ≤ v.1 ∧ bgGo (bgM x.1 - v.1).toNat v.1 v.2.1 = bgF x.1 x.2.1 ∧ v.2.1.2.1 = x.1.2.1 ∧ smPo v.1.toNat v.2.1.1.1 ∧ okSt v.2.1.1.1.2.1 ∧ v.2.1.2.2.2.1.length ≤ big + v.1.toNat ∧ v.1 ≤ 8, fun (v : Int × Doe × Unit) => (8 - v.1).toNat⟩
  | _ => none
def S_end : Spec := ⟨.pair pDo .unit, .pair (.tup .unit) (.pair pDo .unit), fun (x : Doe × Unit) => okD x.1, fun (x : Doe × Unit) => (((), endF x.1, ()) : Unit × Doe × Unit)⟩
def S_tick : Spec := ⟨.pair vCf (.pair vCo (.pair nI .unit)), .pair (.tup (.pair vCo (.pair vPas .unit))) .unit, fun (x : Cfg × Cor × Int × Unit) => x.2.1.2.2.2.2.2.2.2.1 = false → okK x.1 x.2.1, fun (x : Cfg × Cor × Int × Unit) => ((tickF x.1 x.2.1 x.2.2.1, ()) : (Cor × List Par × Unit) × Unit)⟩
def S_new2 : Spec := ⟨.pair aC (.pair nI .unit), .pair (.tup (.pair vPo (.pair nI .unit))) .unit, fun _ => True, fun (x : Cfg × Int × Unit) => ((nwF x.1 x.2.1, ()) : (Pos × Int × Unit) × Unit)⟩
theorem en_new2 (us : Array Value) (u : World) : (callFunc 25 us).run Tryd.prog u = .ok (.enter 25 us) u := by kernel_rfl
theorem sc_new2 : SC Tryd.prog 25 S_new2 := by
  have h := sc_new
  have e : S_new = S_new2 := by
    unfold S_new S_new2
    simp only [nwF_eq]
  rw [e] at h
  exact h
def S_cnew : Spec := ⟨.pair aC .unit, .pair vCo .unit, fun _ => True, fun (x : Cfg × Unit) => ((cnewF x.1, ()) : Cor × Unit)⟩
def A_cnew (x : Cfg × Unit) : Nat → Option LA
  | 0 => some ⟨[28, 5], [(6005, tI, 3)], .pair nI (.pair (.var 82 (.pair (shOf false tPo) (.pair oI (.pair nI (.pair .bool (.pair (.view false .bool) (.pair (.view false .bool) (.pair .bool (.pair .bool .unit))))))))) .unit), fun (v : Int × Cor × Unit) => 0 ≤ v.1 ∧ v.1 ≤ (nN x.1 : Nat) ∧ v.2.1.1.1 = nwN x.1 0 ∧ v.2.1.1.2.1.1 = 0 ∧ v.2.1.1.2.1.2.1 = 0 ∧ v.2.1.1.2.1.2.2.1 = [] ∧ v.2.1.1.2.2.1 = [] ∧ v.2.1.2.1 = sbL x.1 v.1.toNat ∧ v.2.1.2.2.1 = 0 ∧ v.2.1.2.2.2.1 = false ∧ v.2.1.2.2.2.2.1 = [] ∧ v.2.1.2.2.2.2.2.1 = [] ∧ v.2.1.2.2.2.2.2.2.1 = false ∧ v.2.1.2.2.2.2.2.2.2.1 = false, fun (v : Int × Cor × Unit) => ((nN x.1 : Nat) - v.1).toNat⟩
  | _ => none

theorem vc_snd : VC Tryd.prog Tryd.f72 (bodyOf Tryd.f72) S_snd [(107, S_nput), (21, S_psend)] (fun _ _ => none) = (∀ (x : (((Int × (Int × Int × List Int × Unit) × List (Int × (Int × List (Int × List Int × Int × Unit) × List (List Int) × Unit) × (Int × List (Int × List Int × Int × Unit) × Unit) × Unit) × Unit) × List Int × Int × Bool × List Bool × List Bool × Bool × Bool × Unit) × (List Int × Int × Int × Int × Int × Int × Int × Int × Int × Int × Int × Unit) × Int × List (Int × List Int × Bool × Unit) × Unit) × Int × (Int × List (List Int) × Int × Bool × Unit) × Unit), x.snd.snd.fst.snd.fst = [] ∧ List.length x.fst.snd.fst.fst ≤ big ∧ okPo x.fst.fst.fst ∧ okSt x.fst.fst.fst.snd.fst ∧ List.length x.fst.snd.snd.snd.fst ≤ (2000000000 : Nat) →
  List.length x.fst.fst.fst.snd.fst.snd.snd.fst ≤ (9223372036854775807 : Nat) →
  List.length x.fst.fst.fst.snd.snd.fst ≤ (9223372036854775807 : Nat) →
  List.length x.fst.fst.snd.fst ≤ (9223372036854775807 : Nat) →
  List.length x.fst.fst.snd.snd.snd.snd.fst ≤ (9223372036854775807 : Nat) →
  List.length x.fst.fst.snd.snd.snd.snd.snd.fst ≤ (9223372036854775807 : Nat) →
  List.length x.fst.snd.fst.fst ≤ (9223372036854775807 : Nat) →
  List.length x.fst.snd.snd.snd.fst ≤ (9223372036854775807 : Nat) →
  List.length x.snd.snd.fst.snd.fst ≤ (9223372036854775807 : Nat) →
  x.snd.snd.fst.snd.fst = [] ∧ bif (npF x.snd.snd.fst).snd.fst != (0 : Int) then ((), x.fst, ()) = ((), sndD x.fst x.snd.fst x.snd.snd.fst, ()) else (List.length x.fst.snd.fst.fst ≤ big ∧ okPo x.fst.fst.fst ∧ okSt x.fst.fst.fst.snd.fst ∧ List.length (npF x.snd.snd.fst).fst ≤ big) ∧ bif (psF x.fst.snd.fst x.fst.fst.fst x.snd.fst (npF x.snd.snd.fst).fst x.fst.snd.snd.fst).snd.snd.fst != (0 : Int) then ((), x.fst, ()) = ((), sndD x.fst x.snd.fst x.snd.snd.fst, ()) else (List.length x.fst.snd.snd.snd.fst + List.length (psF x.fst.snd.fst x.fst.fst.fst x.snd.fst (npF x.snd.snd.fst).fst x.fst.snd.snd.fst).snd.fst) * (40 : Nat) ≤ (140737488351232 : Nat) ∧ ((), (((psF x.fst.snd.fst x.fst.fst.fst x.snd.fst (npF x.snd.snd.fst).fst x.fst.snd.snd.fst).fst, x.fst.fst.snd), x.fst.snd.fst, x.fst.snd.snd.fst, x.fst.snd.snd.snd.fst ++ (psF x.fst.snd.fst x.fst.fst.fst x.snd.fst (npF x.snd.snd.fst).fst x.fst.snd.snd.fst).snd.fst, ()), ()) = ((), sndD x.fst x.snd.fst x.snd.snd.fst, ())) := by kernel_rfl
theorem en_snd (us : Array Value) (u : World) : (callFunc 72 us).run Tryd.prog u = .ok (.enter 72 us) u := by kernel_rfl
theorem sc_snd : SC Tryd.prog 72 S_snd := by
  refine SC.of Tryd.func72 (c := bodyOf Tryd.f72) (by kernel_rfl) (by kernel_rfl) (fun x => (by decide : (3:Nat) ≤ Tryd.f72.ntmps)) (DOk.cons sc_nput en_nput (DOk.cons sc_psend en_psend DOk.nil)) (Eq.mpr vc_snd ?_)
  rintro ⟨d, t, n, ⟨⟩⟩ ⟨h0, h1, h2, h3, h4⟩ - - - - - - - -
  dsimp only at h0 h1 h2 h3 h4 ⊢
  have hl := npF_len n
  refine ⟨h0, ?_⟩
  by_cases a1 : (npF n).2.1 = 0
  rotate_left 1
  · rw [bneT a1, cond_true, sndD, if_pos a1]
  rw [bneF a1, cond_false]
  refine ⟨⟨h1, h2, h3, Nat.le_trans hl (by decide)⟩, ?_⟩
  by_cases a2 : (psF d.2.1 d.1.1 t (npF n).1 d.2.2.1).2.2.1 = 0
  rotate_left 1
  · rw [bneT a2, cond_true, sndD, if_neg (fun h => h a1), if_pos a2]
  rw [bneF a2, cond_false]
  have hp := psF_par d.2.1 d.1.1 t (npF n).1 d.2.2.1
  refine ⟨by omega, ?_⟩
  rw [sndD, if_neg (fun h => h a1), if_neg (fun h => h a2)]

theorem vc_beg : VC Tryd.prog Tryd.f70 (bodyOf Tryd.f70) S_beg [(106, S_abv), (26, S_go), (35, S_node), (72, S_snd)] A_beg = (∀ (x : (((Int × (Int × Int × List Int × Unit) × List (Int × (Int × List (Int × List Int × Int × Unit) × List (List Int) × Unit) × (Int × List (Int × List Int × Int × Unit) × Unit) × Unit) × Unit) × List Int × Int × Bool × List Bool × List Bool × Bool × Bool × Unit) × (List Int × Int × Int × Int × Int × Int × Int × Int × Int × Int × Int × Unit) × Int × List (Int × List Int × Bool × Unit) × Unit) × (Int × Int × List Int × Unit) × Unit), okD x.fst ∧ okSt x.snd.fst ∧ List.length x.snd.fst.snd.snd.fst ≤ big →
  List.length x.fst.fst.fst.snd.fst.snd.snd.fst ≤ (9223372036854775807 : Nat) →
  List.length x.fst.fst.fst.snd.snd.fst ≤ (9223372036854775807 : Nat) →
  List.length x.fst.fst.snd.fst ≤ (9223372036854775807 : Nat) →
  List.length x.fst.fst.snd.snd.snd.snd.fst ≤ (9223372036854775807 : Nat) →
  List.length x.fst.fst.snd.snd.snd.snd.snd.fst ≤ (9223372036854775807 : Nat) →
  List.length x.fst.snd.fst.fst ≤ (9223372036854775807 : Nat) →
  List.length x.fst.snd.snd.snd.fst ≤ (9223372036854775807 : Nat) →
  List.length x.snd.fst.snd.snd.fst ≤ (9223372036854775807 : Nat) →
  bif x.snd.fst.fst == (18446744073709551615 : Int) then ((), ((x.fst.fst.fst, x.fst.fst.snd.fst, x.fst.fst.snd.snd.fst, x.fst.fst.snd.snd.snd.fst, x.fst.fst.snd.snd.snd.snd.fst, x.fst.fst.snd.snd.snd.snd.snd.fst, x.fst.fst.snd.snd.snd.snd.snd.snd.fst, true, ()), x.fst.snd), ()) = ((), bgF x.fst x.snd.fst, ()) else bif x.snd.fst.snd.fst == (18446744073709551615 : Int) then ((), ((x.fst.fst.fst, x.fst.fst.snd.fst, x.fst.fst.snd.snd.fst, x.fst.fst.snd.snd.snd.fst, x.fst.fst.snd.snd.snd.snd.fst, x.fst.fst.snd.snd.snd.snd.snd.fst, x.fst.fst.snd.snd.snd.snd.snd.snd.fst, true, ()), x.fst.snd), ()) = ((), bgF x.fst x.snd.fst, ()) else True ∧ bif !abvF x.snd.fst x.fst.fst.fst.snd.fst then ((), ((x.fst.fst.fst, x.fst.fst.snd.fst, x.fst.fst.snd.snd.fst, x.fst.fst.snd.snd.snd.fst, x.fst.fst.snd.snd.snd.snd.fst, x.fst.fst.snd.snd.snd.snd.snd.fst, x.fst.fst.snd.snd.snd.snd.snd.snd.fst, true, ()), x.fst.snd), ()) = ((), bgF x.fst x.snd.fst, ()) else (okPo x.fst.fst.fst ∧ List.length x.snd.fst.snd.snd.fst ≤ (1000000000000 : Nat)) ∧ (0 : Int) ≤ (↑(List.length x.snd.fst.snd.snd.fst) : Int) ∧ (↑(List.length x.snd.fst.snd.snd.fst) : Int) ≤ (↑(List.length x.snd.fst.snd.snd.fst) : Int) ∧ (1 : Int) * (↑(List.length x.snd.fst.snd.snd.fst) : Int) ≤ (281474976710656 : Int) ∧ (↑(List.length x.snd.fst.snd.snd.fst) : Int) ≤ (140737488351232 : Int) ∧ (0 : Int) ≤ (↑(List.length x.snd.fst.snd.snd.fst) : Int) ∧ (↑(List.length x.snd.fst.snd.snd.fst) : Int) ≤ (↑(List.length x.snd.fst.snd.snd.fst) : Int) ∧ (1 : Int) * (↑(List.length x.snd.fst.snd.snd.fst) : Int) ≤ (281474976710656 : Int) ∧ (↑(List.length x.snd.fst.snd.snd.fst) : Int) ≤ (140737488351232 : Int) ∧ ((0 : Int) ≤ (0 : Int) ∧ bgGo (Int.toNat (bgM x.fst - (0 : Int))) (0 : Int) ((goF x.fst.fst.fst x.snd.fst, x.fst.fst.snd.fst, x.fst.snd.snd.fst, false, List.replicate (Int.toNat (↑(List.length x.snd.fst.snd.snd.fst) : Int)) false, List.replicate (Int.toNat (↑(List.length x.snd.fst.snd.snd.fst) : Int)) false, x.fst.fst.snd.snd.snd.snd.snd.snd), x.fst.snd) = bgF x.fst x.snd.fst ∧ x.fst.snd.fst = x.fst.snd.fst ∧ smPo (Int.toNat (0 : Int)) (goF x.fst.fst.fst x.snd.fst) ∧ okSt (goF x.fst.fst.fst x.snd.fst).snd.fst ∧ List.length x.fst.snd.snd.snd.fst ≤ big + Int.toNat (0 : Int) ∧ (0 : Int) ≤ (8 : Int)) ∧ ∀ (v : Int × (((Int × (Int × Int × List Int × Unit) × List (Int × (Int × List (Int × List Int × Int × Unit) × List (List Int) × Unit) × (Int × List (Int × List Int × Int × Unit) × Unit) × Unit) × Unit) × List Int × Int × Bool × List Bool × List Bool × Bool × Bool × Unit) × (List Int × Int × Int × Int × Int × Int × Int × Int × Int × Int × Int × Unit) × Int × List (Int × List Int × Bool × Unit) × Unit) × Unit), (0 : Int) ≤ v.fst ∧ bgGo (Int.toNat (bgM x.fst - v.fst)) v.fst v.snd.fst = bgF x.fst x.snd.fst ∧ v.snd.fst.snd.fst = x.fst.snd.fst ∧ smPo (Int.toNat v.fst) v.snd.fst.fst.fst ∧ okSt v.snd.fst.fst.fst.snd.fst ∧ List.length v.snd.fst.snd.snd.snd.fst ≤ big + Int.toNat v.fst ∧ v.fst ≤ (8 : Int) →
  bif decide (v.fst < if (8 : Int) < x.fst.snd.fst.snd.snd.snd.fst then (8 : Int) else x.fst.snd.fst.snd.snd.snd.fst) then True ∧ (([] : List (List Int)) = [] ∧ List.length v.snd.fst.snd.fst.fst ≤ big ∧ okPo v.snd.fst.fst.fst ∧ okSt v.snd.fst.fst.fst.snd.fst ∧ List.length v.snd.fst.snd.snd.snd.fst ≤ (2000000000 : Nat)) ∧ ((0 : Int) ≤ IntKind.wrap IntKind.i64 (v.fst + (1 : Int)) ∧ bgGo (Int.toNat (bgM x.fst - IntKind.wrap IntKind.i64 (v.fst + (1 : Int)))) (IntKind.wrap IntKind.i64 (v.fst + (1 : Int))) (sndD v.snd.fst (nodeF v.snd.fst.snd.fst v.fst) ((1 : Int), [], (0 : Int), false, ())) = bgF x.fst x.snd.fst ∧ (sndD v.snd.fst (nodeF v.snd.fst.snd.fst v.fst) ((1 : Int), [], (0 : Int), false, ())).snd.fst = x.fst.snd.fst ∧ smPo (Int.toNat (IntKind.wrap IntKind.i64 (v.fst + (1 : Int)))) (sndD v.snd.fst (nodeF v.snd.fst.snd.fst v.fst) ((1 : Int), [], (0 : Int), false, ())).fst.fst ∧ okSt (sndD v.snd.fst (nodeF v.snd.fst.snd.fst v.fst) ((1 : Int), [], (0 : Int), false, ())).fst.fst.snd.fst ∧ List.length (sndD v.snd.fst (nodeF v.snd.fst.snd.fst v.fst) ((1 : Int), [], (0 : Int), false, ())).snd.snd.snd.fst ≤ big + Int.toNat (IntKind.wrap IntKind.i64 (v.fst + (1 : Int))) ∧ IntKind.wrap IntKind.i64 (v.fst + (1 : Int)) ≤ (8 : Int)) ∧ Int.toNat ((8 : Int) - IntKind.wrap IntKind.i64 (v.fst + (1 : Int))) < Int.toNat ((8 : Int) - v.fst) else ((), v.snd) = ((), bgF x.fst x.snd.fst, ())) := by kernel_rfl
theorem en_beg (us : Array Value) (u : World) : (callFunc 70 us).run Tryd.prog u = .ok (.enter 70 us) u := by kernel_rfl
theorem sc_beg : SC Tryd.prog 70 S_beg := by
  refine SC.of Tryd.func70 (c := bodyOf Tryd.f70) (by kernel_rfl) (by kernel_rfl) (fun x => (by decide : (2:Nat) ≤ Tryd.f70.ntmps)) (DOk.cons sc_abv en_abv (DOk.cons sc_go en_go (DOk.cons sc_node en_node (DOk.cons sc_snd en_snd DOk.nil)))) (Eq.mpr vc_beg ?_)
  rintro ⟨d, s, ⟨⟩⟩ ⟨⟨h1, h2, h3, h4, h4b⟩, h5, h6⟩ - - - - - - - -
  dsimp only at h1 h2 h3 h4 h5 h6 ⊢
  have e6 : s.2.2.1.length ≤ 1000000000 := h6
  have e4 : d.2.2.2.1.length ≤ 1000000000 := h4
  have hal : bgX d s = true → bgF d s = halD d := fun h => by rw [bgF, if_pos h]
  by_cases c1 : s.1 = 18446744073709551615
  · rw [beq_iff_eq.2 c1, cond_true, hal (by rw [bgX, show (s.1 == mx) = true from beq_iff_eq.2 c1]; rfl)]
    rfl
  have c1' : (s.1 == 18446744073709551615) = false := beq_eq_false_iff_ne.2 c1
  rw [c1', cond_false]
  by_cases c2 : s.2.1 = 18446744073709551615
  · rw [beq_iff_eq.2 c2, cond_true, hal (by rw [bgX, show (s.1 == mx) = false from c1', show (s.2.1 == mx) = true from beq_iff_eq.2 c2]; rfl)]
    rfl
  have c2' : (s.2.1 == 18446744073709551615) = false := beq_eq_false_iff_ne.2 c2
  rw [c2', cond_false]
  refine ⟨trivial, ?_⟩
  cases c3 : abvF s d.1.1.2.1
  · rw [Bool.not_false, cond_true, hal (by rw [bgX, show (s.1 == mx) = false from c1', show (s.2.1 == mx) = false from c2', c3]; rfl)]
    rfl
  have hx : bgX d s = false := by rw [bgX, show (s.1 == mx) = false from c1', show (s.2.1 == mx) = false from c2', c3]; rfl
  have hF : bgF d s = bgGo (bgM d).toNat 0 (newD d s) := by rw [bgF, if_neg (by rw [hx]; decide)]
  have hg := goF_abv c3
  have hm8 := bgM_8 d
  rw [Bool.not_true, cond_false]
  refine ⟨⟨h2, by omega⟩, by omega, Int.le_refl _, by omega, by omega, by omega, Int.le_refl _, by omega, by omega, ⟨Int.le_refl 0, ?_, rfl, ?_, ?_, by omega, by decide⟩, ?_⟩
  · rw [hF, Int.sub_zero]
    rfl
  · rw [hg]
    exact ⟨h6, Nat.le_refl 0, fun q hq => (List.not_mem_nil hq).elim⟩
  · rw [hg]
    exact h5
  rintro ⟨i, e, ⟨⟩⟩ ⟨q0, q1, q2, q3, q4, q5, q6⟩
  dsimp only at q0 q1 q2 q3 q4 q5 q6 ⊢
  have q5' : e.2.2.2.1.length ≤ 1000000000 + i.toNat := q5
  rw [show (if 8 < d.2.1.2.2.2.1 then (8 : Int) else d.2.1.2.2.2.1) = bgM d from rfl]
  have wi : IntKind.i64.wrap (i + 1) = i + 1 := IntWalk.i64_in _ (by omega)
  by_cases hi : i < bgM d
  rotate_left 1
  · rw [decide_eq_false hi, cond_false, ← q1, show (bgM d - i).toNat = 0 by omega]
    rfl
  rw [decide_eq_true hi, cond_true, wi]
  have e2 : (i + 1).toNat = i.toNat + 1 := by omega
  have s1 := sndD_len e (nodeF e.2.1 i) annN
  refine ⟨trivial, ⟨rfl, by rw [q2]; exact h1, smPo_ok q3 (by omega), q4, by omega⟩, ⟨by omega, ?_, (sndD_cfg _ _ _).trans q2, by rw [e2]; exact smPo_snd q3 _ _, ?_, ?_, by omega⟩, by omega⟩
  · rw [← q1, show (bgM d - i).toNat = (bgM d - (i + 1)).toNat + 1 by omega]
    rfl
  · show okSt (sndD e (nodeF e.2.1 i) annN).1.1.2.1
    rw [sndD_sta]
    exact q4
  · show (sndD e (nodeF e.2.1 i) annN).2.2.2.1.length ≤ 1000000000 + _
    omega

theorem vc_end : VC Tryd.prog Tryd.f71 (bodyOf Tryd.f71) S_end [(103, S_clio), (23, S_susp), (70, S_beg)] (fun _ _ => none) = (∀ (x : (((Int × (Int × Int × List Int × Unit) × List (Int × (Int × List (Int × List Int × Int × Unit) × List (List Int) × Unit) × (Int × List (Int × List Int × Int × Unit) × Unit) × Unit) × Unit) × List Int × Int × Bool × List Bool × List Bool × Bool × Bool × Unit) × (List Int × Int × Int × Int × Int × Int × Int × Int × Int × Int × Int × Unit) × Int × List (Int × List Int × Bool × Unit) × Unit) × Unit), okD x.fst →
  List.length x.fst.fst.fst.snd.fst.snd.snd.fst ≤ (9223372036854775807 : Nat) →
  List.length x.fst.fst.fst.snd.snd.fst ≤ (9223372036854775807 : Nat) →
  List.length x.fst.fst.snd.fst ≤ (9223372036854775807 : Nat) →
  List.length x.fst.fst.snd.snd.snd.snd.fst ≤ (9223372036854775807 : Nat) →
  List.length x.fst.fst.snd.snd.snd.snd.snd.fst ≤ (9223372036854775807 : Nat) →
  List.length x.fst.snd.fst.fst ≤ (9223372036854775807 : Nat) →
  List.length x.fst.snd.snd.snd.fst ≤ (9223372036854775807 : Nat) →
  List.length x.fst.fst.fst.snd.fst.snd.snd.fst ≤ (1000000000000 : Nat) ∧ True ∧ (List.length x.fst.fst.snd.snd.snd.snd.snd.fst ≤ (9223372036854775807 : Nat) →
  bif decide ((0 : Int) < (↑(List.length x.fst.fst.snd.snd.snd.snd.snd.fst) : Int)) then (0 : Int) ≤ (0 : Int) ∧ (0 : Int) < (↑(List.length x.fst.fst.snd.snd.snd.snd.snd.fst) : Int) ∧ ∀ (c0 : Bool), x.fst.fst.snd.snd.snd.snd.snd.fst[(0 : Nat)]? = some c0 →
  bif c0 then (okD x.fst ∧ okSt (x.fst.fst.fst.snd.fst.fst, IntKind.wrap IntKind.u64 (x.fst.fst.fst.snd.fst.snd.fst + (1 : Int)), x.fst.fst.fst.snd.fst.snd.snd) ∧ List.length x.fst.fst.fst.snd.fst.snd.snd.fst ≤ big) ∧ ((), bgF x.fst (x.fst.fst.fst.snd.fst.fst, IntKind.wrap IntKind.u64 (x.fst.fst.fst.snd.fst.snd.fst + (1 : Int)), x.fst.fst.fst.snd.fst.snd.snd), ()) = ((), endF x.fst, ()) else List.length x.fst.fst.snd.fst ≤ (9223372036854775807 : Nat) →
  bif (↑(List.length x.fst.fst.snd.fst) : Int) == (0 : Int) then (okD ((x.fst.fst.fst, x.fst.fst.snd.fst, x.fst.fst.snd.snd.fst, x.fst.fst.snd.snd.snd.fst, x.fst.fst.snd.snd.snd.snd.fst, x.fst.fst.snd.snd.snd.snd.snd.fst, true, x.fst.fst.snd.snd.snd.snd.snd.snd.snd), x.fst.snd) ∧ okSt (x.fst.fst.fst.snd.fst.fst, IntKind.wrap IntKind.u64 (x.fst.fst.fst.snd.fst.snd.fst + (1 : Int)), x.fst.fst.fst.snd.fst.snd.snd) ∧ List.length x.fst.fst.fst.snd.fst.snd.snd.fst ≤ big) ∧ ((), bgF ((x.fst.fst.fst, x.fst.fst.snd.fst, x.fst.fst.snd.snd.fst, x.fst.fst.snd.snd.snd.fst, x.fst.fst.snd.snd.snd.snd.fst, x.fst.fst.snd.snd.snd.snd.snd.fst, true, x.fst.fst.snd.snd.snd.snd.snd.snd.snd), x.fst.snd) (x.fst.fst.fst.snd.fst.fst, IntKind.wrap IntKind.u64 (x.fst.fst.fst.snd.fst.snd.fst + (1 : Int)), x.fst.fst.fst.snd.fst.snd.snd), ()) = ((), endF x.fst, ()) else bif decide (susF x.fst.fst.snd.snd.snd.snd.fst x.fst.fst.snd.snd.snd.snd.snd.fst < (0 : Int)) then (okD ((x.fst.fst.fst, x.fst.fst.snd.fst, x.fst.fst.snd.snd.fst, x.fst.fst.snd.snd.snd.fst, x.fst.fst.snd.snd.snd.snd.fst, x.fst.fst.snd.snd.snd.snd.snd.fst, true, x.fst.fst.snd.snd.snd.snd.snd.snd.snd), x.fst.snd) ∧ okSt (x.fst.fst.fst.snd.fst.fst, IntKind.wrap IntKind.u64 (x.fst.fst.fst.snd.fst.snd.fst + (1 : Int)), x.fst.fst.fst.snd.fst.snd.snd) ∧ List.length x.fst.fst.fst.snd.fst.snd.snd.fst ≤ big) ∧ ((), bgF ((x.fst.fst.fst, x.fst.fst.snd.fst, x.fst.fst.snd.snd.fst, x.fst.fst.snd.snd.snd.fst, x.fst.fst.snd.snd.snd.snd.fst, x.fst.fst.snd.snd.snd.snd.snd.fst, true, x.fst.fst.snd.snd.snd.snd.snd.snd.snd), x.fst.snd) (x.fst.fst.fst.snd.fst.fst, IntKind.wrap IntKind.u64 (x.fst.fst.fst.snd.fst.snd.fst + (1 : Int)), x.fst.fst.fst.snd.fst.snd.snd), ()) = ((), endF x.fst, ()) else bif decide ((↑(List.length x.fst.fst.fst.snd.fst.snd.snd.fst) : Int) ≤ susF x.fst.fst.snd.snd.snd.snd.fst x.fst.fst.snd.snd.snd.snd.snd.fst) then (okD ((x.fst.fst.fst, x.fst.fst.snd.fst, x.fst.fst.snd.snd.fst, x.fst.fst.snd.snd.snd.fst, x.fst.fst.snd.snd.snd.snd.fst, x.fst.fst.snd.snd.snd.snd.snd.fst, true, x.fst.fst.snd.snd.snd.snd.snd.snd.snd), x.fst.snd) ∧ okSt (x.fst.fst.fst.snd.fst.fst, IntKind.wrap IntKind.u64 (x.fst.fst.fst.snd.fst.snd.fst + (1 : Int)), x.fst.fst.fst.snd.fst.snd.snd) ∧ List.length x.fst.fst.fst.snd.fst.snd.snd.fst ≤ big) ∧ ((), bgF ((x.fst.fst.fst, x.fst.fst.snd.fst, x.fst.fst.snd.snd.fst, x.fst.fst.snd.snd.snd.fst, x.fst.fst.snd.snd.snd.snd.fst, x.fst.fst.snd.snd.snd.snd.snd.fst, true, x.fst.fst.snd.snd.snd.snd.snd.snd.snd), x.fst.snd) (x.fst.fst.fst.snd.fst.fst, IntKind.wrap IntKind.u64 (x.fst.fst.fst.snd.fst.snd.fst + (1 : Int)), x.fst.fst.fst.snd.fst.snd.snd), ()) = ((), endF x.fst, ()) else (0 : Int) ≤ (0 : Int) ∧ (0 : Int) < (↑(List.length x.fst.fst.snd.fst) : Int) ∧ ∀ (c0 : Int), x.fst.fst.snd.fst[(0 : Nat)]? = some c0 →
  (0 : Int) ≤ susF x.fst.fst.snd.snd.snd.snd.fst x.fst.fst.snd.snd.snd.snd.snd.fst ∧ susF x.fst.fst.snd.snd.snd.snd.fst x.fst.fst.snd.snd.snd.snd.snd.fst < (↑(List.length x.fst.fst.fst.snd.fst.snd.snd.fst) : Int) ∧ Int.toNat (susF x.fst.fst.snd.snd.snd.snd.fst x.fst.fst.snd.snd.snd.snd.snd.fst) < List.length x.fst.fst.fst.snd.fst.snd.snd.fst ∧ ∀ (x0 : Int), x.fst.fst.fst.snd.fst.snd.snd.fst[Int.toNat (susF x.fst.fst.snd.snd.snd.snd.fst x.fst.fst.snd.snd.snd.snd.snd.fst)]? = some x0 →
  (0 : Int) ≤ (1 : Int) ∧ (1 : Int) ≤ (↑(List.length x.fst.fst.snd.fst) : Int) ∧ (↑(List.length x.fst.fst.snd.fst) : Int) ≤ (↑(List.length x.fst.fst.snd.fst) : Int) ∧ List.length (List.take (Int.toNat (↑(List.length x.fst.fst.snd.fst) : Int) - (1 : Nat)) (List.drop ((1 : Nat)) x.fst.fst.snd.fst)) ≤ (1000000000000 : Nat) ∧ (okD ((x.fst.fst.fst, List.take (Int.toNat (↑(List.length x.fst.fst.snd.fst) : Int) - (1 : Nat)) (List.drop ((1 : Nat)) x.fst.fst.snd.fst), x.fst.fst.snd.snd), x.fst.snd) ∧ okSt (IntKind.wrap IntKind.u64 (x.fst.fst.fst.snd.fst.fst + (1 : Int)), IntKind.wrap IntKind.u64 (x.fst.fst.fst.snd.fst.snd.fst + (1 : Int)), List.set x.fst.fst.fst.snd.fst.snd.snd.fst (Int.toNat (susF x.fst.fst.snd.snd.snd.snd.fst x.fst.fst.snd.snd.snd.snd.snd.fst)) c0, ()) ∧ List.length (List.set x.fst.fst.fst.snd.fst.snd.snd.fst (Int.toNat (susF x.fst.fst.snd.snd.snd.snd.fst x.fst.fst.snd.snd.snd.snd.snd.fst)) c0) ≤ big) ∧ ((), bgF ((x.fst.fst.fst, List.take (Int.toNat (↑(List.length x.fst.fst.snd.fst) : Int) - (1 : Nat)) (List.drop ((1 : Nat)) x.fst.fst.snd.fst), x.fst.fst.snd.snd), x.fst.snd) (IntKind.wrap IntKind.u64 (x.fst.fst.fst.snd.fst.fst + (1 : Int)), IntKind.wrap IntKind.u64 (x.fst.fst.fst.snd.fst.snd.fst + (1 : Int)), List.set x.fst.fst.fst.snd.fst.snd.snd.fst (Int.toNat (susF x.fst.fst.snd.snd.snd.snd.fst x.fst.fst.snd.snd.snd.snd.snd.fst)) c0, ()), ()) = ((), endF x.fst, ()) else List.length x.fst.fst.snd.fst ≤ (9223372036854775807 : Nat) →
  bif (↑(List.length x.fst.fst.snd.fst) : Int) == (0 : Int) then (okD ((x.fst.fst.fst, x.fst.fst.snd.fst, x.fst.fst.snd.snd.fst, x.fst.fst.snd.snd.snd.fst, x.fst.fst.snd.snd.snd.snd.fst, x.fst.fst.snd.snd.snd.snd.snd.fst, true, x.fst.fst.snd.snd.snd.snd.snd.snd.snd), x.fst.snd) ∧ okSt (x.fst.fst.fst.snd.fst.fst, IntKind.wrap IntKind.u64 (x.fst.fst.fst.snd.fst.snd.fst + (1 : Int)), x.fst.fst.fst.snd.fst.snd.snd) ∧ List.length x.fst.fst.fst.snd.fst.snd.snd.fst ≤ big) ∧ ((), bgF ((x.fst.fst.fst, x.fst.fst.snd.fst, x.fst.fst.snd.snd.fst, x.fst.fst.snd.snd.snd.fst, x.fst.fst.snd.snd.snd.snd.fst, x.fst.fst.snd.snd.snd.snd.snd.fst, true, x.fst.fst.snd.snd.snd.snd.snd.snd.snd), x.fst.snd) (x.fst.fst.fst.snd.fst.fst, IntKind.wrap IntKind.u64 (x.fst.fst.fst.snd.fst.snd.fst + (1 : Int)), x.fst.fst.fst.snd.fst.snd.snd), ()) = ((), endF x.fst, ()) else bif decide (susF x.fst.fst.snd.snd.snd.snd.fst x.fst.fst.snd.snd.snd.snd.snd.fst < (0 : Int)) then (okD ((x.fst.fst.fst, x.fst.fst.snd.fst, x.fst.fst.snd.snd.fst, x.fst.fst.snd.snd.snd.fst, x.fst.fst.snd.snd.snd.snd.fst, x.fst.fst.snd.snd.snd.snd.snd.fst, true, x.fst.fst.snd.snd.snd.snd.snd.snd.snd), x.fst.snd) ∧ okSt (x.fst.fst.fst.snd.fst.fst, IntKind.wrap IntKind.u64 (x.fst.fst.fst.snd.fst.snd.fst + (1 : Int)), x.fst.fst.fst.snd.fst.snd.snd) ∧ List.length x.fst.fst.fst.snd.fst.snd.snd.fst ≤ big) ∧ ((), bgF ((x.fst.fst.fst, x.fst.fst.snd.fst, x.fst.fst.snd.snd.fst, x.fst.fst.snd.snd.snd.fst, x.fst.fst.snd.snd.snd.snd.fst, x.fst.fst.snd.snd.snd.snd.snd.fst, true, x.fst.fst.snd.snd.snd.snd.snd.snd.snd), x.fst.snd) (x.fst.fst.fst.snd.fst.fst, IntKind.wrap IntKind.u64 (x.fst.fst.fst.snd.fst.snd.fst + (1 : Int)), x.fst.fst.fst.snd.fst.snd.snd), ()) = ((), endF x.fst, ()) else bif decide ((↑(List.length x.fst.fst.fst.snd.fst.snd.snd.fst) : Int) ≤ susF x.fst.fst.snd.snd.snd.snd.fst x.fst.fst.snd.snd.snd.snd.snd.fst) then (okD ((x.fst.fst.fst, x.fst.fst.snd.fst, x.fst.fst.snd.snd.fst, x.fst.fst.snd.snd.snd.fst, x.fst.fst.snd.snd.snd.snd.fst, x.fst.fst.snd.snd.snd.snd.snd.fst, true, x.fst.fst.snd.snd.snd.snd.snd.snd.snd), x.fst.snd) ∧ okSt (x.fst.fst.fst.snd.fst.fst, IntKind.wrap IntKind.u64 (x.fst.fst.fst.snd.fst.snd.fst + (1 : Int)), x.fst.fst.fst.snd.fst.snd.snd) ∧ List.length x.fst.fst.fst.snd.fst.snd.snd.fst ≤ big) ∧ ((), bgF ((x.fst.fst.fst, x.fst.fst.snd.fst, x.fst.fst.snd.snd.fst, x.fst.fst.snd.snd.snd.fst, x.fst.fst.snd.snd.snd.snd.fst, x.fst.fst.snd.snd.snd.snd.snd.fst, true, x.fst.fst.snd.snd.snd.snd.snd.snd.snd), x.fst.snd) (x.fst.fst.fst.snd.fst.fst, IntKind.wrap IntKind.u64 (x.fst.fst.fst.snd.fst.snd.fst + (1 : Int)), x.fst.fst.fst.snd.fst.snd.snd), ()) = ((), endF x.fst, ()) else (0 : Int) ≤ (0 : Int) ∧ (0 : Int) < (↑(List.length x.fst.fst.snd.fst) : Int) ∧ ∀ (c0 : Int), x.fst.fst.snd.fst[(0 : Nat)]? = some c0 →
  (0 : Int) ≤ susF x.fst.fst.snd.snd.snd.snd.fst x.fst.fst.snd.snd.snd.snd.snd.fst ∧ susF x.fst.fst.snd.snd.snd.snd.fst x.fst.fst.snd.snd.snd.snd.snd.fst < (↑(List.length x.fst.fst.fst.snd.fst.snd.snd.fst) : Int) ∧ Int.toNat (susF x.fst.fst.snd.snd.snd.snd.fst x.fst.fst.snd.snd.snd.snd.snd.fst) < List.length x.fst.fst.fst.snd.fst.snd.snd.fst ∧ ∀ (x0 : Int), x.fst.fst.fst.snd.fst.snd.snd.fst[Int.toNat (susF x.fst.fst.snd.snd.snd.snd.fst x.fst.fst.snd.snd.snd.snd.snd.fst)]? = some x0 →
  (0 : Int) ≤ (1 : Int) ∧ (1 : Int) ≤ (↑(List.length x.fst.fst.snd.fst) : Int) ∧ (↑(List.length x.fst.fst.snd.fst) : Int) ≤ (↑(List.length x.fst.fst.snd.fst) : Int) ∧ List.length (List.take (Int.toNat (↑(List.length x.fst.fst.snd.fst) : Int) - (1 : Nat)) (List.drop ((1 : Nat)) x.fst.fst.snd.fst)) ≤ (1000000000000 : Nat) ∧ (okD ((x.fst.fst.fst, List.take (Int.toNat (↑(List.length x.fst.fst.snd.fst) : Int) - (1 : Nat)) (List.drop ((1 : Nat)) x.fst.fst.snd.fst), x.fst.fst.snd.snd), x.fst.snd) ∧ okSt (IntKind.wrap IntKind.u64 (x.fst.fst.fst.snd.fst.fst + (1 : Int)), IntKind.wrap IntKind.u64 (x.fst.fst.fst.snd.fst.snd.fst + (1 : Int)), List.set x.fst.fst.fst.snd.fst.snd.snd.fst (Int.toNat (susF x.fst.fst.snd.snd.snd.snd.fst x.fst.fst.snd.snd.snd.snd.snd.fst)) c0, ()) ∧ List.length (List.set x.fst.fst.fst.snd.fst.snd.snd.fst (Int.toNat (susF x.fst.fst.snd.snd.snd.snd.fst x.fst.fst.snd.snd.snd.snd.snd.fst)) c0) ≤ big) ∧ ((), bgF ((x.fst.fst.fst, List.take (Int.toNat (↑(List.length x.fst.fst.snd.fst) : Int) - (1 : Nat)) (List.drop ((1 : Nat)) x.fst.fst.snd.fst), x.fst.fst.snd.snd), x.fst.snd) (IntKind.wrap IntKind.u64 (x.fst.fst.fst.snd.fst.fst + (1 : Int)), IntKind.wrap IntKind.u64 (x.fst.fst.fst.snd.fst.snd.fst + (1 : Int)), List.set x.fst.fst.fst.snd.fst.snd.snd.fst (Int.toNat (susF x.fst.fst.snd.snd.snd.snd.fst x.fst.fst.snd.snd.snd.snd.snd.fst)) c0, ()), ()) = ((), endF x.fst, ()))) := by kernel_rfl
theorem en_end (us : Array Value) (u : World) : (callFunc 71 us).run Tryd.prog u = .ok (.enter 71 us) u := by kernel_rfl
theorem sc_end : SC Tryd.prog 71 S_end := by
  refine SC.of Tryd.func71 (c := bodyOf Tryd.f71) (by kernel_rfl) (by kernel_rfl) (fun x => (by decide : (1:Nat) ≤ Tryd.f71.ntmps)) (DOk.cons sc_clio en_clio (DOk.cons sc_susp en_susp (DOk.cons sc_beg en_beg DOk.nil))) (Eq.mpr vc_end ?_)
  rintro ⟨⟨⟨⟨n, ⟨ep, ro, ch, ⟨⟩⟩, pe, ⟨⟩⟩, sb, st, cl, on, bk, nc, ha, ⟨⟩⟩, c, now, out, ⟨⟩⟩, ⟨⟩⟩ ⟨h1, ⟨h2, h2b, h2c⟩, h3, h4, h7⟩ - - hsb - - - -
  dsimp only at h1 h2 h2b h2c h3 h4 hsb ⊢
  have e2 : ch.length ≤ 1000000000 := h2
  refine ⟨by omega, trivial, fun _ => ?_⟩
  have e7 : sb.length ≤ 1000000000 := h7
  have okd : ∀ {f : Bool}, okD (((n, (ep, ro, ch, ()), pe, ()), sb, st, cl, on, bk, f, ha, ()), c, now, out, ()) := ⟨h1, ⟨h2, h2b, h2c⟩, h3, h4, h7⟩
  have okr : okSt (ep, IntKind.u64.wrap (ro + 1), ch, ()) := ⟨h3.1, u64_ok _⟩
  have hE : endF (((n, (ep, ro, ch, ()), pe, ()), sb, st, cl, on, bk, nc, ha, ()), c, now, out, ()) = (bif decide (0 < (bk.length : Int)) && bk.headD false then bgF (((n, (ep, ro, ch, ()), pe, ()), sb, st, cl, on, bk, nc, ha, ()), c, now, out, ()) (ep, IntKind.u64.wrap (ro + 1), ch, ())
    else bif ((sb.length : Int) == 0) || (decide (susF on bk < 0) || decide ((ch.length : Int) ≤ susF on bk)) then bgF (((n, (ep, ro, ch, ()), pe, ()), sb, st, cl, on, bk, true, ha, ()), c, now, out, ()) (ep, IntKind.u64.wrap (ro + 1), ch, ())
    else bgF (((n, (ep, ro, ch, ()), pe, ()), sb.drop 1, st, cl, on, bk, nc, ha, ()), c, now, out, ()) (IntKind.u64.wrap (ep + 1), IntKind.u64.wrap (ro + 1), ch.set (susF on bk).toNat (sb.headD 0), ())) := rfl
  by_cases a1 : 0 < (bk.length : Int)
  · rw [decide_eq_true a1, cond_true]
    refine ⟨Int.le_refl 0, a1, fun c0 hc0 => ?_⟩
    cases c0
    · rw [cond_false]
      have hA : (decide (0 < (bk.length : Int)) && bk.headD false) = false := by rw [headD_of hc0, Bool.and_false]
      intro _
      by_cases b1 : (sb.length : Int) = 0
      · rw [beq_iff_eq.2 b1, cond_true, hE, hA, cond_false, beq_iff_eq.2 b1, Bool.true_or, cond_true]
        exact ⟨⟨okd, okr, h2⟩, rfl⟩
      rw [beq_eq_false_iff_ne.2 b1, cond_false]
      by_cases b2 : susF on bk < 0
      · rw [decide_eq_true b2, cond_true, hE, hA, cond_false, beq_eq_false_iff_ne.2 b1, decide_eq_true b2, Bool.false_or, Bool.true_or, cond_true]
        exact ⟨⟨okd, okr, h2⟩, rfl⟩
      rw [decide_eq_false b2, cond_false]
      by_cases b3 : (ch.length : Int) ≤ susF on bk
      · rw [decide_eq_true b3, cond_true, hE, hA, cond_false, beq_eq_false_iff_ne.2 b1, decide_eq_false b2, decide_eq_true b3, Bool.false_or, Bool.false_or, cond_true]
        exact ⟨⟨okd, okr, h2⟩, rfl⟩
      rw [decide_eq_false b3, cond_false, hE, hA, cond_false, beq_eq_false_iff_ne.2 b1, decide_eq_false b2, decide_eq_false b3, Bool.false_or, Bool.false_or, cond_false]
      refine ⟨Int.le_refl 0, by omega, fun c0 hc0 => ⟨by omega, by omega, by omega, fun x0 _ => ⟨by decide, by omega, Int.le_refl _, ?_, ⟨⟨h1, ⟨h2, h2b, h2c⟩, h3, h4, Nat.le_trans (List.length_take_le' _ _) (by rw [List.length_drop]; exact Nat.le_trans (Nat.sub_le _ _) h7)⟩, ⟨u64_ok _, u64_ok _⟩, ?_⟩, ?_⟩⟩⟩
      · rw [List.length_take, List.length_drop]
        omega
      · rw [List.length_set]
        exact h2
      · rw [headD_of hc0, List.take_of_length_le (by rw [List.length_drop]; omega)]
    · have hA : (decide (0 < (bk.length : Int)) && bk.headD false) = true := by rw [headD_of hc0, decide_eq_true a1]; rfl
      rw [cond_true, hE, hA, cond_true]
      exact ⟨⟨okd, okr, h2⟩, rfl⟩
  · rw [decide_eq_false a1, cond_false]
    have hA : (decide (0 < (bk.length : Int)) && bk.headD false) = false := by rw [decide_eq_false a1]; rfl
    intro _
    by_cases b1 : (sb.length : Int) = 0
    · rw [beq_iff_eq.2 b1, cond_true, hE, hA, cond_false, beq_iff_eq.2 b1, Bool.true_or, cond_true]
      exact ⟨⟨okd, okr, h2⟩, rfl⟩
    rw [beq_eq_false_iff_ne.2 b1, cond_false]
    by_cases b2 : susF on bk < 0
    · rw [decide_eq_true b2, cond_true, hE, hA, cond_false, beq_eq_false_iff_ne.2 b1, decide_eq_true b2, Bool.false_or, Bool.true_or, cond_true]
      exact ⟨⟨okd, okr, h2⟩, rfl⟩
    rw [decide_eq_false b2, cond_false]
    by_cases b3 : (ch.length : Int) ≤ susF on bk
    · rw [decide_eq_true b3, cond_true, hE, hA, cond_false, beq_eq_false_iff_ne.2 b1, decide_eq_false b2, decide_eq_true b3, Bool.false_or, Bool.false_or, cond_true]
      exact ⟨⟨okd, okr, h2⟩, rfl⟩
    rw [decide_eq_false b3, cond_false, hE, hA, cond_false, beq_eq_false_iff_ne.2 b1, decide_eq_false b2, decide_eq_false b3, Bool.false_or, Bool.false_or, cond_false]
    refine ⟨Int.le_refl 0, by omega, fun c0 hc0 => ⟨by omega, by omega, by omega, fun x0 _ => ⟨by decide, by omega, Int.le_refl _, ?_, ⟨⟨h1, ⟨h2, h2b, h2c⟩, h3, h4, Nat.le_trans (List.length_take_le' _ _) (by rw [List.length_drop]; exact Nat.le_trans (Nat.sub_le _ _) h7)⟩, ⟨u64_ok _, u64_ok _⟩, ?_⟩, ?_⟩⟩⟩
    · rw [List.length_take, List.length_drop]
      omega
    · rw [List.length_set]
      exact h2
    · rw [headD_of hc0, List.take_of_length_le (by rw [List.length_drop]; omega)]

theorem vc_tick : VC Tryd.prog Tryd.f31 (bodyOf Tryd.f31) S_tick [(68, S_pagn), (27, S_first), (70, S_beg), (71, S_end), (72, S_snd)] (fun _ _ => none) = (∀ (x : (List Int × Int × Int × Int × Int × Int × Int × Int × Int × Int × Int × Unit) × ((Int × (Int × Int × List Int × Unit) × List (Int × (Int × List (Int × List Int × Int × Unit) × List (List Int) × Unit) × (Int × List (Int × List Int × Int × Unit) × Unit) × Unit) × Unit) × List Int × Int × Bool × List Bool × List Bool × Bool × Bool × Unit) × Int × Unit), (x.snd.fst.snd.snd.snd.snd.snd.snd.snd.fst = false →
  okK x.fst x.snd.fst) →
  List.length x.fst.fst ≤ (9223372036854775807 : Nat) →
  List.length x.snd.fst.fst.snd.fst.snd.snd.fst ≤ (9223372036854775807 : Nat) →
  List.length x.snd.fst.fst.snd.snd.fst ≤ (9223372036854775807 : Nat) →
  List.length x.snd.fst.snd.fst ≤ (9223372036854775807 : Nat) →
  List.length x.snd.fst.snd.snd.snd.snd.fst ≤ (9223372036854775807 : Nat) →
  List.length x.snd.fst.snd.snd.snd.snd.snd.fst ≤ (9223372036854775807 : Nat) →
  bif x.snd.fst.snd.snd.snd.snd.snd.snd.snd.fst then ((x.snd.fst, [], ()), ()) = (tickF x.fst x.snd.fst x.snd.snd.fst, ()) else (List.length x.fst.fst ≤ big ∧ okPo x.snd.fst.fst ∧ okSt x.snd.fst.fst.snd.fst ∧ itPo x.snd.fst.fst.snd.snd.fst ≤ big) ∧ (List.length x.snd.fst.fst.snd.fst.snd.snd.fst ≤ (9223372036854775807 : Nat) →
  bif (↑(List.length x.snd.fst.fst.snd.fst.snd.snd.fst) : Int) == (0 : Int) then True ∧ (okD (((x.snd.fst.fst.fst, x.snd.fst.fst.snd.fst, List.map (agPe x.fst x.snd.snd.fst) x.snd.fst.fst.snd.snd.fst, ()), x.snd.fst.snd), x.fst, x.snd.snd.fst, agPs x.fst x.snd.fst.fst x.snd.snd.fst x.snd.fst.fst.snd.snd.fst, ()) ∧ okSt (firstF x.fst) ∧ List.length (firstF x.fst).snd.snd.fst ≤ big) ∧ (((bgF (((x.snd.fst.fst.fst, x.snd.fst.fst.snd.fst, List.map (agPe x.fst x.snd.snd.fst) x.snd.fst.fst.snd.snd.fst, ()), x.snd.fst.snd), x.fst, x.snd.snd.fst, agPs x.fst x.snd.fst.fst x.snd.snd.fst x.snd.fst.fst.snd.snd.fst, ()) (firstF x.fst)).fst, (bgF (((x.snd.fst.fst.fst, x.snd.fst.fst.snd.fst, List.map (agPe x.fst x.snd.snd.fst) x.snd.fst.fst.snd.snd.fst, ()), x.snd.fst.snd), x.fst, x.snd.snd.fst, agPs x.fst x.snd.fst.fst x.snd.snd.fst x.snd.fst.fst.snd.snd.fst, ()) (firstF x.fst)).snd.snd.snd), ()) = (tickF x.fst x.snd.fst x.snd.snd.fst, ()) else bif decide (x.fst.snd.snd.snd.snd.snd.snd.fst ≤ IntKind.wrap IntKind.i64 (x.snd.snd.fst - x.snd.fst.snd.snd.fst)) then okD (((x.snd.fst.fst.fst, x.snd.fst.fst.snd.fst, List.map (agPe x.fst x.snd.snd.fst) x.snd.fst.fst.snd.snd.fst, ()), x.snd.fst.snd), x.fst, x.snd.snd.fst, agPs x.fst x.snd.fst.fst x.snd.snd.fst x.snd.fst.fst.snd.snd.fst, ()) ∧ (((endF (((x.snd.fst.fst.fst, x.snd.fst.fst.snd.fst, List.map (agPe x.fst x.snd.snd.fst) x.snd.fst.fst.snd.snd.fst, ()), x.snd.fst.snd), x.fst, x.snd.snd.fst, agPs x.fst x.snd.fst.fst x.snd.snd.fst x.snd.fst.fst.snd.snd.fst, ())).fst, (endF (((x.snd.fst.fst.fst, x.snd.fst.fst.snd.fst, List.map (agPe x.fst x.snd.snd.fst) x.snd.fst.fst.snd.snd.fst, ()), x.snd.fst.snd), x.fst, x.snd.snd.fst, agPs x.fst x.snd.fst.fst x.snd.snd.fst x.snd.fst.fst.snd.snd.fst, ())).snd.snd.snd), ()) = (tickF x.fst x.snd.fst x.snd.snd.fst, ()) else bif decide (x.fst.snd.snd.snd.snd.snd.fst ≤ IntKind.wrap IntKind.i64 (x.snd.snd.fst - x.snd.fst.snd.snd.fst)) then bif !x.snd.fst.snd.snd.snd.fst then (0 : Int) ≤ (0 : Int) ∧ (0 : Int) < (↑(List.length x.snd.fst.fst.snd.fst.snd.snd.fst) : Int) ∧ ∀ (c0 : Int), x.snd.fst.fst.snd.fst.snd.snd.fst[(0 : Nat)]? = some c0 →
  (([] : List (List Int)) = [] ∧ List.length x.fst.fst ≤ big ∧ okPo (x.snd.fst.fst.fst, x.snd.fst.fst.snd.fst, List.map (agPe x.fst x.snd.snd.fst) x.snd.fst.fst.snd.snd.fst, ()) ∧ okSt x.snd.fst.fst.snd.fst ∧ List.length (agPs x.fst x.snd.fst.fst x.snd.snd.fst x.snd.fst.fst.snd.snd.fst) ≤ (2000000000 : Nat)) ∧ (((sndD (((x.snd.fst.fst.fst, x.snd.fst.fst.snd.fst, List.map (agPe x.fst x.snd.snd.fst) x.snd.fst.fst.snd.snd.fst, ()), x.snd.fst.snd.fst, x.snd.fst.snd.snd.fst, true, x.snd.fst.snd.snd.snd.snd), x.fst, x.snd.snd.fst, agPs x.fst x.snd.fst.fst x.snd.snd.fst x.snd.fst.fst.snd.snd.fst, ()) c0 ((2 : Int), [], (0 : Int), false, ())).fst, (sndD (((x.snd.fst.fst.fst, x.snd.fst.fst.snd.fst, List.map (agPe x.fst x.snd.snd.fst) x.snd.fst.fst.snd.snd.fst, ()), x.snd.fst.snd.fst, x.snd.fst.snd.snd.fst, true, x.snd.fst.snd.snd.snd.snd), x.fst, x.snd.snd.fst, agPs x.fst x.snd.fst.fst x.snd.snd.fst x.snd.fst.fst.snd.snd.fst, ()) c0 ((2 : Int), [], (0 : Int), false, ())).snd.snd.snd), ()) = (tickF x.fst x.snd.fst x.snd.snd.fst, ()) else ((((x.snd.fst.fst.fst, x.snd.fst.fst.snd.fst, List.map (agPe x.fst x.snd.snd.fst) x.snd.fst.fst.snd.snd.fst, ()), x.snd.fst.snd), agPs x.fst x.snd.fst.fst x.snd.snd.fst x.snd.fst.fst.snd.snd.fst, ()), ()) = (tickF x.fst x.snd.fst x.snd.snd.fst, ()) else ((((x.snd.fst.fst.fst, x.snd.fst.fst.snd.fst, List.map (agPe x.fst x.snd.snd.fst) x.snd.fst.fst.snd.snd.fst, ()), x.snd.fst.snd), agPs x.fst x.snd.fst.fst x.snd.snd.fst x.snd.fst.fst.snd.snd.fst, ()), ()) = (tickF x.fst x.snd.fst x.snd.snd.fst, ()))) := by kernel_rfl
theorem en_tick (us : Array Value) (u : World) : (callFunc 31 us).run Tryd.prog u = .ok (.enter 31 us) u := by kernel_rfl
theorem sc_tick : SC Tryd.prog 31 S_tick := by
  refine SC.of Tryd.func31 (c := bodyOf Tryd.f31) (by kernel_rfl) (by kernel_rfl) (fun x => (by decide : (3:Nat) ≤ Tryd.f31.ntmps)) (DOk.cons sc_pagn en_pagn (DOk.cons sc_first en_first (DOk.cons sc_beg en_beg (DOk.cons sc_end en_end (DOk.cons sc_snd en_snd DOk.nil))))) (Eq.mpr vc_tick ?_)
  rintro ⟨c, k, now, ⟨⟩⟩ h - - - - - -
  dsimp only at h ⊢
  have f8 := firstF_ok (c := c)
  cases hh : k.2.2.2.2.2.2.2.1
  rotate_left 1
  · rw [cond_true, tickF, hh, cond_true]
  replace h := h hh
  have hd := tkD_ok (now := now) h
  have hT : tickF c k now = ((tickD c k now).1, (tickD c k now).2.2.2.1, ()) := by rw [tickF, hh, cond_false]
  rw [cond_false, hT]
  refine ⟨⟨h.1, h.2.1, h.2.2.1, h.2.2.2.1⟩, fun _ => ?_⟩
  by_cases a1 : (k.1.2.1.2.2.1.length : Int) = 0
  · have e : tickD c k now = bgF (tkD c k now) (firstF c) := by rw [tickD, beq_iff_eq.2 a1, cond_true]
    rw [beq_iff_eq.2 a1, cond_true, e]
    refine ⟨trivial, ⟨hd, firstF_st h.2.2.2.2.2, Nat.le_trans f8 (by decide)⟩, rfl⟩
  have b1 : ((k.1.2.1.2.2.1.length : Int) == 0) = false := beq_eq_false_iff_ne.2 a1
  rw [b1, cond_false]
  by_cases a2 : c.2.2.2.2.2.2.1 ≤ sinc k now
  · have e : tickD c k now = endF (tkD c k now) := by rw [tickD, b1, cond_false, decide_eq_true a2, cond_true]
    rw [show decide (c.2.2.2.2.2.2.1 ≤ IntKind.i64.wrap (now - k.2.2.1)) = true from decide_eq_true a2, cond_true, e]
    exact ⟨hd, rfl⟩
  have b2 : decide (c.2.2.2.2.2.2.1 ≤ sinc k now) = false := decide_eq_false a2
  rw [show decide (c.2.2.2.2.2.2.1 ≤ IntKind.i64.wrap (now - k.2.2.1)) = false from b2, cond_false]
  by_cases a3 : c.2.2.2.2.2.1 ≤ sinc k now
  rotate_left 1
  · have e : tickD c k now = tkD c k now := by rw [tickD, b1, cond_false, b2, cond_false, decide_eq_false a3]; rfl
    rw [show decide (c.2.2.2.2.2.1 ≤ IntKind.i64.wrap (now - k.2.2.1)) = false from decide_eq_false a3, cond_false, e]
    rfl
  rw [show decide (c.2.2.2.2.2.1 ≤ IntKind.i64.wrap (now - k.2.2.1)) = true from decide_eq_true a3, cond_true]
  cases hc : k.2.2.2.1
  rotate_left 1
  · have e : tickD c k now = tkD c k now := by rw [tickD, b1, cond_false, b2, cond_false, decide_eq_true a3, hc]; rfl
    rw [Bool.not_true, cond_false, e]
    rfl
  rw [Bool.not_false, cond_true]
  refine ⟨Int.le_refl 0, by omega, fun c0 hc0 => ⟨⟨rfl, h.1, agPo_ok c now h.2.1, h.2.2.1, Nat.le_trans (agPs_len c k.1 now k.1.2.2.1) (Nat.le_trans h.2.2.2.1 (by decide))⟩, ?_⟩⟩
  have e : tickD c k now = sndD (closD (tkD c k now)) c0 cloN := by rw [tickD, b1, cond_false, b2, cond_false, decide_eq_true a3, hc, headD_of hc0]; rfl
  rw [e]
  rfl

theorem vc_cnew : VC Tryd.prog Tryd.f62 (bodyOf Tryd.f62) S_cnew [(25, S_new2), (66, S_kchk), (27, S_first), (15, S_nodes), (101, S_isS), (102, S_cont)] A_cnew = (∀ (x : (List Int × Int × Int × Int × Int × Int × Int × Int × Int × Int × Int × Unit) × Unit), True →
  List.length x.fst.fst ≤ (9223372036854775807 : Nat) →
  True ∧ bif nwE x.fst (0 : Int) != (0 : Int) then ((((0 : Int), ((0 : Int), (0 : Int), [], ()), [], ()), [], (0 : Int), false, [], [], false, false, ()), ()) = (cnewF x.fst, ()) else True ∧ bif kchkF x.fst != (0 : Int) then ((((0 : Int), ((0 : Int), (0 : Int), [], ()), [], ()), [], (0 : Int), false, [], [], false, false, ()), ()) = (cnewF x.fst, ()) else True ∧ True ∧ ((0 : Int) ≤ (0 : Int) ∧ (0 : Int) ≤ (↑(nN x.fst) : Int) ∧ nwN x.fst (0 : Int) = nwN x.fst (0 : Int) ∧ (0 : Int) = (0 : Int) ∧ (0 : Int) = (0 : Int) ∧ ([] : List Int) = [] ∧ ([] : List Pee) = [] ∧ [] = sbL x.fst (Int.toNat (0 : Int)) ∧ (0 : Int) = (0 : Int) ∧ false = false ∧ ([] : List Bool) = [] ∧ ([] : List Bool) = [] ∧ false = false ∧ false = false) ∧ ∀ (v : Int × ((Int × (Int × Int × List Int × Unit) × List (Int × (Int × List (Int × List Int × Int × Unit) × List (List Int) × Unit) × (Int × List (Int × List Int × Int × Unit) × Unit) × Unit) × Unit) × List Int × Int × Bool × List Bool × List Bool × Bool × Bool × Unit) × Unit), (0 : Int) ≤ v.fst ∧ v.fst ≤ (↑(nN x.fst) : Int) ∧ v.snd.fst.fst.fst = nwN x.fst (0 : Int) ∧ v.snd.fst.fst.snd.fst.fst = (0 : Int) ∧ v.snd.fst.fst.snd.fst.snd.fst = (0 : Int) ∧ v.snd.fst.fst.snd.fst.snd.snd.fst = [] ∧ v.snd.fst.fst.snd.snd.fst = [] ∧ v.snd.fst.snd.fst = sbL x.fst (Int.toNat v.fst) ∧ v.snd.fst.snd.snd.fst = (0 : Int) ∧ v.snd.fst.snd.snd.snd.fst = false ∧ v.snd.fst.snd.snd.snd.snd.fst = [] ∧ v.snd.fst.snd.snd.snd.snd.snd.fst = [] ∧ v.snd.fst.snd.snd.snd.snd.snd.snd.fst = false ∧ v.snd.fst.snd.snd.snd.snd.snd.snd.snd.fst = false →
  bif decide (v.fst < nodesF x.fst) then True ∧ bif wit v.fst (1 : Int) (serversF x.fst) then True ∧ bif !decide ((0 : Int) ≤ ixF (fun z => z == v.fst) (firstF x.fst).snd.snd.fst (0 : Int)) then (List.length v.snd.fst.snd.fst + List.length [v.fst]) * (8 : Nat) ≤ (140737488351232 : Nat) ∧ ((0 : Int) ≤ IntKind.wrap IntKind.i64 (v.fst + (1 : Int)) ∧ IntKind.wrap IntKind.i64 (v.fst + (1 : Int)) ≤ (↑(nN x.fst) : Int) ∧ v.snd.fst.fst.fst = nwN x.fst (0 : Int) ∧ v.snd.fst.fst.snd.fst.fst = (0 : Int) ∧ v.snd.fst.fst.snd.fst.snd.fst = (0 : Int) ∧ v.snd.fst.fst.snd.fst.snd.snd.fst = [] ∧ v.snd.fst.fst.snd.snd.fst = [] ∧ v.snd.fst.snd.fst ++ [v.fst] = sbL x.fst (Int.toNat (IntKind.wrap IntKind.i64 (v.fst + (1 : Int)))) ∧ v.snd.fst.snd.snd.fst = (0 : Int) ∧ v.snd.fst.snd.snd.snd.fst = false ∧ v.snd.fst.snd.snd.snd.snd.fst = [] ∧ v.snd.fst.snd.snd.snd.snd.snd.fst = [] ∧ v.snd.fst.snd.snd.snd.snd.snd.snd.fst = false ∧ v.snd.fst.snd.snd.snd.snd.snd.snd.snd.fst = false) ∧ Int.toNat ((↑(nN x.fst) : Int) - IntKind.wrap IntKind.i64 (v.fst + (1 : Int))) < Int.toNat ((↑(nN x.fst) : Int) - v.fst) else ((0 : Int) ≤ IntKind.wrap IntKind.i64 (v.fst + (1 : Int)) ∧ IntKind.wrap IntKind.i64 (v.fst + (1 : Int)) ≤ (↑(nN x.fst) : Int) ∧ v.snd.fst.fst.fst = nwN x.fst (0 : Int) ∧ v.snd.fst.fst.snd.fst.fst = (0 : Int) ∧ v.snd.fst.fst.snd.fst.snd.fst = (0 : Int) ∧ v.snd.fst.fst.snd.fst.snd.snd.fst = [] ∧ v.snd.fst.fst.snd.snd.fst = [] ∧ v.snd.fst.snd.fst = sbL x.fst (Int.toNat (IntKind.wrap IntKind.i64 (v.fst + (1 : Int)))) ∧ v.snd.fst.snd.snd.fst = (0 : Int) ∧ v.snd.fst.snd.snd.snd.fst = false ∧ v.snd.fst.snd.snd.snd.snd.fst = [] ∧ v.snd.fst.snd.snd.snd.snd.snd.fst = [] ∧ v.snd.fst.snd.snd.snd.snd.snd.snd.fst = false ∧ v.snd.fst.snd.snd.snd.snd.snd.snd.snd.fst = false) ∧ Int.toNat ((↑(nN x.fst) : Int) - IntKind.wrap IntKind.i64 (v.fst + (1 : Int))) < Int.toNat ((↑(nN x.fst) : Int) - v.fst) else ((0 : Int) ≤ IntKind.wrap IntKind.i64 (v.fst + (1 : Int)) ∧ IntKind.wrap IntKind.i64 (v.fst + (1 : Int)) ≤ (↑(nN x.fst) : Int) ∧ v.snd.fst.fst.fst = nwN x.fst (0 : Int) ∧ v.snd.fst.fst.snd.fst.fst = (0 : Int) ∧ v.snd.fst.fst.snd.fst.snd.fst = (0 : Int) ∧ v.snd.fst.fst.snd.fst.snd.snd.fst = [] ∧ v.snd.fst.fst.snd.snd.fst = [] ∧ v.snd.fst.snd.fst = sbL x.fst (Int.toNat (IntKind.wrap IntKind.i64 (v.fst + (1 : Int)))) ∧ v.snd.fst.snd.snd.fst = (0 : Int) ∧ v.snd.fst.snd.snd.snd.fst = false ∧ v.snd.fst.snd.snd.snd.snd.fst = [] ∧ v.snd.fst.snd.snd.snd.snd.snd.fst = [] ∧ v.snd.fst.snd.snd.snd.snd.snd.snd.fst = false ∧ v.snd.fst.snd.snd.snd.snd.snd.snd.snd.fst = false) ∧ Int.toNat ((↑(nN x.fst) : Int) - IntKind.wrap IntKind.i64 (v.fst + (1 : Int))) < Int.toNat ((↑(nN x.fst) : Int) - v.fst) else v.snd = (cnewF x.fst, ())) := by kernel_rfl
theorem en_cnew (us : Array Value) (u : World) : (callFunc 62 us).run Tryd.prog u = .ok (.enter 62 us) u := by kernel_rfl
theorem sc_cnew : SC Tryd.prog 62 S_cnew := by
  refine SC.of Tryd.func62 (c := bodyOf Tryd.f62) (by kernel_rfl) (by kernel_rfl) (fun x => (by decide : (1:Nat) ≤ Tryd.f62.ntmps)) (DOk.cons sc_new2 en_new2 (DOk.cons sc_kchk en_kchk (DOk.cons sc_first en_first (DOk.cons sc_nodes en_nodes (DOk.cons sc_isS en_isS (DOk.cons sc_cont en_cont DOk.nil)))))) (Eq.mpr vc_cnew ?_)
  rintro ⟨c, ⟨⟩⟩ - -
  dsimp only
  refine ⟨trivial, ?_⟩
  by_cases a1 : nwE c 0 = 0
  rotate_left 1
  · rw [bneT a1, cond_true, cnewF, bneT a1, cond_true]
    rfl
  rw [bneF a1, cond_false]
  refine ⟨trivial, ?_⟩
  by_cases a2 : kchkF c = 0
  rotate_left 1
  · rw [bneT a2, cond_true, cnewF, bneF a1, cond_false, bneT a2, cond_true]
    rfl
  rw [bneF a2, cond_false]
  have hF : cnewF c = ((nwN c 0, (0, 0, [], ()), [], ()), sbL c (nN c), 0, false, [], [], false, false, ()) := by rw [cnewF, bneF a1, cond_false, bneF a2, cond_false]
  have hN : 1 ≤ nodesF c ∧ nodesF c ≤ 25 := nodesF_bd a2
  have hn : ((nN c : Nat) : Int) = nodesF c := by unfold nN; omega
  refine ⟨trivial, trivial, ⟨Int.le_refl 0, by omega, rfl, rfl, rfl, rfl, rfl, rfl, rfl, rfl, rfl, rfl, rfl, rfl⟩, ?_⟩
  rintro ⟨i, ⟨⟨p1, ⟨p2, p3, p4, ⟨⟩⟩, p5, ⟨⟩⟩, sb, st, cl, on, bk, nc, ha, ⟨⟩⟩, ⟨⟩⟩ ⟨q0, q1, r1, r2, r3, r4, r5, r6, r7, r8, r9, r10, r11, r12⟩
  dsimp only at q0 q1 r1 r2 r3 r4 r5 r6 r7 r8 r9 r10 r11 r12 ⊢
  have wi : IntKind.i64.wrap (i + 1) = i + 1 := IntWalk.i64_in _ (by omega)
  have ls : sb.length ≤ i.toNat := by
    rw [r6]
    unfold sbL
    refine Nat.le_trans (List.length_filter_le _ _) ?_
    rw [List.length_map, List.length_range]
    exact Nat.le_refl _
  have hs : sbL c (i + 1).toNat = sbL c i.toNat ++ (bif isSb c i then [i] else []) := by
    rw [show (i + 1).toNat = i.toNat + 1 by omega]
    unfold sbL
    rw [List.range_succ, List.map_append, List.filter_append]
    congr 1
    rw [List.map_cons, List.map_nil, show ((i.toNat : Nat) : Int) = i by omega]
    cases h : isSb c i
    · rw [List.filter_cons, if_neg (by rw [h]; decide)]
      rfl
    · rw [List.filter_cons, if_pos h]
      rfl
  by_cases hi : i < nodesF c
  rotate_left 1
  · rw [decide_eq_false hi, cond_false, hF]
    obtain rfl : i = ((nN c : Nat) : Int) := by omega
    rw [show ((nN c : Nat) : Int).toNat = nN c by omega] at r6
    rw [r1, r2, r3, r4, r5, r6, r7, r8, r9, r10, r11, r12]
  rw [decide_eq_true hi, cond_true, wi]
  refine ⟨trivial, ?_⟩
  cases w1 : wit i 1 (serversF c)
  · rw [cond_false]
    have : isSb c i = false := by rw [isSb, w1]; rfl
    rw [this, cond_false, List.append_nil] at hs
    exact ⟨⟨by omega, by omega, r1, r2, r3, r4, r5, by rw [hs]; exact r6, r7, r8, r9, r10, r11, r12⟩, by omega⟩
  rw [cond_true]
  refine ⟨trivial, ?_⟩
  cases w2 : decide (0 ≤ ixF (fun z => z == i) (firstF c).2.2.1 0)
  · have : isSb c i = true := by rw [isSb, w1, w2]; rfl
    rw [this, cond_true] at hs
    rw [Bool.not_false, cond_true]
    exact ⟨by rw [List.length_cons, List.length_nil]; omega, ⟨by omega, by omega, r1, r2, r3, r4, r5, by rw [hs, r6], r7, r8, r9, r10, r11, r12⟩, by omega⟩
  · have : isSb c i = false := by rw [isSb, w1, w2]; rfl
    rw [this, cond_false, List.append_nil] at hs
    rw [Bool.not_true, cond_false]
    exact ⟨⟨by omega, by omega, r1, r2, r3, r4, r5, by rw [hs]; exact r6, r7, r8, r9, r10, r11, r12⟩, by omega⟩
end Go.Proofs.YtjkbkhjalimebaaDoor

namespace Go.Proofs.YtjkbkhjalimebaaDoor
open Go.RowKit DoorU
set_option linter.unusedVariables false
set_option linter.unusedSimpArgs false
set_option maxRecDepth 100000
set_option maxHeartbeats 1000000

abbrev aCo : Sh := .agg (shOf true tCo)
namespace DoorU
def fewK (k : Cor) : Bool := fewP k.1 && (decide ((k.2.1.length : Int) ≤ 60) && (decide ((k.2.2.2.2.1.length : Int) ≤ 60) && decide ((k.2.2.2.2.2.1.length : Int) ≤ 60)))
def mayK (c : Cfg) (k : Cor) : Bool := kchkF c == 0 && fewK k
theorem sndD_rest (d : Doe) (tn : Int) (n : Nte) : (sndD d tn n).1.2 = d.1.2 := by
  unfold sndD
  split
  · rfl
  · split <;> rfl
theorem bgGo_sta : ∀ (n : Nat) (i : Int) (d : Doe), (bgGo n i d).1.1.2.1 = d.1.1.2.1 ∧ (bgGo n i d).1.2 = d.1.2
  | 0, _, _ => ⟨rfl, rfl⟩
  | n + 1, i, d => by
    obtain ⟨h1, h2⟩ := bgGo_sta n (i + 1) (sndD d (nodeF d.2.1 i) annN)
    exact ⟨h1.trans (sndD_sta _ _ _), h2.trans (sndD_rest _ _ _)⟩
theorem bgF_cases (d : Doe) (s : Sta) : bgF d s = halD d ∨ ((bgF d s).1.1.2.1 = s ∧ (bgF d s).1.2 = (newD d s).1.2 ∧ s.2.1 ≠ mx) := by
  unfold bgF
  by_cases h : bgX d s = true
  · rw [if_pos h]; exact .inl rfl
  · rw [if_neg h]
    refine .inr ?_
    obtain ⟨h1, h2⟩ := bgGo_sta (bgM d).toNat 0 (newD d s)
    unfold bgX at h
    simp only [Bool.or_eq_true, beq_iff_eq, Bool.not_eq_true', not_or] at h
    have hg := goF_abv (p := d.1.1) (s := s) (by simpa using h.2.2)
    refine ⟨?_, h2, h.2.1⟩
    rw [h1]
    show (goF d.1.1 s).2.1 = s
    rw [hg]
theorem st_refl (s : Sta) : stSame s s = true := by unfold stSame; simp
def liK : Cor := ((0, (0, 0, [], ()), [], ()), [3], 0, false, [], [], false, false, ())
def tlT : Cor × List Par × Unit := tickF plainC liK 0
def tlPe : List Pee := tlT.1.1.2.2.1
def tlA : List Int := (tlT.2.1.headD (0, [], true, ())).2.1
def tlB : List Int := ((tlT.2.1.drop 1).headD (0, [], true, ())).2.1
theorem liK_eq : cnewF plainC = liK := by kernel_rfl
theorem tlT_eq : tickF plainC liK 0 = (((0, (1, 1, [1, 2], ()), tlPe, ()), [3], 0, false, [false, false], [false, false], false, false, ()), [(4, tlA, true, ()), (5, tlB, true, ())], ()) := by kernel_rfl
end DoorU
theorem SC.re {P : Program} {f : FuncId} {sig fin : Sh} {pre pre' : sig.V → Prop} {fn fn' : sig.V → fin.V} (h : SC P f ⟨sig, fin, pre, fn⟩) (hp : ∀ x, pre' x → pre x ∧ fn x = fn' x) : SC P f ⟨sig, fin, pre', fn'⟩ := fun hn x hx => by
  have h1 := h hn x (hp x hx).1
  have e := (hp x hx).2
  dsimp only at h1 ⊢
  rw [e] at h1
  exact h1
def S_cnewL : Spec := ⟨.pair aC .unit, .pair vCo .unit, fun (x : Cfg × Unit) => x.1 = plainC, fun (x : Cfg × Unit) => ((((0, (0, 0, [], ()), [], ()), [3], 0, false, [], [], false, false, ()), ()) : Cor × Unit)⟩
theorem sc_cnewL : SC Tryd.prog 62 S_cnewL := SC.re sc_cnew fun x hx => ⟨trivial, by
  obtain ⟨x, ⟨⟩⟩ := x
  obtain rfl : x = plainC := hx
  exact congrArg (fun z : Cor => (z, ())) liK_eq⟩
theorem en_cnewL (us : Array Value) (u : World) : (callFunc 62 us).run Tryd.prog u = .ok (.enter 62 us) u := by kernel_rfl
def S_tickL : Spec := ⟨.pair vCf (.pair vCo (.pair nI .unit)), .pair (.tup (.pair vCo (.pair vPas .unit))) .unit, fun (x : Cfg × Cor × Int × Unit) => x = (plainC, liK, 0, ()), fun (x : Cfg × Cor × Int × Unit) => (((((0, (1, 1, [1, 2], ()), tlPe, ()), [3], 0, false, [false, false], [false, false], false, false, ()), [(4, tlA, true, ()), (5, tlB, true, ())], ()), ()) : (Cor × List Par × Unit) × Unit)⟩
theorem liK_ok : okK plainC liK := ⟨Nat.zero_le _, ⟨Nat.zero_le _, Nat.zero_le _, fun q hq => (List.not_mem_nil hq).elim⟩, ⟨⟨by decide, by decide⟩, ⟨by decide, by decide⟩⟩, Nat.zero_le _, by decide, ⟨by decide, by decide⟩⟩
theorem sc_tickL : SC Tryd.prog 31 S_tickL := SC.re sc_tick fun x hx => ⟨fun _ => by
  obtain rfl : x = ((plainC, liK, (0 : Int), ()) : Cfg × Cor × Int × Unit) := hx
  exact liK_ok, by
  obtain rfl : x = ((plainC, liK, (0 : Int), ()) : Cfg × Cor × Int × Unit) := hx
  exact congrArg (fun z : Cor × List Par × Unit => (z, ())) tlT_eq⟩
theorem en_tickL (us : Array Value) (u : World) : (callFunc 31 us).run Tryd.prog u = .ok (.enter 31 us) u := by kernel_rfl
def S_rfewk : Spec := ⟨.pair aCo .unit, .pair .bool .unit, fun (x : Cor × Unit) => okPo x.1.1, fun (x : Cor × Unit) => ((fewK x.1, ()) : Bool × Unit)⟩
def S_may20 : Spec := ⟨.pair aC (.pair aCo .unit), .pair .bool .unit, fun (x : Cfg × Cor × Unit) => okPo x.2.1.1, fun (x : Cfg × Cor × Unit) => ((mayK x.1 x.2.1, ()) : Bool × Unit)⟩

theorem vc_rfewk : VC Tryd.prog Tryd.f69 (bodyOf Tryd.f69) S_rfewk [(38, S_few)] (fun _ _ => none) = (∀ (x : ((Int × (Int × Int × List Int × Unit) × List (Int × (Int × List (Int × List Int × Int × Unit) × List (List Int) × Unit) × (Int × List (Int × List Int × Int × Unit) × Unit) × Unit) × Unit) × List Int × Int × Bool × List Bool × List Bool × Bool × Bool × Unit) × Unit), okPo x.fst.fst →
  List.length x.fst.fst.snd.fst.snd.snd.fst ≤ (9223372036854775807 : Nat) →
  List.length x.fst.fst.snd.snd.fst ≤ (9223372036854775807 : Nat) →
  List.length x.fst.snd.fst ≤ (9223372036854775807 : Nat) →
  List.length x.fst.snd.snd.snd.snd.fst ≤ (9223372036854775807 : Nat) →
  List.length x.fst.snd.snd.snd.snd.snd.fst ≤ (9223372036854775807 : Nat) →
  okPo x.fst.fst ∧ bif fewP x.fst.fst then List.length x.fst.snd.fst ≤ (9223372036854775807 : Nat) →
  bif decide ((↑(List.length x.fst.snd.fst) : Int) ≤ (60 : Int)) then List.length x.fst.snd.snd.snd.snd.fst ≤ (9223372036854775807 : Nat) →
  bif decide ((↑(List.length x.fst.snd.snd.snd.snd.fst) : Int) ≤ (60 : Int)) then List.length x.fst.snd.snd.snd.snd.snd.fst ≤ (9223372036854775807 : Nat) →
  (decide ((↑(List.length x.fst.snd.snd.snd.snd.snd.fst) : Int) ≤ (60 : Int)), ()) = (fewK x.fst, ()) else (false, ()) = (fewK x.fst, ()) else (false, ()) = (fewK x.fst, ()) else (false, ()) = (fewK x.fst, ())) := by kernel_rfl
theorem en_rfewk (us : Array Value) (u : World) : (callFunc 69 us).run Tryd.prog u = .ok (.enter 69 us) u := by kernel_rfl
theorem sc_rfewk : SC Tryd.prog 69 S_rfewk := by
  refine SC.of Tryd.func69 (c := bodyOf Tryd.f69) (by kernel_rfl) (by kernel_rfl) (fun x => (by decide : (1:Nat) ≤ Tryd.f69.ntmps)) (DOk.cons sc_few en_few DOk.nil) (Eq.mpr vc_rfewk ?_)
  rintro ⟨⟨p, sb, st, cl, on, bk, nc, ha, ⟨⟩⟩, ⟨⟩⟩ h - - - - -
  dsimp only [fewK] at h ⊢
  refine ⟨h, ?_⟩
  cases fewP p
  · rfl
  rw [cond_true]
  intro _
  cases decide ((sb.length : Int) ≤ 60)
  · rfl
  rw [cond_true]
  intro _
  cases decide ((on.length : Int) ≤ 60)
  · rfl
  rw [cond_true]
  intro _
  rfl

theorem vc_plain20 : VC Tryd.prog Tryd.f61 (bodyOf Tryd.f61) S_plain [] (fun _ _ => none) = (∀ (x : Unit), True →
  (([], (2 : Int), (1 : Int), (2 : Int), (3 : Int), (4 : Int), (20 : Int), (5 : Int), (4 : Int), (1 : Int), (1 : Int), ()), ()) = (plainC, ())) := by kernel_rfl
theorem en_plain20 (us : Array Value) (u : World) : (callFunc 61 us).run Tryd.prog u = .ok (.enter 61 us) u := by kernel_rfl
theorem sc_plain20 : SC Tryd.prog 61 S_plain := by
  refine SC.of Tryd.func61 (c := bodyOf Tryd.f61) (by kernel_rfl) (by kernel_rfl) (fun x => (by decide : (0:Nat) ≤ Tryd.f61.ntmps)) DOk.nil (Eq.mpr vc_plain20 ?_)
  intro x _
  rfl

theorem vc_may20 : VC Tryd.prog Tryd.f30 (bodyOf Tryd.f30) S_may20 [(24, S_rchk), (69, S_rfewk)] (fun _ _ => none) = (∀ (x : (List Int × Int × Int × Int × Int × Int × Int × Int × Int × Int × Int × Unit) × ((Int × (Int × Int × List Int × Unit) × List (Int × (Int × List (Int × List Int × Int × Unit) × List (List Int) × Unit) × (Int × List (Int × List Int × Int × Unit) × Unit) × Unit) × Unit) × List Int × Int × Bool × List Bool × List Bool × Bool × Bool × Unit) × Unit), okPo x.snd.fst.fst →
  List.length x.fst.fst ≤ (9223372036854775807 : Nat) →
  List.length x.snd.fst.fst.snd.fst.snd.snd.fst ≤ (9223372036854775807 : Nat) →
  List.length x.snd.fst.fst.snd.snd.fst ≤ (9223372036854775807 : Nat) →
  List.length x.snd.fst.snd.fst ≤ (9223372036854775807 : Nat) →
  List.length x.snd.fst.snd.snd.snd.snd.fst ≤ (9223372036854775807 : Nat) →
  List.length x.snd.fst.snd.snd.snd.snd.snd.fst ≤ (9223372036854775807 : Nat) →
  True ∧ bif kchkF x.fst == (0 : Int) then okPo x.snd.fst.fst ∧ (fewK x.snd.fst, ()) = (mayK x.fst x.snd.fst, ()) else (false, ()) = (mayK x.fst x.snd.fst, ())) := by kernel_rfl
theorem en_may20 (us : Array Value) (u : World) : (callFunc 30 us).run Tryd.prog u = .ok (.enter 30 us) u := by kernel_rfl
theorem sc_may20 : SC Tryd.prog 30 S_may20 := by
  refine SC.of Tryd.func30 (c := bodyOf Tryd.f30) (by kernel_rfl) (by kernel_rfl) (fun x => (by decide : (2:Nat) ≤ Tryd.f30.ntmps)) (DOk.cons sc_rchk en_rchk (DOk.cons sc_rfewk en_rfewk DOk.nil)) (Eq.mpr vc_may20 ?_)
  rintro ⟨c, k, ⟨⟩⟩ h - - - - - -
  dsimp only [mayK] at h ⊢
  refine ⟨trivial, ?_⟩
  cases kchkF c == 0
  · rfl
  exact ⟨h, rfl⟩

theorem vc_live20 : VC Tryd.prog Tryd.f22 (bodyOf Tryd.f22) S_live [(61, S_plain), (62, S_cnewL), (31, S_tickL), (23, S_susp)] (fun _ _ => none) = (∀ (x : Unit), True →
  True ∧ True ∧ ([], (2 : Int), (1 : Int), (2 : Int), (3 : Int), (4 : Int), (20 : Int), (5 : Int), (4 : Int), (1 : Int), (1 : Int), ()) = plainC ∧ (([], (2 : Int), (1 : Int), (2 : Int), (3 : Int), (4 : Int), (20 : Int), (5 : Int), (4 : Int), (1 : Int), (1 : Int), ()), (((0 : Int), ((0 : Int), (0 : Int), [], ()), [], ()), [(3 : Int)], (0 : Int), false, [], [], false, false, ()), (0 : Int), ()) = (plainC, liK, (0 : Int), ()) ∧ True ∧ bif susF [true, false] [false, false] == (1 : Int) then List.length [((4 : Int), tlA, true, ()), ((5 : Int), tlB, true, ())] ≤ (9223372036854775807 : Nat) →
  bif (↑(List.length [((4 : Int), tlA, true, ()), ((5 : Int), tlB, true, ())]) : Int) == (2 : Int) then (0 : Int) ≤ (0 : Int) ∧ (0 : Int) < (↑(List.length [((4 : Int), tlA, true, ()), ((5 : Int), tlB, true, ())]) : Int) ∧ ∀ (c0 : Int × List Int × Bool × Unit), [((4 : Int), tlA, true, ()), ((5 : Int), tlB, true, ())][(0 : Nat)]? = some c0 →
  bif c0.fst == (4 : Int) then (0 : Int) ≤ (1 : Int) ∧ (1 : Int) < (↑(List.length [((4 : Int), tlA, true, ()), ((5 : Int), tlB, true, ())]) : Int) ∧ ∀ (c0 : Int × List Int × Bool × Unit), [((4 : Int), tlA, true, ()), ((5 : Int), tlB, true, ())][(1 : Nat)]? = some c0 →
  bif c0.fst == (5 : Int) then bif (1 : Int) == (1 : Int) then List.length [(3 : Int)] ≤ (9223372036854775807 : Nat) →
  ((↑(List.length [(3 : Int)]) : Int) == (1 : Int), ()) = (true, ()) else (false, ()) = (true, ()) else (false, ()) = (true, ()) else (false, ()) = (true, ()) else (false, ()) = (true, ()) else (false, ()) = (true, ())) := by kernel_rfl
theorem en_live20 (us : Array Value) (u : World) : (callFunc 22 us).run Tryd.prog u = .ok (.enter 22 us) u := by kernel_rfl
theorem sc_live20 : SC Tryd.prog 22 S_live := by
  refine SC.of Tryd.func22 (c := bodyOf Tryd.f22) (by kernel_rfl) (by kernel_rfl) (fun x => (by decide : (0:Nat) ≤ Tryd.f22.ntmps)) (DOk.cons sc_plain20 en_plain20 (DOk.cons sc_cnewL en_cnewL (DOk.cons sc_tickL en_tickL (DOk.cons sc_susp en_susp DOk.nil)))) (Eq.mpr vc_live20 ?_)
  intro x _
  refine ⟨trivial, trivial, rfl, rfl, trivial, ?_⟩
  rw [show (susF [true, false] [false, false] == 1) = true from by decide, cond_true]
  intro _
  rw [show ((([((4 : Int), tlA, true, ()), ((5 : Int), tlB, true, ())] : List Par).length : Nat) : Int) = 2 from rfl, beq_self_eq_true, cond_true]
  refine ⟨by decide, by decide, fun c hc => ?_⟩
  obtain rfl := Option.some.inj hc
  dsimp only
  rw [beq_self_eq_true, cond_true]
  refine ⟨by decide, by decide, fun c hc => ?_⟩
  obtain rfl := Option.some.inj hc
  dsimp only
  rw [beq_self_eq_true, cond_true, beq_self_eq_true, cond_true]
  exact fun _ => rfl
end Go.Proofs.YtjkbkhjalimebaaDoor

namespace Go.Proofs.YtjkbkhjalimebaaDoor
open Go.RowKit DoorU
set_option linter.unusedVariables false
namespace DoorU
theorem bk_itPe (q : Pee) : q.2.1.2.1.length ≤ bkT tPe q := by
  have h : q.2.1.2.1.length ≤ bkT (.sl tIt) q.2.1.2.1 := bk_sl (T := tIt) (fun x => Nat.le_add_right 1 _) q.2.1.2.1
  rw [bk_pe, bk_out]
  omega
theorem bk_itL : ∀ l : List Pee, itPo l ≤ (List.map (bkT tPe) l).sum
  | [] => Nat.zero_le _
  | q :: l => by
    have h1 := bk_itPe q
    have h2 := bk_itL l
    exact Nat.add_le_add h1 h2
theorem bk_itPo (p : Pos) : itPo p.2.2.1 ≤ bkT tPo p := by
  have h := bk_itL p.2.2.1
  have e : bkT (.sl tPe) p.2.2.1 = (List.map (bkT tPe) p.2.2.1).sum + 1 := rfl
  rw [bk_po, e]
  omega
theorem bk_coP (k : Cor) : bkT tPo k.1 ≤ bkT tCo k := Nat.le_add_right _ _
theorem bk_coS (k : Cor) : k.2.1.length ≤ bkT tCo k := by
  have h := bk_int (k := .i64) k.2.1
  have e : bkT tCo k = bkT tPo k.1 + (bkT (.sl tI) k.2.1 + bkT (.pair tI (.pair .bool (.pair (.sl .bool) (.pair (.sl .bool) (.pair .bool (.pair .bool .unit)))))) k.2.2) := rfl
  rw [e]
  have h2 : k.2.1.length ≤ bkT (.sl tI) k.2.1 := h
  omega
theorem okK_of {c : Cfg} {k : Cor} {n m : Nat} (gc : okT tC c) (bc : bkT tC c ≤ n) (gk : okT tCo k) (bk : bkT tCo k ≤ m) (hn : n ≤ 1048576) (hm : m ≤ 1048576) : okK c k :=
  ⟨Nat.le_trans (bk_c c) (bk_up bc hn), bk_okPo (Nat.le_trans (bk_coP k) (bk_up bk hm)), okT_st gk.1.2.1, Nat.le_trans (bk_itPo k.1) (Nat.le_trans (bk_coP k) (bk_up bk hm)), Nat.le_trans (bk_coS k) (bk_up bk hm),
    wf_u64 gc.2.2.2.2.2.2.2.2.2.1⟩
end DoorU
end Go.Proofs.YtjkbkhjalimebaaDoor

namespace Go.Proofs.YtjkbkhjalimebaaDoor
open Go.RowKit DoorU
set_option linter.unusedVariables false
set_option linter.unusedSimpArgs false
set_option maxRecDepth 100000
set_option maxHeartbeats 1000000

namespace DoorU
def ncutF (b : List Int) (n : Int) : List Int × List Int × Bool × Unit := bif decide ((b.length : Int) < n) then ([], [], false, ()) else (b.take n.toNat, b.drop n.toNat, true, ())
def tnumF (b : List Int) : Int × List Int × Bool × Unit := bif decide ((b.length : Int) < 2) then (0, [], false, ()) else (i64 (getR (b.take 2)), b.drop 2, true, ())
def tpZ : List (List Int) × List Int × Bool × Unit := ([], [], true, ())
def ntZ (b : List Int) : Nte × Int × Unit := ((b.getD 0 0, [], 0, false, ()), 0, ())
def nAg (c : Cfg) (k : Cor) (now : Int) : Nat := bif k.2.2.2.2.2.2.2.1 then 0 else (agPs c k.1 now k.1.2.2.1).length
def anB (c : Cfg) (k : Cor) (now : Int) : Bool := decide (0 < stCmp (tickF c k now).1.1.2.1 k.1.2.1)
def annA (b : Bool) (n : Int) : Int := bif b then (bif decide (0 ≤ n) then n else 0) else 0
theorem parF_mem {c : Cfg} {f : Fra} {b : Bool} {x : Par} (h : x ∈ parF c f b) : x = (f.2.1, frPutF (pairF c f.1 f.2.1) f, b, ()) ∧ frChk f = 0 := by
  unfold parF at h
  split at h
  · rename_i hc
    rw [List.mem_singleton] at h
    exact ⟨h, hc⟩
  · cases h
def annX (c : Cfg) (s : Sta) (bd : List Int) (x : Par) : Prop := ∃ q : Int, x = (x.1, frPutF (pairF c 0 x.1) (0, x.1, s, 1, q, bd, ()), true, ()) ∧ frChk (0, x.1, s, 1, q, bd, ()) = 0
theorem iparF_mem {c : Cfg} {p : Pos} {tn : Int} {l : List Itm} {b : Bool} {x : Par} (h : x ∈ iparF c p tn l b) : ∃ it ∈ l, x = (tn, frPutF (pairF c p.1 tn) (p.1, tn, p.2.1, 1, it.1, it.2.1, ()), b, ()) ∧ frChk (p.1, tn, p.2.1, 1, it.1, it.2.1, ()) = 0 := by
  unfold iparF at h
  obtain ⟨it, hi, hx⟩ := List.mem_flatMap.1 h
  exact ⟨it, hi, parF_mem hx⟩
theorem agPs_old {c : Cfg} {p : Pos} {now : Int} {l : List Pee} {x : Par} (h : x ∈ agPs c p now l) : x.2.2.1 = false := by
  unfold agPs at h
  obtain ⟨q, _, hx⟩ := List.mem_flatMap.1 h
  obtain ⟨it, _, hx, _⟩ := iparF_mem hx
  rw [hx]
def sndB (d : Doe) (tn : Int) (n : Nte) : List Par := if (npF n).2.1 ≠ 0 then [] else if (psF d.2.1 d.1.1 tn (npF n).1 d.2.2.1).2.2.1 ≠ 0 then [] else (psF d.2.1 d.1.1 tn (npF n).1 d.2.2.1).2.1
theorem sndD_out (d : Doe) (tn : Int) (n : Nte) : (sndD d tn n).2.2.2.1 = d.2.2.2.1 ++ sndB d tn n := by
  unfold sndD sndB
  split
  · rw [List.append_nil]
  · split
    · rw [List.append_nil]
    · rfl
theorem sndQ_item (c : Cfg) (p : Pos) (tn : Int) (b : List Int) (now : Int) : ∀ it ∈ (sndQ c p tn b now).2.1, it.2.1 = b := by
  unfold sndQ sendF
  split
  · intro it h
    cases h
  · intro it h
    rw [List.mem_singleton.1 h]
    rfl
theorem sndB_len (d : Doe) (tn : Int) (n : Nte) : (sndB d tn n).length ≤ 1 := by
  unfold sndB
  split
  · exact Nat.zero_le 1
  · split
    · exact Nat.zero_le 1
    · exact psF_par _ _ _ _ _
theorem sndB_mem {d : Doe} {tn : Int} {n : Nte} {x : Par} (h0 : d.1.1.1 = 0) (h : x ∈ sndB d tn n) : x.1 = tn ∧ annX d.2.1 d.1.1.2.1 (npF n).1 x := by
  unfold sndB at h
  split at h
  · cases h
  split at h
  · cases h
  rename_i hh
  rw [(psF_0 (Decidable.not_not.1 hh)).1] at h
  obtain ⟨it, hi, hx, hc⟩ := iparF_mem h
  have e1 := sndQ_item _ _ _ _ _ it hi
  have e2 : (sndP d.2.1 d.1.1 tn (npF n).1 d.2.2.1).1 = 0 := h0
  have e3 : (sndP d.2.1 d.1.1 tn (npF n).1 d.2.2.1).2.1 = d.1.1.2.1 := rfl
  rw [e1, e2, e3] at hx hc
  subst hx
  exact ⟨rfl, it.1, rfl, hc⟩
theorem lnk_new {p : Pos} {n : Int} (h : ∀ q ∈ p.2.2.1, q.1 ≠ n) : linkE p n = newPe n := by
  have e : eqAt p.2.2.1 n = p.2.2.1.length := fIdx_no fun q hq => beq_eq_false_iff_ne.2 (h q hq)
  have g : gtAt p.2.2.1 n ≤ p.2.2.1.length := fIdx_le _ _
  unfold linkE lnkL lnkI
  rw [if_pos e, if_pos e]
  unfold insF
  rw [List.getD_eq_getElem?_getD, List.append_assoc, List.getElem?_append_right (by rw [List.length_take]; omega), List.length_take, show gtAt p.2.2.1 n - min (gtAt p.2.2.1 n) p.2.2.1.length = 0 by omega]
  rfl
theorem cfg_of {c : Cfg} (h : kchkF c = 0) : 1 ≤ c.2.2.2.1 ∧ c.2.2.2.1 ≤ 8 ∧ 1 ≤ winC c ∧ (∀ i, 0 ≤ i → i < c.2.2.2.1 → nodeF c i = 1 + serversF c + i) ∧ 1 ≤ serversF c ∧ serversF c ≤ 16 ∧ nodesF c = 1 + serversF c + c.2.2.2.1 ∧ 1 ≤ (firstF c).2.2.1.length := by
  have hk : okC c = true := by
    cases hk : okC c
    · rw [kchkF, hk] at h; cases h
    · rfl
  have hf : (firstF c).2.2.1.length = c.2.1.toNat := by
    rw [firstF, if_pos hk]
    show (List.map _ _).length = _
    rw [List.length_map, List.length_range]
  simp only [okC, wit, Bool.and_eq_true, decide_eq_true_eq] at hk
  have w1 : serversF c = c.2.1 + c.2.2.1 := IntWalk.i64_in _ (by omega)
  have w2 : IntKind.i64.wrap (1 + serversF c) = 1 + serversF c := IntWalk.i64_in _ (by omega)
  have w3 : nodesF c = 1 + serversF c + c.2.2.2.1 := by
    unfold nodesF
    rw [w2]
    exact IntWalk.i64_in _ (by omega)
  have wn : 1 ≤ winC c := by unfold winC; omega
  refine ⟨by omega, by omega, wn, fun i h0 h1 => ?_, by omega, by omega, w3, by omega⟩
  unfold nodeF i64
  rw [decide_eq_false (by omega), cond_false, decide_eq_false (by omega), cond_false, w2]
  exact IntWalk.i64_in _ (by omega)
theorem annN_b : npF annN = ([1, 0, 0], 0, ()) := by kernel_rfl
theorem cloN_b : npF cloN = ([2, 0, 0], 0, ()) := by kernel_rfl
def BgI (c : Cfg) (s : Sta) (i : Int) (d : Doe) : Prop := d.2.1 = c ∧ d.1.1.1 = 0 ∧ d.1.1.2.1 = s ∧ ∀ q ∈ d.1.1.2.2.1, q.1 < 1 + serversF c + i
theorem snd_ann {c : Cfg} {s : Sta} {i : Int} {d : Doe} (hk : kchkF c = 0) (hs : stChk s = 0) (h0 : 0 ≤ i) (h1 : i < c.2.2.2.1) (h : BgI c s i d) :
    (∃ x, sndB d (nodeF c i) annN = [x] ∧ x.1 = nodeF c i ∧ annX c s [1, 0, 0] x) ∧ BgI c s (i + 1) (sndD d (nodeF c i) annN) := by
  obtain ⟨g1, g2, g3, g4⟩ := h
  obtain ⟨k1, k2, k3, k4, k5, k6, k7, _⟩ := cfg_of hk
  have et := k4 i h0 h1
  generalize nodeF c i = t at et ⊢
  subst g1
  have hno : ¬ (isNodeF d.2.1 t = false ∨ t = d.1.1.1 ∨ stChk d.1.1.2.1 ≠ 0) := by
    rintro (h | h | h)
    · unfold isNodeF at h
      rw [decide_eq_true (by omega : 0 ≤ t), decide_eq_true (by omega : t < nodesF d.2.1)] at h
      cases h
    · omega
    · rw [g3] at h
      exact h hs
  have hnew : linkE d.1.1 t = newPe t := lnk_new fun q hq => by have := g4 q hq; omega
  have hq : sndQ d.2.1 d.1.1 t [1, 0, 0] d.2.2.1 = ((i64 (0 + 1), [itm 0 [1, 0, 0] d.2.2.1], [], ()), [itm 0 [1, 0, 0] d.2.2.1], ()) := by
    unfold sndQ
    rw [hnew]
    show sendF (0, [], [], ()) _ _ _ = _
    unfold sendF
    rw [if_neg (by show ¬ winC d.2.1 ≤ 0; omega)]
    rfl
  have hp : psF d.2.1 d.1.1 t [1, 0, 0] d.2.2.1 = (sndP d.2.1 d.1.1 t [1, 0, 0] d.2.2.1, parF d.2.1 (d.1.1.1, t, d.1.1.2.1, 1, 0, [1, 0, 0], ()) true, 0, ()) := by
    unfold psF
    rw [if_neg hno, if_neg (by decide), hq]
    show (_, iparF _ _ _ [itm 0 [1, 0, 0] d.2.2.1] true, _) = _
    unfold iparF
    rw [List.flatMap_cons, List.flatMap_nil, List.append_nil]
    rfl
  have hf : frChk (0, t, s, 1, 0, [1, 0, 0], ()) = 0 := by
    unfold frChk
    dsimp only
    rw [if_neg (by decide), if_neg (by decide), if_neg (by omega), if_neg (by omega), if_neg (by omega), if_pos hs, if_neg (by decide), if_neg (by decide), if_pos rfl, if_neg (by decide)]
  have hD : sndD d t annN = (((sndP d.2.1 d.1.1 t [1, 0, 0] d.2.2.1, d.1.2) : Cor), d.2.1, d.2.2.1, d.2.2.2.1 ++ (psF d.2.1 d.1.1 t [1, 0, 0] d.2.2.1).2.1, ()) := by
    unfold sndD
    rw [annN_b, if_neg (fun h => h rfl)]
    dsimp only
    rw [if_neg (by rw [hp]; exact fun h => h rfl), hp]
  refine ⟨⟨(t, frPutF (pairF d.2.1 0 t) (0, t, s, 1, 0, [1, 0, 0], ()), true, ()), ?_, rfl, 0, rfl, hf⟩, ?_⟩
  · unfold sndB
    rw [annN_b, if_neg (fun h => h rfl)]
    dsimp only
    rw [if_neg (by rw [hp]; exact fun h => h rfl), hp]
    dsimp only
    rw [g2, g3, parF, if_pos hf]
  · rw [hD]
    refine ⟨rfl, g2, g3, fun q hq => ?_⟩
    have hm : ∀ q ∈ lnkL d.1.1.2.2.1 t, q.1 < 1 + serversF d.2.1 + (i + 1) := by
      unfold lnkL
      split
      · intro q hq
        unfold insF at hq
        rw [List.mem_append, List.mem_append, List.mem_singleton] at hq
        rcases hq with (hq | rfl) | hq
        · have := g4 q (List.mem_of_mem_take hq); omega
        · show t < _
          omega
        · have := g4 q (List.mem_of_mem_drop hq); omega
      · intro q hq
        have := g4 q hq
        omega
    rcases List.mem_or_eq_of_mem_set hq with hq | rfl
    · exact hm q hq
    · show (linkE d.1.1 t).1 < _
      rw [hnew]
      show t < _
      omega
theorem bgGo_ann {c : Cfg} {s : Sta} (hk : kchkF c = 0) (hs : stChk s = 0) : ∀ (n : Nat) (i : Int) (d : Doe), BgI c s i d → 0 ≤ i → i + n ≤ c.2.2.2.1 →
    ∃ B, (bgGo n i d).2.2.2.1 = d.2.2.2.1 ++ B ∧ B.length = n ∧ ∀ (j : Nat) (x : Par), B[j]? = some x → x.1 = nodeF c (i + j) ∧ annX c s [1, 0, 0] x
  | 0, i, d, _, _, _ => ⟨[], (List.append_nil _).symm, rfl, fun j x h => by simp at h⟩
  | n + 1, i, d, h, h0, h1 => by
    obtain ⟨⟨x0, hx, hx1, hx2⟩, h2⟩ := snd_ann hk hs h0 (by omega) h
    obtain ⟨B, b1, b2, b3⟩ := bgGo_ann hk hs n (i + 1) (sndD d (nodeF c i) annN) h2 (by omega) (by omega)
    have e : bgGo (n + 1) i d = bgGo n (i + 1) (sndD d (nodeF c i) annN) := by rw [bgGo, h.1]
    refine ⟨x0 :: B, ?_, by rw [List.length_cons, b2], fun j x hj => ?_⟩
    · rw [e, b1, sndD_out, hx, List.append_assoc]
      rfl
    · cases j with
      | zero =>
        obtain rfl : x0 = x := by simpa using hj
        exact ⟨by rw [hx1, show i + ((0 : Nat) : Int) = i by omega], hx2⟩
      | succ j =>
        have := b3 j x (by simpa using hj)
        rw [show i + 1 + (j : Int) = i + ((j + 1 : Nat) : Int) by omega] at this
        exact this
theorem stCmp_self (s : Sta) : stCmp s s = 0 := by
  have : ∀ a, cmpF a a = 0 := fun a => by unfold cmpF; rw [if_neg (by omega), if_neg (by omega)]
  unfold stCmp
  rw [if_pos (this _), this]
def annS (c : Cfg) (k : Cor) (now : Int) (K : Cor) (L : List Par) : Prop := ∃ B, L = agPs c k.1 now k.1.2.2.1 ++ B ∧ okSt K.1.2.1 ∧
  ((decide (0 < stCmp K.1.2.1 k.1.2.1) = true ∧ (B.length : Int) = c.2.2.2.1 ∧ K.2.2.2.1 = false ∧ K.2.2.1 = now ∧ ∀ (j : Nat) (x : Par), B[j]? = some x → x.1 = nodeF c j ∧ annX c K.1.2.1 [1, 0, 0] x) ∨
   (decide (0 < stCmp K.1.2.1 k.1.2.1) = false ∧ B.length ≤ 1 ∧ ∀ x ∈ B, annX c K.1.2.1 [2, 0, 0] x ∧ k.2.2.2.1 = false ∧ K.2.2.2.1 = true ∧ ∀ y, K.1.2.1.2.2.1[0]? = some y → x.1 = y))
theorem bgF_ann {c : Cfg} {k : Cor} {now : Int} {d : Doe} {s : Sta} (hk : kchkF c = 0) (h0 : k.1.1 = 0) (hK : okSt k.1.2.1) (d1 : d.1.1 = (pagF c k.1 now).1) (d2 : d.2.1 = c) (d3 : d.2.2.1 = now) (d4 : d.2.2.2.1 = agPs c k.1 now k.1.2.2.1) (hs : okSt s) (hl : 1 ≤ s.2.2.1.length)
    (hx : 1 ≤ (bgF d s).1.1.2.1.2.2.1.length → stChk (bgF d s).1.1.2.1 = 0) : annS c k now (bgF d s).1 (bgF d s).2.2.2.1 := by
  by_cases hb : bgX d s = true
  · have e : bgF d s = halD d := by rw [bgF, if_pos hb]
    rw [e]
    have e2 : (halD d).1.1.2.1 = k.1.2.1 := by show d.1.1.2.1 = _; rw [d1]; rfl
    refine ⟨[], by rw [List.append_nil]; exact d4, by rw [e2]; exact hK, .inr ⟨by rw [e2, stCmp_self]; rfl, Nat.zero_le _, fun x hx => (List.not_mem_nil hx).elim⟩⟩
  · have e : bgF d s = bgGo (bgM d).toNat 0 (newD d s) := by rw [bgF, if_neg hb]
    obtain ⟨h1, h2⟩ := bgGo_sta (bgM d).toNat 0 (newD d s)
    have hb2 := hb
    unfold bgX at hb2
    simp only [Bool.or_eq_true, beq_iff_eq, Bool.not_eq_true', not_or] at hb2
    have ha : abvF s d.1.1.2.1 = true := by simpa using hb2.2.2
    have hg := goF_abv (p := d.1.1) (s := s) ha
    have est : (bgF d s).1.1.2.1 = s := by
      rw [e, h1]
      show (goF d.1.1 s).2.1 = s
      rw [hg]
    rw [est] at hx
    have hss := hx hl
    obtain ⟨k1, k2, k3, k4, k5, k6, k7, _⟩ := cfg_of hk
    have hM : bgM d = c.2.2.2.1 := by
      unfold bgM
      rw [d2, if_neg (by omega)]
    have hI : BgI c s 0 (newD d s) := by
      refine ⟨d2, ?_, ?_, ?_⟩
      · show (goF d.1.1 s).1 = 0
        rw [hg, d1]
        exact h0
      · show (goF d.1.1 s).2.1 = s
        rw [hg]
      · show ∀ q ∈ (goF d.1.1 s).2.2.1, _
        rw [hg]
        exact fun q hq => (List.not_mem_nil hq).elim
    obtain ⟨B, b1, b2, b3⟩ := bgGo_ann hk hss (bgM d).toNat 0 (newD d s) hI (Int.le_refl 0) (by omega)
    have habv : decide (0 < stCmp s k.1.2.1) = true := by
      rw [← abv_cmp, ← ha, d1]
      rfl
    refine ⟨B, by rw [e, b1, ← d4]; rfl, by rw [est]; exact hs, .inl ⟨by rw [est]; exact habv, by omega, ?_, ?_, fun j x hj => ?_⟩⟩
    · rw [e, h2]
      rfl
    · rw [e, h2]
      exact d3
    · have := b3 j x hj
      rw [Int.zero_add] at this
      rw [est]
      exact this
theorem tick_ann {c : Cfg} {k : Cor} {now : Int} (hk : kchkF c = 0) (h0 : k.1.1 = 0) (hK : okK c k) (hh : k.2.2.2.2.2.2.2.1 = false) (hs : 1 ≤ k.1.2.1.2.2.1.length → stChk k.1.2.1 = 0) (hx : 1 ≤ (tickD c k now).1.1.2.1.2.2.1.length → stChk (tickD c k now).1.1.2.1 = 0) :
    annS c k now (tickD c k now).1 (tickD c k now).2.2.2.1 := by
  have bg : ∀ (d : Doe) (s : Sta), tickD c k now = bgF d s → d.1.1 = (pagF c k.1 now).1 → d.2.1 = c → d.2.2.1 = now → d.2.2.2.1 = agPs c k.1 now k.1.2.2.1 → okSt s → 1 ≤ s.2.2.1.length → annS c k now (tickD c k now).1 (tickD c k now).2.2.2.1 := fun d s e d1 d2 d3 d4 os hl => by
    rw [e] at hx ⊢
    exact bgF_ann hk h0 hK.2.2.1 d1 d2 d3 d4 os hl hx
  by_cases a1 : ((k.1.2.1.2.2.1.length : Int) == 0) = true
  · exact bg (tkD c k now) (firstF c) (by rw [tickD, a1, cond_true]) rfl rfl rfl rfl (firstF_st hK.2.2.2.2.2) (cfg_of hk).2.2.2.2.2.2.2
  rw [Bool.not_eq_true] at a1
  have hl : 1 ≤ k.1.2.1.2.2.1.length := by
    have := beq_eq_false_iff_ne.1 a1
    omega
  by_cases a2 : decide (c.2.2.2.2.2.2.1 ≤ sinc k now) = true
  · have e : tickD c k now = endF (tkD c k now) := by rw [tickD, a1, cond_false, a2, cond_true]
    unfold endF at e
    revert e
    cases (decide (0 < ((tkD c k now).1.2.2.2.2.2.1.length : Int)) && (tkD c k now).1.2.2.2.2.2.1.headD false)
    · rw [cond_false]
      cases (((tkD c k now).1.2.1.length : Int) == 0) || (decide (susF (tkD c k now).1.2.2.2.2.1 (tkD c k now).1.2.2.2.2.2.1 < 0) || decide (((tkD c k now).1.1.2.1.2.2.1.length : Int) ≤ susF (tkD c k now).1.2.2.2.2.1 (tkD c k now).1.2.2.2.2.2.1))
      · rw [cond_false]
        exact fun e => bg _ _ e rfl rfl rfl rfl ⟨u64_ok _, u64_ok _⟩ (by rw [List.length_set]; exact hl)
      · rw [cond_true]
        exact fun e => bg _ _ e rfl rfl rfl rfl ⟨hK.2.2.1.1, u64_ok _⟩ hl
    · rw [cond_true]
      exact fun e => bg _ _ e rfl rfl rfl rfl ⟨hK.2.2.1.1, u64_ok _⟩ hl
  rw [Bool.not_eq_true] at a2
  cases a3 : decide (c.2.2.2.2.2.1 ≤ sinc k now) && !k.2.2.2.1
  · have e : tickD c k now = tkD c k now := by rw [tickD, a1, cond_false, a2, cond_false, a3, cond_false]
    rw [e]
    exact ⟨[], (List.append_nil _).symm, hK.2.2.1, .inr ⟨by show decide (0 < stCmp k.1.2.1 k.1.2.1) = false; rw [stCmp_self]; rfl, Nat.zero_le _, fun x hx => (List.not_mem_nil hx).elim⟩⟩
  · have e : tickD c k now = sndD (closD (tkD c k now)) (k.1.2.1.2.2.1.headD 0) cloN := by rw [tickD, a1, cond_false, a2, cond_false, a3, cond_true]
    have hcl : k.2.2.2.1 = false := by
      rw [Bool.and_eq_true] at a3
      simpa using a3.2
    have e2 : (sndD (closD (tkD c k now)) (k.1.2.1.2.2.1.headD 0) cloN).1.1.2.1 = k.1.2.1 := sndD_sta _ _ _
    have e3 : (sndD (closD (tkD c k now)) (k.1.2.1.2.2.1.headD 0) cloN).1.2 = (closD (tkD c k now)).1.2 := sndD_rest _ _ _
    rw [e]
    refine ⟨sndB (closD (tkD c k now)) (k.1.2.1.2.2.1.headD 0) cloN, sndD_out _ _ _, by rw [e2]; exact hK.2.2.1, .inr ⟨by rw [e2, stCmp_self]; rfl, sndB_len _ _ _, fun x hx => ?_⟩⟩
    obtain ⟨m1, m2⟩ := sndB_mem (d := closD (tkD c k now)) h0 hx
    rw [cloN_b] at m2
    refine ⟨by rw [e2]; exact m2, hcl, by rw [e3]; rfl, fun y hy => ?_⟩
    rw [e2] at hy
    rw [m1, headD_of hy]
end DoorU
def S_ncut : Spec := ⟨.pair vY (.pair nI .unit), .pair (.tup (.pair vY (.pair vY (.pair .bool .unit)))) .unit, fun (x : List Int × Int × Unit) => 0 ≤ x.2.1, fun (x : List Int × Int × Unit) => ((ncutF x.1 x.2.1, ()) : (List Int × List Int × Bool × Unit) × Unit)⟩
def S_tnum : Spec := ⟨.pair vY .unit, .pair (.tup (.pair nI (.pair vY (.pair .bool .unit)))) .unit, fun (x : List Int × Unit) => byt x.1, fun (x : List Int × Unit) => ((tnumF x.1, ()) : (Int × List Int × Bool × Unit) × Unit)⟩
def S_tpts : Spec := ⟨.pair vY .unit, .pair (.tup (.pair vYs (.pair vY (.pair .bool .unit)))) .unit, fun (x : List Int × Unit) => x.1 = [0, 0], fun (x : List Int × Unit) => ((tpZ, ()) : (List (List Int) × List Int × Bool × Unit) × Unit)⟩
def A_tpts (x : List Int × Unit) : Nat → Option LA
  | 0 => some ⟨[21, 2, 3], [(2, tYs, 22)], .pair nI (.pair oYs (.pair vY .unit)), fun (v : Int × List (List Int) × List Int × Unit) => v.1 = 0 ∧ v.2.1 = [] ∧ v.2.2.1 = [], fun (v : Int × List (List Int) × List Int × Unit) => 0⟩
  | _ => none
def S_ntake : Spec := ⟨.pair vY .unit, .pair (.tup (.pair (.agg (shOf false tNo)) (.pair nI .unit))) .unit, fun (x : List Int × Unit) => x.1 = [1, 0, 0] ∨ x.1 = [2, 0, 0], fun (x : List Int × Unit) => ((ntZ x.1, ()) : (Nte × Int × Unit) × Unit)⟩
def S_cann : Spec := ⟨.pair vCf (.pair vCo (.pair nI .unit)), .pair .bool .unit, fun (x : Cfg × Cor × Int × Unit) => okK x.1 x.2.1, fun _ => ((true, ()) : Bool × Unit)⟩
def A_cann (x : Cfg × Cor × Int × Unit) : Nat → Option LA
  | 0 => some ⟨[75, 10, 11], [], .pair nI (.pair nI (.pair nI .unit)), fun (v : Int × Int × Int × Unit) => 0 ≤ v.1 ∧ v.1 ≤ ((tickF x.1 x.2.1 x.2.2.1).2.1.length : Nat) ∧ v.2.1 = annA (anB x.1 x.2.1 x.2.2.1) (v.1 - (nAg x.1 x.2.1 x.2.2.1 : Nat)) ∧ v.2.2.1 = annA (!anB x.1 x.2.1 x.2.2.1) (v.1 - (nAg x.1 x.2.1 x.2.2.1 : Nat)), fun (v : Int × Int × Int × Unit) => (((tickF x.1 x.2.1 x.2.2.1).2.1.length : Nat) - v.1).toNat⟩
  | _ => none

theorem vc_ncut : VC Tryd.prog Tryd.f75 (bodyOf Tryd.f75) S_ncut [] (fun _ _ => none) = (∀ (x : List Int × Int × Unit), (0 : Int) ≤ x.snd.fst →
  List.length x.fst ≤ (9223372036854775807 : Nat) →
  List.length x.fst ≤ (9223372036854775807 : Nat) →
  bif decide ((↑(List.length x.fst) : Int) < x.snd.fst) then (([], [], false, ()), ()) = (ncutF x.fst x.snd.fst, ()) else (0 : Int) ≤ x.snd.fst ∧ x.snd.fst ≤ x.snd.fst ∧ x.snd.fst ≤ (↑(List.length x.fst) : Int) ∧ (0 : Int) ≤ x.snd.fst ∧ x.snd.fst ≤ (↑(List.length x.fst) : Int) ∧ (↑(List.length x.fst) : Int) ≤ (↑(List.length x.fst) : Int) ∧ ((List.take (Int.toNat x.snd.fst) x.fst, List.take (Int.toNat (↑(List.length x.fst) : Int) - Int.toNat x.snd.fst) (List.drop (Int.toNat x.snd.fst) x.fst), true, ()), ()) = (ncutF x.fst x.snd.fst, ())) := by kernel_rfl
theorem en_ncut (us : Array Value) (u : World) : (callFunc 75 us).run Tryd.prog u = .ok (.enter 75 us) u := by kernel_rfl
theorem sc_ncut : SC Tryd.prog 75 S_ncut := by
  refine SC.of Tryd.func75 (c := bodyOf Tryd.f75) (by kernel_rfl) (by kernel_rfl) (fun x => (by decide : (2:Nat) ≤ Tryd.f75.ntmps)) DOk.nil (Eq.mpr vc_ncut ?_)
  rintro ⟨b, n, ⟨⟩⟩ h0 - -
  dsimp only at h0 ⊢
  by_cases h : (b.length : Int) < n
  · rw [decide_eq_true h, cond_true, ncutF, decide_eq_true h, cond_true]
  · rw [decide_eq_false h, cond_false, ncutF, decide_eq_false h, cond_false, dropU]
    exact ⟨h0, Int.le_refl _, by omega, h0, by omega, Int.le_refl _, rfl⟩

theorem vc_tnum : VC Tryd.prog Tryd.f108 (bodyOf Tryd.f108) S_tnum [(75, S_ncut), (96, S_get)] (fun _ _ => none) = (∀ (x : List Int × Unit), (∀ (x_1 : Int), x_1 ∈ x.fst →
  (0 : Int) ≤ x_1 ∧ x_1 < (256 : Int)) →
  List.length x.fst ≤ (9223372036854775807 : Nat) →
  (0 : Int) ≤ (2 : Int) ∧ bif !(ncutF x.fst (2 : Int)).snd.snd.fst then (((0 : Int), [], false, ()), ()) = (tnumF x.fst, ()) else (∀ (x_1 : Int), x_1 ∈ (ncutF x.fst (2 : Int)).fst →
  (0 : Int) ≤ x_1 ∧ x_1 < (256 : Int)) ∧ ((IntKind.wrap IntKind.i64 (getR (ncutF x.fst (2 : Int)).fst), (ncutF x.fst (2 : Int)).snd.fst, true, ()), ()) = (tnumF x.fst, ())) := by kernel_rfl
theorem en_tnum (us : Array Value) (u : World) : (callFunc 108 us).run Tryd.prog u = .ok (.enter 108 us) u := by kernel_rfl
theorem sc_tnum : SC Tryd.prog 108 S_tnum := by
  refine SC.of Tryd.func108 (c := bodyOf Tryd.f108) (by kernel_rfl) (by kernel_rfl) (fun x => (by decide : (1:Nat) ≤ Tryd.f108.ntmps)) (DOk.cons sc_ncut en_ncut (DOk.cons sc_get en_get DOk.nil)) (Eq.mpr vc_tnum ?_)
  rintro ⟨b, ⟨⟩⟩ h -
  dsimp only at h ⊢
  refine ⟨by decide, ?_⟩
  by_cases c : (b.length : Int) < 2
  · have e : ncutF b 2 = ([], [], false, ()) := by rw [ncutF, decide_eq_true c, cond_true]
    rw [e, tnumF, decide_eq_true c, cond_true]
    rfl
  · have e : ncutF b 2 = (b.take 2, b.drop 2, true, ()) := by
      rw [ncutF, decide_eq_false c, cond_false]
      rfl
    rw [e, tnumF, decide_eq_false c, cond_false]
    exact ⟨byt_take h 2, rfl⟩

theorem vc_tpts : VC Tryd.prog Tryd.f76 (bodyOf Tryd.f76) S_tpts [(108, S_tnum), (75, S_ncut), (55, S_bcl)] A_tpts = (∀ (x : List Int × Unit), x.fst = [(0 : Int), (0 : Int)] →
  List.length x.fst ≤ (9223372036854775807 : Nat) →
  (∀ (x_1 : Int), x_1 ∈ x.fst →
  (0 : Int) ≤ x_1 ∧ x_1 < (256 : Int)) ∧ bif !(tnumF x.fst).snd.snd.fst then (([], [], false, ()), ()) = (tpZ, ()) else bif decide ((64 : Int) < (tnumF x.fst).fst) then (([], [], false, ()), ()) = (tpZ, ()) else ((0 : Int) = (0 : Int) ∧ ([] : List (List Int)) = [] ∧ (tnumF x.fst).snd.fst = []) ∧ ∀ (v : Int × List (List Int) × List Int × Unit), v.fst = (0 : Int) ∧ v.snd.fst = [] ∧ v.snd.snd.fst = [] →
  bif decide (v.fst < (tnumF x.fst).fst) then (∀ (x : Int), x ∈ v.snd.snd.fst →
  (0 : Int) ≤ x ∧ x < (256 : Int)) ∧ bif !(tnumF v.snd.snd.fst).snd.snd.fst then (([], [], false, ()), ()) = (tpZ, ()) else bif decide ((1024 : Int) < (tnumF v.snd.snd.fst).fst) then (([], [], false, ()), ()) = (tpZ, ()) else (0 : Int) ≤ (tnumF v.snd.snd.fst).fst ∧ bif !(ncutF (tnumF v.snd.snd.fst).snd.fst (tnumF v.snd.snd.fst).fst).snd.snd.fst then (([], [], false, ()), ()) = (tpZ, ()) else List.length (ncutF (tnumF v.snd.snd.fst).snd.fst (tnumF v.snd.snd.fst).fst).fst ≤ (1000000000000 : Nat) ∧ (List.length v.snd.fst + List.length [(ncutF (tnumF v.snd.snd.fst).snd.fst (tnumF v.snd.snd.fst).fst).fst]) * (24 : Nat) ≤ (140737488351232 : Nat) ∧ (IntKind.wrap IntKind.i64 (v.fst + (1 : Int)) = (0 : Int) ∧ v.snd.fst ++ [(ncutF (tnumF v.snd.snd.fst).snd.fst (tnumF v.snd.snd.fst).fst).fst] = [] ∧ (ncutF (tnumF v.snd.snd.fst).snd.fst (tnumF v.snd.snd.fst).fst).snd.fst = []) ∧ (0 : Nat) < (0 : Nat) else ((v.snd.fst, v.snd.snd.fst, true, ()), ()) = (tpZ, ())) := by kernel_rfl
theorem en_tpts (us : Array Value) (u : World) : (callFunc 76 us).run Tryd.prog u = .ok (.enter 76 us) u := by kernel_rfl
theorem sc_tpts : SC Tryd.prog 76 S_tpts := by
  refine SC.of Tryd.func76 (c := bodyOf Tryd.f76) (by kernel_rfl) (by kernel_rfl) (fun x => (by decide : (1:Nat) ≤ Tryd.f76.ntmps)) (DOk.cons sc_tnum en_tnum (DOk.cons sc_ncut en_ncut (DOk.cons sc_bcl en_bcl DOk.nil))) (Eq.mpr vc_tpts ?_)
  rintro ⟨b, ⟨⟩⟩ h -
  obtain rfl : b = [0, 0] := h
  have e : tnumF [0, 0] = (0, [], true, ()) := by kernel_rfl
  dsimp only
  rw [e]
  refine ⟨by intro y hy; simp at hy; omega, ?_⟩
  dsimp only
  rw [Bool.not_true, cond_false, show decide ((64 : Int) < 0) = false from rfl, cond_false]
  refine ⟨⟨rfl, rfl, rfl⟩, ?_⟩
  rintro ⟨i, p, r, ⟨⟩⟩ ⟨h1, h2, h3⟩
  dsimp only at h1 h2 h3 ⊢
  subst h1
  subst h2
  subst h3
  rw [show decide ((0 : Int) < 0) = false from rfl, cond_false]
  rfl

theorem vc_ntake : VC Tryd.prog Tryd.f34 (bodyOf Tryd.f34) S_ntake [(75, S_ncut), (76, S_tpts), (77, S_nchk)] (fun _ _ => none) = (∀ (x : List Int × Unit), x.fst = [(1 : Int), (0 : Int), (0 : Int)] ∨ x.fst = [(2 : Int), (0 : Int), (0 : Int)] →
  List.length x.fst ≤ (9223372036854775807 : Nat) →
  (0 : Int) ≤ (1 : Int) ∧ bif !(ncutF x.fst (1 : Int)).snd.snd.fst then ((((0 : Int), [], (0 : Int), false, ()), (3 : Int), ()), ()) = (ntZ x.fst, ()) else (0 : Int) ≤ (0 : Int) ∧ (0 : Int) < (↑(List.length (ncutF x.fst (1 : Int)).fst) : Int) ∧ ∀ (c0 : Int), (ncutF x.fst (1 : Int)).fst[(0 : Nat)]? = some c0 →
  (ncutF x.fst (1 : Int)).snd.fst = [(0 : Int), (0 : Int)] ∧ bif IntKind.wrap IntKind.i64 c0 == (7 : Int) then List.length ([] : List Int) ≤ (9223372036854775807 : Nat) →
  bif (↑(List.length ([] : List Int)) : Int) != (2 : Int) then ((((0 : Int), [], (0 : Int), false, ()), (3 : Int), ()), ()) = (ntZ x.fst, ()) else (0 : Int) ≤ (1 : Int) ∧ (1 : Int) < (↑(List.length ([] : List Int)) : Int) ∧ ∀ (c0_1 : Int), ([] : List Int)[(1 : Nat)]? = some c0_1 →
  bif decide ((1 : Int) < c0_1) then ((((0 : Int), [], (0 : Int), false, ()), (3 : Int), ()), ()) = (ntZ x.fst, ()) else (0 : Int) ≤ (0 : Int) ∧ (0 : Int) < (↑(List.length ([] : List Int)) : Int) ∧ ∀ (c0_2 : Int), ([] : List Int)[(0 : Nat)]? = some c0_2 →
  (0 : Int) ≤ (1 : Int) ∧ (1 : Int) < (↑(List.length ([] : List Int)) : Int) ∧ ∀ (c0_3 : Int), ([] : List Int)[(1 : Nat)]? = some c0_3 →
  ([] : List (List Int)) = [] ∧ bif nkE (IntKind.wrap IntKind.i64 c0, [], IntKind.wrap IntKind.i64 c0_2, c0_3 == (1 : Int), ()) != (0 : Int) then ((((0 : Int), [], (0 : Int), false, ()), (3 : Int), ()), ()) = (ntZ x.fst, ()) else (((IntKind.wrap IntKind.i64 c0, [], IntKind.wrap IntKind.i64 c0_2, c0_3 == (1 : Int), ()), (0 : Int), ()), ()) = (ntZ x.fst, ()) else List.length ([] : List Int) ≤ (9223372036854775807 : Nat) →
  bif (↑(List.length ([] : List Int)) : Int) != (0 : Int) then ((((0 : Int), [], (0 : Int), false, ()), (3 : Int), ()), ()) = (ntZ x.fst, ()) else ([] : List (List Int)) = [] ∧ bif nkE (IntKind.wrap IntKind.i64 c0, [], (0 : Int), false, ()) != (0 : Int) then ((((0 : Int), [], (0 : Int), false, ()), (3 : Int), ()), ()) = (ntZ x.fst, ()) else (((IntKind.wrap IntKind.i64 c0, [], (0 : Int), false, ()), (0 : Int), ()), ()) = (ntZ x.fst, ())) := by kernel_rfl
theorem en_ntake (us : Array Value) (u : World) : (callFunc 34 us).run Tryd.prog u = .ok (.enter 34 us) u := by kernel_rfl
theorem sc_ntake : SC Tryd.prog 34 S_ntake := by
  refine SC.of Tryd.func34 (c := bodyOf Tryd.f34) (by kernel_rfl) (by kernel_rfl) (fun x => (by decide : (1:Nat) ≤ Tryd.f34.ntmps)) (DOk.cons sc_ncut en_ncut (DOk.cons sc_tpts en_tpts (DOk.cons sc_nchk en_nchk DOk.nil))) (Eq.mpr vc_ntake ?_)
  rintro ⟨b, ⟨⟩⟩ (h | h) -
  · obtain rfl : b = [1, 0, 0] := h
    have e : ncutF [1, 0, 0] 1 = ([1], [0, 0], true, ()) := by kernel_rfl
    have w : IntKind.i64.wrap 1 = 1 := by decide
    dsimp only
    rw [e]
    refine ⟨by decide, ?_⟩
    dsimp only
    rw [Bool.not_true, cond_false]
    refine ⟨Int.le_refl 0, by decide, fun c0 hc0 => ⟨rfl, ?_⟩⟩
    obtain rfl : c0 = 1 := (Option.some.inj hc0).symm
    rw [w, show ((1 : Int) == 7) = false from rfl, cond_false]
    intro _
    rw [show (((([] : List Int).length : Nat) : Int) != 0) = false from rfl, cond_false]
    refine ⟨rfl, ?_⟩
    rw [show nkE (1, [], 0, false, ()) = 0 from by kernel_rfl, show ((0 : Int) != 0) = false from rfl, cond_false]
    rfl
  · obtain rfl : b = [2, 0, 0] := h
    have e : ncutF [2, 0, 0] 1 = ([2], [0, 0], true, ()) := by kernel_rfl
    have w : IntKind.i64.wrap 2 = 2 := by decide
    dsimp only
    rw [e]
    refine ⟨by decide, ?_⟩
    dsimp only
    rw [Bool.not_true, cond_false]
    refine ⟨Int.le_refl 0, by decide, fun c0 hc0 => ⟨rfl, ?_⟩⟩
    obtain rfl : c0 = 2 := (Option.some.inj hc0).symm
    rw [w, show ((2 : Int) == 7) = false from rfl, cond_false]
    intro _
    rw [show (((([] : List Int).length : Nat) : Int) != 0) = false from rfl, cond_false]
    refine ⟨rfl, ?_⟩
    rw [show nkE (2, [], 0, false, ()) = 0 from by kernel_rfl, show ((0 : Int) != 0) = false from rfl, cond_false]
    rfl

def AnLoop (x : Cfg × Cor × Int × Unit) : Prop := (List.length (tickF x.fst x.snd.fst x.snd.snd.fst).snd.fst ≤ (9223372036854775807 : Nat) →
  ((0 : Int) ≤ (0 : Int) ∧ (0 : Int) ≤ (↑(List.length (tickF x.fst x.snd.fst x.snd.snd.fst).snd.fst) : Int) ∧ (0 : Int) = annA (anB x.fst x.snd.fst x.snd.snd.fst) ((0 : Int) - (↑(nAg x.fst x.snd.fst x.snd.snd.fst) : Int)) ∧ (0 : Int) = annA (!anB x.fst x.snd.fst x.snd.snd.fst) ((0 : Int) - (↑(nAg x.fst x.snd.fst x.snd.snd.fst) : Int))) ∧ ∀ (v : Int × Int × Int × Unit), (0 : Int) ≤ v.fst ∧ v.fst ≤ (↑(List.length (tickF x.fst x.snd.fst x.snd.snd.fst).snd.fst) : Int) ∧ v.snd.fst = annA (anB x.fst x.snd.fst x.snd.snd.fst) (v.fst - (↑(nAg x.fst x.snd.fst x.snd.snd.fst) : Int)) ∧ v.snd.snd.fst = annA (!anB x.fst x.snd.fst x.snd.snd.fst) (v.fst - (↑(nAg x.fst x.snd.fst x.snd.snd.fst) : Int)) →
  bif decide (v.fst < (↑(List.length (tickF x.fst x.snd.fst x.snd.snd.fst).snd.fst) : Int)) then (0 : Int) ≤ v.fst ∧ v.fst < (↑(List.length (tickF x.fst x.snd.fst x.snd.snd.fst).snd.fst) : Int) ∧ ∀ (c0 : Int × List Int × Bool × Unit), (tickF x.fst x.snd.fst x.snd.snd.fst).snd.fst[Int.toNat v.fst]? = some c0 →
  bif !c0.snd.snd.fst then ((0 : Int) ≤ IntKind.wrap IntKind.i64 (v.fst + (1 : Int)) ∧ IntKind.wrap IntKind.i64 (v.fst + (1 : Int)) ≤ (↑(List.length (tickF x.fst x.snd.fst x.snd.snd.fst).snd.fst) : Int) ∧ v.snd.fst = annA (anB x.fst x.snd.fst x.snd.snd.fst) (IntKind.wrap IntKind.i64 (v.fst + (1 : Int)) - (↑(nAg x.fst x.snd.fst x.snd.snd.fst) : Int)) ∧ v.snd.snd.fst = annA (!anB x.fst x.snd.fst x.snd.snd.fst) (IntKind.wrap IntKind.i64 (v.fst + (1 : Int)) - (↑(nAg x.fst x.snd.fst x.snd.snd.fst) : Int))) ∧ Int.toNat ((↑(List.length (tickF x.fst x.snd.fst x.snd.snd.fst).snd.fst) : Int) - IntKind.wrap IntKind.i64 (v.fst + (1 : Int))) < Int.toNat ((↑(List.length (tickF x.fst x.snd.fst x.snd.snd.fst).snd.fst) : Int) - v.fst) else List.length x.fst.fst ≤ (1000000000 : Nat) ∧ (List.length (pairF x.fst (0 : Int) c0.fst) ≤ (1000000000 : Nat) ∧ List.length c0.snd.fst ≤ (100000000 : Nat) ∧ ∀ (x : Int), x ∈ c0.snd.fst →
  (0 : Int) ≤ x ∧ x < (256 : Int)) ∧ ((frTkF (pairF x.fst (0 : Int) c0.fst) c0.snd.fst).snd.snd.snd.snd.snd.fst = [(1 : Int), (0 : Int), (0 : Int)] ∨ (frTkF (pairF x.fst (0 : Int) c0.fst) c0.snd.fst).snd.snd.snd.snd.snd.fst = [(2 : Int), (0 : Int), (0 : Int)]) ∧ bif frTkE (pairF x.fst (0 : Int) c0.fst) c0.snd.fst != (0 : Int) then (false, ()) = (true, ()) else bif (0 : Int) != (0 : Int) then (false, ()) = (true, ()) else True ∧ bif !stSame (frTkF (pairF x.fst (0 : Int) c0.fst) c0.snd.fst).snd.snd.fst (tickF x.fst x.snd.fst x.snd.snd.fst).fst.fst.snd.fst then (false, ()) = (true, ()) else bif List.getD (frTkF (pairF x.fst (0 : Int) c0.fst) c0.snd.fst).snd.snd.snd.snd.snd.fst (0 : Nat) (0 : Int) == (1 : Int) then True ∧ bif c0.fst != nodeF x.fst v.snd.fst then (false, ()) = (true, ()) else bif !decide ((0 : Int) < stCmp (tickF x.fst x.snd.fst x.snd.snd.fst).fst.fst.snd.fst x.snd.fst.fst.snd.fst) then (false, ()) = (true, ()) else ((0 : Int) ≤ IntKind.wrap IntKind.i64 (v.fst + (1 : Int)) ∧ IntKind.wrap IntKind.i64 (v.fst + (1 : Int)) ≤ (↑(List.length (tickF x.fst x.snd.fst x.snd.snd.fst).snd.fst) : Int) ∧ IntKind.wrap IntKind.i64 (v.snd.fst + (1 : Int)) = annA (anB x.fst x.snd.fst x.snd.snd.fst) (IntKind.wrap IntKind.i64 (v.fst + (1 : Int)) - (↑(nAg x.fst x.snd.fst x.snd.snd.fst) : Int)) ∧ v.snd.snd.fst = annA (!anB x.fst x.snd.fst x.snd.snd.fst) (IntKind.wrap IntKind.i64 (v.fst + (1 : Int)) - (↑(nAg x.fst x.snd.fst x.snd.snd.fst) : Int))) ∧ Int.toNat ((↑(List.length (tickF x.fst x.snd.fst x.snd.snd.fst).snd.fst) : Int) - IntKind.wrap IntKind.i64 (v.fst + (1 : Int))) < Int.toNat ((↑(List.length (tickF x.fst x.snd.fst x.snd.snd.fst).snd.fst) : Int) - v.fst) else bif List.getD (frTkF (pairF x.fst (0 : Int) c0.fst) c0.snd.fst).snd.snd.snd.snd.snd.fst (0 : Nat) (0 : Int) == (2 : Int) then bif decide ((0 : Int) < stCmp (tickF x.fst x.snd.fst x.snd.snd.fst).fst.fst.snd.fst x.snd.fst.fst.snd.fst) then (false, ()) = (true, ()) else bif x.snd.fst.snd.snd.snd.fst then (false, ()) = (true, ()) else bif !(tickF x.fst x.snd.fst x.snd.snd.fst).fst.snd.snd.snd.fst then (false, ()) = (true, ()) else (0 : Int) ≤ (0 : Int) ∧ (0 : Int) < (↑(List.length (tickF x.fst x.snd.fst x.snd.snd.fst).fst.fst.snd.fst.snd.snd.fst) : Int) ∧ ∀ (c0_1 : Int), (tickF x.fst x.snd.fst x.snd.snd.fst).fst.fst.snd.fst.snd.snd.fst[(0 : Nat)]? = some c0_1 →
  bif c0.fst != c0_1 then (false, ()) = (true, ()) else ((0 : Int) ≤ IntKind.wrap IntKind.i64 (v.fst + (1 : Int)) ∧ IntKind.wrap IntKind.i64 (v.fst + (1 : Int)) ≤ (↑(List.length (tickF x.fst x.snd.fst x.snd.snd.fst).snd.fst) : Int) ∧ v.snd.fst = annA (anB x.fst x.snd.fst x.snd.snd.fst) (IntKind.wrap IntKind.i64 (v.fst + (1 : Int)) - (↑(nAg x.fst x.snd.fst x.snd.snd.fst) : Int)) ∧ IntKind.wrap IntKind.i64 (v.snd.snd.fst + (1 : Int)) = annA (!anB x.fst x.snd.fst x.snd.snd.fst) (IntKind.wrap IntKind.i64 (v.fst + (1 : Int)) - (↑(nAg x.fst x.snd.fst x.snd.snd.fst) : Int))) ∧ Int.toNat ((↑(List.length (tickF x.fst x.snd.fst x.snd.snd.fst).snd.fst) : Int) - IntKind.wrap IntKind.i64 (v.fst + (1 : Int))) < Int.toNat ((↑(List.length (tickF x.fst x.snd.fst x.snd.snd.fst).snd.fst) : Int) - v.fst) else (false, ()) = (true, ()) else bif decide ((0 : Int) < stCmp (tickF x.fst x.snd.fst x.snd.snd.fst).fst.fst.snd.fst x.snd.fst.fst.snd.fst) then bif v.snd.fst == x.fst.snd.snd.snd.fst then bif v.snd.snd.fst == (0 : Int) then bif !(tickF x.fst x.snd.fst x.snd.snd.fst).fst.snd.snd.snd.fst then ((tickF x.fst x.snd.fst x.snd.snd.fst).fst.snd.snd.fst == x.snd.snd.fst, ()) = (true, ()) else (false, ()) = (true, ()) else (false, ()) = (true, ()) else (false, ()) = (true, ()) else bif v.snd.fst == (0 : Int) then (decide (v.snd.snd.fst ≤ (1 : Int)), ()) = (true, ()) else (false, ()) = (true, ()))

theorem annA_0 {b : Bool} {n : Int} (h : n ≤ 0) : annA b n = 0 := by
  unfold annA
  cases b
  · rfl
  · rw [cond_true]
    by_cases g : 0 ≤ n
    · rw [decide_eq_true g, cond_true]; omega
    · rw [decide_eq_false g, cond_false]
theorem annA_t {n : Int} (h : 0 ≤ n) : annA true n = n := by
  unfold annA
  rw [cond_true, decide_eq_true h, cond_true]
theorem anLoop_ok {c : Cfg} {k : Cor} {now : Int} (hc : c.1.length ≤ 1000000000) (B A : List Par) (b1 : (tickF c k now).2.1 = A ++ B) (b2 : A.length = nAg c k now) (b3 : ∀ x ∈ A, x.2.2.1 = false) (b4 : okSt (tickF c k now).1.1.2.1)
    (b5 : (decide (0 < stCmp (tickF c k now).1.1.2.1 k.1.2.1) = true ∧ (B.length : Int) = c.2.2.2.1 ∧ (tickF c k now).1.2.2.2.1 = false ∧ (tickF c k now).1.2.2.1 = now ∧ ∀ (j : Nat) (x : Par), B[j]? = some x → x.1 = nodeF c j ∧ annX c (tickF c k now).1.1.2.1 [1, 0, 0] x) ∨
   (decide (0 < stCmp (tickF c k now).1.1.2.1 k.1.2.1) = false ∧ B.length ≤ 1 ∧ ∀ x ∈ B, annX c (tickF c k now).1.1.2.1 [2, 0, 0] x ∧ k.2.2.2.1 = false ∧ (tickF c k now).1.2.2.2.1 = true ∧ ∀ y, (tickF c k now).1.1.2.1.2.2.1[0]? = some y → x.1 = y)) : AnLoop (c, k, now, ()) := by
  unfold AnLoop
  dsimp only
  have hA : anB c k now = decide (0 < stCmp (tickF c k now).1.1.2.1 k.1.2.1) := rfl
  rw [hA]
  generalize hT : tickF c k now = T at *
  generalize hn : nAg c k now = N at *
  clear hA
  have bl : T.2.1.length = N + B.length := by rw [b1, List.length_append, b2]
  intro hlen
  refine ⟨⟨Int.le_refl 0, by omega, (annA_0 (by omega)).symm, (annA_0 (by omega)).symm⟩, ?_⟩
  rintro ⟨i, a, z, ⟨⟩⟩ ⟨q0, q1, qa, qz⟩
  dsimp only at q0 q1 qa qz ⊢
  have wi : i < (T.2.1.length : Int) → IntKind.i64.wrap (i + 1) = i + 1 := fun _ => IntWalk.i64_in _ (by omega)
  by_cases hi : i < (T.2.1.length : Int)
  · rw [decide_eq_true hi, cond_true, wi hi]
    refine ⟨q0, hi, fun x hx => ?_⟩
    rw [b1] at hx
    by_cases ho : i.toNat < N
    · rw [List.getElem?_append_left (by omega)] at hx
      rw [b3 x (List.mem_of_getElem? hx), Bool.not_false, cond_true]
      exact ⟨⟨by omega, by omega, by rw [qa, annA_0 (by omega), annA_0 (by omega)], by rw [qz, annA_0 (by omega), annA_0 (by omega)]⟩, by omega⟩
    · rw [List.getElem?_append_right (by omega), b2] at hx
      rcases b5 with ⟨d1, d2, d3, d4, d5⟩ | ⟨d1, d2, d3⟩
      · obtain ⟨x1, q, x2, x3⟩ := d5 _ x hx
        have xb : x.2.1 = _ := congrArg (fun p : Par => p.2.1) x2
        have xf : x.2.2.1 = true := congrArg (fun p : Par => p.2.2.1) x2
        obtain ⟨t1, t2⟩ := frTk_put (pairF c 0 x.1) x3 b4
        dsimp only at xb
        have hb : byt x.2.1 := by rw [xb]; exact frPutF_byt _ (by intro y hy; simp at hy; rcases hy with rfl | rfl <;> omega)
        have hl : x.2.1.length ≤ 100000000 := by
          have s8 := (okS_len (stChk_0 (frChk_0 x3).2.2.2.2.2.1)).2
          rw [xb, frPutF_len _ x3]
          dsimp only at s8 ⊢
          rw [show ([1, 0, 0] : List Int).length = 3 from rfl]
          omega
        rw [← xb] at t1 t2
        rw [xf, Bool.not_true, cond_false, t1, t2]
        dsimp only
        have ea : a = i - N := by rw [qa, d1, annA_t (by omega)]
        have ez : z = 0 := by rw [qz, d1]; rfl
        have wa : IntKind.i64.wrap (a + 1) = a + 1 := IntWalk.i64_in _ (by omega)
        refine ⟨hc, ⟨by rw [pairF_len]; omega, hl, hb⟩, .inl rfl, ?_⟩
        rw [bneF rfl, cond_false]
        refine ⟨trivial, ?_⟩
        rw [st_refl, Bool.not_true, cond_false, show (([1, 0, 0] : List Int).getD 0 0 == 1) = true from rfl, cond_true]
        refine ⟨trivial, ?_⟩
        rw [bneF (by rw [x1, ea, show ((i.toNat - N : Nat) : Int) = i - N by omega]), cond_false, d1, Bool.not_true, cond_false, wa]
        exact ⟨⟨by omega, by omega, by rw [annA_t (by omega)]; omega, by rw [ez]; rfl⟩, by omega⟩
      · obtain ⟨⟨q, x2, x3⟩, e1, e2, e3⟩ := d3 x (List.mem_of_getElem? hx)
        have xb : x.2.1 = _ := congrArg (fun p : Par => p.2.1) x2
        have xf : x.2.2.1 = true := congrArg (fun p : Par => p.2.2.1) x2
        obtain ⟨t1, t2⟩ := frTk_put (pairF c 0 x.1) x3 b4
        dsimp only at xb
        have s8 := okS_len (stChk_0 (frChk_0 x3).2.2.2.2.2.1)
        dsimp only at s8
        have hb : byt x.2.1 := by rw [xb]; exact frPutF_byt _ (by intro y hy; simp at hy; rcases hy with rfl | rfl <;> omega)
        have hl : x.2.1.length ≤ 100000000 := by
          rw [xb, frPutF_len _ x3]
          dsimp only
          rw [show ([2, 0, 0] : List Int).length = 3 from rfl]
          omega
        rw [← xb] at t1 t2
        rw [xf, Bool.not_true, cond_false, t1, t2]
        dsimp only
        have ea : a = 0 := by rw [qa, d1]; rfl
        have ez : z = i - N := by rw [qz, d1]; exact annA_t (by omega)
        have wz : IntKind.i64.wrap (z + 1) = z + 1 := IntWalk.i64_in _ (by omega)
        refine ⟨hc, ⟨by rw [pairF_len]; omega, hl, hb⟩, .inr rfl, ?_⟩
        rw [bneF rfl, cond_false]
        refine ⟨trivial, ?_⟩
        rw [st_refl, Bool.not_true, cond_false, show (([2, 0, 0] : List Int).getD 0 0 == 1) = false from rfl, cond_false, show (([2, 0, 0] : List Int).getD 0 0 == 2) = true from rfl, cond_true, d1, cond_false, e1, cond_false, e2, Bool.not_true, cond_false]
        refine ⟨Int.le_refl 0, by omega, fun y hy => ?_⟩
        rw [bneF (e3 y hy), cond_false, wz]
        exact ⟨⟨by omega, by omega, by rw [ea]; rfl, by show _ = annA true _; rw [annA_t (by omega)]; omega⟩, by omega⟩
  · rw [decide_eq_false hi, cond_false]
    rcases b5 with ⟨d1, d2, d3, d4, d5⟩ | ⟨d1, d2, d3⟩
    · have ea : a = c.2.2.2.1 := by rw [qa, d1, annA_t (by omega)]; omega
      have ez : z = 0 := by rw [qz, d1]; rfl
      rw [d1, cond_true, beq_iff_eq.2 ea, cond_true, beq_iff_eq.2 ez, cond_true, d3, Bool.not_false, cond_true, beq_iff_eq.2 d4]
    · have ea : a = 0 := by rw [qa, d1]; rfl
      have ez : z = B.length := by
        rw [qz, d1]
        show annA true _ = _
        rw [annA_t (by omega)]
        omega
      rw [d1, cond_false, beq_iff_eq.2 ea, cond_true, decide_eq_true (by omega)]

theorem vc_cann : VC Tryd.prog Tryd.f9 (bodyOf Tryd.f9) S_cann [(22, S_live), (30, S_may20), (33, S_schk), (31, S_tick), (17, S_scmp), (14, S_pair), (19, S_ftake), (34, S_ntake), (18, S_ssame), (35, S_node)] A_cann = (∀ (x : (List Int × Int × Int × Int × Int × Int × Int × Int × Int × Int × Int × Unit) × ((Int × (Int × Int × List Int × Unit) × List (Int × (Int × List (Int × List Int × Int × Unit) × List (List Int) × Unit) × (Int × List (Int × List Int × Int × Unit) × Unit) × Unit) × Unit) × List Int × Int × Bool × List Bool × List Bool × Bool × Bool × Unit) × Int × Unit), okK x.fst x.snd.fst →
  List.length x.fst.fst ≤ (9223372036854775807 : Nat) →
  List.length x.snd.fst.fst.snd.fst.snd.snd.fst ≤ (9223372036854775807 : Nat) →
  List.length x.snd.fst.fst.snd.snd.fst ≤ (9223372036854775807 : Nat) →
  List.length x.snd.fst.snd.fst ≤ (9223372036854775807 : Nat) →
  List.length x.snd.fst.snd.snd.snd.snd.fst ≤ (9223372036854775807 : Nat) →
  List.length x.snd.fst.snd.snd.snd.snd.snd.fst ≤ (9223372036854775807 : Nat) →
  True ∧ okPo x.snd.fst.fst ∧ bif !mayK x.fst x.snd.fst then (true, ()) = (true, ()) else bif x.snd.fst.fst.fst != (0 : Int) then (true, ()) = (true, ()) else List.length x.snd.fst.fst.snd.fst.snd.snd.fst ≤ (9223372036854775807 : Nat) →
  bif decide ((0 : Int) < (↑(List.length x.snd.fst.fst.snd.fst.snd.snd.fst) : Int)) then True ∧ bif stChk x.snd.fst.fst.snd.fst != (0 : Int) then (true, ()) = (true, ()) else (x.snd.fst.snd.snd.snd.snd.snd.snd.snd.fst = false →
  okK x.fst x.snd.fst) ∧ (List.length (tickF x.fst x.snd.fst x.snd.snd.fst).fst.fst.snd.fst.snd.snd.fst ≤ (9223372036854775807 : Nat) →
  bif decide ((0 : Int) < (↑(List.length (tickF x.fst x.snd.fst x.snd.snd.fst).fst.fst.snd.fst.snd.snd.fst) : Int)) then True ∧ bif stChk (tickF x.fst x.snd.fst x.snd.snd.fst).fst.fst.snd.fst != (0 : Int) then (true, ()) = (true, ()) else True ∧ AnLoop x else True ∧ AnLoop x) else (x.snd.fst.snd.snd.snd.snd.snd.snd.snd.fst = false →
  okK x.fst x.snd.fst) ∧ (List.length (tickF x.fst x.snd.fst x.snd.snd.fst).fst.fst.snd.fst.snd.snd.fst ≤ (9223372036854775807 : Nat) →
  bif decide ((0 : Int) < (↑(List.length (tickF x.fst x.snd.fst x.snd.snd.fst).fst.fst.snd.fst.snd.snd.fst) : Int)) then True ∧ bif stChk (tickF x.fst x.snd.fst x.snd.snd.fst).fst.fst.snd.fst != (0 : Int) then (true, ()) = (true, ()) else True ∧ AnLoop x else True ∧ AnLoop x)) := by kernel_rfl
theorem en_cann (us : Array Value) (u : World) : (callFunc 9 us).run Tryd.prog u = .ok (.enter 9 us) u := by kernel_rfl
theorem sc_cann : SC Tryd.prog 9 S_cann := by
  refine SC.of Tryd.func9 (c := bodyOf Tryd.f9) (by kernel_rfl) (by kernel_rfl) (fun x => (by decide : (3:Nat) ≤ Tryd.f9.ntmps)) (DOk.cons sc_live20 en_live20 (DOk.cons sc_may20 en_may20 (DOk.cons sc_schk en_schk (DOk.cons sc_tick en_tick (DOk.cons sc_scmp en_scmp (DOk.cons sc_pair en_pair (DOk.cons sc_ftake en_ftake (DOk.cons sc_ntake en_ntake (DOk.cons sc_ssame en_ssame (DOk.cons sc_node en_node DOk.nil)))))))))) (Eq.mpr vc_cann ?_)
  rintro ⟨c, k, now, ⟨⟩⟩ hK - - - - - -
  dsimp only at hK ⊢
  refine ⟨trivial, hK.2.1, ?_⟩
  cases hm : mayK c k
  · rfl
  rw [Bool.not_true, cond_false]
  have hk : kchkF c = 0 := by
    unfold mayK at hm
    rw [Bool.and_eq_true] at hm
    exact eq_of_beq hm.1
  by_cases a0 : k.1.1 = 0
  rotate_left 1
  · rw [bneT a0, cond_true]
  rw [bneF a0, cond_false]
  intro _
  have L : (1 ≤ k.1.2.1.2.2.1.length → stChk k.1.2.1 = 0) → (1 ≤ (tickF c k now).1.1.2.1.2.2.1.length → stChk (tickF c k now).1.1.2.1 = 0) → AnLoop (c, k, now, ()) := fun p1 p2 => by
    cases hh : k.2.2.2.2.2.2.2.1
    · have hT : tickF c k now = ((tickD c k now).1, (tickD c k now).2.2.2.1, ()) := by rw [tickF, hh, cond_false]
      rw [hT] at p2
      obtain ⟨B, r1, r2, r3⟩ := tick_ann hk a0 hK hh p1 p2
      refine anLoop_ok hK.1 B (agPs c k.1 now k.1.2.2.1) (by rw [hT]; exact r1) (by unfold nAg; rw [hh]; rfl) (fun x hx => agPs_old hx) (by rw [hT]; exact r2) (by rw [hT]; exact r3)
    · have hT : tickF c k now = (k, [], ()) := by rw [tickF, hh, cond_true]
      refine anLoop_ok hK.1 [] [] (by rw [hT]; rfl) (by unfold nAg; rw [hh]; rfl) (fun x hx => (List.not_mem_nil hx).elim) (by rw [hT]; exact hK.2.2.1) (.inr ⟨by rw [hT, stCmp_self]; rfl, Nat.zero_le _, fun x hx => (List.not_mem_nil hx).elim⟩)
  by_cases b1 : 0 < ((k.1.2.1.2.2.1.length : Nat) : Int)
  · rw [decide_eq_true b1, cond_true]
    refine ⟨trivial, ?_⟩
    by_cases b2 : stChk k.1.2.1 = 0
    · rw [bneF b2, cond_false]
      have p1 : 1 ≤ k.1.2.1.2.2.1.length → stChk k.1.2.1 = 0 := fun _ => b2
      refine ⟨fun _ => hK, fun _ => ?_⟩
      by_cases b3 : 0 < (((tickF c k now).1.1.2.1.2.2.1.length : Nat) : Int)
      · rw [decide_eq_true b3, cond_true]
        refine ⟨trivial, ?_⟩
        by_cases b4 : stChk (tickF c k now).1.1.2.1 = 0
        · rw [bneF b4, cond_false]
          exact ⟨trivial, L p1 fun _ => b4⟩
        · rw [bneT b4, cond_true]
      · rw [decide_eq_false b3, cond_false]
        exact ⟨trivial, L p1 fun h => absurd h (by omega)⟩
    · rw [bneT b2, cond_true]
  · rw [decide_eq_false b1, cond_false]
    have p1 : 1 ≤ k.1.2.1.2.2.1.length → stChk k.1.2.1 = 0 := fun h => absurd h (by omega)
    refine ⟨fun _ => hK, fun _ => ?_⟩
    by_cases b3 : 0 < (((tickF c k now).1.1.2.1.2.2.1.length : Nat) : Int)
    · rw [decide_eq_true b3, cond_true]
      refine ⟨trivial, ?_⟩
      by_cases b4 : stChk (tickF c k now).1.1.2.1 = 0
      · rw [bneF b4, cond_false]
        exact ⟨trivial, L p1 fun _ => b4⟩
      · rw [bneT b4, cond_true]
    · rw [decide_eq_false b3, cond_false]
      exact ⟨trivial, L p1 fun h => absurd h (by omega)⟩
end Go.Proofs.YtjkbkhjalimebaaDoor
