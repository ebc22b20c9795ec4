/- The words of link.Again and post.Again. Printed by gen.py. -/
/- When posts are the same, by the references; the law PostForged. Printed by gen.py. -/
/- Two ends of a link: what is told of it by the bodies that were said. No program in sight. -/
/- The words of PostPair: put, step, the law. Printed by gen.py. -/
/- The law PostPair. Printed by gen.py. -/
/- What the bulk bounds, for PostPair. -/
import Derived.Test.YtjkbkhjalimebaaDoorPL
import Derived.Test.YtjkbkhjalimebaaDoorPV
namespace Go.Proofs.YtjkbkhjalimebaaDoor
open Go.RowKit DoorU
set_option linter.unusedVariables false
set_option linter.unusedSimpArgs false
set_option maxRecDepth 100000
set_option maxHeartbeats 1000000

namespace DoorU
def agU (after now : Int) (x : Itm) : Itm := if after ≤ i64 (now - x.2.2.1) then (x.1, x.2.1, now, ()) else x
def agT (after now : Int) (l : List Itm) : List Itm := (l.filter fun x => decide (after ≤ i64 (now - x.2.2.1))).map fun x => (x.1, x.2.1, now, ())
def agnF (o : Ouq) (after now : Int) : Ouq × List Itm × Unit := ((o.1, o.2.1.map (agU after now), o.2.2.1, ()), agT after now o.2.1, ())
def agaC (c : Cfg) : Int := c.2.2.2.2.2.2.2.1
def agPe (c : Cfg) (now : Int) (q : Pee) : Pee := (q.1, (agnF q.2.1 (agaC c) now).1, q.2.2.1, ())
def agPs (c : Cfg) (p : Pos) (now : Int) (l : List Pee) : List Par := l.flatMap fun q => iparF c p q.1 (agnF q.2.1 (agaC c) now).2.1 false
def pagF (c : Cfg) (p : Pos) (now : Int) : Pos × List Par × Unit := ((p.1, p.2.1, p.2.2.1.map (agPe c now), ()), agPs c p now p.2.2.1, ())
theorem set_same {α : Type} : ∀ {l : List α} {i : Nat} {c : α}, l[i]? = some c → l.set i c = l
  | [], _, _, _ => rfl
  | x :: l, 0, c, h => by
    obtain rfl : x = c := by simpa using h
    rfl
  | x :: l, i + 1, c, h => by rw [List.set_cons_succ, set_same (l := l) (i := i) (by simpa using h)]
theorem mid_at {α : Type} {f : α → α} {l : List α} {i : Nat} {c : α} (hi : i < l.length) (h : ((l.take i).map f ++ l.drop i)[i]? = some c) : l[i]? = some c := by
  rw [List.getElem?_append_right (by rw [List.length_map, List.length_take]; omega), List.length_map, List.length_take, List.getElem?_drop] at h
  rw [show i + (i - min i l.length) = i by omega] at h
  exact h
theorem mid_set {α : Type} {f : α → α} {l : List α} {i : Nat} {c : α} (h : l[i]? = some c) : ((l.take i).map f ++ l.drop i).set i (f c) = (l.take (i + 1)).map f ++ l.drop (i + 1) := by
  have hi : i < l.length := (List.getElem?_eq_some_iff.1 h).1
  rw [take_snoc h, List.map_append, List.set_append_right _ _ (by rw [List.length_map, List.length_take]; omega), List.length_map, List.length_take, show i - min i l.length = 0 by omega, drop_of h, List.set_cons_zero, List.append_assoc]
  rfl
theorem mid_len {α : Type} {f : α → α} {l : List α} (i : Nat) : ((l.take i).map f ++ l.drop i).length = l.length := by
  rw [List.length_append, List.length_map, List.length_take, List.length_drop]
  omega
theorem agT_snoc (af now : Int) (l : List Itm) (c : Itm) : agT af now (l ++ [c]) = agT af now l ++ (if af ≤ i64 (now - c.2.2.1) then [(c.1, c.2.1, now, ())] else []) := by
  unfold agT
  rw [List.filter_append, List.map_append]
  congr 1
  by_cases h : af ≤ i64 (now - c.2.2.1)
  · rw [if_pos h, List.filter_cons, if_pos (decide_eq_true h)]
    rfl
  · rw [if_neg h, List.filter_cons, if_neg (by rw [decide_eq_false h]; decide)]
    rfl
theorem agT_len (af now : Int) (l : List Itm) : (agT af now l).length ≤ l.length := by
  unfold agT
  rw [List.length_map]
  exact List.length_filter_le _ _
theorem iparF_len (c : Cfg) (p : Pos) (tn : Int) (b : Bool) : ∀ l : List Itm, (iparF c p tn l b).length ≤ l.length
  | [] => Nat.le_refl 0
  | x :: l => by
    have h1 := iparF_len c p tn b l
    have h2 := parF_len c (p.1, tn, p.2.1, 1, x.1, x.2.1, ()) b
    unfold iparF at h1 ⊢
    rw [List.flatMap_cons, List.length_append, List.length_cons]
    omega
def itPo (l : List Pee) : Nat := (l.map fun q => q.2.1.2.1.length).sum
theorem agPs_len (c : Cfg) (p : Pos) (now : Int) : ∀ l : List Pee, (agPs c p now l).length ≤ itPo l
  | [] => Nat.le_refl 0
  | q :: l => by
    have h1 := agPs_len c p now l
    have h2 := iparF_len c p q.1 false (agnF q.2.1 (agaC c) now).2.1
    have h3 := agT_len (agaC c) now q.2.1.2.1
    unfold agPs at h1 ⊢
    unfold itPo at h1 ⊢
    rw [List.flatMap_cons, List.length_append, List.map_cons, List.sum_cons]
    have h4 : (agnF q.2.1 (agaC c) now).2.1.length = (agT (agaC c) now q.2.1.2.1).length := rfl
    omega
theorem itPo_take : ∀ (l : List Pee) (i : Nat), itPo (l.take i) ≤ itPo l
  | [], i => by rw [List.take_nil]; exact Nat.le_refl _
  | q :: l, 0 => Nat.zero_le _
  | q :: l, i + 1 => by
    have := itPo_take l i
    unfold itPo at this ⊢
    rw [List.take_succ_cons, List.map_cons, List.sum_cons, List.map_cons, List.sum_cons]
    omega
theorem agPs_snoc (c : Cfg) (p : Pos) (now : Int) (l : List Pee) (q : Pee) : agPs c p now (l ++ [q]) = agPs c p now l ++ iparF c p q.1 (agT (agaC c) now q.2.1.2.1) false := by
  unfold agPs
  rw [List.flatMap_append, List.flatMap_cons, List.flatMap_nil, List.append_nil]
  rfl
end DoorU
def S_lagn : Spec := ⟨.pair aOut (.pair nI (.pair nI .unit)), .pair (.tup (.pair vOut (.pair vIts .unit))) .unit, fun (x : Ouq × Int × Int × Unit) => okOut x.1, fun (x : Ouq × Int × Int × Unit) => ((agnF x.1 x.2.1 x.2.2.1, ()) : (Ouq × List Itm × Unit) × Unit)⟩
def A_lagn (x : Ouq × Int × Int × Unit) : Nat → Option LA
  | 0 => some ⟨[23, 9, 8], [(9, tIt, 151)], .pair nI (.pair oIts (.pair pOut .unit)), fun (v : Int × List Itm × Ouq × Unit) => 0 ≤ v.1 ∧ v.1 ≤ (x.1.2.1.length : Nat) ∧ v.2.1 = agT x.2.1 x.2.2.1 (x.1.2.1.take v.1.toNat) ∧ v.2.2.1.1 = x.1.1 ∧ v.2.2.1.2.1 = (x.1.2.1.take v.1.toNat).map (agU x.2.1 x.2.2.1) ++ x.1.2.1.drop v.1.toNat ∧ v.2.2.1.2.2.1 = x.1.2.2.1, fun (v : Int × List Itm × Ouq × Unit) => ((x.1.2.1.length : Nat) - v.1).toNat⟩
  | _ => none
def S_pagn : Spec := ⟨.pair aC (.pair aPo (.pair nI .unit)), .pair (.tup (.pair vPo (.pair (.own tPa 62) .unit))) .unit, fun (x : Cfg × Pos × Int × Unit) => x.1.1.length ≤ big ∧ okPo x.2.1 ∧ okSt x.2.1.2.1 ∧ itPo x.2.1.2.2.1 ≤ big, fun (x : Cfg × Pos × Int × Unit) => ((pagF x.1 x.2.1 x.2.2.1, ()) : (Pos × List Par × Unit) × Unit)⟩
def A_pagn (x : Cfg × Pos × Int × Unit) : Nat → Option LA
  | 0 => some ⟨[19, 9, 8], [(9, tPa, 62)], .pair nI (.pair (.own tPa 62) (.pair (pPo fPes) .unit)), fun (v : Int × List Par × Pos × Unit) => 0 ≤ v.1 ∧ v.1 ≤ (x.2.1.2.2.1.length : Nat) ∧ v.2.1 = agPs x.1 x.2.1 x.2.2.1 (x.2.1.2.2.1.take v.1.toNat) ∧ v.2.2.1.1 = x.2.1.1 ∧ v.2.2.1.2.1 = x.2.1.2.1 ∧ v.2.2.1.2.2.1 = (x.2.1.2.2.1.take v.1.toNat).map (agPe x.1 x.2.2.1) ++ x.2.1.2.2.1.drop v.1.toNat, fun (v : Int × List Par × Pos × Unit) => ((x.2.1.2.2.1.length : Nat) - v.1).toNat⟩
  | _ => none

theorem vc_lagn : VC Tryd.prog Tryd.f105 (bodyOf Tryd.f105) S_lagn [(91, S_cpis), (90, S_cpbs), (88, S_cpi)] A_lagn = (∀ (x : (Int × List (Int × List Int × Int × Unit) × List (List Int) × Unit) × Int × Int × Unit), okOut x.fst →
  List.length x.fst.snd.fst ≤ (9223372036854775807 : Nat) →
  List.length x.fst.snd.snd.fst ≤ (9223372036854775807 : Nat) →
  okIts x.fst.snd.fst ∧ okBs x.fst.snd.snd.fst ∧ ((0 : Int) ≤ (0 : Int) ∧ (0 : Int) ≤ (↑(List.length x.fst.snd.fst) : Int) ∧ [] = agT x.snd.fst x.snd.snd.fst (List.take (Int.toNat (0 : Int)) x.fst.snd.fst) ∧ x.fst.fst = x.fst.fst ∧ x.fst.snd.fst = List.map (agU x.snd.fst x.snd.snd.fst) (List.take (Int.toNat (0 : Int)) x.fst.snd.fst) ++ List.drop (Int.toNat (0 : Int)) x.fst.snd.fst ∧ x.fst.snd.snd.fst = x.fst.snd.snd.fst) ∧ ∀ (v : Int × List (Int × List Int × Int × Unit) × (Int × List (Int × List Int × Int × Unit) × List (List Int) × Unit) × Unit), (0 : Int) ≤ v.fst ∧ v.fst ≤ (↑(List.length x.fst.snd.fst) : Int) ∧ v.snd.fst = agT x.snd.fst x.snd.snd.fst (List.take (Int.toNat v.fst) x.fst.snd.fst) ∧ v.snd.snd.fst.fst = x.fst.fst ∧ v.snd.snd.fst.snd.fst = List.map (agU x.snd.fst x.snd.snd.fst) (List.take (Int.toNat v.fst) x.fst.snd.fst) ++ List.drop (Int.toNat v.fst) x.fst.snd.fst ∧ v.snd.snd.fst.snd.snd.fst = x.fst.snd.snd.fst →
  bif decide (v.fst < (↑(List.length x.fst.snd.fst) : Int)) then (0 : Int) ≤ v.fst ∧ v.fst < (↑(List.length v.snd.snd.fst.snd.fst) : Int) ∧ Int.toNat v.fst < List.length v.snd.snd.fst.snd.fst ∧ ∀ (x_1 : Int × List Int × Int × Unit), v.snd.snd.fst.snd.fst[Int.toNat v.fst]? = some x_1 →
  bif decide (x.snd.fst ≤ IntKind.wrap IntKind.i64 (x.snd.snd.fst - x_1.snd.snd.fst)) then (0 : Int) ≤ v.fst ∧ v.fst < (↑(List.length v.snd.snd.fst.snd.fst) : Int) ∧ Int.toNat v.fst < List.length v.snd.snd.fst.snd.fst ∧ ∀ (x0 : Int × List Int × Int × Unit), v.snd.snd.fst.snd.fst[Int.toNat v.fst]? = some x0 →
  (0 : Int) ≤ v.fst ∧ v.fst < (↑(List.length (List.set v.snd.snd.fst.snd.fst (Int.toNat v.fst) (x0.fst, x0.snd.fst, x.snd.snd))) : Int) ∧ Int.toNat v.fst < List.length (List.set v.snd.snd.fst.snd.fst (Int.toNat v.fst) (x0.fst, x0.snd.fst, x.snd.snd)) ∧ ∀ (x_2 : Int × List Int × Int × Unit), (List.set v.snd.snd.fst.snd.fst (Int.toNat v.fst) (x0.fst, x0.snd.fst, x.snd.snd))[Int.toNat v.fst]? = some x_2 →
  List.length x_2.snd.fst ≤ (1000000000000 : Nat) ∧ (List.length v.snd.fst + List.length [x_2]) * (40 : Nat) ≤ (140737488351232 : Nat) ∧ ((0 : Int) ≤ IntKind.wrap IntKind.i64 (v.fst + (1 : Int)) ∧ IntKind.wrap IntKind.i64 (v.fst + (1 : Int)) ≤ (↑(List.length x.fst.snd.fst) : Int) ∧ v.snd.fst ++ [x_2] = agT x.snd.fst x.snd.snd.fst (List.take (Int.toNat (IntKind.wrap IntKind.i64 (v.fst + (1 : Int)))) x.fst.snd.fst) ∧ v.snd.snd.fst.fst = x.fst.fst ∧ List.set v.snd.snd.fst.snd.fst (Int.toNat v.fst) (x0.fst, x0.snd.fst, x.snd.snd) = List.map (agU x.snd.fst x.snd.snd.fst) (List.take (Int.toNat (IntKind.wrap IntKind.i64 (v.fst + (1 : Int)))) x.fst.snd.fst) ++ List.drop (Int.toNat (IntKind.wrap IntKind.i64 (v.fst + (1 : Int)))) x.fst.snd.fst ∧ v.snd.snd.fst.snd.snd.fst = x.fst.snd.snd.fst) ∧ Int.toNat ((↑(List.length x.fst.snd.fst) : Int) - IntKind.wrap IntKind.i64 (v.fst + (1 : Int))) < Int.toNat ((↑(List.length x.fst.snd.fst) : Int) - v.fst) else ((0 : Int) ≤ IntKind.wrap IntKind.i64 (v.fst + (1 : Int)) ∧ IntKind.wrap IntKind.i64 (v.fst + (1 : Int)) ≤ (↑(List.length x.fst.snd.fst) : Int) ∧ v.snd.fst = agT x.snd.fst x.snd.snd.fst (List.take (Int.toNat (IntKind.wrap IntKind.i64 (v.fst + (1 : Int)))) x.fst.snd.fst) ∧ v.snd.snd.fst.fst = x.fst.fst ∧ v.snd.snd.fst.snd.fst = List.map (agU x.snd.fst x.snd.snd.fst) (List.take (Int.toNat (IntKind.wrap IntKind.i64 (v.fst + (1 : Int)))) x.fst.snd.fst) ++ List.drop (Int.toNat (IntKind.wrap IntKind.i64 (v.fst + (1 : Int)))) x.fst.snd.fst ∧ v.snd.snd.fst.snd.snd.fst = x.fst.snd.snd.fst) ∧ Int.toNat ((↑(List.length x.fst.snd.fst) : Int) - IntKind.wrap IntKind.i64 (v.fst + (1 : Int))) < Int.toNat ((↑(List.length x.fst.snd.fst) : Int) - v.fst) else ((v.snd.snd.fst, v.snd.fst, ()), ()) = (agnF x.fst x.snd.fst x.snd.snd.fst, ())) := by kernel_rfl
theorem en_lagn (us : Array Value) (u : World) : (callFunc 105 us).run Tryd.prog u = .ok (.enter 105 us) u := by kernel_rfl
theorem sc_lagn : SC Tryd.prog 105 S_lagn := by
  refine SC.of Tryd.func105 (c := bodyOf Tryd.f105) (by kernel_rfl) (by kernel_rfl) (fun x => (by decide : (3:Nat) ≤ Tryd.f105.ntmps)) (DOk.cons sc_cpis en_cpis (DOk.cons sc_cpbs en_cpbs (DOk.cons sc_cpi en_cpi DOk.nil))) (Eq.mpr vc_lagn ?_)
  rintro ⟨⟨nx, l, q, ⟨⟩⟩, af, now, ⟨⟩⟩ ⟨⟨h1, h1b⟩, h2, h2b⟩ - -
  dsimp only at h1 h1b h2 h2b ⊢
  have e1 : l.length ≤ 1000000000 := h1
  refine ⟨⟨h1, h1b⟩, ⟨h2, h2b⟩, ⟨Int.le_refl 0, by omega, rfl, rfl, rfl, rfl⟩, ?_⟩
  rintro ⟨i, t, ⟨o1, o2, o3, ⟨⟩⟩, ⟨⟩⟩ ⟨q0, q1, k1, k2, k3, k4⟩
  dsimp only at q0 q1 k1 k2 k3 k4 ⊢
  have wi : i < l.length → IntKind.i64.wrap (i + 1) = i + 1 := fun _ => IntWalk.i64_in _ (by omega)
  have l2 : o2.length = l.length := by rw [k3, mid_len]
  have tl := agT_len af now (l.take i.toNat)
  rw [List.length_take] at tl
  by_cases hi : i < (l.length : Int)
  rotate_left 1
  · rw [decide_eq_false hi, cond_false]
    obtain rfl : i = (l.length : Int) := by omega
    rw [show ((l.length : Nat) : Int).toNat = l.length by omega, List.take_length] at k1 k3
    rw [List.drop_length, List.append_nil] at k3
    rw [k1, k2, k3, k4]
    rfl
  have e2 : (i + 1).toNat = i.toNat + 1 := by omega
  rw [decide_eq_true hi, cond_true, wi hi, e2]
  refine ⟨q0, by omega, by omega, fun c hc => ?_⟩
  have hc1 : l[i.toNat]? = some c := mid_at (by omega) (by rw [← k3]; exact hc)
  have hsn := agT_snoc af now (l.take i.toNat) c
  rw [← take_snoc hc1] at hsn
  by_cases ha : af ≤ IntKind.i64.wrap (now - c.2.2.1)
  · rw [decide_eq_true ha, cond_true]
    rw [if_pos (show af ≤ i64 (now - c.2.2.1) from ha)] at hsn
    refine ⟨q0, by omega, by omega, fun c' hc' => ?_⟩
    obtain rfl := Option.some.inj (hc.symm.trans hc')
    refine ⟨q0, by rw [List.length_set]; omega, by rw [List.length_set]; omega, fun d hd => ?_⟩
    rw [List.getElem?_set_self (by omega)] at hd
    obtain rfl := Option.some.inj hd
    have hU : agU af now c = (c.1, c.2.1, now, ()) := if_pos ha
    have hb : c.2.1.length ≤ 1000000000 := h1b c (List.mem_of_getElem? hc1)
    refine ⟨by show c.2.1.length ≤ _; omega, by rw [k1, List.length_cons, List.length_nil]; omega, ⟨by omega, by omega, by rw [hsn, k1], k2, ?_, k4⟩, by omega⟩
    rw [k3, ← mid_set hc1, hU]
  · rw [decide_eq_false ha, cond_false]
    rw [if_neg (show ¬ af ≤ i64 (now - c.2.2.1) from ha), List.append_nil] at hsn
    have hU : agU af now c = c := if_neg ha
    refine ⟨⟨by omega, by omega, by rw [hsn, k1], k2, ?_, k4⟩, by omega⟩
    rw [← mid_set hc1, hU, ← k3, set_same hc]

theorem vc_pagn : VC Tryd.prog Tryd.f68 (bodyOf Tryd.f68) S_pagn [(59, S_cpo), (105, S_lagn), (48, S_ipar)] A_pagn = (∀ (x : (List Int × Int × Int × Int × Int × Int × Int × Int × Int × Int × Int × Unit) × (Int × (Int × Int × List Int × Unit) × List (Int × (Int × List (Int × List Int × Int × Unit) × List (List Int) × Unit) × (Int × List (Int × List Int × Int × Unit) × Unit) × Unit) × Unit) × Int × Unit), List.length x.fst.fst ≤ big ∧ okPo x.snd.fst ∧ okSt x.snd.fst.snd.fst ∧ itPo x.snd.fst.snd.snd.fst ≤ big →
  List.length x.fst.fst ≤ (9223372036854775807 : Nat) →
  List.length x.snd.fst.snd.fst.snd.snd.fst ≤ (9223372036854775807 : Nat) →
  List.length x.snd.fst.snd.snd.fst ≤ (9223372036854775807 : Nat) →
  okPo x.snd.fst ∧ ((0 : Int) ≤ (0 : Int) ∧ (0 : Int) ≤ (↑(List.length x.snd.fst.snd.snd.fst) : Int) ∧ [] = agPs x.fst x.snd.fst x.snd.snd.fst (List.take (Int.toNat (0 : Int)) x.snd.fst.snd.snd.fst) ∧ x.snd.fst.fst = x.snd.fst.fst ∧ x.snd.fst.snd.fst = x.snd.fst.snd.fst ∧ x.snd.fst.snd.snd.fst = List.map (agPe x.fst x.snd.snd.fst) (List.take (Int.toNat (0 : Int)) x.snd.fst.snd.snd.fst) ++ List.drop (Int.toNat (0 : Int)) x.snd.fst.snd.snd.fst) ∧ ∀ (v : Int × List (Int × List Int × Bool × Unit) × (Int × (Int × Int × List Int × Unit) × List (Int × (Int × List (Int × List Int × Int × Unit) × List (List Int) × Unit) × (Int × List (Int × List Int × Int × Unit) × Unit) × Unit) × Unit) × Unit), (0 : Int) ≤ v.fst ∧ v.fst ≤ (↑(List.length x.snd.fst.snd.snd.fst) : Int) ∧ v.snd.fst = agPs x.fst x.snd.fst x.snd.snd.fst (List.take (Int.toNat v.fst) x.snd.fst.snd.snd.fst) ∧ v.snd.snd.fst.fst = x.snd.fst.fst ∧ v.snd.snd.fst.snd.fst = x.snd.fst.snd.fst ∧ v.snd.snd.fst.snd.snd.fst = List.map (agPe x.fst x.snd.snd.fst) (List.take (Int.toNat v.fst) x.snd.fst.snd.snd.fst) ++ List.drop (Int.toNat v.fst) x.snd.fst.snd.snd.fst →
  bif decide (v.fst < (↑(List.length x.snd.fst.snd.snd.fst) : Int)) then (0 : Int) ≤ v.fst ∧ v.fst < (↑(List.length v.snd.snd.fst.snd.snd.fst) : Int) ∧ Int.toNat v.fst < List.length v.snd.snd.fst.snd.snd.fst ∧ ∀ (x_1 : Int × (Int × List (Int × List Int × Int × Unit) × List (List Int) × Unit) × (Int × List (Int × List Int × Int × Unit) × Unit) × Unit), v.snd.snd.fst.snd.snd.fst[Int.toNat v.fst]? = some x_1 →
  okOut x_1.snd.fst ∧ Int.toNat v.fst < List.length v.snd.snd.fst.snd.snd.fst ∧ ∀ (x0 : Int × (Int × List (Int × List Int × Int × Unit) × List (List Int) × Unit) × (Int × List (Int × List Int × Int × Unit) × Unit) × Unit), v.snd.snd.fst.snd.snd.fst[Int.toNat v.fst]? = some x0 →
  Int.toNat v.fst < List.length (List.set v.snd.snd.fst.snd.snd.fst (Int.toNat v.fst) (x0.fst, (x_1.snd.fst.fst, List.map (agU x.fst.snd.snd.snd.snd.snd.snd.snd.fst x.snd.snd.fst) x_1.snd.fst.snd.fst, x_1.snd.fst.snd.snd), x0.snd.snd)) ∧ ∀ (x_2 : Int × (Int × List (Int × List Int × Int × Unit) × List (List Int) × Unit) × (Int × List (Int × List Int × Int × Unit) × Unit) × Unit), (List.set v.snd.snd.fst.snd.snd.fst (Int.toNat v.fst) (x0.fst, (x_1.snd.fst.fst, List.map (agU x.fst.snd.snd.snd.snd.snd.snd.snd.fst x.snd.snd.fst) x_1.snd.fst.snd.fst, x_1.snd.fst.snd.snd), x0.snd.snd))[Int.toNat v.fst]? = some x_2 →
  (List.length x.fst.fst ≤ big ∧ okSt v.snd.snd.fst.snd.fst ∧ List.length (agT x.fst.snd.snd.snd.snd.snd.snd.snd.fst x.snd.snd.fst x_1.snd.fst.snd.fst) ≤ (2000000000 : Nat)) ∧ (List.length v.snd.fst + List.length (iparF x.fst (v.snd.snd.fst.fst, v.snd.snd.fst.snd.fst, List.set v.snd.snd.fst.snd.snd.fst (Int.toNat v.fst) (x0.fst, (x_1.snd.fst.fst, List.map (agU x.fst.snd.snd.snd.snd.snd.snd.snd.fst x.snd.snd.fst) x_1.snd.fst.snd.fst, x_1.snd.fst.snd.snd), x0.snd.snd), ()) x_2.fst (agT x.fst.snd.snd.snd.snd.snd.snd.snd.fst x.snd.snd.fst x_1.snd.fst.snd.fst) false)) * (40 : Nat) ≤ (140737488351232 : Nat) ∧ ((0 : Int) ≤ IntKind.wrap IntKind.i64 (v.fst + (1 : Int)) ∧ IntKind.wrap IntKind.i64 (v.fst + (1 : Int)) ≤ (↑(List.length x.snd.fst.snd.snd.fst) : Int) ∧ v.snd.fst ++ iparF x.fst (v.snd.snd.fst.fst, v.snd.snd.fst.snd.fst, List.set v.snd.snd.fst.snd.snd.fst (Int.toNat v.fst) (x0.fst, (x_1.snd.fst.fst, List.map (agU x.fst.snd.snd.snd.snd.snd.snd.snd.fst x.snd.snd.fst) x_1.snd.fst.snd.fst, x_1.snd.fst.snd.snd), x0.snd.snd), ()) x_2.fst (agT x.fst.snd.snd.snd.snd.snd.snd.snd.fst x.snd.snd.fst x_1.snd.fst.snd.fst) false = agPs x.fst x.snd.fst x.snd.snd.fst (List.take (Int.toNat (IntKind.wrap IntKind.i64 (v.fst + (1 : Int)))) x.snd.fst.snd.snd.fst) ∧ v.snd.snd.fst.fst = x.snd.fst.fst ∧ v.snd.snd.fst.snd.fst = x.snd.fst.snd.fst ∧ List.set v.snd.snd.fst.snd.snd.fst (Int.toNat v.fst) (x0.fst, (x_1.snd.fst.fst, List.map (agU x.fst.snd.snd.snd.snd.snd.snd.snd.fst x.snd.snd.fst) x_1.snd.fst.snd.fst, x_1.snd.fst.snd.snd), x0.snd.snd) = List.map (agPe x.fst x.snd.snd.fst) (List.take (Int.toNat (IntKind.wrap IntKind.i64 (v.fst + (1 : Int)))) x.snd.fst.snd.snd.fst) ++ List.drop (Int.toNat (IntKind.wrap IntKind.i64 (v.fst + (1 : Int)))) x.snd.fst.snd.snd.fst) ∧ Int.toNat ((↑(List.length x.snd.fst.snd.snd.fst) : Int) - IntKind.wrap IntKind.i64 (v.fst + (1 : Int))) < Int.toNat ((↑(List.length x.snd.fst.snd.snd.fst) : Int) - v.fst) else ((v.snd.snd.fst, v.snd.fst, ()), ()) = (pagF x.fst x.snd.fst x.snd.snd.fst, ())) := by kernel_rfl
theorem en_pagn (us : Array Value) (u : World) : (callFunc 68 us).run Tryd.prog u = .ok (.enter 68 us) u := by kernel_rfl
theorem sc_pagn : SC Tryd.prog 68 S_pagn := by
  refine SC.of Tryd.func68 (c := bodyOf Tryd.f68) (by kernel_rfl) (by kernel_rfl) (fun x => (by decide : (3:Nat) ≤ Tryd.f68.ntmps)) (DOk.cons sc_cpo en_cpo (DOk.cons sc_lagn en_lagn (DOk.cons sc_ipar en_ipar DOk.nil))) (Eq.mpr vc_pagn ?_)
  rintro ⟨c, ⟨n, s, l, ⟨⟩⟩, now, ⟨⟩⟩ ⟨h1, ⟨h2, h3, h3b⟩, h4, h5⟩ - - -
  dsimp only at h1 h2 h3 h3b h4 h5 ⊢
  have e1 : l.length ≤ 1000000000 := h3
  have e5 : itPo l ≤ 1000000000 := h5
  refine ⟨⟨h2, h3, h3b⟩, ⟨Int.le_refl 0, by omega, rfl, rfl, rfl, rfl⟩, ?_⟩
  rintro ⟨i, t, ⟨m, r, o2, ⟨⟩⟩, ⟨⟩⟩ ⟨q0, q1, k1, k2, k4, k3⟩
  dsimp only at q0 q1 k1 k2 k3 k4 ⊢
  subst k2
  subst k4
  have wi : i < l.length → IntKind.i64.wrap (i + 1) = i + 1 := fun _ => IntWalk.i64_in _ (by omega)
  have l2 : o2.length = l.length := by rw [k3, mid_len]
  by_cases hi : i < (l.length : Int)
  rotate_left 1
  · rw [decide_eq_false hi, cond_false]
    obtain rfl : i = (l.length : Int) := by omega
    rw [show ((l.length : Nat) : Int).toNat = l.length by omega, List.take_length] at k1 k3
    rw [List.drop_length, List.append_nil] at k3
    rw [k1, k3]
    rfl
  have e2 : (i + 1).toNat = i.toNat + 1 := by omega
  rw [decide_eq_true hi, cond_true, wi hi, e2]
  refine ⟨q0, by omega, by omega, fun q hq => ?_⟩
  have hq1 : l[i.toNat]? = some q := mid_at (by omega) (by rw [← k3]; exact hq)
  have okq := h3b q (List.mem_of_getElem? hq1)
  refine ⟨okq.1, by omega, fun q' hq' => ?_⟩
  obtain rfl := Option.some.inj (hq.symm.trans hq')
  refine ⟨by rw [List.length_set]; omega, fun d hd => ?_⟩
  rw [List.getElem?_set_self (by omega)] at hd
  obtain rfl := Option.some.inj hd
  dsimp only
  have hsn := agPs_snoc c (m, r, l, ()) now (l.take i.toNat) q
  rw [← take_snoc hq1] at hsn
  have hl := agPs_len c (m, r, l, ()) now (l.take (i.toNat + 1))
  have hl2 := itPo_take l (i.toNat + 1)
  have h6 := agT_len (agaC c) now q.2.1.2.1
  have h7 : q.2.1.2.1.length ≤ 1000000000 := okq.1.1.1
  have hsn2 : t ++ iparF c (m, r, o2.set i.toNat (q.1, (q.2.1.1, q.2.1.2.1.map (agU c.2.2.2.2.2.2.2.1 now), q.2.1.2.2), q.2.2), ()) q.1 (agT c.2.2.2.2.2.2.2.1 now q.2.1.2.1) false = agPs c (m, r, l, ()) now (l.take (i.toNat + 1)) := by rw [hsn, k1]; rfl
  refine ⟨⟨h1, h4, Nat.le_trans h6 (by omega)⟩, by rw [← List.length_append, hsn2]; omega, ⟨by omega, by omega, hsn2, rfl, rfl, ?_⟩, by omega⟩
  rw [k3, ← mid_set hq1]
  rfl
end Go.Proofs.YtjkbkhjalimebaaDoor

namespace Go.Proofs.YtjkbkhjalimebaaDoor
open Go.RowKit DoorU
set_option linter.unusedVariables false
set_option linter.unusedSimpArgs false
set_option maxRecDepth 100000
set_option maxHeartbeats 1000000

namespace DoorU
def bytBs (l : List (List Int)) : Prop := ∀ x ∈ l, byt x
noncomputable def sBs (a b : List (List Int)) : Bool := @decide (a = b) (Classical.propDecidable _)
theorem sBs_t {a b : List (List Int)} (h : a = b) : sBs a b = true := @decide_eq_true _ (Classical.propDecidable _) h
theorem sBs_f {a b : List (List Int)} (h : ¬ a = b) : sBs a b = false := @decide_eq_false _ (Classical.propDecidable _) h
end DoorU
def LA_eq {α : Type} (s : Nat) (a b : List α) : LA := ⟨[s], [], .pair nI .unit, fun (v : Int × Unit) => 0 ≤ v.1 ∧ v.1 ≤ (a.length : Nat) ∧ a.length = b.length ∧ a.take v.1.toNat = b.take v.1.toNat, fun (v : Int × Unit) => ((a.length : Nat) - v.1).toNat⟩
noncomputable def S_rpts : Spec := ⟨.pair (.view true tYs) (.pair (.view true tYs) .unit), .pair .bool .unit, fun (x : List (List Int) × List (List Int) × Unit) => bytBs x.1 ∧ bytBs x.2.1, fun (x : List (List Int) × List (List Int) × Unit) => ((sBs x.1 x.2.1, ()) : Bool × Unit)⟩
def A_rpts (x : List (List Int) × List (List Int) × Unit) : Nat → Option LA
  | 0 => some (LA_eq 13 x.1 x.2.1)
  | _ => none

theorem vc_rpts : VC Tryd.prog Tryd.f29 (bodyOf Tryd.f29) S_rpts [(37, S_eq)] A_rpts = (∀ (x : List (List Int) × List (List Int) × Unit), bytBs x.fst ∧ bytBs x.snd.fst →
  List.length x.fst ≤ (9223372036854775807 : Nat) →
  List.length x.snd.fst ≤ (9223372036854775807 : Nat) →
  List.length x.fst ≤ (9223372036854775807 : Nat) →
  List.length x.snd.fst ≤ (9223372036854775807 : Nat) →
  bif (↑(List.length x.fst) : Int) != (↑(List.length x.snd.fst) : Int) then (false, ()) = (sBs x.fst x.snd.fst, ()) else List.length x.fst ≤ (9223372036854775807 : Nat) →
  ((0 : Int) ≤ (0 : Int) ∧ (0 : Int) ≤ (↑(List.length x.fst) : Int) ∧ List.length x.fst = List.length x.snd.fst ∧ List.take (Int.toNat (0 : Int)) x.fst = List.take (Int.toNat (0 : Int)) x.snd.fst) ∧ ∀ (v : Int × Unit), (0 : Int) ≤ v.fst ∧ v.fst ≤ (↑(List.length x.fst) : Int) ∧ List.length x.fst = List.length x.snd.fst ∧ List.take (Int.toNat v.fst) x.fst = List.take (Int.toNat v.fst) x.snd.fst →
  bif decide (v.fst < (↑(List.length x.fst) : Int)) then (0 : Int) ≤ v.fst ∧ v.fst < (↑(List.length x.fst) : Int) ∧ ∀ (c0 : List Int), x.fst[Int.toNat v.fst]? = some c0 →
  (0 : Int) ≤ v.fst ∧ v.fst < (↑(List.length x.snd.fst) : Int) ∧ ∀ (c0_1 : List Int), x.snd.fst[Int.toNat v.fst]? = some c0_1 →
  ((∀ (x : Int), x ∈ c0 →
  (0 : Int) ≤ x ∧ x < (256 : Int)) ∧ ∀ (x : Int), x ∈ c0_1 →
  (0 : Int) ≤ x ∧ x < (256 : Int)) ∧ bif !c0 == c0_1 then (false, ()) = (sBs x.fst x.snd.fst, ()) else ((0 : Int) ≤ IntKind.wrap IntKind.i64 (v.fst + (1 : Int)) ∧ IntKind.wrap IntKind.i64 (v.fst + (1 : Int)) ≤ (↑(List.length x.fst) : Int) ∧ List.length x.fst = List.length x.snd.fst ∧ List.take (Int.toNat (IntKind.wrap IntKind.i64 (v.fst + (1 : Int)))) x.fst = List.take (Int.toNat (IntKind.wrap IntKind.i64 (v.fst + (1 : Int)))) x.snd.fst) ∧ Int.toNat ((↑(List.length x.fst) : Int) - IntKind.wrap IntKind.i64 (v.fst + (1 : Int))) < Int.toNat ((↑(List.length x.fst) : Int) - v.fst) else (true, ()) = (sBs x.fst x.snd.fst, ())) := by kernel_rfl
theorem en_rpts (us : Array Value) (u : World) : (callFunc 29 us).run Tryd.prog u = .ok (.enter 29 us) u := by kernel_rfl
theorem sc_rpts : SC Tryd.prog 29 S_rpts := by
  refine SC.of Tryd.func29 (c := bodyOf Tryd.f29) (by kernel_rfl) (by kernel_rfl) (fun x => (by decide : (2:Nat) ≤ Tryd.f29.ntmps)) (DOk.cons sc_same1 en_same1 DOk.nil) (Eq.mpr vc_rpts ?_)
  rintro ⟨a, b, ⟨⟩⟩ ⟨ha, hb⟩ hla - - -
  dsimp only at ha hb hla ⊢
  by_cases h : a.length = b.length
  rotate_left 1
  · rw [bneT (by omega), cond_true, sBs_f (fun e => h (by rw [e]))]
  rw [bneF (by omega), cond_false]
  intro _
  refine ⟨⟨Int.le_refl 0, by omega, h, rfl⟩, ?_⟩
  rintro ⟨i, ⟨⟩⟩ ⟨q0, q1, -, ht⟩
  dsimp only at q0 q1 ht ⊢
  by_cases hi : i < (a.length : Int)
  rotate_left 1
  · rw [decide_eq_false hi, cond_false]
    obtain rfl : i = (a.length : Int) := by omega
    rw [show ((a.length : Nat) : Int).toNat = a.length by omega, List.take_length, h, List.take_length] at ht
    rw [sBs_t ht]
  have wi : IntKind.i64.wrap (i + 1) = i + 1 := IntWalk.i64_in _ (by omega)
  rw [decide_eq_true hi, cond_true, wi]
  refine ⟨q0, hi, fun c hc => ⟨q0, by omega, fun d hd => ?_⟩⟩
  have ne : c ≠ d → ¬ a = b := fun e e2 => e (by rw [e2, hd] at hc; exact (Option.some.inj hc).symm)
  refine ⟨⟨ha c (List.mem_of_getElem? hc), hb d (List.mem_of_getElem? hd)⟩, ?_⟩
  by_cases e : c = d
  rotate_left 1
  · rw [beq_eq_false_iff_ne.2 e, Bool.not_false, cond_true, sBs_f (ne e)]
  rw [beq_iff_eq.2 e, Bool.not_true, cond_false]
  subst e
  refine ⟨⟨by omega, by omega, h, ?_⟩, by omega⟩
  rw [show (i + 1).toNat = i.toNat + 1 by omega, take_snoc hc, take_snoc hd, ht]
end Go.Proofs.YtjkbkhjalimebaaDoor

namespace Go.Proofs.YtjkbkhjalimebaaDoor
open Go.RowKit DoorU
set_option linter.unusedVariables false
set_option linter.unusedSimpArgs false
namespace DoorU
/-- An item is of these bodies. -/
def ItOf (B : List (List Int)) (x : Itm) : Prop := ∃ k : Nat, x.1 = k ∧ B[k]? = some x.2.1
/-- The end that sends: what is under way, and what waits. -/
def OutOk (w : Int) (o : Ouq) (B : List (List Int)) : Prop :=
  ∃ n : Nat, o.1 = n ∧ n ≤ B.length ∧ o.2.2.1 = B.drop n ∧ o.2.1.length ≤ n ∧ (n < B.length → w ≤ (o.2.1.length : Nat)) ∧ ∀ x ∈ o.2.1, ItOf B x
/-- The end that takes. -/
def InOk (i : Inq) (B T : List (List Int)) : Prop := ∃ e : Nat, i.1 = e ∧ e ≤ B.length ∧ T = B.take e ∧ ∀ x ∈ i.2.1, ItOf B x
theorem ItOf.up {B : List (List Int)} {x : Itm} (h : ItOf B x) (b : List Int) : ItOf (B ++ [b]) x := by
  obtain ⟨k, h1, h2⟩ := h
  exact ⟨k, h1, by rw [List.getElem?_append_left (List.getElem?_eq_some_iff.1 h2).1]; exact h2⟩
theorem InOk.up {i : Inq} {B T : List (List Int)} (h : InOk i B T) (b : List Int) : InOk i (B ++ [b]) T := by
  obtain ⟨e, h1, h2, h3, h4⟩ := h
  exact ⟨e, h1, by rw [List.length_append]; omega, by rw [List.take_append_of_le_length h2]; exact h3, fun x hx => (h4 x hx).up b⟩
theorem i64_s {n : Nat} (h : n ≤ 1000000) : i64 ((n : Int) + 1) = ((n + 1 : Nat) : Int) := by
  have : i64 ((n : Int) + 1) = (n : Int) + 1 := IntWalk.i64_in _ (by omega)
  omega
theorem sendF_ok {w : Int} {o : Ouq} {B : List (List Int)} (h : OutOk w o B) (hB : B.length ≤ 1000) (b : List Int) (now : Int) :
    OutOk w (sendF o b w now).1 (B ++ [b]) ∧ ∀ x ∈ (sendF o b w now).2.1, ItOf (B ++ [b]) x := by
  obtain ⟨n, h1, h2, h3, h4, h5, h6⟩ := h
  unfold sendF
  by_cases hw : w ≤ (o.2.1.length : Nat)
  · rw [if_pos hw]
    refine ⟨⟨n, h1, by rw [List.length_append]; omega, ?_, h4, fun _ => hw, fun x hx => (h6 x hx).up b⟩, fun x hx => (List.not_mem_nil hx).elim⟩
    show o.2.2.1 ++ [b] = _
    rw [h3, List.drop_append_of_le_length h2]
  · rw [if_neg hw]
    have hn : n = B.length := by
      by_cases hh : n < B.length
      · exact absurd (h5 hh) hw
      · omega
    have hb : ItOf (B ++ [b]) (itm o.1 b now) := ⟨n, h1, by rw [hn, List.getElem?_append_right (Nat.le_refl _), Nat.sub_self]; rfl⟩
    refine ⟨⟨n + 1, ?_, by rw [List.length_append, List.length_singleton]; omega, ?_, ?_, fun hh => absurd hh (by rw [List.length_append, List.length_singleton]; omega), fun x hx => ?_⟩, fun x hx => ?_⟩
    · show i64 (o.1 + 1) = _
      rw [h1]
      exact i64_s (by omega)
    · show o.2.2.1 = _
      rw [h3, List.drop_eq_nil_of_le (by omega), List.drop_eq_nil_of_le (by rw [List.length_append, List.length_singleton]; omega)]
    · show (o.2.1 ++ [_]).length ≤ _
      rw [List.length_append, List.length_singleton]
      omega
    · rcases List.mem_append.1 hx with hx | hx
      · exact (h6 x hx).up b
      · rw [List.mem_singleton.1 hx]
        exact hb
    · rw [List.mem_singleton.1 hx]
      exact hb
theorem ackGo_ok {w now : Int} {B : List (List Int)} (hB : B.length ≤ 1000) : ∀ (l : List (List Int)) (n : Nat) (s t : List Itm), l = B.drop n → n ≤ B.length → s.length ≤ n → (∀ x ∈ s, ItOf B x) → (∀ x ∈ t, ItOf B x) →
    OutOk w (ackGo w now n s t l).1 B ∧ ∀ x ∈ (ackGo w now n s t l).2.1, ItOf B x
  | [], n, s, t, hl, hn, hs, h6, ht => by
    have : n = B.length := by
      have := congrArg List.length hl
      rw [List.length_drop, List.length_nil] at this
      omega
    exact ⟨⟨n, rfl, hn, hl, hs, fun hh => absurd hh (by omega), h6⟩, ht⟩
  | b :: r, n, s, t, hl, hn, hs, h6, ht => by
    have hb : B[n]? = some b := by
      have : (B.drop n)[0]? = some b := by rw [← hl]; rfl
      rwa [List.getElem?_drop, Nat.add_zero] at this
    have hlt : n < B.length := (List.getElem?_eq_some_iff.1 hb).1
    have hit : ItOf B (itm n b now) := ⟨n, rfl, hb⟩
    rw [ackGo]
    by_cases hw : (s.length : Nat) < w
    · rw [if_pos hw, i64_s (by omega)]
      have hr : r = B.drop (n + 1) := by
        rw [drop_of hb] at hl
        exact (List.cons.inj hl).2
      exact ackGo_ok hB r (n + 1) _ _ hr hlt (by rw [List.length_append, List.length_singleton]; omega) (fun x hx => by
        rcases List.mem_append.1 hx with hx | hx
        · exact h6 x hx
        · rw [List.mem_singleton.1 hx]; exact hit) (fun x hx => by
        rcases List.mem_append.1 hx with hx | hx
        · exact ht x hx
        · rw [List.mem_singleton.1 hx]; exact hit)
    · rw [if_neg hw]
      exact ⟨⟨n, rfl, hn, hl, hs, fun _ => by show w ≤ (s.length : Int); omega, h6⟩, ht⟩
theorem ackF_ok {w : Int} {o : Ouq} {B : List (List Int)} (h : OutOk w o B) (hB : B.length ≤ 1000) (q now : Int) :
    OutOk w (ackF o q w now).1 B ∧ (∀ x ∈ (ackF o q w now).2.1, ItOf B x) ∧ (ackF o q w now).2.1.length ≤ B.length := by
  obtain ⟨n, h1, h2, h3, h4, h5, h6⟩ := h
  have hl := ackGo_len w now o.2.2.1 o.1 (ackS o.2.1 q) []
  obtain ⟨g1, g2⟩ := ackGo_ok (w := w) (now := now) hB o.2.2.1 n (ackS o.2.1 q) [] h3 h2 (Nat.le_trans (List.length_filter_le _ _) h4) (fun x hx => h6 x ((List.mem_filter.1 hx).1)) (fun x hx => (List.not_mem_nil hx).elim)
  rw [← h1] at g1 g2
  refine ⟨g1, g2, Nat.le_trans hl ?_⟩
  rw [h3, List.length_drop, List.length_nil]
  omega
theorem agnF_ok {w : Int} {o : Ouq} {B : List (List Int)} (h : OutOk w o B) (af now : Int) :
    OutOk w (agnF o af now).1 B ∧ (∀ x ∈ (agnF o af now).2.1, ItOf B x) ∧ (agnF o af now).2.1.length ≤ B.length := by
  obtain ⟨n, h1, h2, h3, h4, h5, h6⟩ := h
  have hU : ∀ x : Itm, ItOf B x → ItOf B (agU af now x) := fun x hx => by
    obtain ⟨k, k1, k2⟩ := hx
    unfold agU
    split <;> exact ⟨k, k1, k2⟩
  refine ⟨⟨n, h1, h2, h3, by show (List.map _ _).length ≤ _; rw [List.length_map]; exact h4, fun hh => by show w ≤ ((List.map _ _).length : Nat); rw [List.length_map]; exact h5 hh, fun x hx => ?_⟩, fun x hx => ?_, ?_⟩
  · obtain ⟨y, hy, rfl⟩ := List.mem_map.1 hx
    exact hU y (h6 y hy)
  · obtain ⟨y, hy, rfl⟩ := List.mem_map.1 hx
    obtain ⟨k, k1, k2⟩ := h6 y ((List.mem_filter.1 hy).1)
    exact ⟨k, k1, k2⟩
  · exact Nat.le_trans (agT_len _ _ _) (by omega)
theorem tkGo_ok {m : List (Int × Int)} {l : List Itm} {B : List (List Int)} (hm : mOk m l) (hl : ∀ x ∈ l, ItOf B x) (hB : B.length ≤ 1000) : ∀ (f e : Nat) (g : List Bool) (b T : List (List Int)), e ≤ B.length → T ++ b = B.take e →
    ∃ e' : Nat, (tkGo m l f e g b).1 = e' ∧ e' ≤ B.length ∧ T ++ (tkGo m l f e g b).2.2 = B.take e'
  | 0, e, g, b, T, he, hT => ⟨e, rfl, he, hT⟩
  | f + 1, e, g, b, T, he, hT => by
    rw [tkGo]
    by_cases hh : mhas m e = true
    · rw [if_pos hh]
      obtain ⟨h0, x, hx, hxe⟩ := hm e hh
      have hg : l.getD (mget m e).toNat zIt = x := by rw [List.getD_eq_getElem?_getD, hx]; rfl
      obtain ⟨k, k1, k2⟩ := hl x (List.mem_of_getElem? hx)
      have hk : k = e := by omega
      subst hk
      have hlt : k < B.length := (List.getElem?_eq_some_iff.1 k2).1
      rw [i64_s (by omega), hg]
      exact tkGo_ok hm hl hB f (k + 1) _ _ T hlt (by rw [← List.append_assoc, hT, take_snoc k2])
    · rw [if_neg hh]
      exact ⟨e, rfl, he, hT⟩
theorem tkK_mem : ∀ {l : List Itm} {g : List Bool} {x : Itm}, x ∈ tkK l g → x ∈ l
  | [], _, x, h => by cases h
  | y :: l, [], x, h => by cases h
  | y :: l, b :: g, x, h => by
    rw [tkK] at h
    split at h
    · exact List.mem_cons_of_mem _ (tkK_mem h)
    · rcases List.mem_cons.1 h with h | h
      · rw [h]; exact List.mem_cons_self ..
      · exact List.mem_cons_of_mem _ (tkK_mem h)
theorem takF_ok {i : Inq} {B T : List (List Int)} (h : InOk i B T) (hB : B.length ≤ 1000) {q : Int} {b : List Int} (hq : ItOf B (itm q b 0)) (w : Int) : InOk (takF i q b w).1 B (T ++ (takF i q b w).2.1) := by
  obtain ⟨e, h1, h2, h3, h4⟩ := h
  have hL : ∀ x ∈ tkL i q b w, ItOf B x := fun x hx => by
    unfold tkL at hx
    split at hx
    · rcases List.mem_append.1 hx with hx | hx
      · exact h4 x hx
      · rw [List.mem_singleton.1 hx]; exact hq
    · exact h4 x hx
  obtain ⟨e', g1, g2, g3⟩ := tkGo_ok (tkM_ok i q b w) hL hB ((tkL i q b w).length + 1) e (List.replicate (tkL i q b w).length false) [] T h2 (by rw [List.append_nil]; exact h3)
  rw [← h1] at g1 g3
  exact ⟨e', g1, g2, g3, fun x hx => hL x (tkK_mem hx)⟩
theorem h01 (q : Pee) : ¬ (0 : Nat) = [q].length := by
  show ¬ (0 : Nat) = 1
  decide
theorem tkK_len : ∀ (l : List Itm) (g : List Bool), (tkK l g).length ≤ l.length
  | [], _ => Nat.le_refl _
  | y :: l, [] => Nat.zero_le _
  | y :: l, b :: g => by
    have := tkK_len l g
    rw [tkK]
    split
    · exact Nat.le_succ_of_le this
    · exact Nat.succ_le_succ this
theorem takF_held (i : Inq) (q : Int) (b : List Int) (w : Int) : (takF i q b w).1.2.1.length ≤ i.2.1.length + 1 := by
  refine Nat.le_trans (tkK_len _ _) ?_
  unfold tkL
  split
  · rw [List.length_append, List.length_singleton]
    exact Nat.le_refl _
  · exact Nat.le_succ _
/-- A post that knows one other node at most. -/
def One (p : Pos) (n : Int) : Prop := p.2.2.1 = [] ∨ ∃ q : Pee, p.2.2.1 = [q] ∧ q.1 = n
theorem one_lnk {p : Pos} {n : Int} (h : One p n) : lnkL p.2.2.1 n = [linkE p n] ∧ lnkI p.2.2.1 n = 0 ∧ (linkE p n).1 = n := by
  rcases h with h | ⟨q, h, hq⟩
  · have a : lnkL p.2.2.1 n = [newPe n] := by rw [h]; rfl
    have b : lnkI p.2.2.1 n = 0 := by rw [h]; rfl
    have e : linkE p n = newPe n := by unfold linkE; rw [a, b]; rfl
    rw [e]
    exact ⟨a, b, rfl⟩
  · have e0 : eqAt [q] n = 0 := by unfold eqAt; rw [List.findIdx_cons, beq_iff_eq.2 hq]; rfl
    have a : lnkL p.2.2.1 n = [q] := by rw [h, lnkL, e0, if_neg (h01 _)]
    have b : lnkI p.2.2.1 n = 0 := by rw [h, lnkI, e0, if_neg (h01 _)]
    have e : linkE p n = q := by unfold linkE; rw [a, b]; rfl
    rw [e]
    exact ⟨a, b, hq⟩
theorem one_put {p : Pos} {n : Int} (h : One p n) (q : Pee) (hq : q.1 = n) : One (putPe p n q) n ∧ linkE (putPe p n q) n = q ∧ (putPe p n q).1 = p.1 ∧ (putPe p n q).2.1 = p.2.1 := by
  obtain ⟨a, b, _⟩ := one_lnk h
  have e : (putPe p n q).2.2.1 = [q] := by
    show (lnkL p.2.2.1 n).set (lnkI p.2.2.1 n) q = _
    rw [a, b]
    rfl
  have o : One (putPe p n q) n := .inr ⟨q, e, hq⟩
  obtain ⟨a2, b2, _⟩ := one_lnk o
  refine ⟨o, ?_, rfl, rfl⟩
  have e0 : eqAt [q] n = 0 := by unfold eqAt; rw [List.findIdx_cons, beq_iff_eq.2 hq]; rfl
  unfold linkE
  rw [e, lnkL, lnkI, e0, if_neg (h01 _), if_neg (h01 _)]
  rfl
/-- One of the two posts: its node, the other's, the stamp, what it said, what was said to it, what it told. -/
def PoOk (w : Int) (p : Pos) (me ot : Int) (S : Sta) (h : Nat) (B B' T : List (List Int)) : Prop :=
  p.1 = me ∧ p.2.1 = S ∧ One p ot ∧ OutOk w (linkE p ot).2.1 B ∧ InOk (linkE p ot).2.2.1 B' T ∧ (linkE p ot).2.2.1.2.1.length ≤ h
/-- A frame on the way. -/
def PFr (c : Cfg) (S : Sta) (me ot : Int) (B : List (List Int)) (y : List Int) : Prop :=
  ∃ f : Fra, frChk f = 0 ∧ y = frPutF (pairF c me ot) f ∧ f.1 = me ∧ f.2.1 = ot ∧ f.2.2.1 = S ∧ byt f.2.2.2.2.2.1 ∧ (f.2.2.2.1 ≠ 2 → ItOf B (itm f.2.2.2.2.1 f.2.2.2.2.2.1 0))
theorem PFr.up {c : Cfg} {S : Sta} {me ot : Int} {B : List (List Int)} {y : List Int} (h : PFr c S me ot B y) (b : List Int) : PFr c S me ot (B ++ [b]) y := by
  obtain ⟨f, h1, h2, h3, h4, h5, h6, h7⟩ := h
  exact ⟨f, h1, h2, h3, h4, h5, h6, fun hk => (h7 hk).up b⟩
theorem ipar_fr {c : Cfg} {p : Pos} {me ot : Int} {S : Sta} {B : List (List Int)} {l : List Itm} {fl : Bool} (hp : p.1 = me) (hS : p.2.1 = S) (hl : ∀ x ∈ l, ItOf B x) (hb : ∀ b ∈ B, byt b) : ∀ x ∈ iparF c p ot l fl, x.1 = ot ∧ PFr c S me ot B x.2.1 := fun x hx => by
  unfold iparF at hx
  obtain ⟨it, hi, hx⟩ := List.mem_flatMap.1 hx
  unfold parF at hx
  split at hx
  · rename_i hc
    rw [List.mem_singleton] at hx
    obtain ⟨k, k1, k2⟩ := hl it hi
    subst hx
    rw [hp, hS] at hc ⊢
    exact ⟨rfl, _, hc, rfl, rfl, rfl, rfl, hb _ (List.mem_of_getElem? k2), fun _ => ⟨k, k1, k2⟩⟩
  · cases hx
theorem iparF_len' (c : Cfg) (p : Pos) (n : Int) (b : Bool) (l : List Itm) : (iparF c p n l b).length ≤ l.length := iparF_len c p n b l
theorem again_ok {c : Cfg} {p : Pos} {me ot : Int} {S : Sta} {B B' T : List (List Int)} {nh : Nat} (h : PoOk (winC c) p me ot S nh B B' T) (hb : ∀ b ∈ B, byt b) (now : Int) :
    PoOk (winC c) (pagF c p now).1 me ot S nh B B' T ∧ (∀ x ∈ (pagF c p now).2.1, x.1 = ot ∧ PFr c S me ot B x.2.1) ∧ (pagF c p now).2.1.length ≤ B.length := by
  obtain ⟨h1, h2, h3, h4, h5, h6⟩ := h
  rcases h3 with h3 | ⟨q, h3, hq⟩
  · have e : pagF c p now = (p, [], ()) := by
      obtain ⟨a, s, l, ⟨⟩⟩ := p
      obtain rfl : l = [] := h3
      rfl
    rw [e]
    exact ⟨⟨h1, h2, .inl h3, h4, h5, h6⟩, fun x hx => (List.not_mem_nil hx).elim, Nat.zero_le _⟩
  · have hl : linkE p ot = q := by
      obtain ⟨a, b, _⟩ := one_lnk (p := p) (n := ot) (.inr ⟨q, h3, hq⟩)
      have e0 : eqAt [q] ot = 0 := by unfold eqAt; rw [List.findIdx_cons, beq_iff_eq.2 hq]; rfl
      unfold linkE
      rw [h3, lnkL, lnkI, e0, if_neg (h01 _), if_neg (h01 _)]
      rfl
    rw [hl] at h4 h5 h6
    obtain ⟨g1, g2, g3⟩ := agnF_ok h4 (agaC c) now
    have ep : (pagF c p now).1.2.2.1 = [agPe c now q] := by
      show p.2.2.1.map _ = _
      rw [h3]
      rfl
    have ho : One (pagF c p now).1 ot := .inr ⟨_, ep, hq⟩
    have hl2 : linkE (pagF c p now).1 ot = agPe c now q := by
      have e0 : eqAt [agPe c now q] ot = 0 := by unfold eqAt; rw [List.findIdx_cons, beq_iff_eq.2 (show (agPe c now q).1 = ot from hq)]; rfl
      unfold linkE
      rw [ep, lnkL, lnkI, e0, if_neg (h01 _), if_neg (h01 _)]
      rfl
    have el : (pagF c p now).2.1 = iparF c p q.1 (agnF q.2.1 (agaC c) now).2.1 false := by
      show agPs c p now p.2.2.1 = _
      rw [h3]
      unfold agPs
      rw [List.flatMap_cons, List.flatMap_nil, List.append_nil]
    refine ⟨⟨h1, h2, ho, by rw [hl2]; exact g1, by rw [hl2]; exact h5, by rw [hl2]; exact h6⟩, ?_, ?_⟩
    · rw [el, hq]
      exact ipar_fr h1 h2 g2 hb
    · rw [el]
      exact Nat.le_trans (iparF_len' _ _ _ _ _) g3
theorem send_ok {c : Cfg} {p : Pos} {me ot : Int} {S : Sta} {B B' T : List (List Int)} {nh : Nat} (h : PoOk (winC c) p me ot S nh B B' T) (hn : isNodeF c ot = true) (hne : ot ≠ me) (hs : stChk S = 0) (hB : B.length ≤ 1000) {b : List Int} (hl : b.length ≤ 65536) (hb : ∀ y ∈ B ++ [b], byt y) (now : Int) :
    (psF c p ot b now).2.2.1 = 0 ∧ PoOk (winC c) (psF c p ot b now).1 me ot S nh (B ++ [b]) B' T ∧ (∀ x ∈ (psF c p ot b now).2.1, x.1 = ot ∧ PFr c S me ot (B ++ [b]) x.2.1) ∧ (psF c p ot b now).2.1.length ≤ 1 := by
  obtain ⟨h1, h2, h3, h4, h5, h6⟩ := h
  have hno : ¬ (isNodeF c ot = false ∨ ot = p.1 ∨ stChk p.2.1 ≠ 0) := by
    rintro (g | g | g)
    · rw [hn] at g; cases g
    · rw [h1] at g; exact hne g
    · rw [h2] at g; exact g hs
  have e : psF c p ot b now = (sndP c p ot b now, iparF c (sndP c p ot b now) ot (sndQ c p ot b now).2.1 true, 0, ()) := by
    unfold psF
    rw [if_neg hno, if_neg (by omega)]
  rw [e]
  obtain ⟨g1, g2⟩ := sendF_ok h4 hB b now
  obtain ⟨_, _, l3⟩ := one_lnk h3
  obtain ⟨o1, o2, o3, o4⟩ := one_put h3 ((linkE p ot).1, (sndQ c p ot b now).1, (linkE p ot).2.2) l3
  refine ⟨rfl, ⟨o3.trans h1, o4.trans h2, o1, ?_, ?_, ?_⟩, ?_, ?_⟩
  · show OutOk _ (linkE (putPe p ot _) ot).2.1 _
    rw [o2]
    exact g1
  · show InOk (linkE (putPe p ot _) ot).2.2.1 _ _
    rw [o2]
    exact h5
  · show (linkE (putPe p ot _) ot).2.2.1.2.1.length ≤ _
    rw [o2]
    exact h6
  · exact ipar_fr (o3.trans h1) (o4.trans h2) g2 hb
  · exact Nat.le_trans (iparF_len' _ _ _ _ _) (sendF_len _ _ _ _)
theorem take_ok {c : Cfg} {p : Pos} {me ot : Int} {S : Sta} {B B' T : List (List Int)} {nh : Nat} (h : PoOk (winC c) p me ot S nh B B' T) (hn : isNodeF c ot = true) (hne : ot ≠ me) (hS : okSt S) (hB : B.length ≤ 1000) (hB' : B'.length ≤ 1000) (hb : ∀ y ∈ B, byt y) {y : List Int} (hy : PFr c S ot me B' y) (now : Int) :
    (ptF c p ot y now).2.2.2.1 = 0 ∧ PoOk (winC c) (ptF c p ot y now).1 me ot S (nh + 1) B B' (T ++ (ptF c p ot y now).2.1) ∧ (∀ x ∈ (ptF c p ot y now).2.2.1, x.1 = ot ∧ PFr c S me ot B x.2.1) ∧ (ptF c p ot y now).2.2.1.length ≤ B.length + 1 := by
  obtain ⟨h1, h2, h3, h4, h5, h6⟩ := h
  obtain ⟨f, f1, f2, f3, f4, f5, f6, f7⟩ := hy
  have hno : ¬ (isNodeF c ot = false ∨ ot = p.1) := by
    rintro (g | g)
    · rw [hn] at g; cases g
    · rw [h1] at g; exact hne g
  obtain ⟨t0, t1⟩ := frTk_put (pairF c ot me) f1 (by rw [f5]; exact hS)
  rw [← f2] at t0 t1
  have hG : ptF c p ot y now = ptG c p ot f now := by
    rw [ptF, if_neg hno, h1, if_neg (fun h => h t0), t1]
  have hn1 : ¬ (f.1 ≠ ot ∨ f.2.1 ≠ p.1) := by
    rintro (g | g)
    · exact g f3
    · exact g (f4.trans h1.symm)
  have hst : f.2.2.1 = p.2.1 := f5.trans h2.symm
  have hn2 : ¬ (stCmp f.2.2.1 p.2.1 < 0 ∨ (stCmp f.2.2.1 p.2.1 = 0 ∧ stSame f.2.2.1 p.2.1 = false)) := by
    have c0 : stCmp p.2.1 p.2.1 = 0 := by
      have : ∀ a, cmpF a a = 0 := fun a => by unfold cmpF; rw [if_neg (by omega), if_neg (by omega)]
      unfold stCmp
      rw [if_pos (this _), this]
    have s0 : stSame p.2.1 p.2.1 = true := by unfold stSame; simp
    rw [hst, c0, s0]
    rintro (g | ⟨_, g⟩)
    · omega
    · cases g
  have hgo : goF p f.2.2.1 = p := by
    have c0 : stCmp p.2.1 p.2.1 = 0 := by
      have : ∀ a, cmpF a a = 0 := fun a => by unfold cmpF; rw [if_neg (by omega), if_neg (by omega)]
      unfold stCmp
      rw [if_pos (this _), this]
    rw [goF, hst, c0, if_pos (Int.le_refl 0)]
  obtain ⟨_, _, l3⟩ := one_lnk h3
  rw [hG, ptG, if_neg hn1, if_neg hn2]
  by_cases hk : f.2.2.2.1 = 2
  · rw [if_pos hk]
    obtain ⟨g1, g2, g3⟩ := ackF_ok h4 hB f.2.2.2.2.1 now
    have eA : tkA c p ot f now = ackF (linkE p ot).2.1 f.2.2.2.2.1 (winC c) now := by unfold tkA; rw [hgo]
    have eP : tkAP c p ot f now = putPe p ot ((linkE p ot).1, (ackF (linkE p ot).2.1 f.2.2.2.2.1 (winC c) now).1, (linkE p ot).2.2) := by unfold tkAP; rw [eA, hgo]
    obtain ⟨o1, o2, o3, o4⟩ := one_put h3 ((linkE p ot).1, (ackF (linkE p ot).2.1 f.2.2.2.2.1 (winC c) now).1, (linkE p ot).2.2) l3
    dsimp only
    rw [eA, eP]
    refine ⟨rfl, ⟨o3.trans h1, o4.trans h2, o1, by rw [o2]; exact g1, by rw [o2, List.append_nil]; exact h5, by rw [o2]; exact Nat.le_succ_of_le h6⟩, ipar_fr (o3.trans h1) (o4.trans h2) g2 hb, Nat.le_trans (iparF_len' _ _ _ _ _) (by omega)⟩
  · rw [if_neg hk]
    have g1 := takF_ok h5 hB' (f7 hk) (winC c)
    have eA : tkT c p ot f = takF (linkE p ot).2.2.1 f.2.2.2.2.1 f.2.2.2.2.2.1 (winC c) := by unfold tkT; rw [hgo]
    have eP : tkTP c p ot f = putPe p ot ((linkE p ot).1, (linkE p ot).2.1, (takF (linkE p ot).2.2.1 f.2.2.2.2.1 f.2.2.2.2.2.1 (winC c)).1, ()) := by unfold tkTP; rw [eA, hgo]
    obtain ⟨o1, o2, o3, o4⟩ := one_put h3 ((linkE p ot).1, (linkE p ot).2.1, (takF (linkE p ot).2.2.1 f.2.2.2.2.1 f.2.2.2.2.2.1 (winC c)).1, ()) l3
    dsimp only
    rw [eA, eP, hgo]
    refine ⟨rfl, ⟨o3.trans h1, o4.trans h2, o1, by rw [o2]; exact h4, by rw [o2]; exact g1, by rw [o2]; exact Nat.le_trans (takF_held _ _ _ _) (Nat.succ_le_succ h6)⟩, fun x hx => ?_, Nat.le_trans (parF_len _ _ _) (by omega)⟩
    unfold parF at hx
    split at hx
    · rename_i hc
      rw [List.mem_singleton] at hx
      subst hx
      rw [h1, h2] at hc ⊢
      exact ⟨rfl, _, hc, rfl, rfl, rfl, rfl, fun z hz => (List.not_mem_nil hz).elim, fun g => absurd rfl g⟩
    · cases hx
end DoorU
end Go.Proofs.YtjkbkhjalimebaaDoor

namespace Go.Proofs.YtjkbkhjalimebaaDoor
open Go.RowKit DoorU
set_option linter.unusedVariables false
set_option linter.unusedSimpArgs false
set_option maxRecDepth 100000
set_option maxHeartbeats 1000000

abbrev Pai : Type := Cfg × Pos × Pos × Int × Int × List (List Int) × List Int × List (List Int) × List (List Int) × List (List Int) × List (List Int) × Int × Bool × Unit
abbrev sPai : Sh := .pair (shOf false tC) (.pair (shOf false tPo) (.pair (shOf false tPo) (.pair nI (.pair nI (.pair oYs (.pair oI (.pair oYs (.pair oYs (.pair oYs (.pair oYs (.pair nI (.pair .bool .unit))))))))))))
abbrev pPai : Sh := .var 73 sPai
namespace DoorU
def oth (i : Int) : Int := bif i == 0 then 1 else 0
def wC (w : Pai) : Cfg := w.1
def w0 (w : Pai) : Pos := w.2.1
def w1 (w : Pai) : Pos := w.2.2.1
def wA (w : Pai) : Int := w.2.2.2.1
def wB (w : Pai) : Int := w.2.2.2.2.1
def wPool (w : Pai) : List (List Int) := w.2.2.2.2.2.1
def wTo (w : Pai) : List Int := w.2.2.2.2.2.2.1
def wS0 (w : Pai) : List (List Int) := w.2.2.2.2.2.2.2.1
def wS1 (w : Pai) : List (List Int) := w.2.2.2.2.2.2.2.2.1
def wT0 (w : Pai) : List (List Int) := w.2.2.2.2.2.2.2.2.2.1
def wT1 (w : Pai) : List (List Int) := w.2.2.2.2.2.2.2.2.2.2.1
def wNow (w : Pai) : Int := w.2.2.2.2.2.2.2.2.2.2.2.1
def wBr (w : Pai) : Bool := w.2.2.2.2.2.2.2.2.2.2.2.2.1
def putW (w : Pai) (who : Int) (l : List Par) : Pai :=
  (wC w, w0 w, w1 w, wA w, wB w, wPool w ++ l.map (fun x => x.2.1), wTo w ++ List.replicate l.length (oth who), wS0 w, wS1 w, wT0 w, wT1 w, wNow w, wBr w || l.any (fun x => x.1 != bif who == 0 then wB w else wA w), ())
def brk (w : Pai) : Pai := (wC w, w0 w, w1 w, wA w, wB w, wPool w, wTo w, wS0 w, wS1 w, wT0 w, wT1 w, wNow w, true, ())
def bod (who : Int) (n : Nat) (k : Int) : List Int := [w8 who, w8 n, w8 k]
def say0 (w : Pai) (k : Int) : Pai := bif (psF (wC w) (w0 w) (wB w) (bod 0 (wS0 w).length k) (wNow w)).2.2.1 != 0 then brk w
  else putW (wC w, (psF (wC w) (w0 w) (wB w) (bod 0 (wS0 w).length k) (wNow w)).1, w1 w, wA w, wB w, wPool w, wTo w, wS0 w ++ [bod 0 (wS0 w).length k], wS1 w, wT0 w, wT1 w, wNow w, wBr w, ()) 0 (psF (wC w) (w0 w) (wB w) (bod 0 (wS0 w).length k) (wNow w)).2.1
def say1 (w : Pai) (k : Int) : Pai := bif (psF (wC w) (w1 w) (wA w) (bod 1 (wS1 w).length k) (wNow w)).2.2.1 != 0 then brk w
  else putW (wC w, w0 w, (psF (wC w) (w1 w) (wA w) (bod 1 (wS1 w).length k) (wNow w)).1, wA w, wB w, wPool w, wTo w, wS0 w, wS1 w ++ [bod 1 (wS1 w).length k], wT0 w, wT1 w, wNow w, wBr w, ()) 1 (psF (wC w) (w1 w) (wA w) (bod 1 (wS1 w).length k) (wNow w)).2.1
def tak0 (w : Pai) (y : List Int) : Pai := bif (ptF (wC w) (w0 w) (wB w) y (wNow w)).2.2.2.1 != 0 then brk w
  else putW (wC w, (ptF (wC w) (w0 w) (wB w) y (wNow w)).1, w1 w, wA w, wB w, wPool w, wTo w, wS0 w, wS1 w, wT0 w ++ (ptF (wC w) (w0 w) (wB w) y (wNow w)).2.1, wT1 w, wNow w, wBr w, ()) 0 (ptF (wC w) (w0 w) (wB w) y (wNow w)).2.2.1
def tak1 (w : Pai) (y : List Int) : Pai := bif (ptF (wC w) (w1 w) (wA w) y (wNow w)).2.2.2.1 != 0 then brk w
  else putW (wC w, w0 w, (ptF (wC w) (w1 w) (wA w) y (wNow w)).1, wA w, wB w, wPool w, wTo w, wS0 w, wS1 w, wT0 w, wT1 w ++ (ptF (wC w) (w1 w) (wA w) y (wNow w)).2.1, wNow w, wBr w, ()) 1 (ptF (wC w) (w1 w) (wA w) y (wNow w)).2.2.1
def tik (w : Pai) : Pai := (wC w, w0 w, w1 w, wA w, wB w, wPool w, wTo w, wS0 w, wS1 w, wT0 w, wT1 w, i64 (wNow w + 1), wBr w, ())
def age0 (w : Pai) : Pai := putW (wC w, (pagF (wC w) (w0 w) (wNow w)).1, w1 w, wA w, wB w, wPool w, wTo w, wS0 w, wS1 w, wT0 w, wT1 w, wNow w, wBr w, ()) 0 (pagF (wC w) (w0 w) (wNow w)).2.1
def age1 (w : Pai) : Pai := putW (wC w, w0 w, (pagF (wC w) (w1 w) (wNow w)).1, wA w, wB w, wPool w, wTo w, wS0 w, wS1 w, wT0 w, wT1 w, wNow w, wBr w, ()) 1 (pagF (wC w) (w1 w) (wNow w)).2.1
def ageI (w : Pai) (i : Int) : Pai := bif i == 0 then tik w else bif i == 1 then age0 (tik w) else age1 (age0 (tik w))
def stK (s : Int) : Int := i64 (Int.tdiv s 8)
def stWho (s : Int) : Int := Int.tmod (i64 (Int.tdiv s 4)) 2
def takP (w : Pai) (k : Int) : Pai := bif ((wPool w).length : Int) == 0 then w
  else bif (wTo w).getD (Int.tmod k (wPool w).length).toNat 0 == 0 then tak0 w ((wPool w).getD (Int.tmod k (wPool w).length).toNat []) else tak1 w ((wPool w).getD (Int.tmod k (wPool w).length).toNat [])
def stepP (w : Pai) (s : Int) : Pai := bif Int.tmod s 4 == 0 then (bif stWho s == 0 then say0 w (stK s) else say1 w (stK s))
  else bif Int.tmod s 4 == 1 || Int.tmod s 4 == 2 then takP w (stK s) else ageI w 2
def okPl (w : Pai) : Prop := (wPool w).length ≤ 10 * big ∧ (wTo w).length ≤ 10 * big
def okPa (w : Pai) : Prop := (wC w).1.length ≤ big ∧ okPo (w0 w) ∧ okPo (w1 w) ∧ okSt (w0 w).2.1 ∧ okSt (w1 w).2.1 ∧ itPo (w0 w).2.2.1 ≤ big ∧ itPo (w1 w).2.2.1 ≤ big ∧ (wPool w).length ≤ big ∧ (wTo w).length = (wPool w).length ∧ (∀ y ∈ wPool w, y.length ≤ 100000000 ∧ byt y) ∧ (∀ t ∈ wTo w, 0 ≤ t ∧ t < 2) ∧
  (wS0 w).length ≤ big ∧ (wS1 w).length ≤ big ∧ (wT0 w).length ≤ big ∧ (wT1 w).length ≤ big
theorem hbig : big = 1000000000 := rfl
theorem putW_nil (w : Pai) (who : Int) : w = putW w who [] := by
  unfold putW
  rw [List.map_nil, List.append_nil, List.any_nil, Bool.or_false, show List.replicate ([] : List Par).length (oth who) = [] from rfl, List.append_nil]
  rfl
theorem putW_snoc (w : Pai) (who : Int) (l : List Par) (x : Par) : putW w who (l ++ [x]) = (wC w, w0 w, w1 w, wA w, wB w, (wPool w ++ l.map (fun x => x.2.1)) ++ [x.2.1], (wTo w ++ List.replicate l.length (oth who)) ++ [oth who], wS0 w, wS1 w, wT0 w, wT1 w, wNow w, (wBr w || l.any (fun x => x.1 != bif who == 0 then wB w else wA w)) || (x.1 != bif who == 0 then wB w else wA w), ()) := by
  unfold putW
  rw [List.map_append, List.length_append, List.any_append, ← Bool.or_assoc, List.append_assoc, List.append_assoc, show [x].length = 1 from rfl, List.replicate_succ']
  simp only [List.map_cons, List.map_nil, List.any_cons, List.any_nil, Bool.or_false, List.replicate_one]
theorem psF_len1 (c : Cfg) (p : Pos) (tn : Int) (b : List Int) (now : Int) : (psF c p tn b now).2.1.length ≤ 1 := by
  unfold psF
  split
  · exact Nat.zero_le 1
  · split
    · exact Nat.zero_le 1
    · exact Nat.le_trans (iparF_len _ _ _ _ _) (sendF_len _ _ _ _)
theorem linkE_in (p : Pos) (n : Int) : linkE p n ∈ lnkL p.2.2.1 n := by
  unfold linkE
  rw [List.getD_eq_getElem?_getD, List.getElem?_eq_getElem (lnkI_lt p.2.2.1 n)]
  exact List.getElem_mem _
theorem goE_ok {p : Pos} (h : okPo p) (s : Sta) (n : Int) : okPe (linkE (goF p s) n) := by
  refine lnkL_ok (fun q hq => ?_) n _ (linkE_in _ _)
  unfold goF at hq
  split at hq
  · exact h.2.2 q hq
  · exact (List.not_mem_nil hq).elim
theorem tkGo_len {m : List (Int × Int)} {l : List Itm} : ∀ (f : Nat) (e : Int) (g : List Bool) (b : List (List Int)), (tkGo m l f e g b).2.2.length ≤ b.length + f
  | 0, e, g, b => Nat.le_refl _
  | f + 1, e, g, b => by
    rw [tkGo]
    split
    · have := tkGo_len (m := m) (l := l) f (i64 (e + 1)) (g.set (mget m e).toNat true) (b ++ [(l.getD (mget m e).toNat zIt).2.1])
      rw [List.length_append, List.length_singleton] at this
      omega
    · exact Nat.le_add_right _ _
theorem ptF_len {c : Cfg} {p : Pos} (h : okPo p) (n : Int) (b : List Int) (now : Int) : (ptF c p n b now).2.1.length ≤ big + 2 ∧ (ptF c p n b now).2.2.1.length ≤ big + 2 := by
  unfold ptF
  split
  · exact ⟨Nat.zero_le _, Nat.zero_le _⟩
  split
  · exact ⟨Nat.zero_le _, Nat.zero_le _⟩
  generalize frTkF (pairF c n p.1) b = f
  unfold ptG
  split
  · exact ⟨Nat.zero_le _, Nat.zero_le _⟩
  split
  · exact ⟨Nat.zero_le _, Nat.zero_le _⟩
  have hq := goE_ok h f.2.2.1 n
  split
  · refine ⟨Nat.zero_le _, ?_⟩
    refine Nat.le_trans (iparF_len _ _ _ _ _) ?_
    have h1 := ackGo_len (winC c) now (linkE (goF p f.2.2.1) n).2.1.2.2.1 (linkE (goF p f.2.2.1) n).2.1.1 (ackS (linkE (goF p f.2.2.1) n).2.1.2.1 f.2.2.2.2.1) []
    have h2 : (linkE (goF p f.2.2.1) n).2.1.2.2.1.length ≤ big := hq.1.2.1
    show (ackF _ _ _ _).2.1.length ≤ _
    unfold ackF
    rw [List.length_nil] at h1
    omega
  · refine ⟨?_, Nat.le_trans (parF_len _ _ _) (by rw [hbig]; omega)⟩
    show (takF _ _ _ _).2.1.length ≤ _
    have h2 : (linkE (goF p f.2.2.1) n).2.2.1.2.1.length ≤ big := hq.2.1
    have h3 : (tkL (linkE (goF p f.2.2.1) n).2.2.1 f.2.2.2.2.1 f.2.2.2.2.2.1 (winC c)).length ≤ big + 1 := by
      unfold tkL
      split
      · rw [List.length_append, List.length_singleton]; omega
      · omega
    have h1 := tkGo_len (m := tkM (linkE (goF p f.2.2.1) n).2.2.1 f.2.2.2.2.1 (winC c)) (l := tkL (linkE (goF p f.2.2.1) n).2.2.1 f.2.2.2.2.1 f.2.2.2.2.2.1 (winC c)) ((tkL (linkE (goF p f.2.2.1) n).2.2.1 f.2.2.2.2.1 f.2.2.2.2.2.1 (winC c)).length + 1) (linkE (goF p f.2.2.1) n).2.2.1.1 (List.replicate (tkL (linkE (goF p f.2.2.1) n).2.2.1 f.2.2.2.2.1 f.2.2.2.2.2.1 (winC c)).length false) []
    rw [List.length_nil] at h1
    unfold takF tkE
    dsimp only
    omega
theorem td_lt {s n : Int} (h : 0 ≤ s) (h2 : s < 9223372036854775808) (hn : 0 < n) : 0 ≤ Int.tdiv s n ∧ Int.tdiv s n ≤ 9223372036854775807 := by
  refine ⟨Int.tdiv_nonneg h (by omega), ?_⟩
  have := Int.tdiv_le_self n h
  omega
theorem stWho_2 {s : Int} (h : 0 ≤ s) (h2 : s < 9223372036854775808) : 0 ≤ stWho s ∧ stWho s < 2 := by
  obtain ⟨g1, g2⟩ := td_lt (n := 4) h h2 (by decide)
  have e : i64 (Int.tdiv s 4) = Int.tdiv s 4 := IntWalk.i64_in _ (by omega)
  unfold stWho
  rw [e]
  exact ⟨Int.tmod_nonneg _ g1, Int.tmod_lt_of_pos _ (by decide)⟩
theorem stK_0 {s : Int} (h : 0 ≤ s) (h2 : s < 9223372036854775808) : 0 ≤ stK s := by
  obtain ⟨g1, g2⟩ := td_lt (n := 8) h h2 (by decide)
  have e : i64 (Int.tdiv s 8) = Int.tdiv s 8 := IntWalk.i64_in _ (by omega)
  unfold stK
  rw [e]
  exact g1
end DoorU
def S_pput : Spec := ⟨.pair pPai (.pair nI (.pair (.view true tPa) .unit)), .pair (.tup .unit) (.pair pPai .unit), fun (x : Pai × Int × List Par × Unit) => 0 ≤ x.2.1 ∧ x.2.1 < 2 ∧ okPl x.1 ∧ x.2.2.1.length ≤ 2 * big, fun (x : Pai × Int × List Par × Unit) => (((), putW x.1 x.2.1 x.2.2.1, ()) : Unit × Pai × Unit)⟩
def A_pput (x : Pai × Int × List Par × Unit) : Nat → Option LA
  | 0 => some ⟨[10, 0], [], .pair nI (.pair pPai .unit), fun (v : Int × Pai × Unit) => 0 ≤ v.1 ∧ v.1 ≤ (x.2.2.1.length : Nat) ∧ v.2.1 = putW x.1 x.2.1 (x.2.2.1.take v.1.toNat), fun (v : Int × Pai × Unit) => ((x.2.2.1.length : Nat) - v.1).toNat⟩
  | _ => none
def S_pstep : Spec := ⟨.pair pPai (.pair nI .unit), .pair (.tup .unit) (.pair pPai .unit), fun (x : Pai × Int × Unit) => (0 ≤ x.2.1 ∧ x.2.1 < 9223372036854775808) ∧ okPa x.1, fun (x : Pai × Int × Unit) => (((), stepP x.1 x.2.1, ()) : Unit × Pai × Unit)⟩
def A_pstep (x : Pai × Int × Unit) : Nat → Option LA
  | 0 => some ⟨[33, 0], [], .pair nI (.pair pPai .unit), fun (v : Int × Pai × Unit) => 0 ≤ v.1 ∧ v.1 ≤ 2 ∧ v.2.1 = ageI x.1 v.1, fun (v : Int × Pai × Unit) => (2 - v.1).toNat⟩
  | 1000 => some ⟨[67005, 11, 16], [], .unit, fun _ => True, fun _ => 0⟩
  | _ => none

theorem vc_pput : VC Tryd.prog Tryd.f67 (bodyOf Tryd.f67) S_pput [] A_pput = (∀ (x : ((List Int × Int × Int × Int × Int × Int × Int × Int × Int × Int × Int × Unit) × (Int × (Int × Int × List Int × Unit) × List (Int × (Int × List (Int × List Int × Int × Unit) × List (List Int) × Unit) × (Int × List (Int × List Int × Int × Unit) × Unit) × Unit) × Unit) × (Int × (Int × Int × List Int × Unit) × List (Int × (Int × List (Int × List Int × Int × Unit) × List (List Int) × Unit) × (Int × List (Int × List Int × Int × Unit) × Unit) × Unit) × Unit) × Int × Int × List (List Int) × List Int × List (List Int) × List (List Int) × List (List Int) × List (List Int) × Int × Bool × Unit) × Int × List (Int × List Int × Bool × Unit) × Unit), (0 : Int) ≤ x.snd.fst ∧ x.snd.fst < (2 : Int) ∧ okPl x.fst ∧ List.length x.snd.snd.fst ≤ (2000000000 : Nat) →
  List.length x.fst.fst.fst ≤ (9223372036854775807 : Nat) →
  List.length x.fst.snd.fst.snd.fst.snd.snd.fst ≤ (9223372036854775807 : Nat) →
  List.length x.fst.snd.fst.snd.snd.fst ≤ (9223372036854775807 : Nat) →
  List.length x.fst.snd.snd.fst.snd.fst.snd.snd.fst ≤ (9223372036854775807 : Nat) →
  List.length x.fst.snd.snd.fst.snd.snd.fst ≤ (9223372036854775807 : Nat) →
  List.length x.fst.snd.snd.snd.snd.snd.fst ≤ (9223372036854775807 : Nat) →
  List.length x.fst.snd.snd.snd.snd.snd.snd.fst ≤ (9223372036854775807 : Nat) →
  List.length x.fst.snd.snd.snd.snd.snd.snd.snd.fst ≤ (9223372036854775807 : Nat) →
  List.length x.fst.snd.snd.snd.snd.snd.snd.snd.snd.fst ≤ (9223372036854775807 : Nat) →
  List.length x.fst.snd.snd.snd.snd.snd.snd.snd.snd.snd.fst ≤ (9223372036854775807 : Nat) →
  List.length x.fst.snd.snd.snd.snd.snd.snd.snd.snd.snd.snd.fst ≤ (9223372036854775807 : Nat) →
  List.length x.snd.snd.fst ≤ (9223372036854775807 : Nat) →
  List.length x.snd.snd.fst ≤ (9223372036854775807 : Nat) →
  ((0 : Int) ≤ (0 : Int) ∧ (0 : Int) ≤ (↑(List.length x.snd.snd.fst) : Int) ∧ x.fst = putW x.fst x.snd.fst (List.take (Int.toNat (0 : Int)) x.snd.snd.fst)) ∧ ∀ (v : Int × ((List Int × Int × Int × Int × Int × Int × Int × Int × Int × Int × Int × Unit) × (Int × (Int × Int × List Int × Unit) × List (Int × (Int × List (Int × List Int × Int × Unit) × List (List Int) × Unit) × (Int × List (Int × List Int × Int × Unit) × Unit) × Unit) × Unit) × (Int × (Int × Int × List Int × Unit) × List (Int × (Int × List (Int × List Int × Int × Unit) × List (List Int) × Unit) × (Int × List (Int × List Int × Int × Unit) × Unit) × Unit) × Unit) × Int × Int × List (List Int) × List Int × List (List Int) × List (List Int) × List (List Int) × List (List Int) × Int × Bool × Unit) × Unit), (0 : Int) ≤ v.fst ∧ v.fst ≤ (↑(List.length x.snd.snd.fst) : Int) ∧ v.snd.fst = putW x.fst x.snd.fst (List.take (Int.toNat v.fst) x.snd.snd.fst) →
  bif decide (v.fst < (↑(List.length x.snd.snd.fst) : Int)) then (0 : Int) ≤ v.fst ∧ v.fst < (↑(List.length x.snd.snd.fst) : Int) ∧ ∀ (c0 : Int × List Int × Bool × Unit), x.snd.snd.fst[Int.toNat v.fst]? = some c0 →
  (0 : Int) ≤ IntKind.wrap IntKind.i64 ((1 : Int) - x.snd.fst) ∧ IntKind.wrap IntKind.i64 ((1 : Int) - x.snd.fst) < Int.ofNat (2 : Nat) ∧ (bif decide (IntKind.wrap IntKind.i64 ((1 : Int) - x.snd.fst) = (1 : Int)) then bif c0.fst != v.snd.fst.snd.snd.snd.snd.fst then (List.length v.snd.fst.snd.snd.snd.snd.snd.fst + List.length [c0.snd.fst]) * (24 : Nat) ≤ (140737488351232 : Nat) ∧ (List.length v.snd.fst.snd.snd.snd.snd.snd.snd.fst + List.length [IntKind.wrap IntKind.i64 ((1 : Int) - x.snd.fst)]) * (8 : Nat) ≤ (140737488351232 : Nat) ∧ ((0 : Int) ≤ IntKind.wrap IntKind.i64 (v.fst + (1 : Int)) ∧ IntKind.wrap IntKind.i64 (v.fst + (1 : Int)) ≤ (↑(List.length x.snd.snd.fst) : Int) ∧ (v.snd.fst.fst, v.snd.fst.snd.fst, v.snd.fst.snd.snd.fst, v.snd.fst.snd.snd.snd.fst, v.snd.fst.snd.snd.snd.snd.fst, v.snd.fst.snd.snd.snd.snd.snd.fst ++ [c0.snd.fst], v.snd.fst.snd.snd.snd.snd.snd.snd.fst ++ [IntKind.wrap IntKind.i64 ((1 : Int) - x.snd.fst)], v.snd.fst.snd.snd.snd.snd.snd.snd.snd.fst, v.snd.fst.snd.snd.snd.snd.snd.snd.snd.snd.fst, v.snd.fst.snd.snd.snd.snd.snd.snd.snd.snd.snd.fst, v.snd.fst.snd.snd.snd.snd.snd.snd.snd.snd.snd.snd.fst, v.snd.fst.snd.snd.snd.snd.snd.snd.snd.snd.snd.snd.snd.fst, true, ()) = putW x.fst x.snd.fst (List.take (Int.toNat (IntKind.wrap IntKind.i64 (v.fst + (1 : Int)))) x.snd.snd.fst)) ∧ Int.toNat ((↑(List.length x.snd.snd.fst) : Int) - IntKind.wrap IntKind.i64 (v.fst + (1 : Int))) < Int.toNat ((↑(List.length x.snd.snd.fst) : Int) - v.fst) else (List.length v.snd.fst.snd.snd.snd.snd.snd.fst + List.length [c0.snd.fst]) * (24 : Nat) ≤ (140737488351232 : Nat) ∧ (List.length v.snd.fst.snd.snd.snd.snd.snd.snd.fst + List.length [IntKind.wrap IntKind.i64 ((1 : Int) - x.snd.fst)]) * (8 : Nat) ≤ (140737488351232 : Nat) ∧ ((0 : Int) ≤ IntKind.wrap IntKind.i64 (v.fst + (1 : Int)) ∧ IntKind.wrap IntKind.i64 (v.fst + (1 : Int)) ≤ (↑(List.length x.snd.snd.fst) : Int) ∧ (v.snd.fst.fst, v.snd.fst.snd.fst, v.snd.fst.snd.snd.fst, v.snd.fst.snd.snd.snd.fst, v.snd.fst.snd.snd.snd.snd.fst, v.snd.fst.snd.snd.snd.snd.snd.fst ++ [c0.snd.fst], v.snd.fst.snd.snd.snd.snd.snd.snd.fst ++ [IntKind.wrap IntKind.i64 ((1 : Int) - x.snd.fst)], v.snd.fst.snd.snd.snd.snd.snd.snd.snd) = putW x.fst x.snd.fst (List.take (Int.toNat (IntKind.wrap IntKind.i64 (v.fst + (1 : Int)))) x.snd.snd.fst)) ∧ Int.toNat ((↑(List.length x.snd.snd.fst) : Int) - IntKind.wrap IntKind.i64 (v.fst + (1 : Int))) < Int.toNat ((↑(List.length x.snd.snd.fst) : Int) - v.fst) else True) ∧ (bif decide (IntKind.wrap IntKind.i64 ((1 : Int) - x.snd.fst) = (0 : Int)) then bif c0.fst != v.snd.fst.snd.snd.snd.fst then (List.length v.snd.fst.snd.snd.snd.snd.snd.fst + List.length [c0.snd.fst]) * (24 : Nat) ≤ (140737488351232 : Nat) ∧ (List.length v.snd.fst.snd.snd.snd.snd.snd.snd.fst + List.length [IntKind.wrap IntKind.i64 ((1 : Int) - x.snd.fst)]) * (8 : Nat) ≤ (140737488351232 : Nat) ∧ ((0 : Int) ≤ IntKind.wrap IntKind.i64 (v.fst + (1 : Int)) ∧ IntKind.wrap IntKind.i64 (v.fst + (1 : Int)) ≤ (↑(List.length x.snd.snd.fst) : Int) ∧ (v.snd.fst.fst, v.snd.fst.snd.fst, v.snd.fst.snd.snd.fst, v.snd.fst.snd.snd.snd.fst, v.snd.fst.snd.snd.snd.snd.fst, v.snd.fst.snd.snd.snd.snd.snd.fst ++ [c0.snd.fst], v.snd.fst.snd.snd.snd.snd.snd.snd.fst ++ [IntKind.wrap IntKind.i64 ((1 : Int) - x.snd.fst)], v.snd.fst.snd.snd.snd.snd.snd.snd.snd.fst, v.snd.fst.snd.snd.snd.snd.snd.snd.snd.snd.fst, v.snd.fst.snd.snd.snd.snd.snd.snd.snd.snd.snd.fst, v.snd.fst.snd.snd.snd.snd.snd.snd.snd.snd.snd.snd.fst, v.snd.fst.snd.snd.snd.snd.snd.snd.snd.snd.snd.snd.snd.fst, true, ()) = putW x.fst x.snd.fst (List.take (Int.toNat (IntKind.wrap IntKind.i64 (v.fst + (1 : Int)))) x.snd.snd.fst)) ∧ Int.toNat ((↑(List.length x.snd.snd.fst) : Int) - IntKind.wrap IntKind.i64 (v.fst + (1 : Int))) < Int.toNat ((↑(List.length x.snd.snd.fst) : Int) - v.fst) else (List.length v.snd.fst.snd.snd.snd.snd.snd.fst + List.length [c0.snd.fst]) * (24 : Nat) ≤ (140737488351232 : Nat) ∧ (List.length v.snd.fst.snd.snd.snd.snd.snd.snd.fst + List.length [IntKind.wrap IntKind.i64 ((1 : Int) - x.snd.fst)]) * (8 : Nat) ≤ (140737488351232 : Nat) ∧ ((0 : Int) ≤ IntKind.wrap IntKind.i64 (v.fst + (1 : Int)) ∧ IntKind.wrap IntKind.i64 (v.fst + (1 : Int)) ≤ (↑(List.length x.snd.snd.fst) : Int) ∧ (v.snd.fst.fst, v.snd.fst.snd.fst, v.snd.fst.snd.snd.fst, v.snd.fst.snd.snd.snd.fst, v.snd.fst.snd.snd.snd.snd.fst, v.snd.fst.snd.snd.snd.snd.snd.fst ++ [c0.snd.fst], v.snd.fst.snd.snd.snd.snd.snd.snd.fst ++ [IntKind.wrap IntKind.i64 ((1 : Int) - x.snd.fst)], v.snd.fst.snd.snd.snd.snd.snd.snd.snd) = putW x.fst x.snd.fst (List.take (Int.toNat (IntKind.wrap IntKind.i64 (v.fst + (1 : Int)))) x.snd.snd.fst)) ∧ Int.toNat ((↑(List.length x.snd.snd.fst) : Int) - IntKind.wrap IntKind.i64 (v.fst + (1 : Int))) < Int.toNat ((↑(List.length x.snd.snd.fst) : Int) - v.fst) else True) ∧ True else ((), v.snd) = ((), putW x.fst x.snd.fst x.snd.snd.fst, ())) := by kernel_rfl
theorem en_pput (us : Array Value) (u : World) : (callFunc 67 us).run Tryd.prog u = .ok (.enter 67 us) u := by kernel_rfl
theorem sc_pput : SC Tryd.prog 67 S_pput := by
  refine SC.of Tryd.func67 (c := bodyOf Tryd.f67) (by kernel_rfl) (by kernel_rfl) (fun x => (by decide : (3:Nat) ≤ Tryd.f67.ntmps)) DOk.nil (Eq.mpr vc_pput ?_)
  rintro ⟨w, who, l, ⟨⟩⟩ ⟨h0, h1, ⟨h2, h3⟩, h4⟩ - - - - - - - - - - - - -
  dsimp only at h0 h1 h2 h3 h4 ⊢
  have hl : l.length ≤ 2000000000 := h4
  have hp : (wPool w).length ≤ 10000000000 := h2
  have hq : (wTo w).length ≤ 10000000000 := h3
  refine ⟨⟨Int.le_refl 0, by omega, putW_nil w who⟩, ?_⟩
  rintro ⟨i, v, ⟨⟩⟩ ⟨q0, q1, hv⟩
  dsimp only at q0 q1 hv ⊢
  subst hv
  have wi : IntKind.i64.wrap (i + 1) = i + 1 := IntWalk.i64_in _ (by omega)
  by_cases hi : i < (l.length : Int)
  rotate_left 1
  · rw [decide_eq_false hi, cond_false]
    obtain rfl : i = (l.length : Int) := by omega
    rw [show ((l.length : Nat) : Int).toNat = l.length by omega, List.take_length]
  rw [decide_eq_true hi, cond_true, wi]
  refine ⟨q0, hi, fun x hx => ?_⟩
  have ht := take_snoc hx
  have e2 : (i + 1).toNat = i.toNat + 1 := by omega
  have n1 : (putW w who (l.take i.toNat)).2.2.2.2.2.1.length ≤ 12000000000 := by
    show (wPool w ++ List.map _ _).length ≤ _
    rw [List.length_append, List.length_map, List.length_take]
    omega
  have n2 : (putW w who (l.take i.toNat)).2.2.2.2.2.2.1.length ≤ 12000000000 := by
    show (wTo w ++ List.replicate _ _).length ≤ _
    rw [List.length_append, List.length_replicate, List.length_take]
    omega
  obtain rfl | rfl : who = 0 ∨ who = 1 := by omega
  · refine ⟨by decide, by decide, ?_⟩
    have e1 : IntKind.i64.wrap (1 - 0) = 1 := by decide
    rw [e1]
    refine ⟨?_, trivial, trivial⟩
    rw [show decide ((1 : Int) = 1) = true from rfl, cond_true]
    by_cases hc : x.1 = wB w
    · refine (congrArg (fun b : Bool => bif b then _ else _) (bneF (show x.1 = wB w from hc))).mpr ?_
      show _ ∧ _
      refine ⟨by show (_ + 1) * 24 ≤ _; omega, by show (_ + 1) * 8 ≤ _; omega, ⟨by omega, by omega, ?_⟩, by omega⟩
      rw [e2, ht, putW_snoc, show (x.1 != bif (0 : Int) == 0 then wB w else wA w) = false from bneF hc, Bool.or_false]
      rfl
    · refine (congrArg (fun b : Bool => bif b then _ else _) (bneT (show ¬ x.1 = wB w from hc))).mpr ?_
      show _ ∧ _
      refine ⟨by show (_ + 1) * 24 ≤ _; omega, by show (_ + 1) * 8 ≤ _; omega, ⟨by omega, by omega, ?_⟩, by omega⟩
      rw [e2, ht, putW_snoc, show (x.1 != bif (0 : Int) == 0 then wB w else wA w) = true from bneT hc, Bool.or_true]
      rfl
  · refine ⟨by decide, by decide, ?_⟩
    have e1 : IntKind.i64.wrap (1 - 1) = 0 := by decide
    rw [e1]
    refine ⟨trivial, ?_, trivial⟩
    rw [show decide ((0 : Int) = 0) = true from rfl, cond_true]
    by_cases hc : x.1 = wA w
    · refine (congrArg (fun b : Bool => bif b then _ else _) (bneF (show x.1 = wA w from hc))).mpr ?_
      show _ ∧ _
      refine ⟨by show (_ + 1) * 24 ≤ _; omega, by show (_ + 1) * 8 ≤ _; omega, ⟨by omega, by omega, ?_⟩, by omega⟩
      rw [e2, ht, putW_snoc, show (x.1 != bif (1 : Int) == 0 then wB w else wA w) = false from bneF hc, Bool.or_false]
      rfl
    · refine (congrArg (fun b : Bool => bif b then _ else _) (bneT (show ¬ x.1 = wA w from hc))).mpr ?_
      show _ ∧ _
      refine ⟨by show (_ + 1) * 24 ≤ _; omega, by show (_ + 1) * 8 ≤ _; omega, ⟨by omega, by omega, ?_⟩, by omega⟩
      rw [e2, ht, putW_snoc, show (x.1 != bif (1 : Int) == 0 then wB w else wA w) = true from bneT hc, Bool.or_true]
      rfl

theorem vc_pstep : VC Tryd.prog Tryd.f28 (bodyOf Tryd.f28) S_pstep [(21, S_psend), (16, S_ptake), (68, S_pagn), (67, S_pput)] A_pstep = (∀ (x : ((List Int × Int × Int × Int × Int × Int × Int × Int × Int × Int × Int × Unit) × (Int × (Int × Int × List Int × Unit) × List (Int × (Int × List (Int × List Int × Int × Unit) × List (List Int) × Unit) × (Int × List (Int × List Int × Int × Unit) × Unit) × Unit) × Unit) × (Int × (Int × Int × List Int × Unit) × List (Int × (Int × List (Int × List Int × Int × Unit) × List (List Int) × Unit) × (Int × List (Int × List Int × Int × Unit) × Unit) × Unit) × Unit) × Int × Int × List (List Int) × List Int × List (List Int) × List (List Int) × List (List Int) × List (List Int) × Int × Bool × Unit) × Int × Unit), ((0 : Int) ≤ x.snd.fst ∧ x.snd.fst < (9223372036854775808 : Int)) ∧ okPa x.fst →
  List.length x.fst.fst.fst ≤ (9223372036854775807 : Nat) →
  List.length x.fst.snd.fst.snd.fst.snd.snd.fst ≤ (9223372036854775807 : Nat) →
  List.length x.fst.snd.fst.snd.snd.fst ≤ (9223372036854775807 : Nat) →
  List.length x.fst.snd.snd.fst.snd.fst.snd.snd.fst ≤ (9223372036854775807 : Nat) →
  List.length x.fst.snd.snd.fst.snd.snd.fst ≤ (9223372036854775807 : Nat) →
  List.length x.fst.snd.snd.snd.snd.snd.fst ≤ (9223372036854775807 : Nat) →
  List.length x.fst.snd.snd.snd.snd.snd.snd.fst ≤ (9223372036854775807 : Nat) →
  List.length x.fst.snd.snd.snd.snd.snd.snd.snd.fst ≤ (9223372036854775807 : Nat) →
  List.length x.fst.snd.snd.snd.snd.snd.snd.snd.snd.fst ≤ (9223372036854775807 : Nat) →
  List.length x.fst.snd.snd.snd.snd.snd.snd.snd.snd.snd.fst ≤ (9223372036854775807 : Nat) →
  List.length x.fst.snd.snd.snd.snd.snd.snd.snd.snd.snd.snd.fst ≤ (9223372036854775807 : Nat) →
  (8 : Int) ≠ (0 : Int) ∧ (4 : Int) ≠ (0 : Int) ∧ (2 : Int) ≠ (0 : Int) ∧ (4 : Int) ≠ (0 : Int) ∧ bif Int.tmod x.snd.fst (4 : Int) == (0 : Int) then (0 : Int) ≤ Int.tmod (IntKind.wrap IntKind.i64 (Int.tdiv x.snd.fst (4 : Int))) (2 : Int) ∧ Int.tmod (IntKind.wrap IntKind.i64 (Int.tdiv x.snd.fst (4 : Int))) (2 : Int) < (2 : Int) ∧ (bif decide (Int.tmod (IntKind.wrap IntKind.i64 (Int.tdiv x.snd.fst (4 : Int))) (2 : Int) = (0 : Int)) then (0 : Int) ≤ (0 : Int) ∧ (0 : Int) < Int.ofNat (2 : Nat) ∧ True ∧ ((0 : Int) ≤ (0 : Int) ∧ (0 : Int) < Int.ofNat (2 : Nat) ∧ True ∧ ((0 : Int) ≤ (1 : Int) ∧ (1 : Int) < Int.ofNat (2 : Nat) ∧ ((List.length x.fst.fst.fst ≤ big ∧ okPo x.fst.snd.fst ∧ okSt x.fst.snd.fst.snd.fst ∧ List.length [IntKind.wrap IntKind.u8 (Int.tmod (IntKind.wrap IntKind.i64 (Int.tdiv x.snd.fst (4 : Int))) (2 : Int)), IntKind.wrap IntKind.u8 (↑(List.length x.fst.snd.snd.snd.snd.snd.snd.snd.fst) : Int), IntKind.wrap IntKind.u8 (IntKind.wrap IntKind.i64 (Int.tdiv x.snd.fst (8 : Int)))] ≤ big) ∧ bif (psF x.fst.fst x.fst.snd.fst x.fst.snd.snd.snd.snd.fst [IntKind.wrap IntKind.u8 (Int.tmod (IntKind.wrap IntKind.i64 (Int.tdiv x.snd.fst (4 : Int))) (2 : Int)), IntKind.wrap IntKind.u8 (↑(List.length x.fst.snd.snd.snd.snd.snd.snd.snd.fst) : Int), IntKind.wrap IntKind.u8 (IntKind.wrap IntKind.i64 (Int.tdiv x.snd.fst (8 : Int)))] x.fst.snd.snd.snd.snd.snd.snd.snd.snd.snd.snd.snd.fst).snd.snd.fst != (0 : Int) then ((), (x.fst.fst, x.fst.snd.fst, x.fst.snd.snd.fst, x.fst.snd.snd.snd.fst, x.fst.snd.snd.snd.snd.fst, x.fst.snd.snd.snd.snd.snd.fst, x.fst.snd.snd.snd.snd.snd.snd.fst, x.fst.snd.snd.snd.snd.snd.snd.snd.fst, x.fst.snd.snd.snd.snd.snd.snd.snd.snd.fst, x.fst.snd.snd.snd.snd.snd.snd.snd.snd.snd.fst, x.fst.snd.snd.snd.snd.snd.snd.snd.snd.snd.snd.fst, x.fst.snd.snd.snd.snd.snd.snd.snd.snd.snd.snd.snd.fst, true, ()), ()) = ((), stepP x.fst x.snd.fst, ()) else (0 : Int) ≤ (0 : Int) ∧ (0 : Int) < Int.ofNat (2 : Nat) ∧ True ∧ ((0 : Int) ≤ (0 : Int) ∧ (0 : Int) < Int.ofNat (2 : Nat) ∧ True ∧ ((List.length x.fst.snd.snd.snd.snd.snd.snd.snd.fst + List.length [[IntKind.wrap IntKind.u8 (Int.tmod (IntKind.wrap IntKind.i64 (Int.tdiv x.snd.fst (4 : Int))) (2 : Int)), IntKind.wrap IntKind.u8 (↑(List.length x.fst.snd.snd.snd.snd.snd.snd.snd.fst) : Int), IntKind.wrap IntKind.u8 (IntKind.wrap IntKind.i64 (Int.tdiv x.snd.fst (8 : Int)))]]) * (24 : Nat) ≤ (140737488351232 : Nat) ∧ (0 : Int) ≤ (0 : Int) ∧ (0 : Int) < Int.ofNat (2 : Nat) ∧ True ∧ (((0 : Int) ≤ (0 : Int) ∧ (0 : Int) < (2 : Int) ∧ okPl (x.fst.fst, (psF x.fst.fst x.fst.snd.fst x.fst.snd.snd.snd.snd.fst [IntKind.wrap IntKind.u8 (Int.tmod (IntKind.wrap IntKind.i64 (Int.tdiv x.snd.fst (4 : Int))) (2 : Int)), IntKind.wrap IntKind.u8 (↑(List.length x.fst.snd.snd.snd.snd.snd.snd.snd.fst) : Int), IntKind.wrap IntKind.u8 (IntKind.wrap IntKind.i64 (Int.tdiv x.snd.fst (8 : Int)))] x.fst.snd.snd.snd.snd.snd.snd.snd.snd.snd.snd.snd.fst).fst, x.fst.snd.snd.fst, x.fst.snd.snd.snd.fst, x.fst.snd.snd.snd.snd.fst, x.fst.snd.snd.snd.snd.snd.fst, x.fst.snd.snd.snd.snd.snd.snd.fst, x.fst.snd.snd.snd.snd.snd.snd.snd.fst ++ [[IntKind.wrap IntKind.u8 (Int.tmod (IntKind.wrap IntKind.i64 (Int.tdiv x.snd.fst (4 : Int))) (2 : Int)), IntKind.wrap IntKind.u8 (↑(List.length x.fst.snd.snd.snd.snd.snd.snd.snd.fst) : Int), IntKind.wrap IntKind.u8 (IntKind.wrap IntKind.i64 (Int.tdiv x.snd.fst (8 : Int)))]], x.fst.snd.snd.snd.snd.snd.snd.snd.snd) ∧ List.length (psF x.fst.fst x.fst.snd.fst x.fst.snd.snd.snd.snd.fst [IntKind.wrap IntKind.u8 (Int.tmod (IntKind.wrap IntKind.i64 (Int.tdiv x.snd.fst (4 : Int))) (2 : Int)), IntKind.wrap IntKind.u8 (↑(List.length x.fst.snd.snd.snd.snd.snd.snd.snd.fst) : Int), IntKind.wrap IntKind.u8 (IntKind.wrap IntKind.i64 (Int.tdiv x.snd.fst (8 : Int)))] x.fst.snd.snd.snd.snd.snd.snd.snd.snd.snd.snd.snd.fst).snd.fst ≤ (2000000000 : Nat)) ∧ ((), (x.fst.fst, (psF x.fst.fst x.fst.snd.fst x.fst.snd.snd.snd.snd.fst [IntKind.wrap IntKind.u8 (Int.tmod (IntKind.wrap IntKind.i64 (Int.tdiv x.snd.fst (4 : Int))) (2 : Int)), IntKind.wrap IntKind.u8 (↑(List.length x.fst.snd.snd.snd.snd.snd.snd.snd.fst) : Int), IntKind.wrap IntKind.u8 (IntKind.wrap IntKind.i64 (Int.tdiv x.snd.fst (8 : Int)))] x.fst.snd.snd.snd.snd.snd.snd.snd.snd.snd.snd.snd.fst).fst, x.fst.snd.snd.fst, wA (x.fst.fst, (psF x.fst.fst x.fst.snd.fst x.fst.snd.snd.snd.snd.fst [IntKind.wrap IntKind.u8 (Int.tmod (IntKind.wrap IntKind.i64 (Int.tdiv x.snd.fst (4 : Int))) (2 : Int)), IntKind.wrap IntKind.u8 (↑(List.length x.fst.snd.snd.snd.snd.snd.snd.snd.fst) : Int), IntKind.wrap IntKind.u8 (IntKind.wrap IntKind.i64 (Int.tdiv x.snd.fst (8 : Int)))] x.fst.snd.snd.snd.snd.snd.snd.snd.snd.snd.snd.snd.fst).fst, x.fst.snd.snd.fst, x.fst.snd.snd.snd.fst, x.fst.snd.snd.snd.snd.fst, x.fst.snd.snd.snd.snd.snd.fst, x.fst.snd.snd.snd.snd.snd.snd.fst, x.fst.snd.snd.snd.snd.snd.snd.snd.fst ++ [[IntKind.wrap IntKind.u8 (Int.tmod (IntKind.wrap IntKind.i64 (Int.tdiv x.snd.fst (4 : Int))) (2 : Int)), IntKind.wrap IntKind.u8 (↑(List.length x.fst.snd.snd.snd.snd.snd.snd.snd.fst) : Int), IntKind.wrap IntKind.u8 (IntKind.wrap IntKind.i64 (Int.tdiv x.snd.fst (8 : Int)))]], x.fst.snd.snd.snd.snd.snd.snd.snd.snd), wB (x.fst.fst, (psF x.fst.fst x.fst.snd.fst x.fst.snd.snd.snd.snd.fst [IntKind.wrap IntKind.u8 (Int.tmod (IntKind.wrap IntKind.i64 (Int.tdiv x.snd.fst (4 : Int))) (2 : Int)), IntKind.wrap IntKind.u8 (↑(List.length x.fst.snd.snd.snd.snd.snd.snd.snd.fst) : Int), IntKind.wrap IntKind.u8 (IntKind.wrap IntKind.i64 (Int.tdiv x.snd.fst (8 : Int)))] x.fst.snd.snd.snd.snd.snd.snd.snd.snd.snd.snd.snd.fst).fst, x.fst.snd.snd.fst, x.fst.snd.snd.snd.fst, x.fst.snd.snd.snd.snd.fst, x.fst.snd.snd.snd.snd.snd.fst, x.fst.snd.snd.snd.snd.snd.snd.fst, x.fst.snd.snd.snd.snd.snd.snd.snd.fst ++ [[IntKind.wrap IntKind.u8 (Int.tmod (IntKind.wrap IntKind.i64 (Int.tdiv x.snd.fst (4 : Int))) (2 : Int)), IntKind.wrap IntKind.u8 (↑(List.length x.fst.snd.snd.snd.snd.snd.snd.snd.fst) : Int), IntKind.wrap IntKind.u8 (IntKind.wrap IntKind.i64 (Int.tdiv x.snd.fst (8 : Int)))]], x.fst.snd.snd.snd.snd.snd.snd.snd.snd), wPool (x.fst.fst, (psF x.fst.fst x.fst.snd.fst x.fst.snd.snd.snd.snd.fst [IntKind.wrap IntKind.u8 (Int.tmod (IntKind.wrap IntKind.i64 (Int.tdiv x.snd.fst (4 : Int))) (2 : Int)), IntKind.wrap IntKind.u8 (↑(List.length x.fst.snd.snd.snd.snd.snd.snd.snd.fst) : Int), IntKind.wrap IntKind.u8 (IntKind.wrap IntKind.i64 (Int.tdiv x.snd.fst (8 : Int)))] x.fst.snd.snd.snd.snd.snd.snd.snd.snd.snd.snd.snd.fst).fst, x.fst.snd.snd.fst, x.fst.snd.snd.snd.fst, x.fst.snd.snd.snd.snd.fst, x.fst.snd.snd.snd.snd.snd.fst, x.fst.snd.snd.snd.snd.snd.snd.fst, x.fst.snd.snd.snd.snd.snd.snd.snd.fst ++ [[IntKind.wrap IntKind.u8 (Int.tmod (IntKind.wrap IntKind.i64 (Int.tdiv x.snd.fst (4 : Int))) (2 : Int)), IntKind.wrap IntKind.u8 (↑(List.length x.fst.snd.snd.snd.snd.snd.snd.snd.fst) : Int), IntKind.wrap IntKind.u8 (IntKind.wrap IntKind.i64 (Int.tdiv x.snd.fst (8 : Int)))]], x.fst.snd.snd.snd.snd.snd.snd.snd.snd) ++ List.map (fun x => x.snd.fst) (psF x.fst.fst x.fst.snd.fst x.fst.snd.snd.snd.snd.fst [IntKind.wrap IntKind.u8 (Int.tmod (IntKind.wrap IntKind.i64 (Int.tdiv x.snd.fst (4 : Int))) (2 : Int)), IntKind.wrap IntKind.u8 (↑(List.length x.fst.snd.snd.snd.snd.snd.snd.snd.fst) : Int), IntKind.wrap IntKind.u8 (IntKind.wrap IntKind.i64 (Int.tdiv x.snd.fst (8 : Int)))] x.fst.snd.snd.snd.snd.snd.snd.snd.snd.snd.snd.snd.fst).snd.fst, wTo (x.fst.fst, (psF x.fst.fst x.fst.snd.fst x.fst.snd.snd.snd.snd.fst [IntKind.wrap IntKind.u8 (Int.tmod (IntKind.wrap IntKind.i64 (Int.tdiv x.snd.fst (4 : Int))) (2 : Int)), IntKind.wrap IntKind.u8 (↑(List.length x.fst.snd.snd.snd.snd.snd.snd.snd.fst) : Int), IntKind.wrap IntKind.u8 (IntKind.wrap IntKind.i64 (Int.tdiv x.snd.fst (8 : Int)))] x.fst.snd.snd.snd.snd.snd.snd.snd.snd.snd.snd.snd.fst).fst, x.fst.snd.snd.fst, x.fst.snd.snd.snd.fst, x.fst.snd.snd.snd.snd.fst, x.fst.snd.snd.snd.snd.snd.fst, x.fst.snd.snd.snd.snd.snd.snd.fst, x.fst.snd.snd.snd.snd.snd.snd.snd.fst ++ [[IntKind.wrap IntKind.u8 (Int.tmod (IntKind.wrap IntKind.i64 (Int.tdiv x.snd.fst (4 : Int))) (2 : Int)), IntKind.wrap IntKind.u8 (↑(List.length x.fst.snd.snd.snd.snd.snd.snd.snd.fst) : Int), IntKind.wrap IntKind.u8 (IntKind.wrap IntKind.i64 (Int.tdiv x.snd.fst (8 : Int)))]], x.fst.snd.snd.snd.snd.snd.snd.snd.snd) ++ List.replicate (List.length (psF x.fst.fst x.fst.snd.fst x.fst.snd.snd.snd.snd.fst [IntKind.wrap IntKind.u8 (Int.tmod (IntKind.wrap IntKind.i64 (Int.tdiv x.snd.fst (4 : Int))) (2 : Int)), IntKind.wrap IntKind.u8 (↑(List.length x.fst.snd.snd.snd.snd.snd.snd.snd.fst) : Int), IntKind.wrap IntKind.u8 (IntKind.wrap IntKind.i64 (Int.tdiv x.snd.fst (8 : Int)))] x.fst.snd.snd.snd.snd.snd.snd.snd.snd.snd.snd.snd.fst).snd.fst) (oth (0 : Int)), wS0 (x.fst.fst, (psF x.fst.fst x.fst.snd.fst x.fst.snd.snd.snd.snd.fst [IntKind.wrap IntKind.u8 (Int.tmod (IntKind.wrap IntKind.i64 (Int.tdiv x.snd.fst (4 : Int))) (2 : Int)), IntKind.wrap IntKind.u8 (↑(List.length x.fst.snd.snd.snd.snd.snd.snd.snd.fst) : Int), IntKind.wrap IntKind.u8 (IntKind.wrap IntKind.i64 (Int.tdiv x.snd.fst (8 : Int)))] x.fst.snd.snd.snd.snd.snd.snd.snd.snd.snd.snd.snd.fst).fst, x.fst.snd.snd.fst, x.fst.snd.snd.snd.fst, x.fst.snd.snd.snd.snd.fst, x.fst.snd.snd.snd.snd.snd.fst, x.fst.snd.snd.snd.snd.snd.snd.fst, x.fst.snd.snd.snd.snd.snd.snd.snd.fst ++ [[IntKind.wrap IntKind.u8 (Int.tmod (IntKind.wrap IntKind.i64 (Int.tdiv x.snd.fst (4 : Int))) (2 : Int)), IntKind.wrap IntKind.u8 (↑(List.length x.fst.snd.snd.snd.snd.snd.snd.snd.fst) : Int), IntKind.wrap IntKind.u8 (IntKind.wrap IntKind.i64 (Int.tdiv x.snd.fst (8 : Int)))]], x.fst.snd.snd.snd.snd.snd.snd.snd.snd), wS1 (x.fst.fst, (psF x.fst.fst x.fst.snd.fst x.fst.snd.snd.snd.snd.fst [IntKind.wrap IntKind.u8 (Int.tmod (IntKind.wrap IntKind.i64 (Int.tdiv x.snd.fst (4 : Int))) (2 : Int)), IntKind.wrap IntKind.u8 (↑(List.length x.fst.snd.snd.snd.snd.snd.snd.snd.fst) : Int), IntKind.wrap IntKind.u8 (IntKind.wrap IntKind.i64 (Int.tdiv x.snd.fst (8 : Int)))] x.fst.snd.snd.snd.snd.snd.snd.snd.snd.snd.snd.snd.fst).fst, x.fst.snd.snd.fst, x.fst.snd.snd.snd.fst, x.fst.snd.snd.snd.snd.fst, x.fst.snd.snd.snd.snd.snd.fst, x.fst.snd.snd.snd.snd.snd.snd.fst, x.fst.snd.snd.snd.snd.snd.snd.snd.fst ++ [[IntKind.wrap IntKind.u8 (Int.tmod (IntKind.wrap IntKind.i64 (Int.tdiv x.snd.fst (4 : Int))) (2 : Int)), IntKind.wrap IntKind.u8 (↑(List.length x.fst.snd.snd.snd.snd.snd.snd.snd.fst) : Int), IntKind.wrap IntKind.u8 (IntKind.wrap IntKind.i64 (Int.tdiv x.snd.fst (8 : Int)))]], x.fst.snd.snd.snd.snd.snd.snd.snd.snd), wT0 (x.fst.fst, (psF x.fst.fst x.fst.snd.fst x.fst.snd.snd.snd.snd.fst [IntKind.wrap IntKind.u8 (Int.tmod (IntKind.wrap IntKind.i64 (Int.tdiv x.snd.fst (4 : Int))) (2 : Int)), IntKind.wrap IntKind.u8 (↑(List.length x.fst.snd.snd.snd.snd.snd.snd.snd.fst) : Int), IntKind.wrap IntKind.u8 (IntKind.wrap IntKind.i64 (Int.tdiv x.snd.fst (8 : Int)))] x.fst.snd.snd.snd.snd.snd.snd.snd.snd.snd.snd.snd.fst).fst, x.fst.snd.snd.fst, x.fst.snd.snd.snd.fst, x.fst.snd.snd.snd.snd.fst, x.fst.snd.snd.snd.snd.snd.fst, x.fst.snd.snd.snd.snd.snd.snd.fst, x.fst.snd.snd.snd.snd.snd.snd.snd.fst ++ [[IntKind.wrap IntKind.u8 (Int.tmod (IntKind.wrap IntKind.i64 (Int.tdiv x.snd.fst (4 : Int))) (2 : Int)), IntKind.wrap IntKind.u8 (↑(List.length x.fst.snd.snd.snd.snd.snd.snd.snd.fst) : Int), IntKind.wrap IntKind.u8 (IntKind.wrap IntKind.i64 (Int.tdiv x.snd.fst (8 : Int)))]], x.fst.snd.snd.snd.snd.snd.snd.snd.snd), wT1 (x.fst.fst, (psF x.fst.fst x.fst.snd.fst x.fst.snd.snd.snd.snd.fst [IntKind.wrap IntKind.u8 (Int.tmod (IntKind.wrap IntKind.i64 (Int.tdiv x.snd.fst (4 : Int))) (2 : Int)), IntKind.wrap IntKind.u8 (↑(List.length x.fst.snd.snd.snd.snd.snd.snd.snd.fst) : Int), IntKind.wrap IntKind.u8 (IntKind.wrap IntKind.i64 (Int.tdiv x.snd.fst (8 : Int)))] x.fst.snd.snd.snd.snd.snd.snd.snd.snd.snd.snd.snd.fst).fst, x.fst.snd.snd.fst, x.fst.snd.snd.snd.fst, x.fst.snd.snd.snd.snd.fst, x.fst.snd.snd.snd.snd.snd.fst, x.fst.snd.snd.snd.snd.snd.snd.fst, x.fst.snd.snd.snd.snd.snd.snd.snd.fst ++ [[IntKind.wrap IntKind.u8 (Int.tmod (IntKind.wrap IntKind.i64 (Int.tdiv x.snd.fst (4 : Int))) (2 : Int)), IntKind.wrap IntKind.u8 (↑(List.length x.fst.snd.snd.snd.snd.snd.snd.snd.fst) : Int), IntKind.wrap IntKind.u8 (IntKind.wrap IntKind.i64 (Int.tdiv x.snd.fst (8 : Int)))]], x.fst.snd.snd.snd.snd.snd.snd.snd.snd), wNow (x.fst.fst, (psF x.fst.fst x.fst.snd.fst x.fst.snd.snd.snd.snd.fst [IntKind.wrap IntKind.u8 (Int.tmod (IntKind.wrap IntKind.i64 (Int.tdiv x.snd.fst (4 : Int))) (2 : Int)), IntKind.wrap IntKind.u8 (↑(List.length x.fst.snd.snd.snd.snd.snd.snd.snd.fst) : Int), IntKind.wrap IntKind.u8 (IntKind.wrap IntKind.i64 (Int.tdiv x.snd.fst (8 : Int)))] x.fst.snd.snd.snd.snd.snd.snd.snd.snd.snd.snd.snd.fst).fst, x.fst.snd.snd.fst, x.fst.snd.snd.snd.fst, x.fst.snd.snd.snd.snd.fst, x.fst.snd.snd.snd.snd.snd.fst, x.fst.snd.snd.snd.snd.snd.snd.fst, x.fst.snd.snd.snd.snd.snd.snd.snd.fst ++ [[IntKind.wrap IntKind.u8 (Int.tmod (IntKind.wrap IntKind.i64 (Int.tdiv x.snd.fst (4 : Int))) (2 : Int)), IntKind.wrap IntKind.u8 (↑(List.length x.fst.snd.snd.snd.snd.snd.snd.snd.fst) : Int), IntKind.wrap IntKind.u8 (IntKind.wrap IntKind.i64 (Int.tdiv x.snd.fst (8 : Int)))]], x.fst.snd.snd.snd.snd.snd.snd.snd.snd), wBr (x.fst.fst, (psF x.fst.fst x.fst.snd.fst x.fst.snd.snd.snd.snd.fst [IntKind.wrap IntKind.u8 (Int.tmod (IntKind.wrap IntKind.i64 (Int.tdiv x.snd.fst (4 : Int))) (2 : Int)), IntKind.wrap IntKind.u8 (↑(List.length x.fst.snd.snd.snd.snd.snd.snd.snd.fst) : Int), IntKind.wrap IntKind.u8 (IntKind.wrap IntKind.i64 (Int.tdiv x.snd.fst (8 : Int)))] x.fst.snd.snd.snd.snd.snd.snd.snd.snd.snd.snd.snd.fst).fst, x.fst.snd.snd.fst, x.fst.snd.snd.snd.fst, x.fst.snd.snd.snd.snd.fst, x.fst.snd.snd.snd.snd.snd.fst, x.fst.snd.snd.snd.snd.snd.snd.fst, x.fst.snd.snd.snd.snd.snd.snd.snd.fst ++ [[IntKind.wrap IntKind.u8 (Int.tmod (IntKind.wrap IntKind.i64 (Int.tdiv x.snd.fst (4 : Int))) (2 : Int)), IntKind.wrap IntKind.u8 (↑(List.length x.fst.snd.snd.snd.snd.snd.snd.snd.fst) : Int), IntKind.wrap IntKind.u8 (IntKind.wrap IntKind.i64 (Int.tdiv x.snd.fst (8 : Int)))]], x.fst.snd.snd.snd.snd.snd.snd.snd.snd) || List.any (psF x.fst.fst x.fst.snd.fst x.fst.snd.snd.snd.snd.fst [IntKind.wrap IntKind.u8 (Int.tmod (IntKind.wrap IntKind.i64 (Int.tdiv x.snd.fst (4 : Int))) (2 : Int)), IntKind.wrap IntKind.u8 (↑(List.length x.fst.snd.snd.snd.snd.snd.snd.snd.fst) : Int), IntKind.wrap IntKind.u8 (IntKind.wrap IntKind.i64 (Int.tdiv x.snd.fst (8 : Int)))] x.fst.snd.snd.snd.snd.snd.snd.snd.snd.snd.snd.snd.fst).snd.fst fun x_1 => x_1.fst != bif (0 : Int) == (0 : Int) then wB (x.fst.fst, (psF x.fst.fst x.fst.snd.fst x.fst.snd.snd.snd.snd.fst [IntKind.wrap IntKind.u8 (Int.tmod (IntKind.wrap IntKind.i64 (Int.tdiv x.snd.fst (4 : Int))) (2 : Int)), IntKind.wrap IntKind.u8 (↑(List.length x.fst.snd.snd.snd.snd.snd.snd.snd.fst) : Int), IntKind.wrap IntKind.u8 (IntKind.wrap IntKind.i64 (Int.tdiv x.snd.fst (8 : Int)))] x.fst.snd.snd.snd.snd.snd.snd.snd.snd.snd.snd.snd.fst).fst, x.fst.snd.snd.fst, x.fst.snd.snd.snd.fst, x.fst.snd.snd.snd.snd.fst, x.fst.snd.snd.snd.snd.snd.fst, x.fst.snd.snd.snd.snd.snd.snd.fst, x.fst.snd.snd.snd.snd.snd.snd.snd.fst ++ [[IntKind.wrap IntKind.u8 (Int.tmod (IntKind.wrap IntKind.i64 (Int.tdiv x.snd.fst (4 : Int))) (2 : Int)), IntKind.wrap IntKind.u8 (↑(List.length x.fst.snd.snd.snd.snd.snd.snd.snd.fst) : Int), IntKind.wrap IntKind.u8 (IntKind.wrap IntKind.i64 (Int.tdiv x.snd.fst (8 : Int)))]], x.fst.snd.snd.snd.snd.snd.snd.snd.snd) else wA (x.fst.fst, (psF x.fst.fst x.fst.snd.fst x.fst.snd.snd.snd.snd.fst [IntKind.wrap IntKind.u8 (Int.tmod (IntKind.wrap IntKind.i64 (Int.tdiv x.snd.fst (4 : Int))) (2 : Int)), IntKind.wrap IntKind.u8 (↑(List.length x.fst.snd.snd.snd.snd.snd.snd.snd.fst) : Int), IntKind.wrap IntKind.u8 (IntKind.wrap IntKind.i64 (Int.tdiv x.snd.fst (8 : Int)))] x.fst.snd.snd.snd.snd.snd.snd.snd.snd.snd.snd.snd.fst).fst, x.fst.snd.snd.fst, x.fst.snd.snd.snd.fst, x.fst.snd.snd.snd.snd.fst, x.fst.snd.snd.snd.snd.snd.fst, x.fst.snd.snd.snd.snd.snd.snd.fst, x.fst.snd.snd.snd.snd.snd.snd.snd.fst ++ [[IntKind.wrap IntKind.u8 (Int.tmod (IntKind.wrap IntKind.i64 (Int.tdiv x.snd.fst (4 : Int))) (2 : Int)), IntKind.wrap IntKind.u8 (↑(List.length x.fst.snd.snd.snd.snd.snd.snd.snd.fst) : Int), IntKind.wrap IntKind.u8 (IntKind.wrap IntKind.i64 (Int.tdiv x.snd.fst (8 : Int)))]], x.fst.snd.snd.snd.snd.snd.snd.snd.snd), ()), ()) = ((), stepP x.fst x.snd.fst, ())) ∧ True) ∧ True) ∧ True) ∧ True ∧ True) ∧ True) ∧ True else True) ∧ bif decide (Int.tmod (IntKind.wrap IntKind.i64 (Int.tdiv x.snd.fst (4 : Int))) (2 : Int) = (1 : Int)) then (0 : Int) ≤ (1 : Int) ∧ (1 : Int) < Int.ofNat (2 : Nat) ∧ ((0 : Int) ≤ (1 : Int) ∧ (1 : Int) < Int.ofNat (2 : Nat) ∧ ((0 : Int) ≤ (0 : Int) ∧ (0 : Int) < Int.ofNat (2 : Nat) ∧ True ∧ ((List.length x.fst.fst.fst ≤ big ∧ okPo x.fst.snd.snd.fst ∧ okSt x.fst.snd.snd.fst.snd.fst ∧ List.length [IntKind.wrap IntKind.u8 (Int.tmod (IntKind.wrap IntKind.i64 (Int.tdiv x.snd.fst (4 : Int))) (2 : Int)), IntKind.wrap IntKind.u8 (↑(List.length x.fst.snd.snd.snd.snd.snd.snd.snd.snd.fst) : Int), IntKind.wrap IntKind.u8 (IntKind.wrap IntKind.i64 (Int.tdiv x.snd.fst (8 : Int)))] ≤ big) ∧ bif (psF x.fst.fst x.fst.snd.snd.fst x.fst.snd.snd.snd.fst [IntKind.wrap IntKind.u8 (Int.tmod (IntKind.wrap IntKind.i64 (Int.tdiv x.snd.fst (4 : Int))) (2 : Int)), IntKind.wrap IntKind.u8 (↑(List.length x.fst.snd.snd.snd.snd.snd.snd.snd.snd.fst) : Int), IntKind.wrap IntKind.u8 (IntKind.wrap IntKind.i64 (Int.tdiv x.snd.fst (8 : Int)))] x.fst.snd.snd.snd.snd.snd.snd.snd.snd.snd.snd.snd.fst).snd.snd.fst != (0 : Int) then ((), (x.fst.fst, x.fst.snd.fst, x.fst.snd.snd.fst, x.fst.snd.snd.snd.fst, x.fst.snd.snd.snd.snd.fst, x.fst.snd.snd.snd.snd.snd.fst, x.fst.snd.snd.snd.snd.snd.snd.fst, x.fst.snd.snd.snd.snd.snd.snd.snd.fst, x.fst.snd.snd.snd.snd.snd.snd.snd.snd.fst, x.fst.snd.snd.snd.snd.snd.snd.snd.snd.snd.fst, x.fst.snd.snd.snd.snd.snd.snd.snd.snd.snd.snd.fst, x.fst.snd.snd.snd.snd.snd.snd.snd.snd.snd.snd.snd.fst, true, ()), ()) = ((), stepP x.fst x.snd.fst, ()) else (0 : Int) ≤ (1 : Int) ∧ (1 : Int) < Int.ofNat (2 : Nat) ∧ ((0 : Int) ≤ (1 : Int) ∧ (1 : Int) < Int.ofNat (2 : Nat) ∧ ((List.length x.fst.snd.snd.snd.snd.snd.snd.snd.snd.fst + List.length [[IntKind.wrap IntKind.u8 (Int.tmod (IntKind.wrap IntKind.i64 (Int.tdiv x.snd.fst (4 : Int))) (2 : Int)), IntKind.wrap IntKind.u8 (↑(List.length x.fst.snd.snd.snd.snd.snd.snd.snd.snd.fst) : Int), IntKind.wrap IntKind.u8 (IntKind.wrap IntKind.i64 (Int.tdiv x.snd.fst (8 : Int)))]]) * (24 : Nat) ≤ (140737488351232 : Nat) ∧ (0 : Int) ≤ (1 : Int) ∧ (1 : Int) < Int.ofNat (2 : Nat) ∧ (((0 : Int) ≤ (1 : Int) ∧ (1 : Int) < (2 : Int) ∧ okPl (x.fst.fst, x.fst.snd.fst, (psF x.fst.fst x.fst.snd.snd.fst x.fst.snd.snd.snd.fst [IntKind.wrap IntKind.u8 (Int.tmod (IntKind.wrap IntKind.i64 (Int.tdiv x.snd.fst (4 : Int))) (2 : Int)), IntKind.wrap IntKind.u8 (↑(List.length x.fst.snd.snd.snd.snd.snd.snd.snd.snd.fst) : Int), IntKind.wrap IntKind.u8 (IntKind.wrap IntKind.i64 (Int.tdiv x.snd.fst (8 : Int)))] x.fst.snd.snd.snd.snd.snd.snd.snd.snd.snd.snd.snd.fst).fst, x.fst.snd.snd.snd.fst, x.fst.snd.snd.snd.snd.fst, x.fst.snd.snd.snd.snd.snd.fst, x.fst.snd.snd.snd.snd.snd.snd.fst, x.fst.snd.snd.snd.snd.snd.snd.snd.fst, x.fst.snd.snd.snd.snd.snd.snd.snd.snd.fst ++ [[IntKind.wrap IntKind.u8 (Int.tmod (IntKind.wrap IntKind.i64 (Int.tdiv x.snd.fst (4 : Int))) (2 : Int)), IntKind.wrap IntKind.u8 (↑(List.length x.fst.snd.snd.snd.snd.snd.snd.snd.snd.fst) : Int), IntKind.wrap IntKind.u8 (IntKind.wrap IntKind.i64 (Int.tdiv x.snd.fst (8 : Int)))]], x.fst.snd.snd.snd.snd.snd.snd.snd.snd.snd) ∧ List.length (psF x.fst.fst x.fst.snd.snd.fst x.fst.snd.snd.snd.fst [IntKind.wrap IntKind.u8 (Int.tmod (IntKind.wrap IntKind.i64 (Int.tdiv x.snd.fst (4 : Int))) (2 : Int)), IntKind.wrap IntKind.u8 (↑(List.length x.fst.snd.snd.snd.snd.snd.snd.snd.snd.fst) : Int), IntKind.wrap IntKind.u8 (IntKind.wrap IntKind.i64 (Int.tdiv x.snd.fst (8 : Int)))] x.fst.snd.snd.snd.snd.snd.snd.snd.snd.snd.snd.snd.fst).snd.fst ≤ (2000000000 : Nat)) ∧ ((), (x.fst.fst, x.fst.snd.fst, (psF x.fst.fst x.fst.snd.snd.fst x.fst.snd.snd.snd.fst [IntKind.wrap IntKind.u8 (Int.tmod (IntKind.wrap IntKind.i64 (Int.tdiv x.snd.fst (4 : Int))) (2 : Int)), IntKind.wrap IntKind.u8 (↑(List.length x.fst.snd.snd.snd.snd.snd.snd.snd.snd.fst) : Int), IntKind.wrap IntKind.u8 (IntKind.wrap IntKind.i64 (Int.tdiv x.snd.fst (8 : Int)))] x.fst.snd.snd.snd.snd.snd.snd.snd.snd.snd.snd.snd.fst).fst, wA (x.fst.fst, x.fst.snd.fst, (psF x.fst.fst x.fst.snd.snd.fst x.fst.snd.snd.snd.fst [IntKind.wrap IntKind.u8 (Int.tmod (IntKind.wrap IntKind.i64 (Int.tdiv x.snd.fst (4 : Int))) (2 : Int)), IntKind.wrap IntKind.u8 (↑(List.length x.fst.snd.snd.snd.snd.snd.snd.snd.snd.fst) : Int), IntKind.wrap IntKind.u8 (IntKind.wrap IntKind.i64 (Int.tdiv x.snd.fst (8 : Int)))] x.fst.snd.snd.snd.snd.snd.snd.snd.snd.snd.snd.snd.fst).fst, x.fst.snd.snd.snd.fst, x.fst.snd.snd.snd.snd.fst, x.fst.snd.snd.snd.snd.snd.fst, x.fst.snd.snd.snd.snd.snd.snd.fst, x.fst.snd.snd.snd.snd.snd.snd.snd.fst, x.fst.snd.snd.snd.snd.snd.snd.snd.snd.fst ++ [[IntKind.wrap IntKind.u8 (Int.tmod (IntKind.wrap IntKind.i64 (Int.tdiv x.snd.fst (4 : Int))) (2 : Int)), IntKind.wrap IntKind.u8 (↑(List.length x.fst.snd.snd.snd.snd.snd.snd.snd.snd.fst) : Int), IntKind.wrap IntKind.u8 (IntKind.wrap IntKind.i64 (Int.tdiv x.snd.fst (8 : Int)))]], x.fst.snd.snd.snd.snd.snd.snd.snd.snd.snd), wB (x.fst.fst, x.fst.snd.fst, (psF x.fst.fst x.fst.snd.snd.fst x.fst.snd.snd.snd.fst [IntKind.wrap IntKind.u8 (Int.tmod (IntKind.wrap IntKind.i64 (Int.tdiv x.snd.fst (4 : Int))) (2 : Int)), IntKind.wrap IntKind.u8 (↑(List.length x.fst.snd.snd.snd.snd.snd.snd.snd.snd.fst) : Int), IntKind.wrap IntKind.u8 (IntKind.wrap IntKind.i64 (Int.tdiv x.snd.fst (8 : Int)))] x.fst.snd.snd.snd.snd.snd.snd.snd.snd.snd.snd.snd.fst).fst, x.fst.snd.snd.snd.fst, x.fst.snd.snd.snd.snd.fst, x.fst.snd.snd.snd.snd.snd.fst, x.fst.snd.snd.snd.snd.snd.snd.fst, x.fst.snd.snd.snd.snd.snd.snd.snd.fst, x.fst.snd.snd.snd.snd.snd.snd.snd.snd.fst ++ [[IntKind.wrap IntKind.u8 (Int.tmod (IntKind.wrap IntKind.i64 (Int.tdiv x.snd.fst (4 : Int))) (2 : Int)), IntKind.wrap IntKind.u8 (↑(List.length x.fst.snd.snd.snd.snd.snd.snd.snd.snd.fst) : Int), IntKind.wrap IntKind.u8 (IntKind.wrap IntKind.i64 (Int.tdiv x.snd.fst (8 : Int)))]], x.fst.snd.snd.snd.snd.snd.snd.snd.snd.snd), wPool (x.fst.fst, x.fst.snd.fst, (psF x.fst.fst x.fst.snd.snd.fst x.fst.snd.snd.snd.fst [IntKind.wrap IntKind.u8 (Int.tmod (IntKind.wrap IntKind.i64 (Int.tdiv x.snd.fst (4 : Int))) (2 : Int)), IntKind.wrap IntKind.u8 (↑(List.length x.fst.snd.snd.snd.snd.snd.snd.snd.snd.fst) : Int), IntKind.wrap IntKind.u8 (IntKind.wrap IntKind.i64 (Int.tdiv x.snd.fst (8 : Int)))] x.fst.snd.snd.snd.snd.snd.snd.snd.snd.snd.snd.snd.fst).fst, x.fst.snd.snd.snd.fst, x.fst.snd.snd.snd.snd.fst, x.fst.snd.snd.snd.snd.snd.fst, x.fst.snd.snd.snd.snd.snd.snd.fst, x.fst.snd.snd.snd.snd.snd.snd.snd.fst, x.fst.snd.snd.snd.snd.snd.snd.snd.snd.fst ++ [[IntKind.wrap IntKind.u8 (Int.tmod (IntKind.wrap IntKind.i64 (Int.tdiv x.snd.fst (4 : Int))) (2 : Int)), IntKind.wrap IntKind.u8 (↑(List.length x.fst.snd.snd.snd.snd.snd.snd.snd.snd.fst) : Int), IntKind.wrap IntKind.u8 (IntKind.wrap IntKind.i64 (Int.tdiv x.snd.fst (8 : Int)))]], x.fst.snd.snd.snd.snd.snd.snd.snd.snd.snd) ++ List.map (fun x => x.snd.fst) (psF x.fst.fst x.fst.snd.snd.fst x.fst.snd.snd.snd.fst [IntKind.wrap IntKind.u8 (Int.tmod (IntKind.wrap IntKind.i64 (Int.tdiv x.snd.fst (4 : Int))) (2 : Int)), IntKind.wrap IntKind.u8 (↑(List.length x.fst.snd.snd.snd.snd.snd.snd.snd.snd.fst) : Int), IntKind.wrap IntKind.u8 (IntKind.wrap IntKind.i64 (Int.tdiv x.snd.fst (8 : Int)))] x.fst.snd.snd.snd.snd.snd.snd.snd.snd.snd.snd.snd.fst).snd.fst, wTo (x.fst.fst, x.fst.snd.fst, (psF x.fst.fst x.fst.snd.snd.fst x.fst.snd.snd.snd.fst [IntKind.wrap IntKind.u8 (Int.tmod (IntKind.wrap IntKind.i64 (Int.tdiv x.snd.fst (4 : Int))) (2 : Int)), IntKind.wrap IntKind.u8 (↑(List.length x.fst.snd.snd.snd.snd.snd.snd.snd.snd.fst) : Int), IntKind.wrap IntKind.u8 (IntKind.wrap IntKind.i64 (Int.tdiv x.snd.fst (8 : Int)))] x.fst.snd.snd.snd.snd.snd.snd.snd.snd.snd.snd.snd.fst).fst, x.fst.snd.snd.snd.fst, x.fst.snd.snd.snd.snd.fst, x.fst.snd.snd.snd.snd.snd.fst, x.fst.snd.snd.snd.snd.snd.snd.fst, x.fst.snd.snd.snd.snd.snd.snd.snd.fst, x.fst.snd.snd.snd.snd.snd.snd.snd.snd.fst ++ [[IntKind.wrap IntKind.u8 (Int.tmod (IntKind.wrap IntKind.i64 (Int.tdiv x.snd.fst (4 : Int))) (2 : Int)), IntKind.wrap IntKind.u8 (↑(List.length x.fst.snd.snd.snd.snd.snd.snd.snd.snd.fst) : Int), IntKind.wrap IntKind.u8 (IntKind.wrap IntKind.i64 (Int.tdiv x.snd.fst (8 : Int)))]], x.fst.snd.snd.snd.snd.snd.snd.snd.snd.snd) ++ List.replicate (List.length (psF x.fst.fst x.fst.snd.snd.fst x.fst.snd.snd.snd.fst [IntKind.wrap IntKind.u8 (Int.tmod (IntKind.wrap IntKind.i64 (Int.tdiv x.snd.fst (4 : Int))) (2 : Int)), IntKind.wrap IntKind.u8 (↑(List.length x.fst.snd.snd.snd.snd.snd.snd.snd.snd.fst) : Int), IntKind.wrap IntKind.u8 (IntKind.wrap IntKind.i64 (Int.tdiv x.snd.fst (8 : Int)))] x.fst.snd.snd.snd.snd.snd.snd.snd.snd.snd.snd.snd.fst).snd.fst) (oth (1 : Int)), wS0 (x.fst.fst, x.fst.snd.fst, (psF x.fst.fst x.fst.snd.snd.fst x.fst.snd.snd.snd.fst [IntKind.wrap IntKind.u8 (Int.tmod (IntKind.wrap IntKind.i64 (Int.tdiv x.snd.fst (4 : Int))) (2 : Int)), IntKind.wrap IntKind.u8 (↑(List.length x.fst.snd.snd.snd.snd.snd.snd.snd.snd.fst) : Int), IntKind.wrap IntKind.u8 (IntKind.wrap IntKind.i64 (Int.tdiv x.snd.fst (8 : Int)))] x.fst.snd.snd.snd.snd.snd.snd.snd.snd.snd.snd.snd.fst).fst, x.fst.snd.snd.snd.fst, x.fst.snd.snd.snd.snd.fst, x.fst.snd.snd.snd.snd.snd.fst, x.fst.snd.snd.snd.snd.snd.snd.fst, x.fst.snd.snd.snd.snd.snd.snd.snd.fst, x.fst.snd.snd.snd.snd.snd.snd.snd.snd.fst ++ [[IntKind.wrap IntKind.u8 (Int.tmod (IntKind.wrap IntKind.i64 (Int.tdiv x.snd.fst (4 : Int))) (2 : Int)), IntKind.wrap IntKind.u8 (↑(List.length x.fst.snd.snd.snd.snd.snd.snd.snd.snd.fst) : Int), IntKind.wrap IntKind.u8 (IntKind.wrap IntKind.i64 (Int.tdiv x.snd.fst (8 : Int)))]], x.fst.snd.snd.snd.snd.snd.snd.snd.snd.snd), wS1 (x.fst.fst, x.fst.snd.fst, (psF x.fst.fst x.fst.snd.snd.fst x.fst.snd.snd.snd.fst [IntKind.wrap IntKind.u8 (Int.tmod (IntKind.wrap IntKind.i64 (Int.tdiv x.snd.fst (4 : Int))) (2 : Int)), IntKind.wrap IntKind.u8 (↑(List.length x.fst.snd.snd.snd.snd.snd.snd.snd.snd.fst) : Int), IntKind.wrap IntKind.u8 (IntKind.wrap IntKind.i64 (Int.tdiv x.snd.fst (8 : Int)))] x.fst.snd.snd.snd.snd.snd.snd.snd.snd.snd.snd.snd.fst).fst, x.fst.snd.snd.snd.fst, x.fst.snd.snd.snd.snd.fst, x.fst.snd.snd.snd.snd.snd.fst, x.fst.snd.snd.snd.snd.snd.snd.fst, x.fst.snd.snd.snd.snd.snd.snd.snd.fst, x.fst.snd.snd.snd.snd.snd.snd.snd.snd.fst ++ [[IntKind.wrap IntKind.u8 (Int.tmod (IntKind.wrap IntKind.i64 (Int.tdiv x.snd.fst (4 : Int))) (2 : Int)), IntKind.wrap IntKind.u8 (↑(List.length x.fst.snd.snd.snd.snd.snd.snd.snd.snd.fst) : Int), IntKind.wrap IntKind.u8 (IntKind.wrap IntKind.i64 (Int.tdiv x.snd.fst (8 : Int)))]], x.fst.snd.snd.snd.snd.snd.snd.snd.snd.snd), wT0 (x.fst.fst, x.fst.snd.fst, (psF x.fst.fst x.fst.snd.snd.fst x.fst.snd.snd.snd.fst [IntKind.wrap IntKind.u8 (Int.tmod (IntKind.wrap IntKind.i64 (Int.tdiv x.snd.fst (4 : Int))) (2 : Int)), IntKind.wrap IntKind.u8 (↑(List.length x.fst.snd.snd.snd.snd.snd.snd.snd.snd.fst) : Int), IntKind.wrap IntKind.u8 (IntKind.wrap IntKind.i64 (Int.tdiv x.snd.fst (8 : Int)))] x.fst.snd.snd.snd.snd.snd.snd.snd.snd.snd.snd.snd.fst).fst, x.fst.snd.snd.snd.fst, x.fst.snd.snd.snd.snd.fst, x.fst.snd.snd.snd.snd.snd.fst, x.fst.snd.snd.snd.snd.snd.snd.fst, x.fst.snd.snd.snd.snd.snd.snd.snd.fst, x.fst.snd.snd.snd.snd.snd.snd.snd.snd.fst ++ [[IntKind.wrap IntKind.u8 (Int.tmod (IntKind.wrap IntKind.i64 (Int.tdiv x.snd.fst (4 : Int))) (2 : Int)), IntKind.wrap IntKind.u8 (↑(List.length x.fst.snd.snd.snd.snd.snd.snd.snd.snd.fst) : Int), IntKind.wrap IntKind.u8 (IntKind.wrap IntKind.i64 (Int.tdiv x.snd.fst (8 : Int)))]], x.fst.snd.snd.snd.snd.snd.snd.snd.snd.snd), wT1 (x.fst.fst, x.fst.snd.fst, (psF x.fst.fst x.fst.snd.snd.fst x.fst.snd.snd.snd.fst [IntKind.wrap IntKind.u8 (Int.tmod (IntKind.wrap IntKind.i64 (Int.tdiv x.snd.fst (4 : Int))) (2 : Int)), IntKind.wrap IntKind.u8 (↑(List.length x.fst.snd.snd.snd.snd.snd.snd.snd.snd.fst) : Int), IntKind.wrap IntKind.u8 (IntKind.wrap IntKind.i64 (Int.tdiv x.snd.fst (8 : Int)))] x.fst.snd.snd.snd.snd.snd.snd.snd.snd.snd.snd.snd.fst).fst, x.fst.snd.snd.snd.fst, x.fst.snd.snd.snd.snd.fst, x.fst.snd.snd.snd.snd.snd.fst, x.fst.snd.snd.snd.snd.snd.snd.fst, x.fst.snd.snd.snd.snd.snd.snd.snd.fst, x.fst.snd.snd.snd.snd.snd.snd.snd.snd.fst ++ [[IntKind.wrap IntKind.u8 (Int.tmod (IntKind.wrap IntKind.i64 (Int.tdiv x.snd.fst (4 : Int))) (2 : Int)), IntKind.wrap IntKind.u8 (↑(List.length x.fst.snd.snd.snd.snd.snd.snd.snd.snd.fst) : Int), IntKind.wrap IntKind.u8 (IntKind.wrap IntKind.i64 (Int.tdiv x.snd.fst (8 : Int)))]], x.fst.snd.snd.snd.snd.snd.snd.snd.snd.snd), wNow (x.fst.fst, x.fst.snd.fst, (psF x.fst.fst x.fst.snd.snd.fst x.fst.snd.snd.snd.fst [IntKind.wrap IntKind.u8 (Int.tmod (IntKind.wrap IntKind.i64 (Int.tdiv x.snd.fst (4 : Int))) (2 : Int)), IntKind.wrap IntKind.u8 (↑(List.length x.fst.snd.snd.snd.snd.snd.snd.snd.snd.fst) : Int), IntKind.wrap IntKind.u8 (IntKind.wrap IntKind.i64 (Int.tdiv x.snd.fst (8 : Int)))] x.fst.snd.snd.snd.snd.snd.snd.snd.snd.snd.snd.snd.fst).fst, x.fst.snd.snd.snd.fst, x.fst.snd.snd.snd.snd.fst, x.fst.snd.snd.snd.snd.snd.fst, x.fst.snd.snd.snd.snd.snd.snd.fst, x.fst.snd.snd.snd.snd.snd.snd.snd.fst, x.fst.snd.snd.snd.snd.snd.snd.snd.snd.fst ++ [[IntKind.wrap IntKind.u8 (Int.tmod (IntKind.wrap IntKind.i64 (Int.tdiv x.snd.fst (4 : Int))) (2 : Int)), IntKind.wrap IntKind.u8 (↑(List.length x.fst.snd.snd.snd.snd.snd.snd.snd.snd.fst) : Int), IntKind.wrap IntKind.u8 (IntKind.wrap IntKind.i64 (Int.tdiv x.snd.fst (8 : Int)))]], x.fst.snd.snd.snd.snd.snd.snd.snd.snd.snd), wBr (x.fst.fst, x.fst.snd.fst, (psF x.fst.fst x.fst.snd.snd.fst x.fst.snd.snd.snd.fst [IntKind.wrap IntKind.u8 (Int.tmod (IntKind.wrap IntKind.i64 (Int.tdiv x.snd.fst (4 : Int))) (2 : Int)), IntKind.wrap IntKind.u8 (↑(List.length x.fst.snd.snd.snd.snd.snd.snd.snd.snd.fst) : Int), IntKind.wrap IntKind.u8 (IntKind.wrap IntKind.i64 (Int.tdiv x.snd.fst (8 : Int)))] x.fst.snd.snd.snd.snd.snd.snd.snd.snd.snd.snd.snd.fst).fst, x.fst.snd.snd.snd.fst, x.fst.snd.snd.snd.snd.fst, x.fst.snd.snd.snd.snd.snd.fst, x.fst.snd.snd.snd.snd.snd.snd.fst, x.fst.snd.snd.snd.snd.snd.snd.snd.fst, x.fst.snd.snd.snd.snd.snd.snd.snd.snd.fst ++ [[IntKind.wrap IntKind.u8 (Int.tmod (IntKind.wrap IntKind.i64 (Int.tdiv x.snd.fst (4 : Int))) (2 : Int)), IntKind.wrap IntKind.u8 (↑(List.length x.fst.snd.snd.snd.snd.snd.snd.snd.snd.fst) : Int), IntKind.wrap IntKind.u8 (IntKind.wrap IntKind.i64 (Int.tdiv x.snd.fst (8 : Int)))]], x.fst.snd.snd.snd.snd.snd.snd.snd.snd.snd) || List.any (psF x.fst.fst x.fst.snd.snd.fst x.fst.snd.snd.snd.fst [IntKind.wrap IntKind.u8 (Int.tmod (IntKind.wrap IntKind.i64 (Int.tdiv x.snd.fst (4 : Int))) (2 : Int)), IntKind.wrap IntKind.u8 (↑(List.length x.fst.snd.snd.snd.snd.snd.snd.snd.snd.fst) : Int), IntKind.wrap IntKind.u8 (IntKind.wrap IntKind.i64 (Int.tdiv x.snd.fst (8 : Int)))] x.fst.snd.snd.snd.snd.snd.snd.snd.snd.snd.snd.snd.fst).snd.fst fun x_1 => x_1.fst != bif (1 : Int) == (0 : Int) then wB (x.fst.fst, x.fst.snd.fst, (psF x.fst.fst x.fst.snd.snd.fst x.fst.snd.snd.snd.fst [IntKind.wrap IntKind.u8 (Int.tmod (IntKind.wrap IntKind.i64 (Int.tdiv x.snd.fst (4 : Int))) (2 : Int)), IntKind.wrap IntKind.u8 (↑(List.length x.fst.snd.snd.snd.snd.snd.snd.snd.snd.fst) : Int), IntKind.wrap IntKind.u8 (IntKind.wrap IntKind.i64 (Int.tdiv x.snd.fst (8 : Int)))] x.fst.snd.snd.snd.snd.snd.snd.snd.snd.snd.snd.snd.fst).fst, x.fst.snd.snd.snd.fst, x.fst.snd.snd.snd.snd.fst, x.fst.snd.snd.snd.snd.snd.fst, x.fst.snd.snd.snd.snd.snd.snd.fst, x.fst.snd.snd.snd.snd.snd.snd.snd.fst, x.fst.snd.snd.snd.snd.snd.snd.snd.snd.fst ++ [[IntKind.wrap IntKind.u8 (Int.tmod (IntKind.wrap IntKind.i64 (Int.tdiv x.snd.fst (4 : Int))) (2 : Int)), IntKind.wrap IntKind.u8 (↑(List.length x.fst.snd.snd.snd.snd.snd.snd.snd.snd.fst) : Int), IntKind.wrap IntKind.u8 (IntKind.wrap IntKind.i64 (Int.tdiv x.snd.fst (8 : Int)))]], x.fst.snd.snd.snd.snd.snd.snd.snd.snd.snd) else wA (x.fst.fst, x.fst.snd.fst, (psF x.fst.fst x.fst.snd.snd.fst x.fst.snd.snd.snd.fst [IntKind.wrap IntKind.u8 (Int.tmod (IntKind.wrap IntKind.i64 (Int.tdiv x.snd.fst (4 : Int))) (2 : Int)), IntKind.wrap IntKind.u8 (↑(List.length x.fst.snd.snd.snd.snd.snd.snd.snd.snd.fst) : Int), IntKind.wrap IntKind.u8 (IntKind.wrap IntKind.i64 (Int.tdiv x.snd.fst (8 : Int)))] x.fst.snd.snd.snd.snd.snd.snd.snd.snd.snd.snd.snd.fst).fst, x.fst.snd.snd.snd.fst, x.fst.snd.snd.snd.snd.fst, x.fst.snd.snd.snd.snd.snd.fst, x.fst.snd.snd.snd.snd.snd.snd.fst, x.fst.snd.snd.snd.snd.snd.snd.snd.fst, x.fst.snd.snd.snd.snd.snd.snd.snd.snd.fst ++ [[IntKind.wrap IntKind.u8 (Int.tmod (IntKind.wrap IntKind.i64 (Int.tdiv x.snd.fst (4 : Int))) (2 : Int)), IntKind.wrap IntKind.u8 (↑(List.length x.fst.snd.snd.snd.snd.snd.snd.snd.snd.fst) : Int), IntKind.wrap IntKind.u8 (IntKind.wrap IntKind.i64 (Int.tdiv x.snd.fst (8 : Int)))]], x.fst.snd.snd.snd.snd.snd.snd.snd.snd.snd), ()), ()) = ((), stepP x.fst x.snd.fst, ())) ∧ True ∧ True) ∧ True ∧ True) ∧ True ∧ True) ∧ True) ∧ True ∧ True) ∧ True ∧ True else True else bif Int.tmod x.snd.fst (4 : Int) == (1 : Int) then bif (↑(List.length x.fst.snd.snd.snd.snd.snd.fst) : Int) == (0 : Int) then ((), x.fst, ()) = ((), stepP x.fst x.snd.fst, ()) else (↑(List.length x.fst.snd.snd.snd.snd.snd.fst) : Int) ≠ (0 : Int) ∧ (0 : Int) ≤ Int.tmod (IntKind.wrap IntKind.i64 (Int.tdiv x.snd.fst (8 : Int))) (↑(List.length x.fst.snd.snd.snd.snd.snd.fst) : Int) ∧ Int.tmod (IntKind.wrap IntKind.i64 (Int.tdiv x.snd.fst (8 : Int))) (↑(List.length x.fst.snd.snd.snd.snd.snd.fst) : Int) < (↑(List.length x.fst.snd.snd.snd.snd.snd.snd.fst) : Int) ∧ Int.toNat (Int.tmod (IntKind.wrap IntKind.i64 (Int.tdiv x.snd.fst (8 : Int))) (↑(List.length x.fst.snd.snd.snd.snd.snd.fst) : Int)) < List.length x.fst.snd.snd.snd.snd.snd.snd.fst ∧ ∀ (x_1 : Int), x.fst.snd.snd.snd.snd.snd.snd.fst[Int.toNat (Int.tmod (IntKind.wrap IntKind.i64 (Int.tdiv x.snd.fst (8 : Int))) (↑(List.length x.fst.snd.snd.snd.snd.snd.fst) : Int))]? = some x_1 →
  (0 : Int) ≤ x_1 ∧ x_1 < (2 : Int) ∧ (bif decide (x_1 = (0 : Int)) then (0 : Int) ≤ (0 : Int) ∧ (0 : Int) < Int.ofNat (2 : Nat) ∧ True ∧ ((0 : Int) ≤ (1 : Int) ∧ (1 : Int) < Int.ofNat (2 : Nat) ∧ ((0 : Int) ≤ Int.tmod (IntKind.wrap IntKind.i64 (Int.tdiv x.snd.fst (8 : Int))) (↑(List.length x.fst.snd.snd.snd.snd.snd.fst) : Int) ∧ Int.tmod (IntKind.wrap IntKind.i64 (Int.tdiv x.snd.fst (8 : Int))) (↑(List.length x.fst.snd.snd.snd.snd.snd.fst) : Int) < (↑(List.length x.fst.snd.snd.snd.snd.snd.fst) : Int) ∧ Int.toNat (Int.tmod (IntKind.wrap IntKind.i64 (Int.tdiv x.snd.fst (8 : Int))) (↑(List.length x.fst.snd.snd.snd.snd.snd.fst) : Int)) < List.length x.fst.snd.snd.snd.snd.snd.fst ∧ ∀ (x_2 : List Int), x.fst.snd.snd.snd.snd.snd.fst[Int.toNat (Int.tmod (IntKind.wrap IntKind.i64 (Int.tdiv x.snd.fst (8 : Int))) (↑(List.length x.fst.snd.snd.snd.snd.snd.fst) : Int))]? = some x_2 →
  (List.length x.fst.fst.fst ≤ big ∧ okPo x.fst.snd.fst ∧ okSt x.fst.snd.fst.snd.fst ∧ List.length x_2 ≤ (100000000 : Nat) ∧ ∀ (x : Int), x ∈ x_2 →
  (0 : Int) ≤ x ∧ x < (256 : Int)) ∧ bif (ptF x.fst.fst x.fst.snd.fst x.fst.snd.snd.snd.snd.fst x_2 x.fst.snd.snd.snd.snd.snd.snd.snd.snd.snd.snd.snd.fst).snd.snd.snd.fst != (0 : Int) then ((), (x.fst.fst, x.fst.snd.fst, x.fst.snd.snd.fst, x.fst.snd.snd.snd.fst, x.fst.snd.snd.snd.snd.fst, x.fst.snd.snd.snd.snd.snd.fst, x.fst.snd.snd.snd.snd.snd.snd.fst, x.fst.snd.snd.snd.snd.snd.snd.snd.fst, x.fst.snd.snd.snd.snd.snd.snd.snd.snd.fst, x.fst.snd.snd.snd.snd.snd.snd.snd.snd.snd.fst, x.fst.snd.snd.snd.snd.snd.snd.snd.snd.snd.snd.fst, x.fst.snd.snd.snd.snd.snd.snd.snd.snd.snd.snd.snd.fst, true, ()), ()) = ((), stepP x.fst x.snd.fst, ()) else (0 : Int) ≤ (0 : Int) ∧ (0 : Int) < Int.ofNat (2 : Nat) ∧ True ∧ ((0 : Int) ≤ (0 : Int) ∧ (0 : Int) < Int.ofNat (2 : Nat) ∧ True ∧ ((List.length x.fst.snd.snd.snd.snd.snd.snd.snd.snd.snd.fst + List.length (ptF x.fst.fst x.fst.snd.fst x.fst.snd.snd.snd.snd.fst x_2 x.fst.snd.snd.snd.snd.snd.snd.snd.snd.snd.snd.snd.fst).snd.fst) * (24 : Nat) ≤ (140737488351232 : Nat) ∧ (0 : Int) ≤ (0 : Int) ∧ (0 : Int) < Int.ofNat (2 : Nat) ∧ True ∧ (((0 : Int) ≤ (0 : Int) ∧ (0 : Int) < (2 : Int) ∧ okPl (x.fst.fst, (ptF x.fst.fst x.fst.snd.fst x.fst.snd.snd.snd.snd.fst x_2 x.fst.snd.snd.snd.snd.snd.snd.snd.snd.snd.snd.snd.fst).fst, x.fst.snd.snd.fst, x.fst.snd.snd.snd.fst, x.fst.snd.snd.snd.snd.fst, x.fst.snd.snd.snd.snd.snd.fst, x.fst.snd.snd.snd.snd.snd.snd.fst, x.fst.snd.snd.snd.snd.snd.snd.snd.fst, x.fst.snd.snd.snd.snd.snd.snd.snd.snd.fst, x.fst.snd.snd.snd.snd.snd.snd.snd.snd.snd.fst ++ (ptF x.fst.fst x.fst.snd.fst x.fst.snd.snd.snd.snd.fst x_2 x.fst.snd.snd.snd.snd.snd.snd.snd.snd.snd.snd.snd.fst).snd.fst, x.fst.snd.snd.snd.snd.snd.snd.snd.snd.snd.snd) ∧ List.length (ptF x.fst.fst x.fst.snd.fst x.fst.snd.snd.snd.snd.fst x_2 x.fst.snd.snd.snd.snd.snd.snd.snd.snd.snd.snd.snd.fst).snd.snd.fst ≤ (2000000000 : Nat)) ∧ ((), (x.fst.fst, (ptF x.fst.fst x.fst.snd.fst x.fst.snd.snd.snd.snd.fst x_2 x.fst.snd.snd.snd.snd.snd.snd.snd.snd.snd.snd.snd.fst).fst, x.fst.snd.snd.fst, wA (x.fst.fst, (ptF x.fst.fst x.fst.snd.fst x.fst.snd.snd.snd.snd.fst x_2 x.fst.snd.snd.snd.snd.snd.snd.snd.snd.snd.snd.snd.fst).fst, x.fst.snd.snd.fst, x.fst.snd.snd.snd.fst, x.fst.snd.snd.snd.snd.fst, x.fst.snd.snd.snd.snd.snd.fst, x.fst.snd.snd.snd.snd.snd.snd.fst, x.fst.snd.snd.snd.snd.snd.snd.snd.fst, x.fst.snd.snd.snd.snd.snd.snd.snd.snd.fst, x.fst.snd.snd.snd.snd.snd.snd.snd.snd.snd.fst ++ (ptF x.fst.fst x.fst.snd.fst x.fst.snd.snd.snd.snd.fst x_2 x.fst.snd.snd.snd.snd.snd.snd.snd.snd.snd.snd.snd.fst).snd.fst, x.fst.snd.snd.snd.snd.snd.snd.snd.snd.snd.snd), wB (x.fst.fst, (ptF x.fst.fst x.fst.snd.fst x.fst.snd.snd.snd.snd.fst x_2 x.fst.snd.snd.snd.snd.snd.snd.snd.snd.snd.snd.snd.fst).fst, x.fst.snd.snd.fst, x.fst.snd.snd.snd.fst, x.fst.snd.snd.snd.snd.fst, x.fst.snd.snd.snd.snd.snd.fst, x.fst.snd.snd.snd.snd.snd.snd.fst, x.fst.snd.snd.snd.snd.snd.snd.snd.fst, x.fst.snd.snd.snd.snd.snd.snd.snd.snd.fst, x.fst.snd.snd.snd.snd.snd.snd.snd.snd.snd.fst ++ (ptF x.fst.fst x.fst.snd.fst x.fst.snd.snd.snd.snd.fst x_2 x.fst.snd.snd.snd.snd.snd.snd.snd.snd.snd.snd.snd.fst).snd.fst, x.fst.snd.snd.snd.snd.snd.snd.snd.snd.snd.snd), wPool (x.fst.fst, (ptF x.fst.fst x.fst.snd.fst x.fst.snd.snd.snd.snd.fst x_2 x.fst.snd.snd.snd.snd.snd.snd.snd.snd.snd.snd.snd.fst).fst, x.fst.snd.snd.fst, x.fst.snd.snd.snd.fst, x.fst.snd.snd.snd.snd.fst, x.fst.snd.snd.snd.snd.snd.fst, x.fst.snd.snd.snd.snd.snd.snd.fst, x.fst.snd.snd.snd.snd.snd.snd.snd.fst, x.fst.snd.snd.snd.snd.snd.snd.snd.snd.fst, x.fst.snd.snd.snd.snd.snd.snd.snd.snd.snd.fst ++ (ptF x.fst.fst x.fst.snd.fst x.fst.snd.snd.snd.snd.fst x_2 x.fst.snd.snd.snd.snd.snd.snd.snd.snd.snd.snd.snd.fst).snd.fst, x.fst.snd.snd.snd.snd.snd.snd.snd.snd.snd.snd) ++ List.map (fun x => x.snd.fst) (ptF x.fst.fst x.fst.snd.fst x.fst.snd.snd.snd.snd.fst x_2 x.fst.snd.snd.snd.snd.snd.snd.snd.snd.snd.snd.snd.fst).snd.snd.fst, wTo (x.fst.fst, (ptF x.fst.fst x.fst.snd.fst x.fst.snd.snd.snd.snd.fst x_2 x.fst.snd.snd.snd.snd.snd.snd.snd.snd.snd.snd.snd.fst).fst, x.fst.snd.snd.fst, x.fst.snd.snd.snd.fst, x.fst.snd.snd.snd.snd.fst, x.fst.snd.snd.snd.snd.snd.fst, x.fst.snd.snd.snd.snd.snd.snd.fst, x.fst.snd.snd.snd.snd.snd.snd.snd.fst, x.fst.snd.snd.snd.snd.snd.snd.snd.snd.fst, x.fst.snd.snd.snd.snd.snd.snd.snd.snd.snd.fst ++ (ptF x.fst.fst x.fst.snd.fst x.fst.snd.snd.snd.snd.fst x_2 x.fst.snd.snd.snd.snd.snd.snd.snd.snd.snd.snd.snd.fst).snd.fst, x.fst.snd.snd.snd.snd.snd.snd.snd.snd.snd.snd) ++ List.replicate (List.length (ptF x.fst.fst x.fst.snd.fst x.fst.snd.snd.snd.snd.fst x_2 x.fst.snd.snd.snd.snd.snd.snd.snd.snd.snd.snd.snd.fst).snd.snd.fst) (oth (0 : Int)), wS0 (x.fst.fst, (ptF x.fst.fst x.fst.snd.fst x.fst.snd.snd.snd.snd.fst x_2 x.fst.snd.snd.snd.snd.snd.snd.snd.snd.snd.snd.snd.fst).fst, x.fst.snd.snd.fst, x.fst.snd.snd.snd.fst, x.fst.snd.snd.snd.snd.fst, x.fst.snd.snd.snd.snd.snd.fst, x.fst.snd.snd.snd.snd.snd.snd.fst, x.fst.snd.snd.snd.snd.snd.snd.snd.fst, x.fst.snd.snd.snd.snd.snd.snd.snd.snd.fst, x.fst.snd.snd.snd.snd.snd.snd.snd.snd.snd.fst ++ (ptF x.fst.fst x.fst.snd.fst x.fst.snd.snd.snd.snd.fst x_2 x.fst.snd.snd.snd.snd.snd.snd.snd.snd.snd.snd.snd.fst).snd.fst, x.fst.snd.snd.snd.snd.snd.snd.snd.snd.snd.snd), wS1 (x.fst.fst, (ptF x.fst.fst x.fst.snd.fst x.fst.snd.snd.snd.snd.fst x_2 x.fst.snd.snd.snd.snd.snd.snd.snd.snd.snd.snd.snd.fst).fst, x.fst.snd.snd.fst, x.fst.snd.snd.snd.fst, x.fst.snd.snd.snd.snd.fst, x.fst.snd.snd.snd.snd.snd.fst, x.fst.snd.snd.snd.snd.snd.snd.fst, x.fst.snd.snd.snd.snd.snd.snd.snd.fst, x.fst.snd.snd.snd.snd.snd.snd.snd.snd.fst, x.fst.snd.snd.snd.snd.snd.snd.snd.snd.snd.fst ++ (ptF x.fst.fst x.fst.snd.fst x.fst.snd.snd.snd.snd.fst x_2 x.fst.snd.snd.snd.snd.snd.snd.snd.snd.snd.snd.snd.fst).snd.fst, x.fst.snd.snd.snd.snd.snd.snd.snd.snd.snd.snd), wT0 (x.fst.fst, (ptF x.fst.fst x.fst.snd.fst x.fst.snd.snd.snd.snd.fst x_2 x.fst.snd.snd.snd.snd.snd.snd.snd.snd.snd.snd.snd.fst).fst, x.fst.snd.snd.fst, x.fst.snd.snd.snd.fst, x.fst.snd.snd.snd.snd.fst, x.fst.snd.snd.snd.snd.snd.fst, x.fst.snd.snd.snd.snd.snd.snd.fst, x.fst.snd.snd.snd.snd.snd.snd.snd.fst, x.fst.snd.snd.snd.snd.snd.snd.snd.snd.fst, x.fst.snd.snd.snd.snd.snd.snd.snd.snd.snd.fst ++ (ptF x.fst.fst x.fst.snd.fst x.fst.snd.snd.snd.snd.fst x_2 x.fst.snd.snd.snd.snd.snd.snd.snd.snd.snd.snd.snd.fst).snd.fst, x.fst.snd.snd.snd.snd.snd.snd.snd.snd.snd.snd), wT1 (x.fst.fst, (ptF x.fst.fst x.fst.snd.fst x.fst.snd.snd.snd.snd.fst x_2 x.fst.snd.snd.snd.snd.snd.snd.snd.snd.snd.snd.snd.fst).fst, x.fst.snd.snd.fst, x.fst.snd.snd.snd.fst, x.fst.snd.snd.snd.snd.fst, x.fst.snd.snd.snd.snd.snd.fst, x.fst.snd.snd.snd.snd.snd.snd.fst, x.fst.snd.snd.snd.snd.snd.snd.snd.fst, x.fst.snd.snd.snd.snd.snd.snd.snd.snd.fst, x.fst.snd.snd.snd.snd.snd.snd.snd.snd.snd.fst ++ (ptF x.fst.fst x.fst.snd.fst x.fst.snd.snd.snd.snd.fst x_2 x.fst.snd.snd.snd.snd.snd.snd.snd.snd.snd.snd.snd.fst).snd.fst, x.fst.snd.snd.snd.snd.snd.snd.snd.snd.snd.snd), wNow (x.fst.fst, (ptF x.fst.fst x.fst.snd.fst x.fst.snd.snd.snd.snd.fst x_2 x.fst.snd.snd.snd.snd.snd.snd.snd.snd.snd.snd.snd.fst).fst, x.fst.snd.snd.fst, x.fst.snd.snd.snd.fst, x.fst.snd.snd.snd.snd.fst, x.fst.snd.snd.snd.snd.snd.fst, x.fst.snd.snd.snd.snd.snd.snd.fst, x.fst.snd.snd.snd.snd.snd.snd.snd.fst, x.fst.snd.snd.snd.snd.snd.snd.snd.snd.fst, x.fst.snd.snd.snd.snd.snd.snd.snd.snd.snd.fst ++ (ptF x.fst.fst x.fst.snd.fst x.fst.snd.snd.snd.snd.fst x_2 x.fst.snd.snd.snd.snd.snd.snd.snd.snd.snd.snd.snd.fst).snd.fst, x.fst.snd.snd.snd.snd.snd.snd.snd.snd.snd.snd), wBr (x.fst.fst, (ptF x.fst.fst x.fst.snd.fst x.fst.snd.snd.snd.snd.fst x_2 x.fst.snd.snd.snd.snd.snd.snd.snd.snd.snd.snd.snd.fst).fst, x.fst.snd.snd.fst, x.fst.snd.snd.snd.fst, x.fst.snd.snd.snd.snd.fst, x.fst.snd.snd.snd.snd.snd.fst, x.fst.snd.snd.snd.snd.snd.snd.fst, x.fst.snd.snd.snd.snd.snd.snd.snd.fst, x.fst.snd.snd.snd.snd.snd.snd.snd.snd.fst, x.fst.snd.snd.snd.snd.snd.snd.snd.snd.snd.fst ++ (ptF x.fst.fst x.fst.snd.fst x.fst.snd.snd.snd.snd.fst x_2 x.fst.snd.snd.snd.snd.snd.snd.snd.snd.snd.snd.snd.fst).snd.fst, x.fst.snd.snd.snd.snd.snd.snd.snd.snd.snd.snd) || List.any (ptF x.fst.fst x.fst.snd.fst x.fst.snd.snd.snd.snd.fst x_2 x.fst.snd.snd.snd.snd.snd.snd.snd.snd.snd.snd.snd.fst).snd.snd.fst fun x_3 => x_3.fst != bif (0 : Int) == (0 : Int) then wB (x.fst.fst, (ptF x.fst.fst x.fst.snd.fst x.fst.snd.snd.snd.snd.fst x_2 x.fst.snd.snd.snd.snd.snd.snd.snd.snd.snd.snd.snd.fst).fst, x.fst.snd.snd.fst, x.fst.snd.snd.snd.fst, x.fst.snd.snd.snd.snd.fst, x.fst.snd.snd.snd.snd.snd.fst, x.fst.snd.snd.snd.snd.snd.snd.fst, x.fst.snd.snd.snd.snd.snd.snd.snd.fst, x.fst.snd.snd.snd.snd.snd.snd.snd.snd.fst, x.fst.snd.snd.snd.snd.snd.snd.snd.snd.snd.fst ++ (ptF x.fst.fst x.fst.snd.fst x.fst.snd.snd.snd.snd.fst x_2 x.fst.snd.snd.snd.snd.snd.snd.snd.snd.snd.snd.snd.fst).snd.fst, x.fst.snd.snd.snd.snd.snd.snd.snd.snd.snd.snd) else wA (x.fst.fst, (ptF x.fst.fst x.fst.snd.fst x.fst.snd.snd.snd.snd.fst x_2 x.fst.snd.snd.snd.snd.snd.snd.snd.snd.snd.snd.snd.fst).fst, x.fst.snd.snd.fst, x.fst.snd.snd.snd.fst, x.fst.snd.snd.snd.snd.fst, x.fst.snd.snd.snd.snd.snd.fst, x.fst.snd.snd.snd.snd.snd.snd.fst, x.fst.snd.snd.snd.snd.snd.snd.snd.fst, x.fst.snd.snd.snd.snd.snd.snd.snd.snd.fst, x.fst.snd.snd.snd.snd.snd.snd.snd.snd.snd.fst ++ (ptF x.fst.fst x.fst.snd.fst x.fst.snd.snd.snd.snd.fst x_2 x.fst.snd.snd.snd.snd.snd.snd.snd.snd.snd.snd.snd.fst).snd.fst, x.fst.snd.snd.snd.snd.snd.snd.snd.snd.snd.snd), ()), ()) = ((), stepP x.fst x.snd.fst, ())) ∧ True) ∧ True) ∧ True) ∧ True ∧ True) ∧ True else True) ∧ bif decide (x_1 = (1 : Int)) then (0 : Int) ≤ (1 : Int) ∧ (1 : Int) < Int.ofNat (2 : Nat) ∧ ((0 : Int) ≤ (0 : Int) ∧ (0 : Int) < Int.ofNat (2 : Nat) ∧ True ∧ ((0 : Int) ≤ Int.tmod (IntKind.wrap IntKind.i64 (Int.tdiv x.snd.fst (8 : Int))) (↑(List.length x.fst.snd.snd.snd.snd.snd.fst) : Int) ∧ Int.tmod (IntKind.wrap IntKind.i64 (Int.tdiv x.snd.fst (8 : Int))) (↑(List.length x.fst.snd.snd.snd.snd.snd.fst) : Int) < (↑(List.length x.fst.snd.snd.snd.snd.snd.fst) : Int) ∧ Int.toNat (Int.tmod (IntKind.wrap IntKind.i64 (Int.tdiv x.snd.fst (8 : Int))) (↑(List.length x.fst.snd.snd.snd.snd.snd.fst) : Int)) < List.length x.fst.snd.snd.snd.snd.snd.fst ∧ ∀ (x_2 : List Int), x.fst.snd.snd.snd.snd.snd.fst[Int.toNat (Int.tmod (IntKind.wrap IntKind.i64 (Int.tdiv x.snd.fst (8 : Int))) (↑(List.length x.fst.snd.snd.snd.snd.snd.fst) : Int))]? = some x_2 →
  (List.length x.fst.fst.fst ≤ big ∧ okPo x.fst.snd.snd.fst ∧ okSt x.fst.snd.snd.fst.snd.fst ∧ List.length x_2 ≤ (100000000 : Nat) ∧ ∀ (x : Int), x ∈ x_2 →
  (0 : Int) ≤ x ∧ x < (256 : Int)) ∧ bif (ptF x.fst.fst x.fst.snd.snd.fst x.fst.snd.snd.snd.fst x_2 x.fst.snd.snd.snd.snd.snd.snd.snd.snd.snd.snd.snd.fst).snd.snd.snd.fst != (0 : Int) then ((), (x.fst.fst, x.fst.snd.fst, x.fst.snd.snd.fst, x.fst.snd.snd.snd.fst, x.fst.snd.snd.snd.snd.fst, x.fst.snd.snd.snd.snd.snd.fst, x.fst.snd.snd.snd.snd.snd.snd.fst, x.fst.snd.snd.snd.snd.snd.snd.snd.fst, x.fst.snd.snd.snd.snd.snd.snd.snd.snd.fst, x.fst.snd.snd.snd.snd.snd.snd.snd.snd.snd.fst, x.fst.snd.snd.snd.snd.snd.snd.snd.snd.snd.snd.fst, x.fst.snd.snd.snd.snd.snd.snd.snd.snd.snd.snd.snd.fst, true, ()), ()) = ((), stepP x.fst x.snd.fst, ()) else (0 : Int) ≤ (1 : Int) ∧ (1 : Int) < Int.ofNat (2 : Nat) ∧ ((0 : Int) ≤ (1 : Int) ∧ (1 : Int) < Int.ofNat (2 : Nat) ∧ ((List.length x.fst.snd.snd.snd.snd.snd.snd.snd.snd.snd.snd.fst + List.length (ptF x.fst.fst x.fst.snd.snd.fst x.fst.snd.snd.snd.fst x_2 x.fst.snd.snd.snd.snd.snd.snd.snd.snd.snd.snd.snd.fst).snd.fst) * (24 : Nat) ≤ (140737488351232 : Nat) ∧ (0 : Int) ≤ (1 : Int) ∧ (1 : Int) < Int.ofNat (2 : Nat) ∧ (((0 : Int) ≤ (1 : Int) ∧ (1 : Int) < (2 : Int) ∧ okPl (x.fst.fst, x.fst.snd.fst, (ptF x.fst.fst x.fst.snd.snd.fst x.fst.snd.snd.snd.fst x_2 x.fst.snd.snd.snd.snd.snd.snd.snd.snd.snd.snd.snd.fst).fst, x.fst.snd.snd.snd.fst, x.fst.snd.snd.snd.snd.fst, x.fst.snd.snd.snd.snd.snd.fst, x.fst.snd.snd.snd.snd.snd.snd.fst, x.fst.snd.snd.snd.snd.snd.snd.snd.fst, x.fst.snd.snd.snd.snd.snd.snd.snd.snd.fst, x.fst.snd.snd.snd.snd.snd.snd.snd.snd.snd.fst, x.fst.snd.snd.snd.snd.snd.snd.snd.snd.snd.snd.fst ++ (ptF x.fst.fst x.fst.snd.snd.fst x.fst.snd.snd.snd.fst x_2 x.fst.snd.snd.snd.snd.snd.snd.snd.snd.snd.snd.snd.fst).snd.fst, x.fst.snd.snd.snd.snd.snd.snd.snd.snd.snd.snd.snd) ∧ List.length (ptF x.fst.fst x.fst.snd.snd.fst x.fst.snd.snd.snd.fst x_2 x.fst.snd.snd.snd.snd.snd.snd.snd.snd.snd.snd.snd.fst).snd.snd.fst ≤ (2000000000 : Nat)) ∧ ((), (x.fst.fst, x.fst.snd.fst, (ptF x.fst.fst x.fst.snd.snd.fst x.fst.snd.snd.snd.fst x_2 x.fst.snd.snd.snd.snd.snd.snd.snd.snd.snd.snd.snd.fst).fst, wA (x.fst.fst, x.fst.snd.fst, (ptF x.fst.fst x.fst.snd.snd.fst x.fst.snd.snd.snd.fst x_2 x.fst.snd.snd.snd.snd.snd.snd.snd.snd.snd.snd.snd.fst).fst, x.fst.snd.snd.snd.fst, x.fst.snd.snd.snd.snd.fst, x.fst.snd.snd.snd.snd.snd.fst, x.fst.snd.snd.snd.snd.snd.snd.fst, x.fst.snd.snd.snd.snd.snd.snd.snd.fst, x.fst.snd.snd.snd.snd.snd.snd.snd.snd.fst, x.fst.snd.snd.snd.snd.snd.snd.snd.snd.snd.fst, x.fst.snd.snd.snd.snd.snd.snd.snd.snd.snd.snd.fst ++ (ptF x.fst.fst x.fst.snd.snd.fst x.fst.snd.snd.snd.fst x_2 x.fst.snd.snd.snd.snd.snd.snd.snd.snd.snd.snd.snd.fst).snd.fst, x.fst.snd.snd.snd.snd.snd.snd.snd.snd.snd.snd.snd), wB (x.fst.fst, x.fst.snd.fst, (ptF x.fst.fst x.fst.snd.snd.fst x.fst.snd.snd.snd.fst x_2 x.fst.snd.snd.snd.snd.snd.snd.snd.snd.snd.snd.snd.fst).fst, x.fst.snd.snd.snd.fst, x.fst.snd.snd.snd.snd.fst, x.fst.snd.snd.snd.snd.snd.fst, x.fst.snd.snd.snd.snd.snd.snd.fst, x.fst.snd.snd.snd.snd.snd.snd.snd.fst, x.fst.snd.snd.snd.snd.snd.snd.snd.snd.fst, x.fst.snd.snd.snd.snd.snd.snd.snd.snd.snd.fst, x.fst.snd.snd.snd.snd.snd.snd.snd.snd.snd.snd.fst ++ (ptF x.fst.fst x.fst.snd.snd.fst x.fst.snd.snd.snd.fst x_2 x.fst.snd.snd.snd.snd.snd.snd.snd.snd.snd.snd.snd.fst).snd.fst, x.fst.snd.snd.snd.snd.snd.snd.snd.snd.snd.snd.snd), wPool (x.fst.fst, x.fst.snd.fst, (ptF x.fst.fst x.fst.snd.snd.fst x.fst.snd.snd.snd.fst x_2 x.fst.snd.snd.snd.snd.snd.snd.snd.snd.snd.snd.snd.fst).fst, x.fst.snd.snd.snd.fst, x.fst.snd.snd.snd.snd.fst, x.fst.snd.snd.snd.snd.snd.fst, x.fst.snd.snd.snd.snd.snd.snd.fst, x.fst.snd.snd.snd.snd.snd.snd.snd.fst, x.fst.snd.snd.snd.snd.snd.snd.snd.snd.fst, x.fst.snd.snd.snd.snd.snd.snd.snd.snd.snd.fst, x.fst.snd.snd.snd.snd.snd.snd.snd.snd.snd.snd.fst ++ (ptF x.fst.fst x.fst.snd.snd.fst x.fst.snd.snd.snd.fst x_2 x.fst.snd.snd.snd.snd.snd.snd.snd.snd.snd.snd.snd.fst).snd.fst, x.fst.snd.snd.snd.snd.snd.snd.snd.snd.snd.snd.snd) ++ List.map (fun x => x.snd.fst) (ptF x.fst.fst x.fst.snd.snd.fst x.fst.snd.snd.snd.fst x_2 x.fst.snd.snd.snd.snd.snd.snd.snd.snd.snd.snd.snd.fst).snd.snd.fst, wTo (x.fst.fst, x.fst.snd.fst, (ptF x.fst.fst x.fst.snd.snd.fst x.fst.snd.snd.snd.fst x_2 x.fst.snd.snd.snd.snd.snd.snd.snd.snd.snd.snd.snd.fst).fst, x.fst.snd.snd.snd.fst, x.fst.snd.snd.snd.snd.fst, x.fst.snd.snd.snd.snd.snd.fst, x.fst.snd.snd.snd.snd.snd.snd.fst, x.fst.snd.snd.snd.snd.snd.snd.snd.fst, x.fst.snd.snd.snd.snd.snd.snd.snd.snd.fst, x.fst.snd.snd.snd.snd.snd.snd.snd.snd.snd.fst, x.fst.snd.snd.snd.snd.snd.snd.snd.snd.snd.snd.fst ++ (ptF x.fst.fst x.fst.snd.snd.fst x.fst.snd.snd.snd.fst x_2 x.fst.snd.snd.snd.snd.snd.snd.snd.snd.snd.snd.snd.fst).snd.fst, x.fst.snd.snd.snd.snd.snd.snd.snd.snd.snd.snd.snd) ++ List.replicate (List.length (ptF x.fst.fst x.fst.snd.snd.fst x.fst.snd.snd.snd.fst x_2 x.fst.snd.snd.snd.snd.snd.snd.snd.snd.snd.snd.snd.fst).snd.snd.fst) (oth (1 : Int)), wS0 (x.fst.fst, x.fst.snd.fst, (ptF x.fst.fst x.fst.snd.snd.fst x.fst.snd.snd.snd.fst x_2 x.fst.snd.snd.snd.snd.snd.snd.snd.snd.snd.snd.snd.fst).fst, x.fst.snd.snd.snd.fst, x.fst.snd.snd.snd.snd.fst, x.fst.snd.snd.snd.snd.snd.fst, x.fst.snd.snd.snd.snd.snd.snd.fst, x.fst.snd.snd.snd.snd.snd.snd.snd.fst, x.fst.snd.snd.snd.snd.snd.snd.snd.snd.fst, x.fst.snd.snd.snd.snd.snd.snd.snd.snd.snd.fst, x.fst.snd.snd.snd.snd.snd.snd.snd.snd.snd.snd.fst ++ (ptF x.fst.fst x.fst.snd.snd.fst x.fst.snd.snd.snd.fst x_2 x.fst.snd.snd.snd.snd.snd.snd.snd.snd.snd.snd.snd.fst).snd.fst, x.fst.snd.snd.snd.snd.snd.snd.snd.snd.snd.snd.snd), wS1 (x.fst.fst, x.fst.snd.fst, (ptF x.fst.fst x.fst.snd.snd.fst x.fst.snd.snd.snd.fst x_2 x.fst.snd.snd.snd.snd.snd.snd.snd.snd.snd.snd.snd.fst).fst, x.fst.snd.snd.snd.fst, x.fst.snd.snd.snd.snd.fst, x.fst.snd.snd.snd.snd.snd.fst, x.fst.snd.snd.snd.snd.snd.snd.fst, x.fst.snd.snd.snd.snd.snd.snd.snd.fst, x.fst.snd.snd.snd.snd.snd.snd.snd.snd.fst, x.fst.snd.snd.snd.snd.snd.snd.snd.snd.snd.fst, x.fst.snd.snd.snd.snd.snd.snd.snd.snd.snd.snd.fst ++ (ptF x.fst.fst x.fst.snd.snd.fst x.fst.snd.snd.snd.fst x_2 x.fst.snd.snd.snd.snd.snd.snd.snd.snd.snd.snd.snd.fst).snd.fst, x.fst.snd.snd.snd.snd.snd.snd.snd.snd.snd.snd.snd), wT0 (x.fst.fst, x.fst.snd.fst, (ptF x.fst.fst x.fst.snd.snd.fst x.fst.snd.snd.snd.fst x_2 x.fst.snd.snd.snd.snd.snd.snd.snd.snd.snd.snd.snd.fst).fst, x.fst.snd.snd.snd.fst, x.fst.snd.snd.snd.snd.fst, x.fst.snd.snd.snd.snd.snd.fst, x.fst.snd.snd.snd.snd.snd.snd.fst, x.fst.snd.snd.snd.snd.snd.snd.snd.fst, x.fst.snd.snd.snd.snd.snd.snd.snd.snd.fst, x.fst.snd.snd.snd.snd.snd.snd.snd.snd.snd.fst, x.fst.snd.snd.snd.snd.snd.snd.snd.snd.snd.snd.fst ++ (ptF x.fst.fst x.fst.snd.snd.fst x.fst.snd.snd.snd.fst x_2 x.fst.snd.snd.snd.snd.snd.snd.snd.snd.snd.snd.snd.fst).snd.fst, x.fst.snd.snd.snd.snd.snd.snd.snd.snd.snd.snd.snd), wT1 (x.fst.fst, x.fst.snd.fst, (ptF x.fst.fst x.fst.snd.snd.fst x.fst.snd.snd.snd.fst x_2 x.fst.snd.snd.snd.snd.snd.snd.snd.snd.snd.snd.snd.fst).fst, x.fst.snd.snd.snd.fst, x.fst.snd.snd.snd.snd.fst, x.fst.snd.snd.snd.snd.snd.fst, x.fst.snd.snd.snd.snd.snd.snd.fst, x.fst.snd.snd.snd.snd.snd.snd.snd.fst, x.fst.snd.snd.snd.snd.snd.snd.snd.snd.fst, x.fst.snd.snd.snd.snd.snd.snd.snd.snd.snd.fst, x.fst.snd.snd.snd.snd.snd.snd.snd.snd.snd.snd.fst ++ (ptF x.fst.fst x.fst.snd.snd.fst x.fst.snd.snd.snd.fst x_2 x.fst.snd.snd.snd.snd.snd.snd.snd.snd.snd.snd.snd.fst).snd.fst, x.fst.snd.snd.snd.snd.snd.snd.snd.snd.snd.snd.snd), wNow (x.fst.fst, x.fst.snd.fst, (ptF x.fst.fst x.fst.snd.snd.fst x.fst.snd.snd.snd.fst x_2 x.fst.snd.snd.snd.snd.snd.snd.snd.snd.snd.snd.snd.fst).fst, x.fst.snd.snd.snd.fst, x.fst.snd.snd.snd.snd.fst, x.fst.snd.snd.snd.snd.snd.fst, x.fst.snd.snd.snd.snd.snd.snd.fst, x.fst.snd.snd.snd.snd.snd.snd.snd.fst, x.fst.snd.snd.snd.snd.snd.snd.snd.snd.fst, x.fst.snd.snd.snd.snd.snd.snd.snd.snd.snd.fst, x.fst.snd.snd.snd.snd.snd.snd.snd.snd.snd.snd.fst ++ (ptF x.fst.fst x.fst.snd.snd.fst x.fst.snd.snd.snd.fst x_2 x.fst.snd.snd.snd.snd.snd.snd.snd.snd.snd.snd.snd.fst).snd.fst, x.fst.snd.snd.snd.snd.snd.snd.snd.snd.snd.snd.snd), wBr (x.fst.fst, x.fst.snd.fst, (ptF x.fst.fst x.fst.snd.snd.fst x.fst.snd.snd.snd.fst x_2 x.fst.snd.snd.snd.snd.snd.snd.snd.snd.snd.snd.snd.fst).fst, x.fst.snd.snd.snd.fst, x.fst.snd.snd.snd.snd.fst, x.fst.snd.snd.snd.snd.snd.fst, x.fst.snd.snd.snd.snd.snd.snd.fst, x.fst.snd.snd.snd.snd.snd.snd.snd.fst, x.fst.snd.snd.snd.snd.snd.snd.snd.snd.fst, x.fst.snd.snd.snd.snd.snd.snd.snd.snd.snd.fst, x.fst.snd.snd.snd.snd.snd.snd.snd.snd.snd.snd.fst ++ (ptF x.fst.fst x.fst.snd.snd.fst x.fst.snd.snd.snd.fst x_2 x.fst.snd.snd.snd.snd.snd.snd.snd.snd.snd.snd.snd.fst).snd.fst, x.fst.snd.snd.snd.snd.snd.snd.snd.snd.snd.snd.snd) || List.any (ptF x.fst.fst x.fst.snd.snd.fst x.fst.snd.snd.snd.fst x_2 x.fst.snd.snd.snd.snd.snd.snd.snd.snd.snd.snd.snd.fst).snd.snd.fst fun x_3 => x_3.fst != bif (1 : Int) == (0 : Int) then wB (x.fst.fst, x.fst.snd.fst, (ptF x.fst.fst x.fst.snd.snd.fst x.fst.snd.snd.snd.fst x_2 x.fst.snd.snd.snd.snd.snd.snd.snd.snd.snd.snd.snd.fst).fst, x.fst.snd.snd.snd.fst, x.fst.snd.snd.snd.snd.fst, x.fst.snd.snd.snd.snd.snd.fst, x.fst.snd.snd.snd.snd.snd.snd.fst, x.fst.snd.snd.snd.snd.snd.snd.snd.fst, x.fst.snd.snd.snd.snd.snd.snd.snd.snd.fst, x.fst.snd.snd.snd.snd.snd.snd.snd.snd.snd.fst, x.fst.snd.snd.snd.snd.snd.snd.snd.snd.snd.snd.fst ++ (ptF x.fst.fst x.fst.snd.snd.fst x.fst.snd.snd.snd.fst x_2 x.fst.snd.snd.snd.snd.snd.snd.snd.snd.snd.snd.snd.fst).snd.fst, x.fst.snd.snd.snd.snd.snd.snd.snd.snd.snd.snd.snd) else wA (x.fst.fst, x.fst.snd.fst, (ptF x.fst.fst x.fst.snd.snd.fst x.fst.snd.snd.snd.fst x_2 x.fst.snd.snd.snd.snd.snd.snd.snd.snd.snd.snd.snd.fst).fst, x.fst.snd.snd.snd.fst, x.fst.snd.snd.snd.snd.fst, x.fst.snd.snd.snd.snd.snd.fst, x.fst.snd.snd.snd.snd.snd.snd.fst, x.fst.snd.snd.snd.snd.snd.snd.snd.fst, x.fst.snd.snd.snd.snd.snd.snd.snd.snd.fst, x.fst.snd.snd.snd.snd.snd.snd.snd.snd.snd.fst, x.fst.snd.snd.snd.snd.snd.snd.snd.snd.snd.snd.fst ++ (ptF x.fst.fst x.fst.snd.snd.fst x.fst.snd.snd.snd.fst x_2 x.fst.snd.snd.snd.snd.snd.snd.snd.snd.snd.snd.snd.fst).snd.fst, x.fst.snd.snd.snd.snd.snd.snd.snd.snd.snd.snd.snd), ()), ()) = ((), stepP x.fst x.snd.fst, ())) ∧ True ∧ True) ∧ True ∧ True) ∧ True ∧ True) ∧ True) ∧ True ∧ True else True else bif Int.tmod x.snd.fst (4 : Int) == (2 : Int) then bif (↑(List.length x.fst.snd.snd.snd.snd.snd.fst) : Int) == (0 : Int) then ((), x.fst, ()) = ((), stepP x.fst x.snd.fst, ()) else (↑(List.length x.fst.snd.snd.snd.snd.snd.fst) : Int) ≠ (0 : Int) ∧ (0 : Int) ≤ Int.tmod (IntKind.wrap IntKind.i64 (Int.tdiv x.snd.fst (8 : Int))) (↑(List.length x.fst.snd.snd.snd.snd.snd.fst) : Int) ∧ Int.tmod (IntKind.wrap IntKind.i64 (Int.tdiv x.snd.fst (8 : Int))) (↑(List.length x.fst.snd.snd.snd.snd.snd.fst) : Int) < (↑(List.length x.fst.snd.snd.snd.snd.snd.snd.fst) : Int) ∧ Int.toNat (Int.tmod (IntKind.wrap IntKind.i64 (Int.tdiv x.snd.fst (8 : Int))) (↑(List.length x.fst.snd.snd.snd.snd.snd.fst) : Int)) < List.length x.fst.snd.snd.snd.snd.snd.snd.fst ∧ ∀ (x_1 : Int), x.fst.snd.snd.snd.snd.snd.snd.fst[Int.toNat (Int.tmod (IntKind.wrap IntKind.i64 (Int.tdiv x.snd.fst (8 : Int))) (↑(List.length x.fst.snd.snd.snd.snd.snd.fst) : Int))]? = some x_1 →
  (0 : Int) ≤ x_1 ∧ x_1 < (2 : Int) ∧ (bif decide (x_1 = (0 : Int)) then (0 : Int) ≤ (0 : Int) ∧ (0 : Int) < Int.ofNat (2 : Nat) ∧ True ∧ ((0 : Int) ≤ (1 : Int) ∧ (1 : Int) < Int.ofNat (2 : Nat) ∧ ((0 : Int) ≤ Int.tmod (IntKind.wrap IntKind.i64 (Int.tdiv x.snd.fst (8 : Int))) (↑(List.length x.fst.snd.snd.snd.snd.snd.fst) : Int) ∧ Int.tmod (IntKind.wrap IntKind.i64 (Int.tdiv x.snd.fst (8 : Int))) (↑(List.length x.fst.snd.snd.snd.snd.snd.fst) : Int) < (↑(List.length x.fst.snd.snd.snd.snd.snd.fst) : Int) ∧ Int.toNat (Int.tmod (IntKind.wrap IntKind.i64 (Int.tdiv x.snd.fst (8 : Int))) (↑(List.length x.fst.snd.snd.snd.snd.snd.fst) : Int)) < List.length x.fst.snd.snd.snd.snd.snd.fst ∧ ∀ (x_2 : List Int), x.fst.snd.snd.snd.snd.snd.fst[Int.toNat (Int.tmod (IntKind.wrap IntKind.i64 (Int.tdiv x.snd.fst (8 : Int))) (↑(List.length x.fst.snd.snd.snd.snd.snd.fst) : Int))]? = some x_2 →
  (List.length x.fst.fst.fst ≤ big ∧ okPo x.fst.snd.fst ∧ okSt x.fst.snd.fst.snd.fst ∧ List.length x_2 ≤ (100000000 : Nat) ∧ ∀ (x : Int), x ∈ x_2 →
  (0 : Int) ≤ x ∧ x < (256 : Int)) ∧ bif (ptF x.fst.fst x.fst.snd.fst x.fst.snd.snd.snd.snd.fst x_2 x.fst.snd.snd.snd.snd.snd.snd.snd.snd.snd.snd.snd.fst).snd.snd.snd.fst != (0 : Int) then ((), (x.fst.fst, x.fst.snd.fst, x.fst.snd.snd.fst, x.fst.snd.snd.snd.fst, x.fst.snd.snd.snd.snd.fst, x.fst.snd.snd.snd.snd.snd.fst, x.fst.snd.snd.snd.snd.snd.snd.fst, x.fst.snd.snd.snd.snd.snd.snd.snd.fst, x.fst.snd.snd.snd.snd.snd.snd.snd.snd.fst, x.fst.snd.snd.snd.snd.snd.snd.snd.snd.snd.fst, x.fst.snd.snd.snd.snd.snd.snd.snd.snd.snd.snd.fst, x.fst.snd.snd.snd.snd.snd.snd.snd.snd.snd.snd.snd.fst, true, ()), ()) = ((), stepP x.fst x.snd.fst, ()) else (0 : Int) ≤ (0 : Int) ∧ (0 : Int) < Int.ofNat (2 : Nat) ∧ True ∧ ((0 : Int) ≤ (0 : Int) ∧ (0 : Int) < Int.ofNat (2 : Nat) ∧ True ∧ ((List.length x.fst.snd.snd.snd.snd.snd.snd.snd.snd.snd.fst + List.length (ptF x.fst.fst x.fst.snd.fst x.fst.snd.snd.snd.snd.fst x_2 x.fst.snd.snd.snd.snd.snd.snd.snd.snd.snd.snd.snd.fst).snd.fst) * (24 : Nat) ≤ (140737488351232 : Nat) ∧ (0 : Int) ≤ (0 : Int) ∧ (0 : Int) < Int.ofNat (2 : Nat) ∧ True ∧ (((0 : Int) ≤ (0 : Int) ∧ (0 : Int) < (2 : Int) ∧ okPl (x.fst.fst, (ptF x.fst.fst x.fst.snd.fst x.fst.snd.snd.snd.snd.fst x_2 x.fst.snd.snd.snd.snd.snd.snd.snd.snd.snd.snd.snd.fst).fst, x.fst.snd.snd.fst, x.fst.snd.snd.snd.fst, x.fst.snd.snd.snd.snd.fst, x.fst.snd.snd.snd.snd.snd.fst, x.fst.snd.snd.snd.snd.snd.snd.fst, x.fst.snd.snd.snd.snd.snd.snd.snd.fst, x.fst.snd.snd.snd.snd.snd.snd.snd.snd.fst, x.fst.snd.snd.snd.snd.snd.snd.snd.snd.snd.fst ++ (ptF x.fst.fst x.fst.snd.fst x.fst.snd.snd.snd.snd.fst x_2 x.fst.snd.snd.snd.snd.snd.snd.snd.snd.snd.snd.snd.fst).snd.fst, x.fst.snd.snd.snd.snd.snd.snd.snd.snd.snd.snd) ∧ List.length (ptF x.fst.fst x.fst.snd.fst x.fst.snd.snd.snd.snd.fst x_2 x.fst.snd.snd.snd.snd.snd.snd.snd.snd.snd.snd.snd.fst).snd.snd.fst ≤ (2000000000 : Nat)) ∧ ((), (x.fst.fst, (ptF x.fst.fst x.fst.snd.fst x.fst.snd.snd.snd.snd.fst x_2 x.fst.snd.snd.snd.snd.snd.snd.snd.snd.snd.snd.snd.fst).fst, x.fst.snd.snd.fst, wA (x.fst.fst, (ptF x.fst.fst x.fst.snd.fst x.fst.snd.snd.snd.snd.fst x_2 x.fst.snd.snd.snd.snd.snd.snd.snd.snd.snd.snd.snd.fst).fst, x.fst.snd.snd.fst, x.fst.snd.snd.snd.fst, x.fst.snd.snd.snd.snd.fst, x.fst.snd.snd.snd.snd.snd.fst, x.fst.snd.snd.snd.snd.snd.snd.fst, x.fst.snd.snd.snd.snd.snd.snd.snd.fst, x.fst.snd.snd.snd.snd.snd.snd.snd.snd.fst, x.fst.snd.snd.snd.snd.snd.snd.snd.snd.snd.fst ++ (ptF x.fst.fst x.fst.snd.fst x.fst.snd.snd.snd.snd.fst x_2 x.fst.snd.snd.snd.snd.snd.snd.snd.snd.snd.snd.snd.fst).snd.fst, x.fst.snd.snd.snd.snd.snd.snd.snd.snd.snd.snd), wB (x.fst.fst, (ptF x.fst.fst x.fst.snd.fst x.fst.snd.snd.snd.snd.fst x_2 x.fst.snd.snd.snd.snd.snd.snd.snd.snd.snd.snd.snd.fst).fst, x.fst.snd.snd.fst, x.fst.snd.snd.snd.fst, x.fst.snd.snd.snd.snd.fst, x.fst.snd.snd.snd.snd.snd.fst, x.fst.snd.snd.snd.snd.snd.snd.fst, x.fst.snd.snd.snd.snd.snd.snd.snd.fst, x.fst.snd.snd.snd.snd.snd.snd.snd.snd.fst, x.fst.snd.snd.snd.snd.snd.snd.snd.snd.snd.fst ++ (ptF x.fst.fst x.fst.snd.fst x.fst.snd.snd.snd.snd.fst x_2 x.fst.snd.snd.snd.snd.snd.snd.snd.snd.snd.snd.snd.fst).snd.fst, x.fst.snd.snd.snd.snd.snd.snd.snd.snd.snd.snd), wPool (x.fst.fst, (ptF x.fst.fst x.fst.snd.fst x.fst.snd.snd.snd.snd.fst x_2 x.fst.snd.snd.snd.snd.snd.snd.snd.snd.snd.snd.snd.fst).fst, x.fst.snd.snd.fst, x.fst.snd.snd.snd.fst, x.fst.snd.snd.snd.snd.fst, x.fst.snd.snd.snd.snd.snd.fst, x.fst.snd.snd.snd.snd.snd.snd.fst, x.fst.snd.snd.snd.snd.snd.snd.snd.fst, x.fst.snd.snd.snd.snd.snd.snd.snd.snd.fst, x.fst.snd.snd.snd.snd.snd.snd.snd.snd.snd.fst ++ (ptF x.fst.fst x.fst.snd.fst x.fst.snd.snd.snd.snd.fst x_2 x.fst.snd.snd.snd.snd.snd.snd.snd.snd.snd.snd.snd.fst).snd.fst, x.fst.snd.snd.snd.snd.snd.snd.snd.snd.snd.snd) ++ List.map (fun x => x.snd.fst) (ptF x.fst.fst x.fst.snd.fst x.fst.snd.snd.snd.snd.fst x_2 x.fst.snd.snd.snd.snd.snd.snd.snd.snd.snd.snd.snd.fst).snd.snd.fst, wTo (x.fst.fst, (ptF x.fst.fst x.fst.snd.fst x.fst.snd.snd.snd.snd.fst x_2 x.fst.snd.snd.snd.snd.snd.snd.snd.snd.snd.snd.snd.fst).fst, x.fst.snd.snd.fst, x.fst.snd.snd.snd.fst, x.fst.snd.snd.snd.snd.fst, x.fst.snd.snd.snd.snd.snd.fst, x.fst.snd.snd.snd.snd.snd.snd.fst, x.fst.snd.snd.snd.snd.snd.snd.snd.fst, x.fst.snd.snd.snd.snd.snd.snd.snd.snd.fst, x.fst.snd.snd.snd.snd.snd.snd.snd.snd.snd.fst ++ (ptF x.fst.fst x.fst.snd.fst x.fst.snd.snd.snd.snd.fst x_2 x.fst.snd.snd.snd.snd.snd.snd.snd.snd.snd.snd.snd.fst).snd.fst, x.fst.snd.snd.snd.snd.snd.snd.snd.snd.snd.snd) ++ List.replicate (List.length (ptF x.fst.fst x.fst.snd.fst x.fst.snd.snd.snd.snd.fst x_2 x.fst.snd.snd.snd.snd.snd.snd.snd.snd.snd.snd.snd.fst).snd.snd.fst) (oth (0 : Int)), wS0 (x.fst.fst, (ptF x.fst.fst x.fst.snd.fst x.fst.snd.snd.snd.snd.fst x_2 x.fst.snd.snd.snd.snd.snd.snd.snd.snd.snd.snd.snd.fst).fst, x.fst.snd.snd.fst, x.fst.snd.snd.snd.fst, x.fst.snd.snd.snd.snd.fst, x.fst.snd.snd.snd.snd.snd.fst, x.fst.snd.snd.snd.snd.snd.snd.fst, x.fst.snd.snd.snd.snd.snd.snd.snd.fst, x.fst.snd.snd.snd.snd.snd.snd.snd.snd.fst, x.fst.snd.snd.snd.snd.snd.snd.snd.snd.snd.fst ++ (ptF x.fst.fst x.fst.snd.fst x.fst.snd.snd.snd.snd.fst x_2 x.fst.snd.snd.snd.snd.snd.snd.snd.snd.snd.snd.snd.fst).snd.fst, x.fst.snd.snd.snd.snd.snd.snd.snd.snd.snd.snd), wS1 (x.fst.fst, (ptF x.fst.fst x.fst.snd.fst x.fst.snd.snd.snd.snd.fst x_2 x.fst.snd.snd.snd.snd.snd.snd.snd.snd.snd.snd.snd.fst).fst, x.fst.snd.snd.fst, x.fst.snd.snd.snd.fst, x.fst.snd.snd.snd.snd.fst, x.fst.snd.snd.snd.snd.snd.fst, x.fst.snd.snd.snd.snd.snd.snd.fst, x.fst.snd.snd.snd.snd.snd.snd.snd.fst, x.fst.snd.snd.snd.snd.snd.snd.snd.snd.fst, x.fst.snd.snd.snd.snd.snd.snd.snd.snd.snd.fst ++ (ptF x.fst.fst x.fst.snd.fst x.fst.snd.snd.snd.snd.fst x_2 x.fst.snd.snd.snd.snd.snd.snd.snd.snd.snd.snd.snd.fst).snd.fst, x.fst.snd.snd.snd.snd.snd.snd.snd.snd.snd.snd), wT0 (x.fst.fst, (ptF x.fst.fst x.fst.snd.fst x.fst.snd.snd.snd.snd.fst x_2 x.fst.snd.snd.snd.snd.snd.snd.snd.snd.snd.snd.snd.fst).fst, x.fst.snd.snd.fst, x.fst.snd.snd.snd.fst, x.fst.snd.snd.snd.snd.fst, x.fst.snd.snd.snd.snd.snd.fst, x.fst.snd.snd.snd.snd.snd.snd.fst, x.fst.snd.snd.snd.snd.snd.snd.snd.fst, x.fst.snd.snd.snd.snd.snd.snd.snd.snd.fst, x.fst.snd.snd.snd.snd.snd.snd.snd.snd.snd.fst ++ (ptF x.fst.fst x.fst.snd.fst x.fst.snd.snd.snd.snd.fst x_2 x.fst.snd.snd.snd.snd.snd.snd.snd.snd.snd.snd.snd.fst).snd.fst, x.fst.snd.snd.snd.snd.snd.snd.snd.snd.snd.snd), wT1 (x.fst.fst, (ptF x.fst.fst x.fst.snd.fst x.fst.snd.snd.snd.snd.fst x_2 x.fst.snd.snd.snd.snd.snd.snd.snd.snd.snd.snd.snd.fst).fst, x.fst.snd.snd.fst, x.fst.snd.snd.snd.fst, x.fst.snd.snd.snd.snd.fst, x.fst.snd.snd.snd.snd.snd.fst, x.fst.snd.snd.snd.snd.snd.snd.fst, x.fst.snd.snd.snd.snd.snd.snd.snd.fst, x.fst.snd.snd.snd.snd.snd.snd.snd.snd.fst, x.fst.snd.snd.snd.snd.snd.snd.snd.snd.snd.fst ++ (ptF x.fst.fst x.fst.snd.fst x.fst.snd.snd.snd.snd.fst x_2 x.fst.snd.snd.snd.snd.snd.snd.snd.snd.snd.snd.snd.fst).snd.fst, x.fst.snd.snd.snd.snd.snd.snd.snd.snd.snd.snd), wNow (x.fst.fst, (ptF x.fst.fst x.fst.snd.fst x.fst.snd.snd.snd.snd.fst x_2 x.fst.snd.snd.snd.snd.snd.snd.snd.snd.snd.snd.snd.fst).fst, x.fst.snd.snd.fst, x.fst.snd.snd.snd.fst, x.fst.snd.snd.snd.snd.fst, x.fst.snd.snd.snd.snd.snd.fst, x.fst.snd.snd.snd.snd.snd.snd.fst, x.fst.snd.snd.snd.snd.snd.snd.snd.fst, x.fst.snd.snd.snd.snd.snd.snd.snd.snd.fst, x.fst.snd.snd.snd.snd.snd.snd.snd.snd.snd.fst ++ (ptF x.fst.fst x.fst.snd.fst x.fst.snd.snd.snd.snd.fst x_2 x.fst.snd.snd.snd.snd.snd.snd.snd.snd.snd.snd.snd.fst).snd.fst, x.fst.snd.snd.snd.snd.snd.snd.snd.snd.snd.snd), wBr (x.fst.fst, (ptF x.fst.fst x.fst.snd.fst x.fst.snd.snd.snd.snd.fst x_2 x.fst.snd.snd.snd.snd.snd.snd.snd.snd.snd.snd.snd.fst).fst, x.fst.snd.snd.fst, x.fst.snd.snd.snd.fst, x.fst.snd.snd.snd.snd.fst, x.fst.snd.snd.snd.snd.snd.fst, x.fst.snd.snd.snd.snd.snd.snd.fst, x.fst.snd.snd.snd.snd.snd.snd.snd.fst, x.fst.snd.snd.snd.snd.snd.snd.snd.snd.fst, x.fst.snd.snd.snd.snd.snd.snd.snd.snd.snd.fst ++ (ptF x.fst.fst x.fst.snd.fst x.fst.snd.snd.snd.snd.fst x_2 x.fst.snd.snd.snd.snd.snd.snd.snd.snd.snd.snd.snd.fst).snd.fst, x.fst.snd.snd.snd.snd.snd.snd.snd.snd.snd.snd) || List.any (ptF x.fst.fst x.fst.snd.fst x.fst.snd.snd.snd.snd.fst x_2 x.fst.snd.snd.snd.snd.snd.snd.snd.snd.snd.snd.snd.fst).snd.snd.fst fun x_3 => x_3.fst != bif (0 : Int) == (0 : Int) then wB (x.fst.fst, (ptF x.fst.fst x.fst.snd.fst x.fst.snd.snd.snd.snd.fst x_2 x.fst.snd.snd.snd.snd.snd.snd.snd.snd.snd.snd.snd.fst).fst, x.fst.snd.snd.fst, x.fst.snd.snd.snd.fst, x.fst.snd.snd.snd.snd.fst, x.fst.snd.snd.snd.snd.snd.fst, x.fst.snd.snd.snd.snd.snd.snd.fst, x.fst.snd.snd.snd.snd.snd.snd.snd.fst, x.fst.snd.snd.snd.snd.snd.snd.snd.snd.fst, x.fst.snd.snd.snd.snd.snd.snd.snd.snd.snd.fst ++ (ptF x.fst.fst x.fst.snd.fst x.fst.snd.snd.snd.snd.fst x_2 x.fst.snd.snd.snd.snd.snd.snd.snd.snd.snd.snd.snd.fst).snd.fst, x.fst.snd.snd.snd.snd.snd.snd.snd.snd.snd.snd) else wA (x.fst.fst, (ptF x.fst.fst x.fst.snd.fst x.fst.snd.snd.snd.snd.fst x_2 x.fst.snd.snd.snd.snd.snd.snd.snd.snd.snd.snd.snd.fst).fst, x.fst.snd.snd.fst, x.fst.snd.snd.snd.fst, x.fst.snd.snd.snd.snd.fst, x.fst.snd.snd.snd.snd.snd.fst, x.fst.snd.snd.snd.snd.snd.snd.fst, x.fst.snd.snd.snd.snd.snd.snd.snd.fst, x.fst.snd.snd.snd.snd.snd.snd.snd.snd.fst, x.fst.snd.snd.snd.snd.snd.snd.snd.snd.snd.fst ++ (ptF x.fst.fst x.fst.snd.fst x.fst.snd.snd.snd.snd.fst x_2 x.fst.snd.snd.snd.snd.snd.snd.snd.snd.snd.snd.snd.fst).snd.fst, x.fst.snd.snd.snd.snd.snd.snd.snd.snd.snd.snd), ()), ()) = ((), stepP x.fst x.snd.fst, ())) ∧ True) ∧ True) ∧ True) ∧ True ∧ True) ∧ True else True) ∧ bif decide (x_1 = (1 : Int)) then (0 : Int) ≤ (1 : Int) ∧ (1 : Int) < Int.ofNat (2 : Nat) ∧ ((0 : Int) ≤ (0 : Int) ∧ (0 : Int) < Int.ofNat (2 : Nat) ∧ True ∧ ((0 : Int) ≤ Int.tmod (IntKind.wrap IntKind.i64 (Int.tdiv x.snd.fst (8 : Int))) (↑(List.length x.fst.snd.snd.snd.snd.snd.fst) : Int) ∧ Int.tmod (IntKind.wrap IntKind.i64 (Int.tdiv x.snd.fst (8 : Int))) (↑(List.length x.fst.snd.snd.snd.snd.snd.fst) : Int) < (↑(List.length x.fst.snd.snd.snd.snd.snd.fst) : Int) ∧ Int.toNat (Int.tmod (IntKind.wrap IntKind.i64 (Int.tdiv x.snd.fst (8 : Int))) (↑(List.length x.fst.snd.snd.snd.snd.snd.fst) : Int)) < List.length x.fst.snd.snd.snd.snd.snd.fst ∧ ∀ (x_2 : List Int), x.fst.snd.snd.snd.snd.snd.fst[Int.toNat (Int.tmod (IntKind.wrap IntKind.i64 (Int.tdiv x.snd.fst (8 : Int))) (↑(List.length x.fst.snd.snd.snd.snd.snd.fst) : Int))]? = some x_2 →
  (List.length x.fst.fst.fst ≤ big ∧ okPo x.fst.snd.snd.fst ∧ okSt x.fst.snd.snd.fst.snd.fst ∧ List.length x_2 ≤ (100000000 : Nat) ∧ ∀ (x : Int), x ∈ x_2 →
  (0 : Int) ≤ x ∧ x < (256 : Int)) ∧ bif (ptF x.fst.fst x.fst.snd.snd.fst x.fst.snd.snd.snd.fst x_2 x.fst.snd.snd.snd.snd.snd.snd.snd.snd.snd.snd.snd.fst).snd.snd.snd.fst != (0 : Int) then ((), (x.fst.fst, x.fst.snd.fst, x.fst.snd.snd.fst, x.fst.snd.snd.snd.fst, x.fst.snd.snd.snd.snd.fst, x.fst.snd.snd.snd.snd.snd.fst, x.fst.snd.snd.snd.snd.snd.snd.fst, x.fst.snd.snd.snd.snd.snd.snd.snd.fst, x.fst.snd.snd.snd.snd.snd.snd.snd.snd.fst, x.fst.snd.snd.snd.snd.snd.snd.snd.snd.snd.fst, x.fst.snd.snd.snd.snd.snd.snd.snd.snd.snd.snd.fst, x.fst.snd.snd.snd.snd.snd.snd.snd.snd.snd.snd.snd.fst, true, ()), ()) = ((), stepP x.fst x.snd.fst, ()) else (0 : Int) ≤ (1 : Int) ∧ (1 : Int) < Int.ofNat (2 : Nat) ∧ ((0 : Int) ≤ (1 : Int) ∧ (1 : Int) < Int.ofNat (2 : Nat) ∧ ((List.length x.fst.snd.snd.snd.snd.snd.snd.snd.snd.snd.snd.fst + List.length (ptF x.fst.fst x.fst.snd.snd.fst x.fst.snd.snd.snd.fst x_2 x.fst.snd.snd.snd.snd.snd.snd.snd.snd.snd.snd.snd.fst).snd.fst) * (24 : Nat) ≤ (140737488351232 : Nat) ∧ (0 : Int) ≤ (1 : Int) ∧ (1 : Int) < Int.ofNat (2 : Nat) ∧ (((0 : Int) ≤ (1 : Int) ∧ (1 : Int) < (2 : Int) ∧ okPl (x.fst.fst, x.fst.snd.fst, (ptF x.fst.fst x.fst.snd.snd.fst x.fst.snd.snd.snd.fst x_2 x.fst.snd.snd.snd.snd.snd.snd.snd.snd.snd.snd.snd.fst).fst, x.fst.snd.snd.snd.fst, x.fst.snd.snd.snd.snd.fst, x.fst.snd.snd.snd.snd.snd.fst, x.fst.snd.snd.snd.snd.snd.snd.fst, x.fst.snd.snd.snd.snd.snd.snd.snd.fst, x.fst.snd.snd.snd.snd.snd.snd.snd.snd.fst, x.fst.snd.snd.snd.snd.snd.snd.snd.snd.snd.fst, x.fst.snd.snd.snd.snd.snd.snd.snd.snd.snd.snd.fst ++ (ptF x.fst.fst x.fst.snd.snd.fst x.fst.snd.snd.snd.fst x_2 x.fst.snd.snd.snd.snd.snd.snd.snd.snd.snd.snd.snd.fst).snd.fst, x.fst.snd.snd.snd.snd.snd.snd.snd.snd.snd.snd.snd) ∧ List.length (ptF x.fst.fst x.fst.snd.snd.fst x.fst.snd.snd.snd.fst x_2 x.fst.snd.snd.snd.snd.snd.snd.snd.snd.snd.snd.snd.fst).snd.snd.fst ≤ (2000000000 : Nat)) ∧ ((), (x.fst.fst, x.fst.snd.fst, (ptF x.fst.fst x.fst.snd.snd.fst x.fst.snd.snd.snd.fst x_2 x.fst.snd.snd.snd.snd.snd.snd.snd.snd.snd.snd.snd.fst).fst, wA (x.fst.fst, x.fst.snd.fst, (ptF x.fst.fst x.fst.snd.snd.fst x.fst.snd.snd.snd.fst x_2 x.fst.snd.snd.snd.snd.snd.snd.snd.snd.snd.snd.snd.fst).fst, x.fst.snd.snd.snd.fst, x.fst.snd.snd.snd.snd.fst, x.fst.snd.snd.snd.snd.snd.fst, x.fst.snd.snd.snd.snd.snd.snd.fst, x.fst.snd.snd.snd.snd.snd.snd.snd.fst, x.fst.snd.snd.snd.snd.snd.snd.snd.snd.fst, x.fst.snd.snd.snd.snd.snd.snd.snd.snd.snd.fst, x.fst.snd.snd.snd.snd.snd.snd.snd.snd.snd.snd.fst ++ (ptF x.fst.fst x.fst.snd.snd.fst x.fst.snd.snd.snd.fst x_2 x.fst.snd.snd.snd.snd.snd.snd.snd.snd.snd.snd.snd.fst).snd.fst, x.fst.snd.snd.snd.snd.snd.snd.snd.snd.snd.snd.snd), wB (x.fst.fst, x.fst.snd.fst, (ptF x.fst.fst x.fst.snd.snd.fst x.fst.snd.snd.snd.fst x_2 x.fst.snd.snd.snd.snd.snd.snd.snd.snd.snd.snd.snd.fst).fst, x.fst.snd.snd.snd.fst, x.fst.snd.snd.snd.snd.fst, x.fst.snd.snd.snd.snd.snd.fst, x.fst.snd.snd.snd.snd.snd.snd.fst, x.fst.snd.snd.snd.snd.snd.snd.snd.fst, x.fst.snd.snd.snd.snd.snd.snd.snd.snd.fst, x.fst.snd.snd.snd.snd.snd.snd.snd.snd.snd.fst, x.fst.snd.snd.snd.snd.snd.snd.snd.snd.snd.snd.fst ++ (ptF x.fst.fst x.fst.snd.snd.fst x.fst.snd.snd.snd.fst x_2 x.fst.snd.snd.snd.snd.snd.snd.snd.snd.snd.snd.snd.fst).snd.fst, x.fst.snd.snd.snd.snd.snd.snd.snd.snd.snd.snd.snd), wPool (x.fst.fst, x.fst.snd.fst, (ptF x.fst.fst x.fst.snd.snd.fst x.fst.snd.snd.snd.fst x_2 x.fst.snd.snd.snd.snd.snd.snd.snd.snd.snd.snd.snd.fst).fst, x.fst.snd.snd.snd.fst, x.fst.snd.snd.snd.snd.fst, x.fst.snd.snd.snd.snd.snd.fst, x.fst.snd.snd.snd.snd.snd.snd.fst, x.fst.snd.snd.snd.snd.snd.snd.snd.fst, x.fst.snd.snd.snd.snd.snd.snd.snd.snd.fst, x.fst.snd.snd.snd.snd.snd.snd.snd.snd.snd.fst, x.fst.snd.snd.snd.snd.snd.snd.snd.snd.snd.snd.fst ++ (ptF x.fst.fst x.fst.snd.snd.fst x.fst.snd.snd.snd.fst x_2 x.fst.snd.snd.snd.snd.snd.snd.snd.snd.snd.snd.snd.fst).snd.fst, x.fst.snd.snd.snd.snd.snd.snd.snd.snd.snd.snd.snd) ++ List.map (fun x => x.snd.fst) (ptF x.fst.fst x.fst.snd.snd.fst x.fst.snd.snd.snd.fst x_2 x.fst.snd.snd.snd.snd.snd.snd.snd.snd.snd.snd.snd.fst).snd.snd.fst, wTo (x.fst.fst, x.fst.snd.fst, (ptF x.fst.fst x.fst.snd.snd.fst x.fst.snd.snd.snd.fst x_2 x.fst.snd.snd.snd.snd.snd.snd.snd.snd.snd.snd.snd.fst).fst, x.fst.snd.snd.snd.fst, x.fst.snd.snd.snd.snd.fst, x.fst.snd.snd.snd.snd.snd.fst, x.fst.snd.snd.snd.snd.snd.snd.fst, x.fst.snd.snd.snd.snd.snd.snd.snd.fst, x.fst.snd.snd.snd.snd.snd.snd.snd.snd.fst, x.fst.snd.snd.snd.snd.snd.snd.snd.snd.snd.fst, x.fst.snd.snd.snd.snd.snd.snd.snd.snd.snd.snd.fst ++ (ptF x.fst.fst x.fst.snd.snd.fst x.fst.snd.snd.snd.fst x_2 x.fst.snd.snd.snd.snd.snd.snd.snd.snd.snd.snd.snd.fst).snd.fst, x.fst.snd.snd.snd.snd.snd.snd.snd.snd.snd.snd.snd) ++ List.replicate (List.length (ptF x.fst.fst x.fst.snd.snd.fst x.fst.snd.snd.snd.fst x_2 x.fst.snd.snd.snd.snd.snd.snd.snd.snd.snd.snd.snd.fst).snd.snd.fst) (oth (1 : Int)), wS0 (x.fst.fst, x.fst.snd.fst, (ptF x.fst.fst x.fst.snd.snd.fst x.fst.snd.snd.snd.fst x_2 x.fst.snd.snd.snd.snd.snd.snd.snd.snd.snd.snd.snd.fst).fst, x.fst.snd.snd.snd.fst, x.fst.snd.snd.snd.snd.fst, x.fst.snd.snd.snd.snd.snd.fst, x.fst.snd.snd.snd.snd.snd.snd.fst, x.fst.snd.snd.snd.snd.snd.snd.snd.fst, x.fst.snd.snd.snd.snd.snd.snd.snd.snd.fst, x.fst.snd.snd.snd.snd.snd.snd.snd.snd.snd.fst, x.fst.snd.snd.snd.snd.snd.snd.snd.snd.snd.snd.fst ++ (ptF x.fst.fst x.fst.snd.snd.fst x.fst.snd.snd.snd.fst x_2 x.fst.snd.snd.snd.snd.snd.snd.snd.snd.snd.snd.snd.fst).snd.fst, x.fst.snd.snd.snd.snd.snd.snd.snd.snd.snd.snd.snd), wS1 (x.fst.fst, x.fst.snd.fst, (ptF x.fst.fst x.fst.snd.snd.fst x.fst.snd.snd.snd.fst x_2 x.fst.snd.snd.snd.snd.snd.snd.snd.snd.snd.snd.snd.fst).fst, x.fst.snd.snd.snd.fst, x.fst.snd.snd.snd.snd.fst, x.fst.snd.snd.snd.snd.snd.fst, x.fst.snd.snd.snd.snd.snd.snd.fst, x.fst.snd.snd.snd.snd.snd.snd.snd.fst, x.fst.snd.snd.snd.snd.snd.snd.snd.snd.fst, x.fst.snd.snd.snd.snd.snd.snd.snd.snd.snd.fst, x.fst.snd.snd.snd.snd.snd.snd.snd.snd.snd.snd.fst ++ (ptF x.fst.fst x.fst.snd.snd.fst x.fst.snd.snd.snd.fst x_2 x.fst.snd.snd.snd.snd.snd.snd.snd.snd.snd.snd.snd.fst).snd.fst, x.fst.snd.snd.snd.snd.snd.snd.snd.snd.snd.snd.snd), wT0 (x.fst.fst, x.fst.snd.fst, (ptF x.fst.fst x.fst.snd.snd.fst x.fst.snd.snd.snd.fst x_2 x.fst.snd.snd.snd.snd.snd.snd.snd.snd.snd.snd.snd.fst).fst, x.fst.snd.snd.snd.fst, x.fst.snd.snd.snd.snd.fst, x.fst.snd.snd.snd.snd.snd.fst, x.fst.snd.snd.snd.snd.snd.snd.fst, x.fst.snd.snd.snd.snd.snd.snd.snd.fst, x.fst.snd.snd.snd.snd.snd.snd.snd.snd.fst, x.fst.snd.snd.snd.snd.snd.snd.snd.snd.snd.fst, x.fst.snd.snd.snd.snd.snd.snd.snd.snd.snd.snd.fst ++ (ptF x.fst.fst x.fst.snd.snd.fst x.fst.snd.snd.snd.fst x_2 x.fst.snd.snd.snd.snd.snd.snd.snd.snd.snd.snd.snd.fst).snd.fst, x.fst.snd.snd.snd.snd.snd.snd.snd.snd.snd.snd.snd), wT1 (x.fst.fst, x.fst.snd.fst, (ptF x.fst.fst x.fst.snd.snd.fst x.fst.snd.snd.snd.fst x_2 x.fst.snd.snd.snd.snd.snd.snd.snd.snd.snd.snd.snd.fst).fst, x.fst.snd.snd.snd.fst, x.fst.snd.snd.snd.snd.fst, x.fst.snd.snd.snd.snd.snd.fst, x.fst.snd.snd.snd.snd.snd.snd.fst, x.fst.snd.snd.snd.snd.snd.snd.snd.fst, x.fst.snd.snd.snd.snd.snd.snd.snd.snd.fst, x.fst.snd.snd.snd.snd.snd.snd.snd.snd.snd.fst, x.fst.snd.snd.snd.snd.snd.snd.snd.snd.snd.snd.fst ++ (ptF x.fst.fst x.fst.snd.snd.fst x.fst.snd.snd.snd.fst x_2 x.fst.snd.snd.snd.snd.snd.snd.snd.snd.snd.snd.snd.fst).snd.fst, x.fst.snd.snd.snd.snd.snd.snd.snd.snd.snd.snd.snd), wNow (x.fst.fst, x.fst.snd.fst, (ptF x.fst.fst x.fst.snd.snd.fst x.fst.snd.snd.snd.fst x_2 x.fst.snd.snd.snd.snd.snd.snd.snd.snd.snd.snd.snd.fst).fst, x.fst.snd.snd.snd.fst, x.fst.snd.snd.snd.snd.fst, x.fst.snd.snd.snd.snd.snd.fst, x.fst.snd.snd.snd.snd.snd.snd.fst, x.fst.snd.snd.snd.snd.snd.snd.snd.fst, x.fst.snd.snd.snd.snd.snd.snd.snd.snd.fst, x.fst.snd.snd.snd.snd.snd.snd.snd.snd.snd.fst, x.fst.snd.snd.snd.snd.snd.snd.snd.snd.snd.snd.fst ++ (ptF x.fst.fst x.fst.snd.snd.fst x.fst.snd.snd.snd.fst x_2 x.fst.snd.snd.snd.snd.snd.snd.snd.snd.snd.snd.snd.fst).snd.fst, x.fst.snd.snd.snd.snd.snd.snd.snd.snd.snd.snd.snd), wBr (x.fst.fst, x.fst.snd.fst, (ptF x.fst.fst x.fst.snd.snd.fst x.fst.snd.snd.snd.fst x_2 x.fst.snd.snd.snd.snd.snd.snd.snd.snd.snd.snd.snd.fst).fst, x.fst.snd.snd.snd.fst, x.fst.snd.snd.snd.snd.fst, x.fst.snd.snd.snd.snd.snd.fst, x.fst.snd.snd.snd.snd.snd.snd.fst, x.fst.snd.snd.snd.snd.snd.snd.snd.fst, x.fst.snd.snd.snd.snd.snd.snd.snd.snd.fst, x.fst.snd.snd.snd.snd.snd.snd.snd.snd.snd.fst, x.fst.snd.snd.snd.snd.snd.snd.snd.snd.snd.snd.fst ++ (ptF x.fst.fst x.fst.snd.snd.fst x.fst.snd.snd.snd.fst x_2 x.fst.snd.snd.snd.snd.snd.snd.snd.snd.snd.snd.snd.fst).snd.fst, x.fst.snd.snd.snd.snd.snd.snd.snd.snd.snd.snd.snd) || List.any (ptF x.fst.fst x.fst.snd.snd.fst x.fst.snd.snd.snd.fst x_2 x.fst.snd.snd.snd.snd.snd.snd.snd.snd.snd.snd.snd.fst).snd.snd.fst fun x_3 => x_3.fst != bif (1 : Int) == (0 : Int) then wB (x.fst.fst, x.fst.snd.fst, (ptF x.fst.fst x.fst.snd.snd.fst x.fst.snd.snd.snd.fst x_2 x.fst.snd.snd.snd.snd.snd.snd.snd.snd.snd.snd.snd.fst).fst, x.fst.snd.snd.snd.fst, x.fst.snd.snd.snd.snd.fst, x.fst.snd.snd.snd.snd.snd.fst, x.fst.snd.snd.snd.snd.snd.snd.fst, x.fst.snd.snd.snd.snd.snd.snd.snd.fst, x.fst.snd.snd.snd.snd.snd.snd.snd.snd.fst, x.fst.snd.snd.snd.snd.snd.snd.snd.snd.snd.fst, x.fst.snd.snd.snd.snd.snd.snd.snd.snd.snd.snd.fst ++ (ptF x.fst.fst x.fst.snd.snd.fst x.fst.snd.snd.snd.fst x_2 x.fst.snd.snd.snd.snd.snd.snd.snd.snd.snd.snd.snd.fst).snd.fst, x.fst.snd.snd.snd.snd.snd.snd.snd.snd.snd.snd.snd) else wA (x.fst.fst, x.fst.snd.fst, (ptF x.fst.fst x.fst.snd.snd.fst x.fst.snd.snd.snd.fst x_2 x.fst.snd.snd.snd.snd.snd.snd.snd.snd.snd.snd.snd.fst).fst, x.fst.snd.snd.snd.fst, x.fst.snd.snd.snd.snd.fst, x.fst.snd.snd.snd.snd.snd.fst, x.fst.snd.snd.snd.snd.snd.snd.fst, x.fst.snd.snd.snd.snd.snd.snd.snd.fst, x.fst.snd.snd.snd.snd.snd.snd.snd.snd.fst, x.fst.snd.snd.snd.snd.snd.snd.snd.snd.snd.fst, x.fst.snd.snd.snd.snd.snd.snd.snd.snd.snd.snd.fst ++ (ptF x.fst.fst x.fst.snd.snd.fst x.fst.snd.snd.snd.fst x_2 x.fst.snd.snd.snd.snd.snd.snd.snd.snd.snd.snd.snd.fst).snd.fst, x.fst.snd.snd.snd.snd.snd.snd.snd.snd.snd.snd.snd), ()), ()) = ((), stepP x.fst x.snd.fst, ())) ∧ True ∧ True) ∧ True ∧ True) ∧ True ∧ True) ∧ True) ∧ True ∧ True else True else ((0 : Int) ≤ (0 : Int) ∧ (0 : Int) ≤ (2 : Int) ∧ (x.fst.fst, x.fst.snd.fst, x.fst.snd.snd.fst, x.fst.snd.snd.snd.fst, x.fst.snd.snd.snd.snd.fst, x.fst.snd.snd.snd.snd.snd.fst, x.fst.snd.snd.snd.snd.snd.snd.fst, x.fst.snd.snd.snd.snd.snd.snd.snd.fst, x.fst.snd.snd.snd.snd.snd.snd.snd.snd.fst, x.fst.snd.snd.snd.snd.snd.snd.snd.snd.snd.fst, x.fst.snd.snd.snd.snd.snd.snd.snd.snd.snd.snd.fst, IntKind.wrap IntKind.i64 (x.fst.snd.snd.snd.snd.snd.snd.snd.snd.snd.snd.snd.fst + (1 : Int)), x.fst.snd.snd.snd.snd.snd.snd.snd.snd.snd.snd.snd.snd) = ageI x.fst (0 : Int)) ∧ ∀ (v : Int × ((List Int × Int × Int × Int × Int × Int × Int × Int × Int × Int × Int × Unit) × (Int × (Int × Int × List Int × Unit) × List (Int × (Int × List (Int × List Int × Int × Unit) × List (List Int) × Unit) × (Int × List (Int × List Int × Int × Unit) × Unit) × Unit) × Unit) × (Int × (Int × Int × List Int × Unit) × List (Int × (Int × List (Int × List Int × Int × Unit) × List (List Int) × Unit) × (Int × List (Int × List Int × Int × Unit) × Unit) × Unit) × Unit) × Int × Int × List (List Int) × List Int × List (List Int) × List (List Int) × List (List Int) × List (List Int) × Int × Bool × Unit) × Unit), (0 : Int) ≤ v.fst ∧ v.fst ≤ (2 : Int) ∧ v.snd.fst = ageI x.fst v.fst →
  bif decide (v.fst < (2 : Int)) then (0 : Int) ≤ v.fst ∧ v.fst < (2 : Int) ∧ (bif decide (v.fst = (0 : Int)) then (0 : Int) ≤ (0 : Int) ∧ (0 : Int) < Int.ofNat (2 : Nat) ∧ True ∧ ((List.length v.snd.fst.fst.fst ≤ big ∧ okPo v.snd.fst.snd.fst ∧ okSt v.snd.fst.snd.fst.snd.fst ∧ itPo v.snd.fst.snd.fst.snd.snd.fst ≤ big) ∧ (0 : Int) ≤ (0 : Int) ∧ (0 : Int) < Int.ofNat (2 : Nat) ∧ True ∧ (((0 : Int) ≤ (0 : Int) ∧ (0 : Int) < (2 : Int) ∧ okPl (v.snd.fst.fst, (v.snd.fst.snd.fst.fst, v.snd.fst.snd.fst.snd.fst, List.map (agPe v.snd.fst.fst v.snd.fst.snd.snd.snd.snd.snd.snd.snd.snd.snd.snd.snd.fst) v.snd.fst.snd.fst.snd.snd.fst, ()), v.snd.fst.snd.snd) ∧ List.length (agPs v.snd.fst.fst v.snd.fst.snd.fst v.snd.fst.snd.snd.snd.snd.snd.snd.snd.snd.snd.snd.snd.fst v.snd.fst.snd.fst.snd.snd.fst) ≤ (2000000000 : Nat)) ∧ ((0 : Int) ≤ IntKind.wrap IntKind.i64 (v.fst + (1 : Int)) ∧ IntKind.wrap IntKind.i64 (v.fst + (1 : Int)) ≤ (2 : Int) ∧ (v.snd.fst.fst, (v.snd.fst.snd.fst.fst, v.snd.fst.snd.fst.snd.fst, List.map (agPe v.snd.fst.fst v.snd.fst.snd.snd.snd.snd.snd.snd.snd.snd.snd.snd.snd.fst) v.snd.fst.snd.fst.snd.snd.fst, ()), v.snd.fst.snd.snd.fst, wA (v.snd.fst.fst, (v.snd.fst.snd.fst.fst, v.snd.fst.snd.fst.snd.fst, List.map (agPe v.snd.fst.fst v.snd.fst.snd.snd.snd.snd.snd.snd.snd.snd.snd.snd.snd.fst) v.snd.fst.snd.fst.snd.snd.fst, ()), v.snd.fst.snd.snd), wB (v.snd.fst.fst, (v.snd.fst.snd.fst.fst, v.snd.fst.snd.fst.snd.fst, List.map (agPe v.snd.fst.fst v.snd.fst.snd.snd.snd.snd.snd.snd.snd.snd.snd.snd.snd.fst) v.snd.fst.snd.fst.snd.snd.fst, ()), v.snd.fst.snd.snd), wPool (v.snd.fst.fst, (v.snd.fst.snd.fst.fst, v.snd.fst.snd.fst.snd.fst, List.map (agPe v.snd.fst.fst v.snd.fst.snd.snd.snd.snd.snd.snd.snd.snd.snd.snd.snd.fst) v.snd.fst.snd.fst.snd.snd.fst, ()), v.snd.fst.snd.snd) ++ List.map (fun x => x.snd.fst) (agPs v.snd.fst.fst v.snd.fst.snd.fst v.snd.fst.snd.snd.snd.snd.snd.snd.snd.snd.snd.snd.snd.fst v.snd.fst.snd.fst.snd.snd.fst), wTo (v.snd.fst.fst, (v.snd.fst.snd.fst.fst, v.snd.fst.snd.fst.snd.fst, List.map (agPe v.snd.fst.fst v.snd.fst.snd.snd.snd.snd.snd.snd.snd.snd.snd.snd.snd.fst) v.snd.fst.snd.fst.snd.snd.fst, ()), v.snd.fst.snd.snd) ++ List.replicate (List.length (agPs v.snd.fst.fst v.snd.fst.snd.fst v.snd.fst.snd.snd.snd.snd.snd.snd.snd.snd.snd.snd.snd.fst v.snd.fst.snd.fst.snd.snd.fst)) (oth (0 : Int)), wS0 (v.snd.fst.fst, (v.snd.fst.snd.fst.fst, v.snd.fst.snd.fst.snd.fst, List.map (agPe v.snd.fst.fst v.snd.fst.snd.snd.snd.snd.snd.snd.snd.snd.snd.snd.snd.fst) v.snd.fst.snd.fst.snd.snd.fst, ()), v.snd.fst.snd.snd), wS1 (v.snd.fst.fst, (v.snd.fst.snd.fst.fst, v.snd.fst.snd.fst.snd.fst, List.map (agPe v.snd.fst.fst v.snd.fst.snd.snd.snd.snd.snd.snd.snd.snd.snd.snd.snd.fst) v.snd.fst.snd.fst.snd.snd.fst, ()), v.snd.fst.snd.snd), wT0 (v.snd.fst.fst, (v.snd.fst.snd.fst.fst, v.snd.fst.snd.fst.snd.fst, List.map (agPe v.snd.fst.fst v.snd.fst.snd.snd.snd.snd.snd.snd.snd.snd.snd.snd.snd.fst) v.snd.fst.snd.fst.snd.snd.fst, ()), v.snd.fst.snd.snd), wT1 (v.snd.fst.fst, (v.snd.fst.snd.fst.fst, v.snd.fst.snd.fst.snd.fst, List.map (agPe v.snd.fst.fst v.snd.fst.snd.snd.snd.snd.snd.snd.snd.snd.snd.snd.snd.fst) v.snd.fst.snd.fst.snd.snd.fst, ()), v.snd.fst.snd.snd), wNow (v.snd.fst.fst, (v.snd.fst.snd.fst.fst, v.snd.fst.snd.fst.snd.fst, List.map (agPe v.snd.fst.fst v.snd.fst.snd.snd.snd.snd.snd.snd.snd.snd.snd.snd.snd.fst) v.snd.fst.snd.fst.snd.snd.fst, ()), v.snd.fst.snd.snd), wBr (v.snd.fst.fst, (v.snd.fst.snd.fst.fst, v.snd.fst.snd.fst.snd.fst, List.map (agPe v.snd.fst.fst v.snd.fst.snd.snd.snd.snd.snd.snd.snd.snd.snd.snd.snd.fst) v.snd.fst.snd.fst.snd.snd.fst, ()), v.snd.fst.snd.snd) || List.any (agPs v.snd.fst.fst v.snd.fst.snd.fst v.snd.fst.snd.snd.snd.snd.snd.snd.snd.snd.snd.snd.snd.fst v.snd.fst.snd.fst.snd.snd.fst) fun x => x.fst != bif (0 : Int) == (0 : Int) then wB (v.snd.fst.fst, (v.snd.fst.snd.fst.fst, v.snd.fst.snd.fst.snd.fst, List.map (agPe v.snd.fst.fst v.snd.fst.snd.snd.snd.snd.snd.snd.snd.snd.snd.snd.snd.fst) v.snd.fst.snd.fst.snd.snd.fst, ()), v.snd.fst.snd.snd) else wA (v.snd.fst.fst, (v.snd.fst.snd.fst.fst, v.snd.fst.snd.fst.snd.fst, List.map (agPe v.snd.fst.fst v.snd.fst.snd.snd.snd.snd.snd.snd.snd.snd.snd.snd.snd.fst) v.snd.fst.snd.fst.snd.snd.fst, ()), v.snd.fst.snd.snd), ()) = ageI x.fst (IntKind.wrap IntKind.i64 (v.fst + (1 : Int)))) ∧ Int.toNat ((2 : Int) - IntKind.wrap IntKind.i64 (v.fst + (1 : Int))) < Int.toNat ((2 : Int) - v.fst)) ∧ True) ∧ True else True) ∧ bif decide (v.fst = (1 : Int)) then (0 : Int) ≤ (1 : Int) ∧ (1 : Int) < Int.ofNat (2 : Nat) ∧ ((List.length v.snd.fst.fst.fst ≤ big ∧ okPo v.snd.fst.snd.snd.fst ∧ okSt v.snd.fst.snd.snd.fst.snd.fst ∧ itPo v.snd.fst.snd.snd.fst.snd.snd.fst ≤ big) ∧ (0 : Int) ≤ (1 : Int) ∧ (1 : Int) < Int.ofNat (2 : Nat) ∧ (((0 : Int) ≤ (1 : Int) ∧ (1 : Int) < (2 : Int) ∧ okPl (v.snd.fst.fst, v.snd.fst.snd.fst, (v.snd.fst.snd.snd.fst.fst, v.snd.fst.snd.snd.fst.snd.fst, List.map (agPe v.snd.fst.fst v.snd.fst.snd.snd.snd.snd.snd.snd.snd.snd.snd.snd.snd.fst) v.snd.fst.snd.snd.fst.snd.snd.fst, ()), v.snd.fst.snd.snd.snd) ∧ List.length (agPs v.snd.fst.fst v.snd.fst.snd.snd.fst v.snd.fst.snd.snd.snd.snd.snd.snd.snd.snd.snd.snd.snd.fst v.snd.fst.snd.snd.fst.snd.snd.fst) ≤ (2000000000 : Nat)) ∧ ((0 : Int) ≤ IntKind.wrap IntKind.i64 (v.fst + (1 : Int)) ∧ IntKind.wrap IntKind.i64 (v.fst + (1 : Int)) ≤ (2 : Int) ∧ (v.snd.fst.fst, v.snd.fst.snd.fst, (v.snd.fst.snd.snd.fst.fst, v.snd.fst.snd.snd.fst.snd.fst, List.map (agPe v.snd.fst.fst v.snd.fst.snd.snd.snd.snd.snd.snd.snd.snd.snd.snd.snd.fst) v.snd.fst.snd.snd.fst.snd.snd.fst, ()), wA (v.snd.fst.fst, v.snd.fst.snd.fst, (v.snd.fst.snd.snd.fst.fst, v.snd.fst.snd.snd.fst.snd.fst, List.map (agPe v.snd.fst.fst v.snd.fst.snd.snd.snd.snd.snd.snd.snd.snd.snd.snd.snd.fst) v.snd.fst.snd.snd.fst.snd.snd.fst, ()), v.snd.fst.snd.snd.snd), wB (v.snd.fst.fst, v.snd.fst.snd.fst, (v.snd.fst.snd.snd.fst.fst, v.snd.fst.snd.snd.fst.snd.fst, List.map (agPe v.snd.fst.fst v.snd.fst.snd.snd.snd.snd.snd.snd.snd.snd.snd.snd.snd.fst) v.snd.fst.snd.snd.fst.snd.snd.fst, ()), v.snd.fst.snd.snd.snd), wPool (v.snd.fst.fst, v.snd.fst.snd.fst, (v.snd.fst.snd.snd.fst.fst, v.snd.fst.snd.snd.fst.snd.fst, List.map (agPe v.snd.fst.fst v.snd.fst.snd.snd.snd.snd.snd.snd.snd.snd.snd.snd.snd.fst) v.snd.fst.snd.snd.fst.snd.snd.fst, ()), v.snd.fst.snd.snd.snd) ++ List.map (fun x => x.snd.fst) (agPs v.snd.fst.fst v.snd.fst.snd.snd.fst v.snd.fst.snd.snd.snd.snd.snd.snd.snd.snd.snd.snd.snd.fst v.snd.fst.snd.snd.fst.snd.snd.fst), wTo (v.snd.fst.fst, v.snd.fst.snd.fst, (v.snd.fst.snd.snd.fst.fst, v.snd.fst.snd.snd.fst.snd.fst, List.map (agPe v.snd.fst.fst v.snd.fst.snd.snd.snd.snd.snd.snd.snd.snd.snd.snd.snd.fst) v.snd.fst.snd.snd.fst.snd.snd.fst, ()), v.snd.fst.snd.snd.snd) ++ List.replicate (List.length (agPs v.snd.fst.fst v.snd.fst.snd.snd.fst v.snd.fst.snd.snd.snd.snd.snd.snd.snd.snd.snd.snd.snd.fst v.snd.fst.snd.snd.fst.snd.snd.fst)) (oth (1 : Int)), wS0 (v.snd.fst.fst, v.snd.fst.snd.fst, (v.snd.fst.snd.snd.fst.fst, v.snd.fst.snd.snd.fst.snd.fst, List.map (agPe v.snd.fst.fst v.snd.fst.snd.snd.snd.snd.snd.snd.snd.snd.snd.snd.snd.fst) v.snd.fst.snd.snd.fst.snd.snd.fst, ()), v.snd.fst.snd.snd.snd), wS1 (v.snd.fst.fst, v.snd.fst.snd.fst, (v.snd.fst.snd.snd.fst.fst, v.snd.fst.snd.snd.fst.snd.fst, List.map (agPe v.snd.fst.fst v.snd.fst.snd.snd.snd.snd.snd.snd.snd.snd.snd.snd.snd.fst) v.snd.fst.snd.snd.fst.snd.snd.fst, ()), v.snd.fst.snd.snd.snd), wT0 (v.snd.fst.fst, v.snd.fst.snd.fst, (v.snd.fst.snd.snd.fst.fst, v.snd.fst.snd.snd.fst.snd.fst, List.map (agPe v.snd.fst.fst v.snd.fst.snd.snd.snd.snd.snd.snd.snd.snd.snd.snd.snd.fst) v.snd.fst.snd.snd.fst.snd.snd.fst, ()), v.snd.fst.snd.snd.snd), wT1 (v.snd.fst.fst, v.snd.fst.snd.fst, (v.snd.fst.snd.snd.fst.fst, v.snd.fst.snd.snd.fst.snd.fst, List.map (agPe v.snd.fst.fst v.snd.fst.snd.snd.snd.snd.snd.snd.snd.snd.snd.snd.snd.fst) v.snd.fst.snd.snd.fst.snd.snd.fst, ()), v.snd.fst.snd.snd.snd), wNow (v.snd.fst.fst, v.snd.fst.snd.fst, (v.snd.fst.snd.snd.fst.fst, v.snd.fst.snd.snd.fst.snd.fst, List.map (agPe v.snd.fst.fst v.snd.fst.snd.snd.snd.snd.snd.snd.snd.snd.snd.snd.snd.fst) v.snd.fst.snd.snd.fst.snd.snd.fst, ()), v.snd.fst.snd.snd.snd), wBr (v.snd.fst.fst, v.snd.fst.snd.fst, (v.snd.fst.snd.snd.fst.fst, v.snd.fst.snd.snd.fst.snd.fst, List.map (agPe v.snd.fst.fst v.snd.fst.snd.snd.snd.snd.snd.snd.snd.snd.snd.snd.snd.fst) v.snd.fst.snd.snd.fst.snd.snd.fst, ()), v.snd.fst.snd.snd.snd) || List.any (agPs v.snd.fst.fst v.snd.fst.snd.snd.fst v.snd.fst.snd.snd.snd.snd.snd.snd.snd.snd.snd.snd.snd.fst v.snd.fst.snd.snd.fst.snd.snd.fst) fun x => x.fst != bif (1 : Int) == (0 : Int) then wB (v.snd.fst.fst, v.snd.fst.snd.fst, (v.snd.fst.snd.snd.fst.fst, v.snd.fst.snd.snd.fst.snd.fst, List.map (agPe v.snd.fst.fst v.snd.fst.snd.snd.snd.snd.snd.snd.snd.snd.snd.snd.snd.fst) v.snd.fst.snd.snd.fst.snd.snd.fst, ()), v.snd.fst.snd.snd.snd) else wA (v.snd.fst.fst, v.snd.fst.snd.fst, (v.snd.fst.snd.snd.fst.fst, v.snd.fst.snd.snd.fst.snd.fst, List.map (agPe v.snd.fst.fst v.snd.fst.snd.snd.snd.snd.snd.snd.snd.snd.snd.snd.snd.fst) v.snd.fst.snd.snd.fst.snd.snd.fst, ()), v.snd.fst.snd.snd.snd), ()) = ageI x.fst (IntKind.wrap IntKind.i64 (v.fst + (1 : Int)))) ∧ Int.toNat ((2 : Int) - IntKind.wrap IntKind.i64 (v.fst + (1 : Int))) < Int.toNat ((2 : Int) - v.fst)) ∧ True ∧ True) ∧ True ∧ True else True else ((), v.snd) = ((), stepP x.fst x.snd.fst, ())) := by kernel_rfl
theorem en_pstep (us : Array Value) (u : World) : (callFunc 28 us).run Tryd.prog u = .ok (.enter 28 us) u := by kernel_rfl
theorem sc_pstep : SC Tryd.prog 28 S_pstep := by
  refine SC.of Tryd.func28 (c := bodyOf Tryd.f28) (by kernel_rfl) (by kernel_rfl) (fun x => (by decide : (2:Nat) ≤ Tryd.f28.ntmps)) (DOk.cons sc_psend en_psend (DOk.cons sc_ptake en_ptake (DOk.cons sc_pagn en_pagn (DOk.cons sc_pput en_pput DOk.nil)))) (Eq.mpr vc_pstep ?_)
  rintro ⟨w, s, ⟨⟩⟩ ⟨⟨h0, h0b⟩, a1, a2, a3, a4, a5, a6, a7, a8, a9, a10, a11, a12, a13, a14, a15⟩ - - - - - - - - - - -
  dsimp only at h0 h0b a1 a2 a3 a4 a5 a6 a7 a8 a9 a10 a11 a12 a13 a14 a15 ⊢
  have hb := hbig
  have b8 : (wPool w).length ≤ 1000000000 := a8
  have b12 : (wS0 w).length ≤ 1000000000 := a12
  have b13 : (wS1 w).length ≤ 1000000000 := a13
  have b14 : (wT0 w).length ≤ 1000000000 := a14
  have b15 : (wT1 w).length ≤ 1000000000 := a15
  refine ⟨by decide, by decide, by decide, by decide, ?_⟩
  have hw2 : 0 ≤ stWho s ∧ stWho s < 2 := stWho_2 h0 h0b
  by_cases m0 : Int.tmod s 4 = 0
  · refine (congrArg (fun b : Bool => bif b then _ else _) (beq_iff_eq.2 m0)).mpr ?_
    show _ ∧ _
    refine ⟨hw2.1, hw2.2, ?_⟩
    have hwho : stWho s = 0 ∨ stWho s = 1 := by omega
    have hq : Int.tmod (IntKind.i64.wrap (Int.tdiv s 4)) 2 = stWho s := rfl
    rw [hq]
    rcases hwho with hwho | hwho
    · rw [hwho]
      refine ⟨?_, trivial⟩
      show _ ∧ _
      refine ⟨by decide, by decide, trivial, ?_, trivial⟩
      refine ⟨by decide, by decide, trivial, ?_, trivial⟩
      refine ⟨by decide, by decide, ?_, trivial, trivial⟩
      have hs : stepP w s = say0 w (stK s) := by rw [stepP, beq_iff_eq.2 m0, cond_true, hwho]; rfl
      refine ⟨⟨a1, a2, a4, by show 3 ≤ _; rw [hbig]; decide⟩, ?_⟩
      have hp1 := psF_len1 (wC w) (w0 w) (wB w) (bod 0 (wS0 w).length (stK s)) (wNow w)
      by_cases e : (psF (wC w) (w0 w) (wB w) (bod 0 (wS0 w).length (stK s)) (wNow w)).2.2.1 = 0
      rotate_left 1
      · refine (congrArg (fun b : Bool => bif b then _ else _) (bneT e)).mpr ?_
        rw [hs, say0, bneT e, cond_true]
        rfl
      refine (congrArg (fun b : Bool => bif b then _ else _) (bneF e)).mpr ?_
      show _ ∧ _
      refine ⟨by decide, by decide, trivial, ?_, trivial⟩
      refine ⟨by decide, by decide, trivial, ?_, trivial⟩
      refine ⟨by show ((wS0 w).length + 1) * 24 ≤ _; omega, ?_⟩
      refine ⟨by decide, by decide, trivial, ?_, trivial⟩
      refine ⟨⟨by decide, by decide, ⟨by show (wPool w).length ≤ _; omega, by show (wTo w).length ≤ _; omega⟩, Nat.le_trans hp1 (by decide)⟩, ?_⟩
      rw [hs, say0, bneF e, cond_false]
      rfl
    · rw [hwho]
      refine ⟨trivial, ?_⟩
      show _ ∧ _
      refine ⟨by decide, by decide, ?_, trivial, trivial⟩
      refine ⟨by decide, by decide, ?_, trivial, trivial⟩
      refine ⟨by decide, by decide, trivial, ?_, trivial⟩
      have hs : stepP w s = say1 w (stK s) := by rw [stepP, beq_iff_eq.2 m0, cond_true, hwho]; rfl
      refine ⟨⟨a1, a3, a5, by show 3 ≤ _; rw [hbig]; decide⟩, ?_⟩
      have hp1 := psF_len1 (wC w) (w1 w) (wA w) (bod 1 (wS1 w).length (stK s)) (wNow w)
      by_cases e : (psF (wC w) (w1 w) (wA w) (bod 1 (wS1 w).length (stK s)) (wNow w)).2.2.1 = 0
      rotate_left 1
      · refine (congrArg (fun b : Bool => bif b then _ else _) (bneT e)).mpr ?_
        rw [hs, say1, bneT e, cond_true]
        rfl
      refine (congrArg (fun b : Bool => bif b then _ else _) (bneF e)).mpr ?_
      show _ ∧ _
      refine ⟨by decide, by decide, ?_, trivial, trivial⟩
      refine ⟨by decide, by decide, ?_, trivial, trivial⟩
      refine ⟨by show ((wS1 w).length + 1) * 24 ≤ _; omega, ?_⟩
      refine ⟨by decide, by decide, ?_, trivial, trivial⟩
      refine ⟨⟨by decide, by decide, ⟨by show (wPool w).length ≤ _; omega, by show (wTo w).length ≤ _; omega⟩, Nat.le_trans hp1 (by decide)⟩, ?_⟩
      rw [hs, say1, bneF e, cond_false]
      rfl
  refine (congrArg (fun b : Bool => bif b then _ else _) (beq_eq_false_iff_ne.2 m0)).mpr ?_
  by_cases m1 : Int.tmod s 4 = 1
  · refine (congrArg (fun b : Bool => bif b then _ else _) (beq_iff_eq.2 m1)).mpr ?_
    have hst : stepP w s = takP w (stK s) := by rw [stepP, beq_eq_false_iff_ne.2 m0, cond_false, beq_iff_eq.2 m1, Bool.true_or, cond_true]
    by_cases hne : ((wPool w).length : Int) = 0
    · refine (congrArg (fun b : Bool => bif b then _ else _) (beq_iff_eq.2 hne)).mpr ?_
      rw [hst, takP, beq_iff_eq.2 hne, cond_true]
      rfl
    refine (congrArg (fun b : Bool => bif b then _ else _) (beq_eq_false_iff_ne.2 hne)).mpr ?_
    show _ ∧ _
    have hk0 : 0 ≤ stK s := stK_0 h0 h0b
    have ha0 : 0 ≤ Int.tmod (stK s) ((wPool w).length : Nat) := Int.tmod_nonneg _ hk0
    have ha1 : Int.tmod (stK s) ((wPool w).length : Nat) < ((wPool w).length : Nat) := Int.tmod_lt_of_pos _ (by omega)
    refine ⟨hne, ha0, by show _ < (((wTo w).length : Nat) : Int); rw [a9]; exact ha1, by show _ < (wTo w).length; rw [a9]; show (Int.tmod (stK s) ((wPool w).length : Nat)).toNat < _; omega, fun x1 hx1 => ?_⟩
    have h12 := a11 x1 (List.mem_of_getElem? hx1)
    have gTo : (wTo w).getD (Int.tmod (stK s) ((wPool w).length : Nat)).toNat 0 = x1 := by rw [List.getD_eq_getElem?_getD]; exact congrArg (fun o : Option Int => o.getD 0) hx1
    have gPo : ∀ {y : List Int}, (wPool w)[(Int.tmod (stK s) ((wPool w).length : Nat)).toNat]? = some y → (wPool w).getD (Int.tmod (stK s) ((wPool w).length : Nat)).toNat [] = y := fun {y} hy => by rw [List.getD_eq_getElem?_getD, hy]; rfl
    refine ⟨h12.1, h12.2, ?_⟩
    obtain rfl | rfl : x1 = 0 ∨ x1 = 1 := by omega
    · refine ⟨?_, trivial⟩
      show _ ∧ _
      refine ⟨by decide, by decide, trivial, ?_, trivial⟩
      refine ⟨by decide, by decide, ?_, trivial, trivial⟩
      refine ⟨ha0, ha1, (by show (Int.tmod (stK s) ((wPool w).length : Nat)).toNat < (wPool w).length; omega), fun y hy => ?_⟩
      have hs : takP w (stK s) = tak0 w y := by rw [takP, beq_eq_false_iff_ne.2 hne, cond_false, gTo, gPo hy]; rfl
      have hy2 := a10 y (List.mem_of_getElem? hy)
      obtain ⟨k1, k2⟩ := ptF_len (c := wC w) a2 (wB w) y (wNow w)
      refine ⟨⟨a1, a2, a4, hy2.1, hy2.2⟩, ?_⟩
      by_cases e : (ptF (wC w) (w0 w) (wB w) y (wNow w)).2.2.2.1 = 0
      rotate_left 1
      · refine (congrArg (fun b : Bool => bif b then _ else _) (bneT e)).mpr ?_
        rw [hst, hs, tak0, bneT e, cond_true]
        rfl
      refine (congrArg (fun b : Bool => bif b then _ else _) (bneF e)).mpr ?_
      show _ ∧ _
      refine ⟨by decide, by decide, trivial, ?_, trivial⟩
      refine ⟨by decide, by decide, trivial, ?_, trivial⟩
      refine ⟨by show ((wT0 w).length + (ptF (wC w) (w0 w) (wB w) y (wNow w)).2.1.length) * 24 ≤ _; omega, ?_⟩
      refine ⟨by decide, by decide, trivial, ?_, trivial⟩
      refine ⟨⟨by decide, by decide, ⟨by show (wPool w).length ≤ _; omega, by show (wTo w).length ≤ _; omega⟩, Nat.le_trans k2 (by decide)⟩, ?_⟩
      rw [hst, hs, tak0, bneF e, cond_false]
      rfl
    · refine ⟨trivial, ?_⟩
      show _ ∧ _
      refine ⟨by decide, by decide, ?_, trivial, trivial⟩
      refine ⟨by decide, by decide, trivial, ?_, trivial⟩
      refine ⟨ha0, ha1, (by show (Int.tmod (stK s) ((wPool w).length : Nat)).toNat < (wPool w).length; omega), fun y hy => ?_⟩
      have hs : takP w (stK s) = tak1 w y := by rw [takP, beq_eq_false_iff_ne.2 hne, cond_false, gTo, gPo hy]; rfl
      have hy2 := a10 y (List.mem_of_getElem? hy)
      obtain ⟨k1, k2⟩ := ptF_len (c := wC w) a3 (wA w) y (wNow w)
      refine ⟨⟨a1, a3, a5, hy2.1, hy2.2⟩, ?_⟩
      by_cases e : (ptF (wC w) (w1 w) (wA w) y (wNow w)).2.2.2.1 = 0
      rotate_left 1
      · refine (congrArg (fun b : Bool => bif b then _ else _) (bneT e)).mpr ?_
        rw [hst, hs, tak1, bneT e, cond_true]
        rfl
      refine (congrArg (fun b : Bool => bif b then _ else _) (bneF e)).mpr ?_
      show _ ∧ _
      refine ⟨by decide, by decide, ?_, trivial, trivial⟩
      refine ⟨by decide, by decide, ?_, trivial, trivial⟩
      refine ⟨by show ((wT1 w).length + (ptF (wC w) (w1 w) (wA w) y (wNow w)).2.1.length) * 24 ≤ _; omega, ?_⟩
      refine ⟨by decide, by decide, ?_, trivial, trivial⟩
      refine ⟨⟨by decide, by decide, ⟨by show (wPool w).length ≤ _; omega, by show (wTo w).length ≤ _; omega⟩, Nat.le_trans k2 (by decide)⟩, ?_⟩
      rw [hst, hs, tak1, bneF e, cond_false]
      rfl
  refine (congrArg (fun b : Bool => bif b then _ else _) (beq_eq_false_iff_ne.2 m1)).mpr ?_
  by_cases m2 : Int.tmod s 4 = 2
  · refine (congrArg (fun b : Bool => bif b then _ else _) (beq_iff_eq.2 m2)).mpr ?_
    have hst : stepP w s = takP w (stK s) := by rw [stepP, beq_eq_false_iff_ne.2 m0, cond_false, beq_eq_false_iff_ne.2 m1, beq_iff_eq.2 m2, Bool.false_or, cond_true]
    by_cases hne : ((wPool w).length : Int) = 0
    · refine (congrArg (fun b : Bool => bif b then _ else _) (beq_iff_eq.2 hne)).mpr ?_
      rw [hst, takP, beq_iff_eq.2 hne, cond_true]
      rfl
    refine (congrArg (fun b : Bool => bif b then _ else _) (beq_eq_false_iff_ne.2 hne)).mpr ?_
    show _ ∧ _
    have hk0 : 0 ≤ stK s := stK_0 h0 h0b
    have ha0 : 0 ≤ Int.tmod (stK s) ((wPool w).length : Nat) := Int.tmod_nonneg _ hk0
    have ha1 : Int.tmod (stK s) ((wPool w).length : Nat) < ((wPool w).length : Nat) := Int.tmod_lt_of_pos _ (by omega)
    refine ⟨hne, ha0, by show _ < (((wTo w).length : Nat) : Int); rw [a9]; exact ha1, by show _ < (wTo w).length; rw [a9]; show (Int.tmod (stK s) ((wPool w).length : Nat)).toNat < _; omega, fun x1 hx1 => ?_⟩
    have h12 := a11 x1 (List.mem_of_getElem? hx1)
    have gTo : (wTo w).getD (Int.tmod (stK s) ((wPool w).length : Nat)).toNat 0 = x1 := by rw [List.getD_eq_getElem?_getD]; exact congrArg (fun o : Option Int => o.getD 0) hx1
    have gPo : ∀ {y : List Int}, (wPool w)[(Int.tmod (stK s) ((wPool w).length : Nat)).toNat]? = some y → (wPool w).getD (Int.tmod (stK s) ((wPool w).length : Nat)).toNat [] = y := fun {y} hy => by rw [List.getD_eq_getElem?_getD, hy]; rfl
    refine ⟨h12.1, h12.2, ?_⟩
    obtain rfl | rfl : x1 = 0 ∨ x1 = 1 := by omega
    · refine ⟨?_, trivial⟩
      show _ ∧ _
      refine ⟨by decide, by decide, trivial, ?_, trivial⟩
      refine ⟨by decide, by decide, ?_, trivial, trivial⟩
      refine ⟨ha0, ha1, (by show (Int.tmod (stK s) ((wPool w).length : Nat)).toNat < (wPool w).length; omega), fun y hy => ?_⟩
      have hs : takP w (stK s) = tak0 w y := by rw [takP, beq_eq_false_iff_ne.2 hne, cond_false, gTo, gPo hy]; rfl
      have hy2 := a10 y (List.mem_of_getElem? hy)
      obtain ⟨k1, k2⟩ := ptF_len (c := wC w) a2 (wB w) y (wNow w)
      refine ⟨⟨a1, a2, a4, hy2.1, hy2.2⟩, ?_⟩
      by_cases e : (ptF (wC w) (w0 w) (wB w) y (wNow w)).2.2.2.1 = 0
      rotate_left 1
      · refine (congrArg (fun b : Bool => bif b then _ else _) (bneT e)).mpr ?_
        rw [hst, hs, tak0, bneT e, cond_true]
        rfl
      refine (congrArg (fun b : Bool => bif b then _ else _) (bneF e)).mpr ?_
      show _ ∧ _
      refine ⟨by decide, by decide, trivial, ?_, trivial⟩
      refine ⟨by decide, by decide, trivial, ?_, trivial⟩
      refine ⟨by show ((wT0 w).length + (ptF (wC w) (w0 w) (wB w) y (wNow w)).2.1.length) * 24 ≤ _; omega, ?_⟩
      refine ⟨by decide, by decide, trivial, ?_, trivial⟩
      refine ⟨⟨by decide, by decide, ⟨by show (wPool w).length ≤ _; omega, by show (wTo w).length ≤ _; omega⟩, Nat.le_trans k2 (by decide)⟩, ?_⟩
      rw [hst, hs, tak0, bneF e, cond_false]
      rfl
    · refine ⟨trivial, ?_⟩
      show _ ∧ _
      refine ⟨by decide, by decide, ?_, trivial, trivial⟩
      refine ⟨by decide, by decide, trivial, ?_, trivial⟩
      refine ⟨ha0, ha1, (by show (Int.tmod (stK s) ((wPool w).length : Nat)).toNat < (wPool w).length; omega), fun y hy => ?_⟩
      have hs : takP w (stK s) = tak1 w y := by rw [takP, beq_eq_false_iff_ne.2 hne, cond_false, gTo, gPo hy]; rfl
      have hy2 := a10 y (List.mem_of_getElem? hy)
      obtain ⟨k1, k2⟩ := ptF_len (c := wC w) a3 (wA w) y (wNow w)
      refine ⟨⟨a1, a3, a5, hy2.1, hy2.2⟩, ?_⟩
      by_cases e : (ptF (wC w) (w1 w) (wA w) y (wNow w)).2.2.2.1 = 0
      rotate_left 1
      · refine (congrArg (fun b : Bool => bif b then _ else _) (bneT e)).mpr ?_
        rw [hst, hs, tak1, bneT e, cond_true]
        rfl
      refine (congrArg (fun b : Bool => bif b then _ else _) (bneF e)).mpr ?_
      show _ ∧ _
      refine ⟨by decide, by decide, ?_, trivial, trivial⟩
      refine ⟨by decide, by decide, ?_, trivial, trivial⟩
      refine ⟨by show ((wT1 w).length + (ptF (wC w) (w1 w) (wA w) y (wNow w)).2.1.length) * 24 ≤ _; omega, ?_⟩
      refine ⟨by decide, by decide, ?_, trivial, trivial⟩
      refine ⟨⟨by decide, by decide, ⟨by show (wPool w).length ≤ _; omega, by show (wTo w).length ≤ _; omega⟩, Nat.le_trans k2 (by decide)⟩, ?_⟩
      rw [hst, hs, tak1, bneF e, cond_false]
      rfl
  refine (congrArg (fun b : Bool => bif b then _ else _) (beq_eq_false_iff_ne.2 m2)).mpr ?_
  have hst : stepP w s = ageI w 2 := by rw [stepP, beq_eq_false_iff_ne.2 m0, cond_false, beq_eq_false_iff_ne.2 m1, beq_eq_false_iff_ne.2 m2, Bool.false_or, cond_false]
  refine ⟨⟨Int.le_refl 0, by decide, rfl⟩, ?_⟩
  have g0 : (agPs (wC w) (w0 w) (i64 (wNow w + 1)) (w0 w).2.2.1).length ≤ big := Nat.le_trans (agPs_len _ _ _ _) a6
  have g1 : (agPs (wC w) (w1 w) (i64 (wNow w + 1)) (w1 w).2.2.1).length ≤ big := Nat.le_trans (agPs_len _ _ _ _) a7
  rintro ⟨i, W, ⟨⟩⟩ ⟨q0, q1, hW⟩
  dsimp only at q0 q1 hW
  subst hW
  by_cases hi : i < 2
  rotate_left 1
  · obtain rfl : i = 2 := by omega
    rw [hst]
    rfl
  obtain rfl | rfl : i = 0 ∨ i = 1 := by omega
  · show _ ∧ _
    refine ⟨Int.le_refl 0, (by show (0 : Int) < 2; decide), ?_, trivial⟩
    show _ ∧ _
    refine ⟨by decide, by decide, trivial, ?_, trivial⟩
    refine ⟨⟨a1, a2, a4, a6⟩, ?_⟩
    refine ⟨by decide, by decide, trivial, ?_, trivial⟩
    refine ⟨⟨by decide, by decide, ⟨by show (wPool w).length ≤ _; omega, by show (wTo w).length ≤ _; omega⟩, Nat.le_trans g0 (by decide)⟩, ⟨(by show (0 : Int) ≤ IntKind.i64.wrap (0 + 1); decide), (by show IntKind.i64.wrap (0 + 1) ≤ 2; decide), rfl⟩, (by show (2 - IntKind.i64.wrap (0 + 1)).toNat < (2 - 0 : Int).toNat; decide)⟩
  · show _ ∧ _
    refine ⟨(by show (0 : Int) ≤ 1; decide), (by show (1 : Int) < 2; decide), trivial, ?_⟩
    show _ ∧ _
    refine ⟨by decide, by decide, ?_, trivial, trivial⟩
    refine ⟨⟨a1, a3, a5, a7⟩, ?_⟩
    refine ⟨by decide, by decide, ?_, trivial, trivial⟩
    refine ⟨⟨by decide, by decide, ⟨?_, ?_⟩, Nat.le_trans g1 (by decide)⟩, ⟨(by show (0 : Int) ≤ IntKind.i64.wrap (1 + 1); decide), (by show IntKind.i64.wrap (1 + 1) ≤ 2; decide), rfl⟩, (by show (2 - IntKind.i64.wrap (1 + 1)).toNat < (2 - 1 : Int).toNat; decide)⟩
    · show (wPool w ++ List.map _ _).length ≤ _
      rw [List.length_append, List.length_map]
      show (wPool w).length + (pagF (wC w) (w0 w) (i64 (wNow w + 1))).2.1.length ≤ _
      have : (pagF (wC w) (w0 w) (i64 (wNow w + 1))).2.1.length ≤ big := g0
      omega
    · show (wTo w ++ List.replicate _ _).length ≤ _
      rw [List.length_append, List.length_replicate]
      show (wTo w).length + (pagF (wC w) (w0 w) (i64 (wNow w + 1))).2.1.length ≤ _
      have : (pagF (wC w) (w0 w) (i64 (wNow w + 1))).2.1.length ≤ big := g0
      omega
end Go.Proofs.YtjkbkhjalimebaaDoor

namespace Go.Proofs.YtjkbkhjalimebaaDoor
open Go.RowKit DoorU
set_option linter.unusedVariables false
set_option linter.unusedSimpArgs false
set_option maxRecDepth 100000
set_option maxHeartbeats 1000000

namespace DoorU
def pwN (c : Cfg) (n : Int) : Int := if isNodeF c n then n else 0
def pwE (c : Cfg) (n : Int) : Int := if isNodeF c n then 0 else 1
def pwF (c : Cfg) (n : Int) : Pos × Int × Unit := ((pwN c n, (0, 0, [], ()), [], ()), pwE c n, ())
theorem pwF_eq (c : Cfg) (n : Int) : newF c n = pwF c n := by
  unfold newF pwF pwN pwE
  cases isNodeF c n <;> rfl
def gpF (c : Cfg) (n : Int) : Pos := goF (pwN c n, (0, 0, [], ()), [], ()) (firstF c)
def iniW (c : Cfg) (a b : Int) (i : Int) : Pai := (c, bif decide (0 < i) then gpF c a else zPo, bif decide (1 < i) then gpF c b else zPo, a, b, [], [], [], [], [], [], 0, false, ())
/-- All that is told of the two posts and of what is on the way, after so many steps. -/
def PIw (c : Cfg) (a b : Int) (i : Nat) (w : Pai) : Prop :=
  wC w = c ∧ wA w = a ∧ wB w = b ∧ wBr w = false ∧ (wTo w).length = (wPool w).length ∧ (wS0 w).length + (wS1 w).length ≤ i ∧
  (∀ y ∈ wS0 w, byt y ∧ y.length = 3) ∧ (∀ y ∈ wS1 w, byt y ∧ y.length = 3) ∧
  PoOk (winC c) (w0 w) a b (firstF c) i (wS0 w) (wS1 w) (wT0 w) ∧ PoOk (winC c) (w1 w) b a (firstF c) i (wS1 w) (wS0 w) (wT1 w) ∧
  ∀ (k : Nat) (y : List Int) (t : Int), (wPool w)[k]? = some y → (wTo w)[k]? = some t → (t = 0 ∧ PFr c (firstF c) b a (wS1 w) y) ∨ (t = 1 ∧ PFr c (firstF c) a b (wS0 w) y)
def PIv (c : Cfg) (a b : Int) (i : Nat) (w : Pai) : Prop := PIw c a b i w ∧ (wPool w).length ≤ 98 * i
theorem PoOk.mono {w : Int} {p : Pos} {me ot : Int} {S : Sta} {h : Nat} {B B' T : List (List Int)} (g : PoOk w p me ot S h B B' T) : PoOk w p me ot S (h + 1) B B' T := ⟨g.1, g.2.1, g.2.2.1, g.2.2.2.1, g.2.2.2.2.1, Nat.le_succ_of_le g.2.2.2.2.2⟩
theorem PoOk.up {w : Int} {p : Pos} {me ot : Int} {S : Sta} {h : Nat} {B B' T : List (List Int)} (g : PoOk w p me ot S h B B' T) (b : List Int) : PoOk w p me ot S h B (B' ++ [b]) T := ⟨g.1, g.2.1, g.2.2.1, g.2.2.2.1, g.2.2.2.2.1.up b, g.2.2.2.2.2⟩
theorem any_f {l : List Par} {n : Int} (h : ∀ x ∈ l, x.1 = n) : l.any (fun x => x.1 != n) = false := by
  rw [List.any_eq_false]
  intro x hx
  rw [bneF (h x hx)]
  decide
theorem pool_ok {Q Q' : List Int → Int → Prop} {pl : List (List Int)} {tl : List Int} {l : List Par} {n : Int} (hl : tl.length = pl.length) {F : ∀ (k : Nat) (y : List Int) (t : Int), pl[k]? = some y → tl[k]? = some t → Q y t} (hq : ∀ y t, Q y t → Q' y t) (hn : ∀ x ∈ l, Q' x.2.1 n) :
    ∀ (k : Nat) (y : List Int) (t : Int), (pl ++ l.map (fun x => x.2.1))[k]? = some y → (tl ++ List.replicate l.length n)[k]? = some t → Q' y t := fun k y t h1 h2 => by
  by_cases hk : k < pl.length
  · rw [List.getElem?_append_left hk] at h1
    rw [List.getElem?_append_left (by omega)] at h2
    exact hq y t (F k y t h1 h2)
  · rw [List.getElem?_append_right (by omega)] at h1
    rw [List.getElem?_append_right (by omega)] at h2
    obtain ⟨x, hx, rfl⟩ := List.mem_map.1 (List.mem_of_getElem? h1)
    have := List.eq_of_mem_replicate (List.mem_of_getElem? h2)
    rw [this]
    exact hn x hx
theorem say0_ok {c : Cfg} {a b : Int} {i : Nat} {w : Pai} (hw : PIw c a b i w) (hna : isNodeF c a = true) (hnb : isNodeF c b = true) (hab : a ≠ b) (hs : stChk (firstF c) = 0) (hi : i ≤ 50) (k : Int) :
    PIw c a b (i + 1) (say0 w k) ∧ (wPool (say0 w k)).length ≤ (wPool w).length + 1 := by
  obtain ⟨rfl, rfl, rfl, c4, c5, c7, c8, c9, PA, PB, F⟩ := hw
  have hb3 : byt (bod 0 (wS0 w).length k) ∧ (bod 0 (wS0 w).length k).length = 3 := ⟨fun y hy => by
    unfold bod at hy
    simp only [List.mem_cons, List.not_mem_nil, or_false] at hy
    rcases hy with rfl | rfl | rfl <;> exact w8_byt _ _ (List.mem_singleton.2 rfl), rfl⟩
  have hall : ∀ y ∈ wS0 w ++ [bod 0 (wS0 w).length k], byt y ∧ y.length = 3 := fun y hy => by
    rcases List.mem_append.1 hy with hy | hy
    · exact c8 y hy
    · rw [List.mem_singleton.1 hy]; exact hb3
  obtain ⟨s0, s1, s2, s3⟩ := send_ok PA hnb (fun h => hab h.symm) hs (by omega) (by rw [hb3.2]; decide) (fun y hy => (hall y hy).1) (wNow w)
  have e : say0 w k = putW (wC w, (psF (wC w) (w0 w) (wB w) (bod 0 (wS0 w).length k) (wNow w)).1, w1 w, wA w, wB w, wPool w, wTo w, wS0 w ++ [bod 0 (wS0 w).length k], wS1 w, wT0 w, wT1 w, wNow w, wBr w, ()) 0 (psF (wC w) (w0 w) (wB w) (bod 0 (wS0 w).length k) (wNow w)).2.1 := by
    rw [say0, bneF s0, cond_false]
  rw [e]
  refine ⟨⟨rfl, rfl, rfl, ?_, ?_, ?_, hall, c9, ?_, ?_, pool_ok (F := F) c5 ?_ ?_⟩, ?_⟩
  · show (wBr w || List.any _ _) = false
    rw [c4]
    exact any_f fun x hx => (s2 x hx).1
  · show (wTo w ++ List.replicate _ _).length = (wPool w ++ List.map _ _).length
    rw [List.length_append, List.length_append, List.length_replicate, List.length_map, c5]
  · show (wS0 w ++ [_]).length + (wS1 w).length ≤ i + 1
    rw [List.length_append, List.length_singleton]
    omega
  · exact s1.mono
  · exact (PB.up _).mono
  · intro y t h
    rcases h with ⟨h1, h2⟩ | ⟨h1, h2⟩
    · exact .inl ⟨h1, h2⟩
    · exact .inr ⟨h1, h2.up _⟩
  · exact fun x hx => .inr ⟨rfl, (s2 x hx).2⟩
  · show (wPool w ++ List.map _ _).length ≤ _
    rw [List.length_append, List.length_map]
    omega
theorem say1_ok {c : Cfg} {a b : Int} {i : Nat} {w : Pai} (hw : PIw c a b i w) (hna : isNodeF c a = true) (hnb : isNodeF c b = true) (hab : a ≠ b) (hs : stChk (firstF c) = 0) (hi : i ≤ 50) (k : Int) :
    PIw c a b (i + 1) (say1 w k) ∧ (wPool (say1 w k)).length ≤ (wPool w).length + 1 := by
  obtain ⟨rfl, rfl, rfl, c4, c5, c7, c8, c9, PA, PB, F⟩ := hw
  have hb3 : byt (bod 1 (wS1 w).length k) ∧ (bod 1 (wS1 w).length k).length = 3 := ⟨fun y hy => by
    unfold bod at hy
    simp only [List.mem_cons, List.not_mem_nil, or_false] at hy
    rcases hy with rfl | rfl | rfl <;> exact w8_byt _ _ (List.mem_singleton.2 rfl), rfl⟩
  have hall : ∀ y ∈ wS1 w ++ [bod 1 (wS1 w).length k], byt y ∧ y.length = 3 := fun y hy => by
    rcases List.mem_append.1 hy with hy | hy
    · exact c9 y hy
    · rw [List.mem_singleton.1 hy]; exact hb3
  obtain ⟨s0, s1, s2, s3⟩ := send_ok PB hna hab hs (by omega) (by rw [hb3.2]; decide) (fun y hy => (hall y hy).1) (wNow w)
  have e : say1 w k = putW (wC w, w0 w, (psF (wC w) (w1 w) (wA w) (bod 1 (wS1 w).length k) (wNow w)).1, wA w, wB w, wPool w, wTo w, wS0 w, wS1 w ++ [bod 1 (wS1 w).length k], wT0 w, wT1 w, wNow w, wBr w, ()) 1 (psF (wC w) (w1 w) (wA w) (bod 1 (wS1 w).length k) (wNow w)).2.1 := by
    rw [say1, bneF s0, cond_false]
  rw [e]
  refine ⟨⟨rfl, rfl, rfl, ?_, ?_, ?_, c8, hall, ?_, ?_, pool_ok (F := F) c5 ?_ ?_⟩, ?_⟩
  · show (wBr w || List.any _ _) = false
    rw [c4]
    exact any_f fun x hx => (s2 x hx).1
  · show (wTo w ++ List.replicate _ _).length = (wPool w ++ List.map _ _).length
    rw [List.length_append, List.length_append, List.length_replicate, List.length_map, c5]
  · show (wS0 w).length + (wS1 w ++ [_]).length ≤ i + 1
    rw [List.length_append, List.length_singleton]
    omega
  · exact (PA.up _).mono
  · exact s1.mono
  · intro y t h
    rcases h with ⟨h1, h2⟩ | ⟨h1, h2⟩
    · exact .inl ⟨h1, h2.up _⟩
    · exact .inr ⟨h1, h2⟩
  · exact fun x hx => .inl ⟨rfl, (s2 x hx).2⟩
  · show (wPool w ++ List.map _ _).length ≤ _
    rw [List.length_append, List.length_map]
    omega
theorem tak0_ok {c : Cfg} {a b : Int} {i : Nat} {w : Pai} (hw : PIw c a b i w) (hna : isNodeF c a = true) (hnb : isNodeF c b = true) (hab : a ≠ b) (hS : okSt (firstF c)) (hi : i ≤ 50) {y : List Int} (hy : PFr c (firstF c) b a (wS1 w) y) :
    PIw c a b (i + 1) (tak0 w y) ∧ (wPool (tak0 w y)).length ≤ (wPool w).length + 51 := by
  obtain ⟨rfl, rfl, rfl, c4, c5, c7, c8, c9, PA, PB, F⟩ := hw
  obtain ⟨s0, s1, s2, s3⟩ := take_ok PA hnb (fun h => hab h.symm) hS (by omega) (by omega) (fun z hz => (c8 z hz).1) hy (wNow w)
  have e : tak0 w y = putW (wC w, (ptF (wC w) (w0 w) (wB w) y (wNow w)).1, w1 w, wA w, wB w, wPool w, wTo w, wS0 w, wS1 w, wT0 w ++ (ptF (wC w) (w0 w) (wB w) y (wNow w)).2.1, wT1 w, wNow w, wBr w, ()) 0 (ptF (wC w) (w0 w) (wB w) y (wNow w)).2.2.1 := by
    rw [tak0, bneF s0, cond_false]
  rw [e]
  refine ⟨⟨rfl, rfl, rfl, ?_, ?_, Nat.le_succ_of_le c7, c8, c9, s1, PB.mono, pool_ok (F := F) c5 (fun y t h => h) ?_⟩, ?_⟩
  · show (wBr w || List.any _ _) = false
    rw [c4]
    exact any_f fun x hx => (s2 x hx).1
  · show (wTo w ++ List.replicate _ _).length = (wPool w ++ List.map _ _).length
    rw [List.length_append, List.length_append, List.length_replicate, List.length_map, c5]
  · exact fun x hx => .inr ⟨rfl, (s2 x hx).2⟩
  · show (wPool w ++ List.map _ _).length ≤ _
    rw [List.length_append, List.length_map]
    have : (wS0 w).length ≤ 50 := by omega
    omega
theorem tak1_ok {c : Cfg} {a b : Int} {i : Nat} {w : Pai} (hw : PIw c a b i w) (hna : isNodeF c a = true) (hnb : isNodeF c b = true) (hab : a ≠ b) (hS : okSt (firstF c)) (hi : i ≤ 50) {y : List Int} (hy : PFr c (firstF c) a b (wS0 w) y) :
    PIw c a b (i + 1) (tak1 w y) ∧ (wPool (tak1 w y)).length ≤ (wPool w).length + 51 := by
  obtain ⟨rfl, rfl, rfl, c4, c5, c7, c8, c9, PA, PB, F⟩ := hw
  obtain ⟨s0, s1, s2, s3⟩ := take_ok PB hna hab hS (by omega) (by omega) (fun z hz => (c9 z hz).1) hy (wNow w)
  have e : tak1 w y = putW (wC w, w0 w, (ptF (wC w) (w1 w) (wA w) y (wNow w)).1, wA w, wB w, wPool w, wTo w, wS0 w, wS1 w, wT0 w, wT1 w ++ (ptF (wC w) (w1 w) (wA w) y (wNow w)).2.1, wNow w, wBr w, ()) 1 (ptF (wC w) (w1 w) (wA w) y (wNow w)).2.2.1 := by
    rw [tak1, bneF s0, cond_false]
  rw [e]
  refine ⟨⟨rfl, rfl, rfl, ?_, ?_, Nat.le_succ_of_le c7, c8, c9, PA.mono, s1, pool_ok (F := F) c5 (fun y t h => h) ?_⟩, ?_⟩
  · show (wBr w || List.any _ _) = false
    rw [c4]
    exact any_f fun x hx => (s2 x hx).1
  · show (wTo w ++ List.replicate _ _).length = (wPool w ++ List.map _ _).length
    rw [List.length_append, List.length_append, List.length_replicate, List.length_map, c5]
  · exact fun x hx => .inl ⟨rfl, (s2 x hx).2⟩
  · show (wPool w ++ List.map _ _).length ≤ _
    rw [List.length_append, List.length_map]
    have : (wS1 w).length ≤ 50 := by omega
    omega
theorem age0_ok {c : Cfg} {a b : Int} {i : Nat} {w : Pai} (hw : PIw c a b i w) : PIw c a b i (age0 w) ∧ (wPool (age0 w)).length ≤ (wPool w).length + i := by
  obtain ⟨rfl, rfl, rfl, c4, c5, c7, c8, c9, PA, PB, F⟩ := hw
  obtain ⟨s1, s2, s3⟩ := again_ok PA (fun z hz => (c8 z hz).1) (wNow w)
  refine ⟨⟨rfl, rfl, rfl, ?_, ?_, c7, c8, c9, s1, PB, pool_ok (F := F) c5 (fun y t h => h) ?_⟩, ?_⟩
  · show (wBr w || List.any _ _) = false
    rw [c4]
    exact any_f fun x hx => (s2 x hx).1
  · show (wTo w ++ List.replicate _ _).length = (wPool w ++ List.map _ _).length
    rw [List.length_append, List.length_append, List.length_replicate, List.length_map, c5]
  · exact fun x hx => .inr ⟨rfl, (s2 x hx).2⟩
  · show (wPool w ++ List.map _ _).length ≤ _
    rw [List.length_append, List.length_map]
    have : (wS0 w).length ≤ i := by omega
    omega
theorem age1_ok {c : Cfg} {a b : Int} {i : Nat} {w : Pai} (hw : PIw c a b i w) : PIw c a b i (age1 w) ∧ (wPool (age1 w)).length ≤ (wPool w).length + i := by
  obtain ⟨rfl, rfl, rfl, c4, c5, c7, c8, c9, PA, PB, F⟩ := hw
  obtain ⟨s1, s2, s3⟩ := again_ok PB (fun z hz => (c9 z hz).1) (wNow w)
  refine ⟨⟨rfl, rfl, rfl, ?_, ?_, c7, c8, c9, PA, s1, pool_ok (F := F) c5 (fun y t h => h) ?_⟩, ?_⟩
  · show (wBr w || List.any _ _) = false
    rw [c4]
    exact any_f fun x hx => (s2 x hx).1
  · show (wTo w ++ List.replicate _ _).length = (wPool w ++ List.map _ _).length
    rw [List.length_append, List.length_append, List.length_replicate, List.length_map, c5]
  · exact fun x hx => .inl ⟨rfl, (s2 x hx).2⟩
  · show (wPool w ++ List.map _ _).length ≤ _
    rw [List.length_append, List.length_map]
    have : (wS1 w).length ≤ i := by omega
    omega
theorem PIw.up {c : Cfg} {a b : Int} {i : Nat} {w : Pai} (h : PIw c a b i w) : PIw c a b (i + 1) w := by
  obtain ⟨c1, c2, c3, c4, c5, c7, c8, c9, PA, PB, F⟩ := h
  exact ⟨c1, c2, c3, c4, c5, Nat.le_succ_of_le c7, c8, c9, PA.mono, PB.mono, F⟩
theorem tik_ok {c : Cfg} {a b : Int} {i : Nat} {w : Pai} (h : PIw c a b i w) : PIw c a b i (tik w) := h
theorem step_ok {c : Cfg} {a b : Int} {i : Nat} {w : Pai} (h : PIv c a b i w) (hna : isNodeF c a = true) (hnb : isNodeF c b = true) (hab : a ≠ b) (hs : stChk (firstF c) = 0) (hS : okSt (firstF c)) (hi : i < 50) {s : Int} (h0 : 0 ≤ s) (h0b : s < 9223372036854775808) : PIv c a b (i + 1) (stepP w s) := by
  obtain ⟨hw, hp⟩ := h
  have hw2 := stWho_2 h0 h0b
  have fin : ∀ {v : Pai}, PIw c a b (i + 1) v → (wPool v).length ≤ (wPool w).length + 98 → PIv c a b (i + 1) v := fun {v} h1 h2 => ⟨h1, by omega⟩
  unfold stepP
  cases m0 : (Int.tmod s 4 == 0)
  rotate_left 1
  · rw [cond_true]
    cases m1 : (stWho s == 0)
    · rw [cond_false]
      have := say1_ok hw hna hnb hab hs (by omega) (stK s)
      exact fin this.1 (by omega)
    · rw [cond_true]
      have := say0_ok hw hna hnb hab hs (by omega) (stK s)
      exact fin this.1 (by omega)
  rw [cond_false]
  cases m1 : (Int.tmod s 4 == 1 || Int.tmod s 4 == 2)
  · rw [cond_false]
    have g1 := age0_ok (tik_ok hw)
    have g2 := age1_ok g1.1
    have e : (wPool (tik w)).length = (wPool w).length := rfl
    exact fin (v := age1 (age0 (tik w))) g2.1.up (by omega)
  · rw [cond_true]
    unfold takP
    by_cases hne : ((wPool w).length : Int) = 0
    · rw [beq_iff_eq.2 hne, cond_true]
      exact fin hw.up (by omega)
    rw [beq_eq_false_iff_ne.2 hne, cond_false]
    have hk0 : 0 ≤ stK s := stK_0 h0 h0b
    have ha0 : 0 ≤ Int.tmod (stK s) ((wPool w).length : Nat) := Int.tmod_nonneg _ hk0
    have ha1 : Int.tmod (stK s) ((wPool w).length : Nat) < ((wPool w).length : Nat) := Int.tmod_lt_of_pos _ (by omega)
    generalize Int.tmod (stK s) ((wPool w).length : Nat) = at0 at ha0 ha1 ⊢
    obtain ⟨y, hy⟩ : ∃ y, (wPool w)[at0.toNat]? = some y := ⟨_, List.getElem?_eq_getElem (by omega)⟩
    obtain ⟨t, ht⟩ : ∃ t, (wTo w)[at0.toNat]? = some t := ⟨_, List.getElem?_eq_getElem (by rw [hw.2.2.2.2.1]; omega)⟩
    rw [List.getD_eq_getElem?_getD, ht, List.getD_eq_getElem?_getD, hy]
    dsimp only [Option.getD_some]
    rcases hw.2.2.2.2.2.2.2.2.2.2 at0.toNat y t hy ht with ⟨h1, h2⟩ | ⟨h1, h2⟩
    · rw [beq_iff_eq.2 h1, cond_true]
      have := tak0_ok hw hna hnb hab hS (by omega) h2
      exact fin this.1 (by omega)
    · rw [show (t == 0) = false by rw [h1]; rfl, cond_false]
      have := tak1_ok hw hna hnb hab hS (by omega) h2
      exact fin this.1 (by omega)
theorem out_bd {w : Int} {o : Ouq} {B : List (List Int)} (h : OutOk w o B) (hB : ∀ y ∈ B, byt y ∧ y.length = 3) (hl : B.length ≤ 50) : okOut o ∧ o.2.1.length ≤ 50 := by
  obtain ⟨n, h1, h2, h3, h4, h5, h6⟩ := h
  refine ⟨⟨⟨by rw [hbig]; omega, fun x hx => ?_⟩, ⟨by rw [h3, List.length_drop, hbig]; omega, fun x hx => ?_⟩⟩, by omega⟩
  · obtain ⟨k, k1, k2⟩ := h6 x hx
    rw [(hB _ (List.mem_of_getElem? k2)).2, hbig]
    decide
  · rw [h3] at hx
    rw [(hB _ (List.mem_of_mem_drop hx)).2, hbig]
    decide
theorem in_bd {i : Inq} {B T : List (List Int)} (h : InOk i B T) (hB : ∀ y ∈ B, byt y ∧ y.length = 3) (hl : i.2.1.length ≤ 50) : okIn i := by
  obtain ⟨e, h1, h2, h3, h4⟩ := h
  refine ⟨by rw [hbig]; omega, fun x hx => ?_⟩
  obtain ⟨k, k1, k2⟩ := h4 x hx
  rw [(hB _ (List.mem_of_getElem? k2)).2, hbig]
  decide
theorem po_bd {c : Cfg} {p : Pos} {a b : Int} {i : Nat} {B B' T : List (List Int)} (h : PoOk (winC c) p a b (firstF c) i B B' T) (hi : i ≤ 50) (hB : ∀ y ∈ B, byt y ∧ y.length = 3) (hB' : ∀ y ∈ B', byt y ∧ y.length = 3) (hl : B.length ≤ 50) (hf : (firstF c).2.2.1.length ≤ big) (hS : okSt (firstF c)) :
    okPo p ∧ okSt p.2.1 ∧ itPo p.2.2.1 ≤ big := by
  obtain ⟨h1, h2, h3, h4, h5, h6⟩ := h
  rw [h2]
  have hl1 : ∀ q ∈ p.2.2.1, linkE p b = q ∧ q.1 = b := fun q hq => by
    rcases h3 with h3 | ⟨q', h3, hq'⟩
    · rw [h3] at hq; cases hq
    · rw [h3, List.mem_singleton] at hq
      subst hq
      have e0 : eqAt [q] b = 0 := by unfold eqAt; rw [List.findIdx_cons, beq_iff_eq.2 hq']; rfl
      refine ⟨?_, hq'⟩
      unfold linkE
      rw [h3, lnkL, lnkI, e0, if_neg (h01 _), if_neg (h01 _)]
      rfl
  have hlen : p.2.2.1.length ≤ 1 := by
    rcases h3 with h3 | ⟨q', h3, hq'⟩
    · rw [h3]; exact Nat.zero_le 1
    · rw [h3]; exact Nat.le_refl 1
  obtain ⟨o1, o2⟩ := out_bd h4 hB hl
  refine ⟨⟨by rw [h2]; exact hf, Nat.le_trans hlen (by decide), fun q hq => ?_⟩, hS, ?_⟩
  · obtain ⟨e, _⟩ := hl1 q hq
    rw [← e]
    exact ⟨o1, in_bd h5 hB' (by omega)⟩
  · rcases h3 with h3 | ⟨q', h3, hq'⟩
    · rw [h3]; exact Nat.zero_le _
    · obtain ⟨e, _⟩ := hl1 q' (by rw [h3]; exact List.mem_singleton.2 rfl)
      rw [e] at o2
      rw [h3]
      show q'.2.1.2.1.length + 0 ≤ _
      rw [hbig]
      omega
theorem told_len {w : Int} {p : Pos} {a b : Int} {S : Sta} {i : Nat} {B B' T : List (List Int)} (h : PoOk w p a b S i B B' T) : T.length ≤ B'.length ∧ T = B'.take T.length := by
  obtain ⟨_, _, _, _, ⟨e, h1, h2, h3, _⟩, _⟩ := h
  have : T.length = e := by rw [h3, List.length_take]; omega
  exact ⟨by omega, by rw [this]; exact h3⟩
theorem fr_bd {c : Cfg} {a b : Int} {B : List (List Int)} {y : List Int} (h : PFr c (firstF c) a b B y) : y.length ≤ 100000000 ∧ byt y := by
  obtain ⟨f, f1, f2, f3, f4, f5, f6, f7⟩ := h
  have g := frChk_0 f1
  have s8 := (okS_len (stChk_0 g.2.2.2.2.2.1)).2
  refine ⟨?_, by rw [f2]; exact frPutF_byt _ f6⟩
  rw [f2, frPutF_len _ f1]
  rcases g.2.2.2.2.2.2.2.2 with h | h <;> omega
theorem okPa_of {c : Cfg} {a b : Int} {i : Nat} {w : Pai} (h : PIv c a b i w) (hi : i ≤ 50) (hc : c.1.length ≤ big) (hf : (firstF c).2.2.1.length ≤ big) (hS : okSt (firstF c)) : okPa w := by
  obtain ⟨⟨rfl, rfl, rfl, c4, c5, c7, c8, c9, PA, PB, F⟩, hp⟩ := h
  obtain ⟨a1, a2, a3⟩ := po_bd PA hi c8 c9 (by omega) hf hS
  obtain ⟨b1, b2, b3⟩ := po_bd PB hi c9 c8 (by omega) hf hS
  have t0 := (told_len PA).1
  have t1 := (told_len PB).1
  have hb := hbig
  refine ⟨hc, a1, b1, a2, b2, a3, b3, by omega, c5, fun y hy => ?_, fun t ht => ?_, by omega, by omega, by omega, by omega⟩
  · obtain ⟨k, hk⟩ := List.getElem?_of_mem hy
    have hlt := (List.getElem?_eq_some_iff.1 hk).1
    have ht : (wTo w)[k]? = some ((wTo w)[k]'(by omega)) := List.getElem?_eq_getElem (by omega)
    rcases F k y _ hk ht with ⟨_, g⟩ | ⟨_, g⟩ <;> exact fr_bd g
  · obtain ⟨k, hk⟩ := List.getElem?_of_mem ht
    have hlt := (List.getElem?_eq_some_iff.1 hk).1
    have hy : (wPool w)[k]? = some ((wPool w)[k]'(by omega)) := List.getElem?_eq_getElem (by omega)
    rcases F k _ t hy hk with ⟨g, _⟩ | ⟨g, _⟩ <;> omega
theorem byts_of {B : List (List Int)} (h : ∀ y ∈ B, byt y ∧ y.length = 3) : bytBs B := fun y hy => (h y hy).1
theorem pwE_0 {c : Cfg} {n : Int} (h : pwE c n = 0) : isNodeF c n = true := by
  unfold pwE at h
  split at h
  · assumption
  · cases h
theorem nod_no {c : Cfg} {n : Int} (h : ¬ pwE c n = 0) : (bif decide (n < 0) then ((true, ()) : Bool × Unit) = (true, ()) else True ∧ ((decide (nodesF c ≤ n), ()) : Bool × Unit) = (true, ())) := by
  have hn : ¬ isNodeF c n = true := fun g => h (by unfold pwE; rw [if_pos g])
  by_cases h0 : n < 0
  · rw [decide_eq_true h0, cond_true]
  · rw [decide_eq_false h0, cond_false]
    refine ⟨trivial, ?_⟩
    by_cases h1 : nodesF c ≤ n
    · rw [decide_eq_true h1]
    · exfalso
      apply hn
      unfold isNodeF
      rw [decide_eq_true (by omega : 0 ≤ n), decide_eq_true (by omega : n < nodesF c)]
      rfl
theorem okC_of {c : Cfg} (h : kchkF c = 0) : okC c = true := by
  cases hk : okC c
  · rw [kchkF, hk] at h; cases h
  · rfl
theorem fst_len {c : Cfg} : (firstF c).2.2.1.length ≤ 8 := by
  unfold firstF
  split
  · rename_i h
    simp only [okC, wit, Bool.and_eq_true, decide_eq_true_eq] at h
    show (List.map _ _).length ≤ _
    rw [List.length_map, List.length_range]
    omega
  · exact Nat.zero_le _
theorem fst_st {c : Cfg} (h : okW c.2.2.2.2.2.2.2.2.2.1) : okSt (firstF c) := by
  unfold firstF
  split
  · exact ⟨⟨(by decide : (0 : Int) ≤ 1), (by decide : (1 : Int) < 18446744073709551616)⟩, h⟩
  · exact ⟨⟨by decide, by decide⟩, ⟨by decide, by decide⟩⟩
theorem okS_rng (r : Int) (m : Nat) (h1 : 1 ≤ m) (h8 : m ≤ 8) : okS (1, r, (List.range m).map up1, ()) = true := by
  obtain rfl | rfl | rfl | rfl | rfl | rfl | rfl | rfl : m = 1 ∨ m = 2 ∨ m = 3 ∨ m = 4 ∨ m = 5 ∨ m = 6 ∨ m = 7 ∨ m = 8 := by omega
  all_goals rfl
theorem first_chk {c : Cfg} (hk : kchkF c = 0) : stChk (firstF c) = 0 := by
  have ho := okC_of hk
  have hm : 1 ≤ c.2.1.toNat ∧ c.2.1.toNat ≤ 8 := by
    simp only [okC, wit, Bool.and_eq_true, decide_eq_true_eq] at ho
    omega
  rw [firstF, if_pos ho, stChk, okS_rng _ _ hm.1 hm.2]
  rfl
theorem gpF_eq {c : Cfg} {n : Int} (hk : kchkF c = 0) (hn : pwE c n = 0) : gpF c n = (n, firstF c, [], ()) := by
  have h1 := pwE_0 hn
  have h2 : stCmp (firstF c) (0, 0, [], ()) = 1 := by
    rw [firstF, if_pos (okC_of hk)]
    rfl
  unfold gpF
  rw [goF, if_neg (by show ¬ stCmp (firstF c) (0, 0, [], ()) ≤ 0; rw [h2]; decide), pwN, if_pos h1]
theorem po_ini {c : Cfg} {n m : Int} : PoOk (winC c) (n, firstF c, [], ()) n m (firstF c) 0 [] [] [] := by
  have e : linkE (n, firstF c, [], ()) m = newPe m := by
    unfold linkE
    rfl
  refine ⟨rfl, rfl, .inl rfl, ?_, ?_, ?_⟩
  · rw [e]
    exact ⟨0, rfl, Nat.le_refl _, rfl, Nat.le_refl _, fun h => absurd h (Nat.lt_irrefl _), fun x hx => (List.not_mem_nil hx).elim⟩
  · rw [e]
    exact ⟨0, rfl, Nat.le_refl _, rfl, fun x hx => (List.not_mem_nil hx).elim⟩
  · rw [e]
    exact Nat.le_refl _
theorem PIv_ini {c : Cfg} {a b : Int} (hk : kchkF c = 0) (ha : pwE c a = 0) (hb : pwE c b = 0) : PIv c a b 0 (iniW c a b 2) := by
  have e : iniW c a b 2 = (c, gpF c a, gpF c b, a, b, [], [], [], [], [], [], 0, false, ()) := rfl
  rw [e, gpF_eq hk ha, gpF_eq hk hb]
  exact ⟨⟨rfl, rfl, rfl, rfl, rfl, Nat.le_refl _, fun y hy => (List.not_mem_nil hy).elim, fun y hy => (List.not_mem_nil hy).elim, po_ini, po_ini, fun k y t h => by simp [wPool] at h⟩, Nat.zero_le _⟩
theorem upI (c : Cfg) (n : Nat) (l : List Int) : n < l.length → l[n]? = some (l.getD n 0) := fun h => by
  rw [List.getD_eq_getElem?_getD, List.getElem?_eq_getElem h]
  rfl
end DoorU
def S_pnew : Spec := ⟨.pair aC (.pair nI .unit), .pair (.tup (.pair vPo (.pair nI .unit))) .unit, fun _ => True, fun (x : Cfg × Int × Unit) => ((pwF x.1 x.2.1, ()) : (Pos × Int × Unit) × Unit)⟩
theorem en_pnew (us : Array Value) (u : World) : (callFunc 25 us).run Tryd.prog u = .ok (.enter 25 us) u := by kernel_rfl
theorem sc_pnew : SC Tryd.prog 25 S_pnew := by
  have h := sc_new
  have e : S_new = S_pnew := by
    unfold S_new S_pnew
    simp only [pwF_eq]
  rw [e] at h
  exact h
def S_ppair : Spec := ⟨.pair vC (.pair nI (.pair nI (.pair lI .unit))), .pair .bool .unit, fun (x : Cfg × Int × Int × List Int × Unit) => x.1.1.length ≤ big ∧ okW x.1.2.2.2.2.2.2.2.2.2.1 ∧ ∀ s ∈ x.2.2.2.1, s < 9223372036854775808, fun _ => ((true, ()) : Bool × Unit)⟩
def A_ppair (x : Cfg × Int × Int × List Int × Unit) : Nat → Option LA
  | 0 => some ⟨[42, 9], [(24009, tYs, 22), (25009, tI, 3), (26009, tYs, 22), (27009, tYs, 22), (28009, tYs, 22), (29009, tYs, 22)], .pair nI (.pair pPai .unit), fun (v : Int × Pai × Unit) => 0 ≤ v.1 ∧ v.1 ≤ 2 ∧ v.2.1 = iniW x.1 x.2.1 x.2.2.1 v.1 ∧ (0 < v.1 → pwE x.1 x.2.1 = 0) ∧ (1 < v.1 → pwE x.1 x.2.2.1 = 0), fun (v : Int × Pai × Unit) => (2 - v.1).toNat⟩
  | 1 => some ⟨[74, 9], [], .pair nI (.pair pPai .unit), fun (v : Int × Pai × Unit) => 0 ≤ v.1 ∧ v.1 ≤ (x.2.2.2.1.length : Nat) ∧ PIv x.1 x.2.1 x.2.2.1 v.1.toNat v.2.1, fun (v : Int × Pai × Unit) => ((x.2.2.2.1.length : Nat) - v.1).toNat⟩
  | 2 => some ⟨[95], [], .pair nI .unit, fun (v : Int × Unit) => 0 ≤ v.1 ∧ v.1 ≤ 2, fun (v : Int × Unit) => (2 - v.1).toNat⟩
  | 1000 => some ⟨[10, 16], [], .unit, fun _ => True, fun _ => 0⟩
  | _ => none

theorem vc_ppair : VC Tryd.prog Tryd.f7 (bodyOf Tryd.f7) S_ppair [(10, S_live), (24, S_rchk), (25, S_pnew), (15, S_nodes), (27, S_first), (26, S_go), (28, S_pstep), (29, S_rpts)] A_ppair = (∀ (x : (List Int × Int × Int × Int × Int × Int × Int × Int × Int × Int × Int × Unit) × Int × Int × List Int × Unit), (List.length x.fst.fst ≤ big ∧ okW x.fst.snd.snd.snd.snd.snd.snd.snd.snd.snd.fst ∧ ∀ (s : Int), s ∈ x.snd.snd.snd.fst →
  s < (9223372036854775808 : Int)) →
  List.length x.fst.fst ≤ (9223372036854775807 : Nat) →
  List.length x.snd.snd.snd.fst ≤ (9223372036854775807 : Nat) →
  True ∧ True ∧ bif kchkF x.fst != (0 : Int) then (true, ()) = (true, ()) else bif x.snd.fst == x.snd.snd.fst then (true, ()) = (true, ()) else List.length x.snd.snd.snd.fst ≤ (9223372036854775807 : Nat) →
  bif decide ((50 : Int) < (↑(List.length x.snd.snd.snd.fst) : Int)) then (true, ()) = (true, ()) else ((0 : Int) ≤ (0 : Int) ∧ (0 : Int) ≤ (2 : Int) ∧ (x.fst, ((0 : Int), ((0 : Int), (0 : Int), [], ()), [], ()), ((0 : Int), ((0 : Int), (0 : Int), [], ()), [], ()), x.snd.fst, x.snd.snd.fst, [], [], [], [], [], [], (0 : Int), false, ()) = iniW x.fst x.snd.fst x.snd.snd.fst (0 : Int) ∧ ((0 : Int) < (0 : Int) →
  pwE x.fst x.snd.fst = (0 : Int)) ∧ ((1 : Int) < (0 : Int) →
  pwE x.fst x.snd.snd.fst = (0 : Int))) ∧ ∀ (v : Int × ((List Int × Int × Int × Int × Int × Int × Int × Int × Int × Int × Int × Unit) × (Int × (Int × Int × List Int × Unit) × List (Int × (Int × List (Int × List Int × Int × Unit) × List (List Int) × Unit) × (Int × List (Int × List Int × Int × Unit) × Unit) × Unit) × Unit) × (Int × (Int × Int × List Int × Unit) × List (Int × (Int × List (Int × List Int × Int × Unit) × List (List Int) × Unit) × (Int × List (Int × List Int × Int × Unit) × Unit) × Unit) × Unit) × Int × Int × List (List Int) × List Int × List (List Int) × List (List Int) × List (List Int) × List (List Int) × Int × Bool × Unit) × Unit), (0 : Int) ≤ v.fst ∧ v.fst ≤ (2 : Int) ∧ v.snd.fst = iniW x.fst x.snd.fst x.snd.snd.fst v.fst ∧ ((0 : Int) < v.fst →
  pwE x.fst x.snd.fst = (0 : Int)) ∧ ((1 : Int) < v.fst →
  pwE x.fst x.snd.snd.fst = (0 : Int)) →
  bif decide (v.fst < (2 : Int)) then (0 : Int) ≤ v.fst ∧ v.fst < Int.ofNat (2 : Nat) ∧ (bif decide (v.fst = (1 : Int)) then (0 : Int) ≤ v.fst ∧ v.fst < (2 : Int) ∧ (bif decide (v.fst = (0 : Int)) then True ∧ bif pwE x.fst x.snd.snd.fst != (0 : Int) then bif decide (x.snd.snd.fst < (0 : Int)) then (true, ()) = (true, ()) else True ∧ (decide (nodesF x.fst ≤ x.snd.snd.fst), ()) = (true, ()) else True ∧ (okPo (pwN x.fst x.snd.snd.fst, ((0 : Int), (0 : Int), [], ()), [], ()) ∧ List.length (firstF x.fst).snd.snd.fst ≤ (1000000000000 : Nat)) ∧ (0 : Int) ≤ (0 : Int) ∧ (0 : Int) < Int.ofNat (2 : Nat) ∧ True ∧ (((0 : Int) ≤ IntKind.wrap IntKind.i64 (v.fst + (1 : Int)) ∧ IntKind.wrap IntKind.i64 (v.fst + (1 : Int)) ≤ (2 : Int) ∧ (v.snd.fst.fst, goF (pwN x.fst x.snd.snd.fst, ((0 : Int), (0 : Int), [], ()), [], ()) (firstF x.fst), v.snd.fst.snd.snd) = iniW x.fst x.snd.fst x.snd.snd.fst (IntKind.wrap IntKind.i64 (v.fst + (1 : Int))) ∧ ((0 : Int) < IntKind.wrap IntKind.i64 (v.fst + (1 : Int)) →
  pwE x.fst x.snd.fst = (0 : Int)) ∧ ((1 : Int) < IntKind.wrap IntKind.i64 (v.fst + (1 : Int)) →
  pwE x.fst x.snd.snd.fst = (0 : Int))) ∧ Int.toNat ((2 : Int) - IntKind.wrap IntKind.i64 (v.fst + (1 : Int))) < Int.toNat ((2 : Int) - v.fst)) ∧ True else True) ∧ bif decide (v.fst = (1 : Int)) then True ∧ bif pwE x.fst x.snd.snd.fst != (0 : Int) then bif decide (x.snd.snd.fst < (0 : Int)) then (true, ()) = (true, ()) else True ∧ (decide (nodesF x.fst ≤ x.snd.snd.fst), ()) = (true, ()) else True ∧ (okPo (pwN x.fst x.snd.snd.fst, ((0 : Int), (0 : Int), [], ()), [], ()) ∧ List.length (firstF x.fst).snd.snd.fst ≤ (1000000000000 : Nat)) ∧ (0 : Int) ≤ (1 : Int) ∧ (1 : Int) < Int.ofNat (2 : Nat) ∧ (((0 : Int) ≤ IntKind.wrap IntKind.i64 (v.fst + (1 : Int)) ∧ IntKind.wrap IntKind.i64 (v.fst + (1 : Int)) ≤ (2 : Int) ∧ (v.snd.fst.fst, v.snd.fst.snd.fst, goF (pwN x.fst x.snd.snd.fst, ((0 : Int), (0 : Int), [], ()), [], ()) (firstF x.fst), v.snd.fst.snd.snd.snd) = iniW x.fst x.snd.fst x.snd.snd.fst (IntKind.wrap IntKind.i64 (v.fst + (1 : Int))) ∧ ((0 : Int) < IntKind.wrap IntKind.i64 (v.fst + (1 : Int)) →
  pwE x.fst x.snd.fst = (0 : Int)) ∧ ((1 : Int) < IntKind.wrap IntKind.i64 (v.fst + (1 : Int)) →
  pwE x.fst x.snd.snd.fst = (0 : Int))) ∧ Int.toNat ((2 : Int) - IntKind.wrap IntKind.i64 (v.fst + (1 : Int))) < Int.toNat ((2 : Int) - v.fst)) ∧ True ∧ True else True else True) ∧ (bif decide (v.fst = (0 : Int)) then (0 : Int) ≤ v.fst ∧ v.fst < (2 : Int) ∧ (bif decide (v.fst = (0 : Int)) then True ∧ bif pwE x.fst x.snd.fst != (0 : Int) then bif decide (x.snd.fst < (0 : Int)) then (true, ()) = (true, ()) else True ∧ (decide (nodesF x.fst ≤ x.snd.fst), ()) = (true, ()) else True ∧ (okPo (pwN x.fst x.snd.fst, ((0 : Int), (0 : Int), [], ()), [], ()) ∧ List.length (firstF x.fst).snd.snd.fst ≤ (1000000000000 : Nat)) ∧ (0 : Int) ≤ (0 : Int) ∧ (0 : Int) < Int.ofNat (2 : Nat) ∧ True ∧ (((0 : Int) ≤ IntKind.wrap IntKind.i64 (v.fst + (1 : Int)) ∧ IntKind.wrap IntKind.i64 (v.fst + (1 : Int)) ≤ (2 : Int) ∧ (v.snd.fst.fst, goF (pwN x.fst x.snd.fst, ((0 : Int), (0 : Int), [], ()), [], ()) (firstF x.fst), v.snd.fst.snd.snd) = iniW x.fst x.snd.fst x.snd.snd.fst (IntKind.wrap IntKind.i64 (v.fst + (1 : Int))) ∧ ((0 : Int) < IntKind.wrap IntKind.i64 (v.fst + (1 : Int)) →
  pwE x.fst x.snd.fst = (0 : Int)) ∧ ((1 : Int) < IntKind.wrap IntKind.i64 (v.fst + (1 : Int)) →
  pwE x.fst x.snd.snd.fst = (0 : Int))) ∧ Int.toNat ((2 : Int) - IntKind.wrap IntKind.i64 (v.fst + (1 : Int))) < Int.toNat ((2 : Int) - v.fst)) ∧ True else True) ∧ bif decide (v.fst = (1 : Int)) then True ∧ bif pwE x.fst x.snd.fst != (0 : Int) then bif decide (x.snd.fst < (0 : Int)) then (true, ()) = (true, ()) else True ∧ (decide (nodesF x.fst ≤ x.snd.fst), ()) = (true, ()) else True ∧ (okPo (pwN x.fst x.snd.fst, ((0 : Int), (0 : Int), [], ()), [], ()) ∧ List.length (firstF x.fst).snd.snd.fst ≤ (1000000000000 : Nat)) ∧ (0 : Int) ≤ (1 : Int) ∧ (1 : Int) < Int.ofNat (2 : Nat) ∧ (((0 : Int) ≤ IntKind.wrap IntKind.i64 (v.fst + (1 : Int)) ∧ IntKind.wrap IntKind.i64 (v.fst + (1 : Int)) ≤ (2 : Int) ∧ (v.snd.fst.fst, v.snd.fst.snd.fst, goF (pwN x.fst x.snd.fst, ((0 : Int), (0 : Int), [], ()), [], ()) (firstF x.fst), v.snd.fst.snd.snd.snd) = iniW x.fst x.snd.fst x.snd.snd.fst (IntKind.wrap IntKind.i64 (v.fst + (1 : Int))) ∧ ((0 : Int) < IntKind.wrap IntKind.i64 (v.fst + (1 : Int)) →
  pwE x.fst x.snd.fst = (0 : Int)) ∧ ((1 : Int) < IntKind.wrap IntKind.i64 (v.fst + (1 : Int)) →
  pwE x.fst x.snd.snd.fst = (0 : Int))) ∧ Int.toNat ((2 : Int) - IntKind.wrap IntKind.i64 (v.fst + (1 : Int))) < Int.toNat ((2 : Int) - v.fst)) ∧ True ∧ True else True else True) ∧ True else List.length x.snd.snd.snd.fst ≤ (9223372036854775807 : Nat) →
  ((0 : Int) ≤ (0 : Int) ∧ (0 : Int) ≤ (↑(List.length x.snd.snd.snd.fst) : Int) ∧ PIv x.fst x.snd.fst x.snd.snd.fst (Int.toNat (0 : Int)) v.snd.fst) ∧ ∀ (v_1 : Int × ((List Int × Int × Int × Int × Int × Int × Int × Int × Int × Int × Int × Unit) × (Int × (Int × Int × List Int × Unit) × List (Int × (Int × List (Int × List Int × Int × Unit) × List (List Int) × Unit) × (Int × List (Int × List Int × Int × Unit) × Unit) × Unit) × Unit) × (Int × (Int × Int × List Int × Unit) × List (Int × (Int × List (Int × List Int × Int × Unit) × List (List Int) × Unit) × (Int × List (Int × List Int × Int × Unit) × Unit) × Unit) × Unit) × Int × Int × List (List Int) × List Int × List (List Int) × List (List Int) × List (List Int) × List (List Int) × Int × Bool × Unit) × Unit), (0 : Int) ≤ v_1.fst ∧ v_1.fst ≤ (↑(List.length x.snd.snd.snd.fst) : Int) ∧ PIv x.fst x.snd.fst x.snd.snd.fst (Int.toNat v_1.fst) v_1.snd.fst →
  bif decide (v_1.fst < (↑(List.length x.snd.snd.snd.fst) : Int)) then (0 : Int) ≤ v_1.fst ∧ v_1.fst < (↑(List.length x.snd.snd.snd.fst) : Int) ∧ ∀ (c0 : Int), x.snd.snd.snd.fst[Int.toNat v_1.fst]? = some c0 →
  bif decide (c0 < (0 : Int)) then (true, ()) = (true, ()) else (((0 : Int) ≤ c0 ∧ c0 < (9223372036854775808 : Int)) ∧ okPa v_1.snd.fst) ∧ bif (stepP v_1.snd.fst c0).snd.snd.snd.snd.snd.snd.snd.snd.snd.snd.snd.snd.fst then (false, ()) = (true, ()) else bif decide ((5000 : Int) < (↑(List.length (stepP v_1.snd.fst c0).snd.snd.snd.snd.snd.fst) : Int)) then (false, ()) = (true, ()) else ((0 : Int) ≤ (0 : Int) ∧ (0 : Int) ≤ (2 : Int)) ∧ ∀ (v_2 : Int × Unit), (0 : Int) ≤ v_2.fst ∧ v_2.fst ≤ (2 : Int) →
  bif decide (v_2.fst < (2 : Int)) then (0 : Int) ≤ v_2.fst ∧ v_2.fst < (2 : Int) ∧ (bif decide (v_2.fst = (0 : Int)) then (0 : Int) ≤ (0 : Int) ∧ (0 : Int) < Int.ofNat (2 : Nat) ∧ True ∧ ((0 : Int) ≤ (1 : Int) ∧ (1 : Int) < Int.ofNat (2 : Nat) ∧ (bif decide ((↑(List.length (stepP v_1.snd.fst c0).snd.snd.snd.snd.snd.snd.snd.snd.fst) : Int) < (↑(List.length (stepP v_1.snd.fst c0).snd.snd.snd.snd.snd.snd.snd.snd.snd.fst) : Int)) then (false, ()) = (true, ()) else (0 : Int) ≤ (0 : Int) ∧ (0 : Int) < Int.ofNat (2 : Nat) ∧ True ∧ ((0 : Int) ≤ (1 : Int) ∧ (1 : Int) < Int.ofNat (2 : Nat) ∧ ((0 : Int) ≤ (0 : Int) ∧ (0 : Int) < Int.ofNat (2 : Nat) ∧ True ∧ ((0 : Int) ≤ (0 : Int) ∧ (0 : Int) ≤ (↑(List.length (stepP v_1.snd.fst c0).snd.snd.snd.snd.snd.snd.snd.snd.snd.fst) : Int) ∧ (↑(List.length (stepP v_1.snd.fst c0).snd.snd.snd.snd.snd.snd.snd.snd.snd.fst) : Int) ≤ (↑(List.length (stepP v_1.snd.fst c0).snd.snd.snd.snd.snd.snd.snd.snd.fst) : Int) ∧ (0 : Nat) + (Int.toNat (↑(List.length (stepP v_1.snd.fst c0).snd.snd.snd.snd.snd.snd.snd.snd.snd.fst) : Int) - (0 : Nat)) ≤ List.length (stepP v_1.snd.fst c0).snd.snd.snd.snd.snd.snd.snd.snd.fst ∧ (bytBs (stepP v_1.snd.fst c0).snd.snd.snd.snd.snd.snd.snd.snd.snd.fst ∧ bytBs (List.take (Int.toNat (↑(List.length (stepP v_1.snd.fst c0).snd.snd.snd.snd.snd.snd.snd.snd.snd.fst) : Int) - (0 : Nat)) (List.drop ((0 : Nat)) (stepP v_1.snd.fst c0).snd.snd.snd.snd.snd.snd.snd.snd.fst))) ∧ bif !sBs (stepP v_1.snd.fst c0).snd.snd.snd.snd.snd.snd.snd.snd.snd.fst (List.take (Int.toNat (↑(List.length (stepP v_1.snd.fst c0).snd.snd.snd.snd.snd.snd.snd.snd.snd.fst) : Int) - (0 : Nat)) (List.drop ((0 : Nat)) (stepP v_1.snd.fst c0).snd.snd.snd.snd.snd.snd.snd.snd.fst)) then (false, ()) = (true, ()) else ((0 : Int) ≤ IntKind.wrap IntKind.i64 (v_2.fst + (1 : Int)) ∧ IntKind.wrap IntKind.i64 (v_2.fst + (1 : Int)) ≤ (2 : Int)) ∧ Int.toNat ((2 : Int) - IntKind.wrap IntKind.i64 (v_2.fst + (1 : Int))) < Int.toNat ((2 : Int) - v_2.fst)) ∧ True) ∧ True ∧ True) ∧ True) ∧ True ∧ True) ∧ True else True) ∧ bif decide (v_2.fst = (1 : Int)) then (0 : Int) ≤ (1 : Int) ∧ (1 : Int) < Int.ofNat (2 : Nat) ∧ ((0 : Int) ≤ (0 : Int) ∧ (0 : Int) < Int.ofNat (2 : Nat) ∧ True ∧ (bif decide ((↑(List.length (stepP v_1.snd.fst c0).snd.snd.snd.snd.snd.snd.snd.fst) : Int) < (↑(List.length (stepP v_1.snd.fst c0).snd.snd.snd.snd.snd.snd.snd.snd.snd.snd.fst) : Int)) then (false, ()) = (true, ()) else (0 : Int) ≤ (1 : Int) ∧ (1 : Int) < Int.ofNat (2 : Nat) ∧ ((0 : Int) ≤ (0 : Int) ∧ (0 : Int) < Int.ofNat (2 : Nat) ∧ True ∧ ((0 : Int) ≤ (1 : Int) ∧ (1 : Int) < Int.ofNat (2 : Nat) ∧ ((0 : Int) ≤ (0 : Int) ∧ (0 : Int) ≤ (↑(List.length (stepP v_1.snd.fst c0).snd.snd.snd.snd.snd.snd.snd.snd.snd.snd.fst) : Int) ∧ (↑(List.length (stepP v_1.snd.fst c0).snd.snd.snd.snd.snd.snd.snd.snd.snd.snd.fst) : Int) ≤ (↑(List.length (stepP v_1.snd.fst c0).snd.snd.snd.snd.snd.snd.snd.fst) : Int) ∧ (0 : Nat) + (Int.toNat (↑(List.length (stepP v_1.snd.fst c0).snd.snd.snd.snd.snd.snd.snd.snd.snd.snd.fst) : Int) - (0 : Nat)) ≤ List.length (stepP v_1.snd.fst c0).snd.snd.snd.snd.snd.snd.snd.fst ∧ (bytBs (stepP v_1.snd.fst c0).snd.snd.snd.snd.snd.snd.snd.snd.snd.snd.fst ∧ bytBs (List.take (Int.toNat (↑(List.length (stepP v_1.snd.fst c0).snd.snd.snd.snd.snd.snd.snd.snd.snd.snd.fst) : Int) - (0 : Nat)) (List.drop ((0 : Nat)) (stepP v_1.snd.fst c0).snd.snd.snd.snd.snd.snd.snd.fst))) ∧ bif !sBs (stepP v_1.snd.fst c0).snd.snd.snd.snd.snd.snd.snd.snd.snd.snd.fst (List.take (Int.toNat (↑(List.length (stepP v_1.snd.fst c0).snd.snd.snd.snd.snd.snd.snd.snd.snd.snd.fst) : Int) - (0 : Nat)) (List.drop ((0 : Nat)) (stepP v_1.snd.fst c0).snd.snd.snd.snd.snd.snd.snd.fst)) then (false, ()) = (true, ()) else ((0 : Int) ≤ IntKind.wrap IntKind.i64 (v_2.fst + (1 : Int)) ∧ IntKind.wrap IntKind.i64 (v_2.fst + (1 : Int)) ≤ (2 : Int)) ∧ Int.toNat ((2 : Int) - IntKind.wrap IntKind.i64 (v_2.fst + (1 : Int))) < Int.toNat ((2 : Int) - v_2.fst)) ∧ True ∧ True) ∧ True) ∧ True ∧ True) ∧ True) ∧ True ∧ True else True else ((0 : Int) ≤ IntKind.wrap IntKind.i64 (v_1.fst + (1 : Int)) ∧ IntKind.wrap IntKind.i64 (v_1.fst + (1 : Int)) ≤ (↑(List.length x.snd.snd.snd.fst) : Int) ∧ PIv x.fst x.snd.fst x.snd.snd.fst (Int.toNat (IntKind.wrap IntKind.i64 (v_1.fst + (1 : Int)))) (stepP v_1.snd.fst c0)) ∧ Int.toNat ((↑(List.length x.snd.snd.snd.fst) : Int) - IntKind.wrap IntKind.i64 (v_1.fst + (1 : Int))) < Int.toNat ((↑(List.length x.snd.snd.snd.fst) : Int) - v_1.fst) else (true, ()) = (true, ())) := by kernel_rfl
theorem en_ppair (us : Array Value) (u : World) : (callFunc 7 us).run Tryd.prog u = .ok (.enter 7 us) u := by kernel_rfl
theorem sc_ppair : SC Tryd.prog 7 S_ppair := by
  refine SC.of Tryd.func7 (c := bodyOf Tryd.f7) (by kernel_rfl) (by kernel_rfl) (fun x => (by decide : (4:Nat) ≤ Tryd.f7.ntmps)) (DOk.cons sc_live en_live (DOk.cons sc_rchk en_rchk (DOk.cons sc_pnew en_pnew (DOk.cons sc_nodes en_nodes (DOk.cons sc_first en_first (DOk.cons sc_go en_go (DOk.cons sc_pstep en_pstep (DOk.cons sc_rpts en_rpts DOk.nil)))))))) (Eq.mpr vc_ppair ?_)
  rintro ⟨c, a, b, l, ⟨⟩⟩ ⟨h1, h2, h3⟩ - -
  dsimp only at h1 h2 h3 ⊢
  refine ⟨trivial, trivial, ?_⟩
  by_cases hk : kchkF c = 0
  rotate_left 1
  · rw [bneT hk, cond_true]
  rw [bneF hk, cond_false]
  by_cases hab : a = b
  · rw [beq_iff_eq.2 hab, cond_true]
  rw [beq_eq_false_iff_ne.2 hab, cond_false]
  intro _
  by_cases hl : 50 < (l.length : Int)
  · rw [decide_eq_true hl, cond_true]
  rw [decide_eq_false hl, cond_false]
  refine ⟨⟨Int.le_refl 0, by decide, rfl, fun h => absurd h (by decide), fun h => absurd h (by decide)⟩, ?_⟩
  have hS := fst_st h2
  rintro ⟨i, W, ⟨⟩⟩ ⟨q0, q1, hW, e0, e1⟩
  dsimp only at q0 q1 hW e0 e1
  subst hW
  by_cases hi : i < 2
  · obtain rfl | rfl : i = 0 ∨ i = 1 := by omega
    · show _ ∧ _
      refine ⟨(by show (0 : Int) ≤ 0; decide), (by show (0 : Int) < 2; decide), trivial, ?_, trivial⟩
      show _ ∧ _
      refine ⟨(by show (0 : Int) ≤ 0; decide), (by show (0 : Int) < 2; decide), ?_, trivial⟩
      show _ ∧ _
      refine ⟨trivial, ?_⟩
      by_cases e : pwE c a = 0
      rotate_left 1
      · refine (congrArg (fun b : Bool => bif b then _ else _) (bneT e)).mpr ?_
        exact nod_no e
      refine (congrArg (fun b : Bool => bif b then _ else _) (bneF e)).mpr ?_
      show _ ∧ _
      refine ⟨trivial, ⟨⟨Nat.zero_le _, Nat.zero_le _, fun q hq => (List.not_mem_nil hq).elim⟩, Nat.le_trans fst_len (by decide)⟩, by decide, by decide, trivial, ⟨⟨(by show (0 : Int) ≤ IntKind.i64.wrap (0 + 1); decide), (by show IntKind.i64.wrap (0 + 1) ≤ 2; decide), rfl, fun _ => e, fun h => absurd h (by show ¬ (1 : Int) < IntKind.i64.wrap (0 + 1); decide)⟩, (by show (2 - IntKind.i64.wrap (0 + 1)).toNat < (2 - 0 : Int).toNat; decide)⟩, trivial⟩
    · show _ ∧ _
      refine ⟨(by show (0 : Int) ≤ 1; decide), (by show (1 : Int) < 2; decide), ?_, trivial, trivial⟩
      show _ ∧ _
      refine ⟨(by show (0 : Int) ≤ 1; decide), (by show (1 : Int) < 2; decide), trivial, ?_⟩
      show _ ∧ _
      refine ⟨trivial, ?_⟩
      by_cases e : pwE c b = 0
      rotate_left 1
      · refine (congrArg (fun b : Bool => bif b then _ else _) (bneT e)).mpr ?_
        exact nod_no e
      refine (congrArg (fun b : Bool => bif b then _ else _) (bneF e)).mpr ?_
      show _ ∧ _
      refine ⟨trivial, ⟨⟨Nat.zero_le _, Nat.zero_le _, fun q hq => (List.not_mem_nil hq).elim⟩, Nat.le_trans fst_len (by decide)⟩, by decide, by decide, ⟨⟨(by show (0 : Int) ≤ IntKind.i64.wrap (1 + 1); decide), (by show IntKind.i64.wrap (1 + 1) ≤ 2; decide), rfl, fun _ => e0 (by decide), fun _ => e⟩, (by show (2 - IntKind.i64.wrap (1 + 1)).toNat < (2 - 1 : Int).toNat; decide)⟩, trivial, trivial⟩
  obtain rfl : i = 2 := by omega
  show _ → _
  intro _
  have ha := e0 (by decide)
  have hb := e1 (by decide)
  have hna := pwE_0 ha
  have hnb := pwE_0 hb
  have hst : stChk (firstF c) = 0 := first_chk hk
  refine ⟨⟨Int.le_refl 0, by omega, PIv_ini hk ha hb⟩, ?_⟩
  rintro ⟨n, w, ⟨⟩⟩ ⟨r0, r1, hw⟩
  dsimp only at r0 r1 hw ⊢
  by_cases hn : n < (l.length : Int)
  rotate_left 1
  · rw [decide_eq_false hn, cond_false]
  have wn : IntKind.i64.wrap (n + 1) = n + 1 := IntWalk.i64_in _ (by omega)
  rw [decide_eq_true hn, cond_true]
  refine ⟨r0, hn, fun s hs => ?_⟩
  by_cases hs0 : s < 0
  · rw [decide_eq_true hs0, cond_true]
  rw [decide_eq_false hs0, cond_false]
  have hsb := h3 s (List.mem_of_getElem? hs)
  refine ⟨⟨⟨by omega, hsb⟩, okPa_of hw (by omega) h1 (Nat.le_trans fst_len (by decide)) hS⟩, ?_⟩
  have hv := step_ok hw hna hnb hab hst hS (by omega) (by omega) hsb
  generalize stepP w s = v at hv ⊢
  have hv2 := hv
  obtain ⟨⟨c1, c2, c3, c4, c5, c7, c8, c9, PA, PB, F⟩, hp⟩ := hv2
  refine (congrArg (fun b : Bool => bif b then _ else _) (show v.2.2.2.2.2.2.2.2.2.2.2.2.1 = false from c4)).mpr ?_
  refine (congrArg (fun b : Bool => bif b then _ else _) (decide_eq_false (show ¬ 5000 < (((wPool v).length : Nat) : Int) by omega))).mpr ?_
  show _ ∧ _
  refine ⟨⟨Int.le_refl 0, by decide⟩, ?_⟩
  rintro ⟨j, ⟨⟩⟩ ⟨j0, j1⟩
  dsimp only at j0 j1
  by_cases hj : j < 2
  · obtain rfl | rfl : j = 0 ∨ j = 1 := by omega
    · show _ ∧ _
      refine ⟨(by show (0 : Int) ≤ 0; decide), (by show (0 : Int) < 2; decide), ?_, trivial⟩
      show _ ∧ _
      obtain ⟨g1, g2⟩ := told_len PA
      refine ⟨by decide, by decide, trivial, ?_, trivial⟩
      refine ⟨by decide, by decide, ?_, trivial, trivial⟩
      refine (congrArg (fun b : Bool => bif b then _ else _) (decide_eq_false (show ¬ (((wS1 v).length : Nat) : Int) < (((wT0 v).length : Nat) : Int) by omega))).mpr ?_
      show _ ∧ _
      refine ⟨by decide, by decide, trivial, ?_, trivial⟩
      refine ⟨by decide, by decide, ?_, trivial, trivial⟩
      refine ⟨by decide, by decide, trivial, ?_, trivial⟩
      have tt : List.take (Int.toNat (((wT0 v).length : Nat) : Int) - 0) (List.drop 0 (wS1 v)) = wT0 v := by rw [Nat.sub_zero, List.drop_zero, Int.toNat_natCast]; exact g2.symm
      have bT : bytBs (wT0 v) := fun y hy => by rw [g2] at hy; exact (c9 y (List.mem_of_mem_take hy)).1
      refine ⟨Int.le_refl 0, by omega, (by show (((wT0 v).length : Nat) : Int) ≤ (((wS1 v).length : Nat) : Int); omega), (by show 0 + (Int.toNat (((wT0 v).length : Nat) : Int) - 0) ≤ (wS1 v).length; omega), ⟨bT, (by show bytBs (List.take (Int.toNat (((wT0 v).length : Nat) : Int) - 0) (List.drop 0 (wS1 v))); rw [tt]; exact bT)⟩, ?_⟩
      refine (congrArg (fun b : Bool => bif b then _ else _) (show (!sBs (wT0 v) (List.take (Int.toNat (((wT0 v).length : Nat) : Int) - 0) (List.drop 0 (wS1 v)))) = false by rw [tt, sBs_t rfl]; rfl)).mpr ?_
      exact ⟨⟨(by show (0 : Int) ≤ IntKind.i64.wrap (0 + 1); decide), (by show IntKind.i64.wrap (0 + 1) ≤ 2; decide)⟩, (by show (2 - IntKind.i64.wrap (0 + 1)).toNat < (2 - 0 : Int).toNat; decide)⟩
    · show _ ∧ _
      refine ⟨(by show (0 : Int) ≤ 1; decide), (by show (1 : Int) < 2; decide), trivial, ?_⟩
      show _ ∧ _
      obtain ⟨g1, g2⟩ := told_len PB
      refine ⟨by decide, by decide, ?_, trivial, trivial⟩
      refine ⟨by decide, by decide, trivial, ?_, trivial⟩
      refine (congrArg (fun b : Bool => bif b then _ else _) (decide_eq_false (show ¬ (((wS0 v).length : Nat) : Int) < (((wT1 v).length : Nat) : Int) by omega))).mpr ?_
      show _ ∧ _
      refine ⟨by decide, by decide, ?_, trivial, trivial⟩
      refine ⟨by decide, by decide, trivial, ?_, trivial⟩
      refine ⟨by decide, by decide, ?_, trivial, trivial⟩
      have tt : List.take (Int.toNat (((wT1 v).length : Nat) : Int) - 0) (List.drop 0 (wS0 v)) = wT1 v := by rw [Nat.sub_zero, List.drop_zero, Int.toNat_natCast]; exact g2.symm
      have bT : bytBs (wT1 v) := fun y hy => by rw [g2] at hy; exact (c8 y (List.mem_of_mem_take hy)).1
      refine ⟨Int.le_refl 0, by omega, (by show (((wT1 v).length : Nat) : Int) ≤ (((wS0 v).length : Nat) : Int); omega), (by show 0 + (Int.toNat (((wT1 v).length : Nat) : Int) - 0) ≤ (wS0 v).length; omega), ⟨bT, (by show bytBs (List.take (Int.toNat (((wT1 v).length : Nat) : Int) - 0) (List.drop 0 (wS0 v))); rw [tt]; exact bT)⟩, ?_⟩
      refine (congrArg (fun b : Bool => bif b then _ else _) (show (!sBs (wT1 v) (List.take (Int.toNat (((wT1 v).length : Nat) : Int) - 0) (List.drop 0 (wS0 v)))) = false by rw [tt, sBs_t rfl]; rfl)).mpr ?_
      exact ⟨⟨(by show (0 : Int) ≤ IntKind.i64.wrap (1 + 1); decide), (by show IntKind.i64.wrap (1 + 1) ≤ 2; decide)⟩, (by show (2 - IntKind.i64.wrap (1 + 1)).toNat < (2 - 1 : Int).toNat; decide)⟩
  obtain rfl : j = 2 := by omega
  show _ ∧ _
  rw [wn, show (n + 1).toNat = n.toNat + 1 by omega]
  exact ⟨⟨by omega, by omega, hv⟩, by omega⟩
end Go.Proofs.YtjkbkhjalimebaaDoor

namespace Go.Proofs.YtjkbkhjalimebaaDoor
open Go.RowKit DoorU
set_option linter.unusedVariables false
namespace DoorU
theorem wf_i64 {a : Int} (h : (Lit.int .i64 a).wf = true) : a < 9223372036854775808 := by
  simp [Lit.wf, IntKind.min, IntKind.max, IntKind.signed, IntKind.bits] at h
  omega
end DoorU
end Go.Proofs.YtjkbkhjalimebaaDoor
