/- The words of packages stamp and frame that read. Printed by gen.py. -/
import Derived.Test.YtjkbkhjalimebaaDoorPJ
namespace Go.Proofs.YtjkbkhjalimebaaDoor
open Go.RowKit DoorU
set_option linter.unusedVariables false
set_option linter.unusedSimpArgs false
set_option maxRecDepth 100000
set_option maxHeartbeats 1000000

theorem vc_stake : VC Tryd.prog Tryd.f95 (bodyOf Tryd.f95) S_stake [(33, S_schk), (96, S_get)] A_stake = (∀ (x : List Int × Unit), (∀ (x_1 : Int), x_1 ∈ x.fst →
  (0 : Int) ≤ x_1 ∧ x_1 < (256 : Int)) →
  List.length x.fst ≤ (9223372036854775807 : Nat) →
  List.length x.fst ≤ (9223372036854775807 : Nat) →
  bif decide ((↑(List.length x.fst) : Int) < (17 : Int)) then ((((0 : Int), (0 : Int), [], ()), (0 : Int), (3 : Int), ()), ()) = ((stTkS x.fst, stTkN x.fst, stTkE x.fst, ()), ()) else (0 : Int) ≤ (16 : Int) ∧ (16 : Int) < (↑(List.length x.fst) : Int) ∧ ∀ (c0 : Int), x.fst[(16 : Nat)]? = some c0 →
  bif decide ((8 : Int) < IntKind.wrap IntKind.i64 c0) then ((((0 : Int), (0 : Int), [], ()), (0 : Int), (3 : Int), ()), ()) = ((stTkS x.fst, stTkN x.fst, stTkE x.fst, ()), ()) else List.length x.fst ≤ (9223372036854775807 : Nat) →
  bif decide ((↑(List.length x.fst) : Int) < IntKind.wrap IntKind.i64 ((17 : Int) + IntKind.wrap IntKind.i64 c0)) then ((((0 : Int), (0 : Int), [], ()), (0 : Int), (3 : Int), ()), ()) = ((stTkS x.fst, stTkN x.fst, stTkE x.fst, ()), ()) else (0 : Int) ≤ (0 : Int) ∧ (0 : Int) ≤ (8 : Int) ∧ (8 : Int) ≤ (↑(List.length x.fst) : Int) ∧ (∀ (x_1 : Int), x_1 ∈ List.take ((8 : Nat)) (List.drop ((0 : Nat)) x.fst) →
  (0 : Int) ≤ x_1 ∧ x_1 < (256 : Int)) ∧ (0 : Int) ≤ (8 : Int) ∧ (8 : Int) ≤ (16 : Int) ∧ (16 : Int) ≤ (↑(List.length x.fst) : Int) ∧ (∀ (x_1 : Int), x_1 ∈ List.take ((8 : Nat)) (List.drop ((8 : Nat)) x.fst) →
  (0 : Int) ≤ x_1 ∧ x_1 < (256 : Int)) ∧ (0 : Int) ≤ (17 : Int) ∧ (17 : Int) ≤ IntKind.wrap IntKind.i64 ((17 : Int) + IntKind.wrap IntKind.i64 c0) ∧ IntKind.wrap IntKind.i64 ((17 : Int) + IntKind.wrap IntKind.i64 c0) ≤ (↑(List.length x.fst) : Int) ∧ (List.length (List.take (Int.toNat (IntKind.wrap IntKind.i64 ((17 : Int) + IntKind.wrap IntKind.i64 c0)) - (17 : Nat)) (List.drop ((17 : Nat)) x.fst)) ≤ (9223372036854775807 : Nat) →
  ((0 : Int) ≤ (0 : Int) ∧ (0 : Int) ≤ g16 x.fst ∧ (getR (List.take ((8 : Nat)) (List.drop ((0 : Nat)) x.fst)), getR (List.take ((8 : Nat)) (List.drop ((8 : Nat)) x.fst)), [], ()) = (g8 x.fst, g9 x.fst, g17 x.fst (Int.toNat (0 : Int)), ())) ∧ ∀ (v : Int × (Int × Int × List Int × Unit) × Unit), (0 : Int) ≤ v.fst ∧ v.fst ≤ g16 x.fst ∧ v.snd.fst = (g8 x.fst, g9 x.fst, g17 x.fst (Int.toNat v.fst), ()) →
  bif decide (v.fst < (↑(List.length (List.take (Int.toNat (IntKind.wrap IntKind.i64 ((17 : Int) + IntKind.wrap IntKind.i64 c0)) - (17 : Nat)) (List.drop ((17 : Nat)) x.fst))) : Int)) then (0 : Int) ≤ v.fst ∧ v.fst < (↑(List.length (List.take (Int.toNat (IntKind.wrap IntKind.i64 ((17 : Int) + IntKind.wrap IntKind.i64 c0)) - (17 : Nat)) (List.drop ((17 : Nat)) x.fst))) : Int) ∧ ∀ (c0_1 : Int), (List.take (Int.toNat (IntKind.wrap IntKind.i64 ((17 : Int) + IntKind.wrap IntKind.i64 c0)) - (17 : Nat)) (List.drop ((17 : Nat)) x.fst))[Int.toNat v.fst]? = some c0_1 →
  (List.length v.snd.fst.snd.snd.fst + List.length [IntKind.wrap IntKind.i64 c0_1]) * (8 : Nat) ≤ (140737488351232 : Nat) ∧ ((0 : Int) ≤ IntKind.wrap IntKind.i64 (v.fst + (1 : Int)) ∧ IntKind.wrap IntKind.i64 (v.fst + (1 : Int)) ≤ g16 x.fst ∧ (v.snd.fst.fst, v.snd.fst.snd.fst, v.snd.fst.snd.snd.fst ++ [IntKind.wrap IntKind.i64 c0_1], ()) = (g8 x.fst, g9 x.fst, g17 x.fst (Int.toNat (IntKind.wrap IntKind.i64 (v.fst + (1 : Int)))), ())) ∧ Int.toNat (g16 x.fst - IntKind.wrap IntKind.i64 (v.fst + (1 : Int))) < Int.toNat (g16 x.fst - v.fst) else True ∧ bif stChk v.snd.fst != (0 : Int) then ((((0 : Int), (0 : Int), [], ()), (0 : Int), (3 : Int), ()), ()) = ((stTkS x.fst, stTkN x.fst, stTkE x.fst, ()), ()) else ((v.snd.fst, IntKind.wrap IntKind.i64 ((17 : Int) + IntKind.wrap IntKind.i64 c0), (0 : Int), ()), ()) = ((stTkS x.fst, stTkN x.fst, stTkE x.fst, ()), ()))) := by kernel_rfl
theorem en_stake (us : Array Value) (u : World) : (callFunc 95 us).run Tryd.prog u = .ok (.enter 95 us) u := by kernel_rfl
theorem sc_stake : SC Tryd.prog 95 S_stake := by
  refine SC.of Tryd.func95 (c := bodyOf Tryd.f95) (by kernel_rfl) (by kernel_rfl) (fun x => (by decide : (1:Nat) ≤ Tryd.f95.ntmps)) (DOk.cons sc_schk en_schk (DOk.cons sc_get en_get DOk.nil)) (Eq.mpr vc_stake ?_)
  rintro ⟨b, ⟨⟩⟩ hb hl -
  dsimp only at hb hl ⊢
  have hb' : byt b := hb
  have err : stTkE b = 3 → (((((0 : Int), (0 : Int), ([] : List Int), ()), (0 : Int), (3 : Int), ()), ()) : (Sta × Int × Int × Unit) × Unit) = ((stTkS b, stTkN b, stTkE b, ()), ()) := fun h => by rw [stTkS, stTkN, h]; rfl
  by_cases h1 : b.length < 17
  · rw [decide_eq_true (by omega : (b.length : Int) < 17), cond_true]
    exact err (by unfold stTkE; rw [if_pos h1])
  rw [decide_eq_false (by omega), cond_false]
  refine ⟨by omega, by omega, fun c hc => ?_⟩
  have hc16 : g16 b = c := by
    show b.getD 16 0 = c
    rw [List.getD_eq_getElem?_getD, hc]; rfl
  have hcb := hb' c (List.mem_of_getElem? hc)
  have w1 : IntKind.i64.wrap c = c := IntWalk.i64_in _ (by omega)
  have w2 : IntKind.i64.wrap (17 + c) = 17 + c := IntWalk.i64_in _ (by omega)
  rw [w1, w2]
  by_cases h2 : 8 < c
  · rw [decide_eq_true h2, cond_true]
    exact err (by unfold stTkE; rw [if_neg h1, if_pos (by rw [hc16]; exact h2)])
  rw [decide_eq_false h2, cond_false]
  intro _
  by_cases h3 : (b.length : Int) < 17 + c
  · rw [decide_eq_true h3, cond_true]
    exact err (by unfold stTkE; rw [if_neg h1, if_neg (by rw [hc16]; exact h2), if_pos (by rw [hc16]; exact h3)])
  have hE : stTkE b = if okS (stAt b) then 0 else 3 := by
    unfold stTkE
    rw [if_neg h1, if_neg (by rw [hc16]; exact h2), if_neg (by rw [hc16]; exact h3)]
  have hL : (List.take c.toNat (List.drop 17 b)).length = c.toNat := by rw [List.length_take, List.length_drop]; omega
  rw [decide_eq_false h3, cond_false, List.drop_zero, show Int.toNat (17 + c) - 17 = c.toNat by omega, hL, hc16]
  refine ⟨by omega, by omega, by omega, byt_take hb' 8, by omega, by omega, by omega, byt_take (byt_drop hb' 8) 8, by omega, by omega, by omega, fun _ => ⟨⟨by omega, by omega, rfl⟩, ?_⟩⟩
  rintro ⟨i, ⟨a1, a2, ch, ⟨⟩⟩, ⟨⟩⟩ ⟨q0, q1, hv⟩
  dsimp only at q0 q1 hv ⊢
  simp only [Prod.mk.injEq, and_true] at hv
  obtain ⟨rfl, rfl, rfl⟩ := hv
  have wi : IntKind.i64.wrap (i + 1) = i + 1 := IntWalk.i64_in _ (by omega)
  by_cases hi : i < ((c.toNat : Nat) : Int)
  · rw [decide_eq_true hi, cond_true, wi]
    refine ⟨q0, hi, fun d hd => ?_⟩
    have hd2 : (List.drop 17 b)[i.toNat]? = some d := by
      rw [List.getElem?_take] at hd
      rwa [if_pos (by omega)] at hd
    have hdb := hb' d (List.mem_of_mem_drop (List.mem_of_getElem? hd2))
    have wd : IntKind.i64.wrap d = d := IntWalk.i64_in _ (by omega)
    have gl : (g17 b i.toNat).length ≤ i.toNat := by unfold g17; rw [List.length_take]; omega
    rw [wd]
    refine ⟨by rw [List.length_cons, List.length_nil]; omega, ⟨by omega, by omega, ?_⟩, by omega⟩
    have hs : g17 b (i + 1).toNat = g17 b i.toNat ++ [d] := by
      unfold g17
      rw [show (i + 1).toNat = i.toNat + 1 by omega, take_snoc hd2]
    rw [hs]
  · rw [decide_eq_false hi, cond_false]
    refine ⟨trivial, ?_⟩
    have hs : (g8 b, g9 b, g17 b i.toNat, ()) = stAt b := by
      rw [stAt, hc16, show i = c by omega]
    rw [hs]
    cases ho : okS (stAt b)
    · rw [show stChk (stAt b) = 1 by rw [stChk, ho]; rfl, show ((1 : Int) != 0) = true from rfl, cond_true]
      exact err (by rw [hE, ho]; rfl)
    · have h0 : stTkE b = 0 := by rw [hE, ho]; rfl
      rw [show stChk (stAt b) = 0 by rw [stChk, ho]; rfl, show ((0 : Int) != 0) = false from rfl, cond_false, stTkS, stTkN, h0, if_pos rfl, if_pos rfl, hc16]

theorem vc_fread : VC Tryd.prog Tryd.f53 (bodyOf Tryd.f53) S_fread [(95, S_stake), (96, S_get)] (fun _ _ => none) = (∀ (x : List Int × Unit), (∀ (x_1 : Int), x_1 ∈ x.fst →
  (0 : Int) ≤ x_1 ∧ x_1 < (256 : Int)) →
  List.length x.fst ≤ (9223372036854775807 : Nat) →
  List.length x.fst ≤ (9223372036854775807 : Nat) →
  bif decide ((↑(List.length x.fst) : Int) < (2 : Int)) then ((((0 : Int), (0 : Int), ((0 : Int), (0 : Int), [], ()), (0 : Int), (0 : Int), [], ()), false, ()), ()) = ((frRdF x.fst, frRdE x.fst, ()), ()) else (0 : Int) ≤ (2 : Int) ∧ (2 : Int) ≤ (↑(List.length x.fst) : Int) ∧ (↑(List.length x.fst) : Int) ≤ (↑(List.length x.fst) : Int) ∧ (∀ (x_1 : Int), x_1 ∈ List.take (Int.toNat (↑(List.length x.fst) : Int) - (2 : Nat)) (List.drop ((2 : Nat)) x.fst) →
  (0 : Int) ≤ x_1 ∧ x_1 < (256 : Int)) ∧ bif stTkE (List.take (Int.toNat (↑(List.length x.fst) : Int) - (2 : Nat)) (List.drop ((2 : Nat)) x.fst)) != (0 : Int) then ((((0 : Int), (0 : Int), ((0 : Int), (0 : Int), [], ()), (0 : Int), (0 : Int), [], ()), false, ()), ()) = ((frRdF x.fst, frRdE x.fst, ()), ()) else (0 : Int) ≤ IntKind.wrap IntKind.i64 ((2 : Int) + stTkN (List.take (Int.toNat (↑(List.length x.fst) : Int) - (2 : Nat)) (List.drop ((2 : Nat)) x.fst))) ∧ IntKind.wrap IntKind.i64 ((2 : Int) + stTkN (List.take (Int.toNat (↑(List.length x.fst) : Int) - (2 : Nat)) (List.drop ((2 : Nat)) x.fst))) ≤ (↑(List.length x.fst) : Int) ∧ (↑(List.length x.fst) : Int) ≤ (↑(List.length x.fst) : Int) ∧ (List.length (List.take (Int.toNat (↑(List.length x.fst) : Int) - Int.toNat (IntKind.wrap IntKind.i64 ((2 : Int) + stTkN (List.take (Int.toNat (↑(List.length x.fst) : Int) - (2 : Nat)) (List.drop ((2 : Nat)) x.fst))))) (List.drop (Int.toNat (IntKind.wrap IntKind.i64 ((2 : Int) + stTkN (List.take (Int.toNat (↑(List.length x.fst) : Int) - (2 : Nat)) (List.drop ((2 : Nat)) x.fst))))) x.fst)) ≤ (9223372036854775807 : Nat) →
  bif decide ((↑(List.length (List.take (Int.toNat (↑(List.length x.fst) : Int) - Int.toNat (IntKind.wrap IntKind.i64 ((2 : Int) + stTkN (List.take (Int.toNat (↑(List.length x.fst) : Int) - (2 : Nat)) (List.drop ((2 : Nat)) x.fst))))) (List.drop (Int.toNat (IntKind.wrap IntKind.i64 ((2 : Int) + stTkN (List.take (Int.toNat (↑(List.length x.fst) : Int) - (2 : Nat)) (List.drop ((2 : Nat)) x.fst))))) x.fst))) : Int) < (9 : Int)) then ((((0 : Int), (0 : Int), ((0 : Int), (0 : Int), [], ()), (0 : Int), (0 : Int), [], ()), false, ()), ()) = ((frRdF x.fst, frRdE x.fst, ()), ()) else (0 : Int) ≤ (1 : Int) ∧ (1 : Int) ≤ (5 : Int) ∧ (5 : Int) ≤ (↑(List.length (List.take (Int.toNat (↑(List.length x.fst) : Int) - Int.toNat (IntKind.wrap IntKind.i64 ((2 : Int) + stTkN (List.take (Int.toNat (↑(List.length x.fst) : Int) - (2 : Nat)) (List.drop ((2 : Nat)) x.fst))))) (List.drop (Int.toNat (IntKind.wrap IntKind.i64 ((2 : Int) + stTkN (List.take (Int.toNat (↑(List.length x.fst) : Int) - (2 : Nat)) (List.drop ((2 : Nat)) x.fst))))) x.fst))) : Int) ∧ (∀ (x_1 : Int), x_1 ∈ List.take ((4 : Nat)) (List.drop ((1 : Nat)) (List.take (Int.toNat (↑(List.length x.fst) : Int) - Int.toNat (IntKind.wrap IntKind.i64 ((2 : Int) + stTkN (List.take (Int.toNat (↑(List.length x.fst) : Int) - (2 : Nat)) (List.drop ((2 : Nat)) x.fst))))) (List.drop (Int.toNat (IntKind.wrap IntKind.i64 ((2 : Int) + stTkN (List.take (Int.toNat (↑(List.length x.fst) : Int) - (2 : Nat)) (List.drop ((2 : Nat)) x.fst))))) x.fst))) →
  (0 : Int) ≤ x_1 ∧ x_1 < (256 : Int)) ∧ (0 : Int) ≤ (5 : Int) ∧ (5 : Int) ≤ (9 : Int) ∧ (9 : Int) ≤ (↑(List.length (List.take (Int.toNat (↑(List.length x.fst) : Int) - Int.toNat (IntKind.wrap IntKind.i64 ((2 : Int) + stTkN (List.take (Int.toNat (↑(List.length x.fst) : Int) - (2 : Nat)) (List.drop ((2 : Nat)) x.fst))))) (List.drop (Int.toNat (IntKind.wrap IntKind.i64 ((2 : Int) + stTkN (List.take (Int.toNat (↑(List.length x.fst) : Int) - (2 : Nat)) (List.drop ((2 : Nat)) x.fst))))) x.fst))) : Int) ∧ (∀ (x_1 : Int), x_1 ∈ List.take ((4 : Nat)) (List.drop ((5 : Nat)) (List.take (Int.toNat (↑(List.length x.fst) : Int) - Int.toNat (IntKind.wrap IntKind.i64 ((2 : Int) + stTkN (List.take (Int.toNat (↑(List.length x.fst) : Int) - (2 : Nat)) (List.drop ((2 : Nat)) x.fst))))) (List.drop (Int.toNat (IntKind.wrap IntKind.i64 ((2 : Int) + stTkN (List.take (Int.toNat (↑(List.length x.fst) : Int) - (2 : Nat)) (List.drop ((2 : Nat)) x.fst))))) x.fst))) →
  (0 : Int) ≤ x_1 ∧ x_1 < (256 : Int)) ∧ (0 : Int) ≤ (9 : Int) ∧ (9 : Int) ≤ (↑(List.length (List.take (Int.toNat (↑(List.length x.fst) : Int) - Int.toNat (IntKind.wrap IntKind.i64 ((2 : Int) + stTkN (List.take (Int.toNat (↑(List.length x.fst) : Int) - (2 : Nat)) (List.drop ((2 : Nat)) x.fst))))) (List.drop (Int.toNat (IntKind.wrap IntKind.i64 ((2 : Int) + stTkN (List.take (Int.toNat (↑(List.length x.fst) : Int) - (2 : Nat)) (List.drop ((2 : Nat)) x.fst))))) x.fst))) : Int) ∧ (↑(List.length (List.take (Int.toNat (↑(List.length x.fst) : Int) - Int.toNat (IntKind.wrap IntKind.i64 ((2 : Int) + stTkN (List.take (Int.toNat (↑(List.length x.fst) : Int) - (2 : Nat)) (List.drop ((2 : Nat)) x.fst))))) (List.drop (Int.toNat (IntKind.wrap IntKind.i64 ((2 : Int) + stTkN (List.take (Int.toNat (↑(List.length x.fst) : Int) - (2 : Nat)) (List.drop ((2 : Nat)) x.fst))))) x.fst))) : Int) ≤ (↑(List.length (List.take (Int.toNat (↑(List.length x.fst) : Int) - Int.toNat (IntKind.wrap IntKind.i64 ((2 : Int) + stTkN (List.take (Int.toNat (↑(List.length x.fst) : Int) - (2 : Nat)) (List.drop ((2 : Nat)) x.fst))))) (List.drop (Int.toNat (IntKind.wrap IntKind.i64 ((2 : Int) + stTkN (List.take (Int.toNat (↑(List.length x.fst) : Int) - (2 : Nat)) (List.drop ((2 : Nat)) x.fst))))) x.fst))) : Int) ∧ (List.length (List.take (Int.toNat (↑(List.length (List.take (Int.toNat (↑(List.length x.fst) : Int) - Int.toNat (IntKind.wrap IntKind.i64 ((2 : Int) + stTkN (List.take (Int.toNat (↑(List.length x.fst) : Int) - (2 : Nat)) (List.drop ((2 : Nat)) x.fst))))) (List.drop (Int.toNat (IntKind.wrap IntKind.i64 ((2 : Int) + stTkN (List.take (Int.toNat (↑(List.length x.fst) : Int) - (2 : Nat)) (List.drop ((2 : Nat)) x.fst))))) x.fst))) : Int) - (9 : Nat)) (List.drop ((9 : Nat)) (List.take (Int.toNat (↑(List.length x.fst) : Int) - Int.toNat (IntKind.wrap IntKind.i64 ((2 : Int) + stTkN (List.take (Int.toNat (↑(List.length x.fst) : Int) - (2 : Nat)) (List.drop ((2 : Nat)) x.fst))))) (List.drop (Int.toNat (IntKind.wrap IntKind.i64 ((2 : Int) + stTkN (List.take (Int.toNat (↑(List.length x.fst) : Int) - (2 : Nat)) (List.drop ((2 : Nat)) x.fst))))) x.fst)))) ≤ (9223372036854775807 : Nat) →
  bif getR (List.take ((4 : Nat)) (List.drop ((5 : Nat)) (List.take (Int.toNat (↑(List.length x.fst) : Int) - Int.toNat (IntKind.wrap IntKind.i64 ((2 : Int) + stTkN (List.take (Int.toNat (↑(List.length x.fst) : Int) - (2 : Nat)) (List.drop ((2 : Nat)) x.fst))))) (List.drop (Int.toNat (IntKind.wrap IntKind.i64 ((2 : Int) + stTkN (List.take (Int.toNat (↑(List.length x.fst) : Int) - (2 : Nat)) (List.drop ((2 : Nat)) x.fst))))) x.fst)))) != IntKind.wrap IntKind.u64 (↑(List.length (List.take (Int.toNat (↑(List.length (List.take (Int.toNat (↑(List.length x.fst) : Int) - Int.toNat (IntKind.wrap IntKind.i64 ((2 : Int) + stTkN (List.take (Int.toNat (↑(List.length x.fst) : Int) - (2 : Nat)) (List.drop ((2 : Nat)) x.fst))))) (List.drop (Int.toNat (IntKind.wrap IntKind.i64 ((2 : Int) + stTkN (List.take (Int.toNat (↑(List.length x.fst) : Int) - (2 : Nat)) (List.drop ((2 : Nat)) x.fst))))) x.fst))) : Int) - (9 : Nat)) (List.drop ((9 : Nat)) (List.take (Int.toNat (↑(List.length x.fst) : Int) - Int.toNat (IntKind.wrap IntKind.i64 ((2 : Int) + stTkN (List.take (Int.toNat (↑(List.length x.fst) : Int) - (2 : Nat)) (List.drop ((2 : Nat)) x.fst))))) (List.drop (Int.toNat (IntKind.wrap IntKind.i64 ((2 : Int) + stTkN (List.take (Int.toNat (↑(List.length x.fst) : Int) - (2 : Nat)) (List.drop ((2 : Nat)) x.fst))))) x.fst))))) : Int) then ((((0 : Int), (0 : Int), ((0 : Int), (0 : Int), [], ()), (0 : Int), (0 : Int), [], ()), false, ()), ()) = ((frRdF x.fst, frRdE x.fst, ()), ()) else (0 : Int) ≤ (0 : Int) ∧ (0 : Int) < (↑(List.length x.fst) : Int) ∧ ∀ (c0 : Int), x.fst[(0 : Nat)]? = some c0 →
  (0 : Int) ≤ (1 : Int) ∧ (1 : Int) < (↑(List.length x.fst) : Int) ∧ ∀ (c0_1 : Int), x.fst[(1 : Nat)]? = some c0_1 →
  (0 : Int) ≤ (0 : Int) ∧ (0 : Int) < (↑(List.length (List.take (Int.toNat (↑(List.length x.fst) : Int) - Int.toNat (IntKind.wrap IntKind.i64 ((2 : Int) + stTkN (List.take (Int.toNat (↑(List.length x.fst) : Int) - (2 : Nat)) (List.drop ((2 : Nat)) x.fst))))) (List.drop (Int.toNat (IntKind.wrap IntKind.i64 ((2 : Int) + stTkN (List.take (Int.toNat (↑(List.length x.fst) : Int) - (2 : Nat)) (List.drop ((2 : Nat)) x.fst))))) x.fst))) : Int) ∧ ∀ (c0_2 : Int), (List.take (Int.toNat (↑(List.length x.fst) : Int) - Int.toNat (IntKind.wrap IntKind.i64 ((2 : Int) + stTkN (List.take (Int.toNat (↑(List.length x.fst) : Int) - (2 : Nat)) (List.drop ((2 : Nat)) x.fst))))) (List.drop (Int.toNat (IntKind.wrap IntKind.i64 ((2 : Int) + stTkN (List.take (Int.toNat (↑(List.length x.fst) : Int) - (2 : Nat)) (List.drop ((2 : Nat)) x.fst))))) x.fst))[(0 : Nat)]? = some c0_2 →
  (((IntKind.wrap IntKind.i64 c0, IntKind.wrap IntKind.i64 c0_1, stTkS (List.take (Int.toNat (↑(List.length x.fst) : Int) - (2 : Nat)) (List.drop ((2 : Nat)) x.fst)), IntKind.wrap IntKind.i64 c0_2, IntKind.wrap IntKind.i64 (getR (List.take ((4 : Nat)) (List.drop ((1 : Nat)) (List.take (Int.toNat (↑(List.length x.fst) : Int) - Int.toNat (IntKind.wrap IntKind.i64 ((2 : Int) + stTkN (List.take (Int.toNat (↑(List.length x.fst) : Int) - (2 : Nat)) (List.drop ((2 : Nat)) x.fst))))) (List.drop (Int.toNat (IntKind.wrap IntKind.i64 ((2 : Int) + stTkN (List.take (Int.toNat (↑(List.length x.fst) : Int) - (2 : Nat)) (List.drop ((2 : Nat)) x.fst))))) x.fst))))), List.take (Int.toNat (↑(List.length (List.take (Int.toNat (↑(List.length x.fst) : Int) - Int.toNat (IntKind.wrap IntKind.i64 ((2 : Int) + stTkN (List.take (Int.toNat (↑(List.length x.fst) : Int) - (2 : Nat)) (List.drop ((2 : Nat)) x.fst))))) (List.drop (Int.toNat (IntKind.wrap IntKind.i64 ((2 : Int) + stTkN (List.take (Int.toNat (↑(List.length x.fst) : Int) - (2 : Nat)) (List.drop ((2 : Nat)) x.fst))))) x.fst))) : Int) - (9 : Nat)) (List.drop ((9 : Nat)) (List.take (Int.toNat (↑(List.length x.fst) : Int) - Int.toNat (IntKind.wrap IntKind.i64 ((2 : Int) + stTkN (List.take (Int.toNat (↑(List.length x.fst) : Int) - (2 : Nat)) (List.drop ((2 : Nat)) x.fst))))) (List.drop (Int.toNat (IntKind.wrap IntKind.i64 ((2 : Int) + stTkN (List.take (Int.toNat (↑(List.length x.fst) : Int) - (2 : Nat)) (List.drop ((2 : Nat)) x.fst))))) x.fst))), ()), true, ()), ()) = ((frRdF x.fst, frRdE x.fst, ()), ())))) := by kernel_rfl
theorem en_fread (us : Array Value) (u : World) : (callFunc 53 us).run Tryd.prog u = .ok (.enter 53 us) u := by kernel_rfl
theorem sc_fread : SC Tryd.prog 53 S_fread := by
  refine SC.of Tryd.func53 (c := bodyOf Tryd.f53) (by kernel_rfl) (by kernel_rfl) (fun x => (by decide : (1:Nat) ≤ Tryd.f53.ntmps)) (DOk.cons sc_stake en_stake (DOk.cons sc_get en_get DOk.nil)) (Eq.mpr vc_fread ?_)
  rintro ⟨l, ⟨⟩⟩ hb hln -
  dsimp only at hb hln ⊢
  have hb' : byt l := hb
  have T2 := dropT l 2
  by_cases h1 : l.length < 2
  · rw [decide_eq_true (by omega : (l.length : Int) < 2), cond_true]
    have e : frRdE l = false := by unfold frRdE; rw [decide_eq_false (by omega)]; rfl
    rw [frRdF, e]; rfl
  rw [decide_eq_false (by omega), cond_false]
  obtain ⟨n0, n1, n2⟩ := stTk_N (byt_drop hb' 2)
  rw [List.length_drop] at n1
  have wN : IntKind.i64.wrap (2 + stTkN (l.drop 2)) = 2 + stTkN (l.drop 2) := IntWalk.i64_in _ (by omega)
  have TR : List.take (Int.toNat (l.length : Int) - Int.toNat (2 + stTkN (l.drop 2))) (l.drop (Int.toNat (2 + stTkN (l.drop 2)))) = frRest l := dropT l _
  simp only [T2, wN, TR]
  refine ⟨by omega, by omega, by omega, byt_drop hb' 2, ?_⟩
  by_cases h2 : stTkE (l.drop 2) = 0
  rotate_left 1
  · rw [bneT h2, cond_true]
    have e : frRdE l = false := by unfold frRdE; rw [beq_eq_false_iff_ne.2 h2]; simp
    rw [frRdF, e]; rfl
  rw [bneF h2, cond_false]
  refine ⟨by omega, by omega, by omega, fun _ => ?_⟩
  have hbr : byt (frRest l) := byt_drop hb' _
  by_cases h3 : (frRest l).length < 9
  · rw [decide_eq_true (by omega : ((frRest l).length : Int) < 9), cond_true]
    have e : frRdE l = false := by unfold frRdE; rw [decide_eq_false (by omega : ¬ 9 ≤ (frRest l).length)]; simp
    rw [frRdF, e]; rfl
  rw [decide_eq_false (by omega), cond_false]
  have T9 := dropT (frRest l) 9
  simp only [T9]
  refine ⟨by omega, by omega, by omega, byt_take (byt_drop hbr 1) 4, by omega, by omega, by omega, byt_take (byt_drop hbr 5) 4, by omega, by omega, by omega, fun _ => ?_⟩
  have hrl : (frRest l).length ≤ l.length := by unfold frRest; rw [List.length_drop]; omega
  have wL : IntKind.u64.wrap (((frRest l).drop 9).length : Int) = (((frRest l).drop 9).length : Int) := IntWalk.u64_in _ ⟨by omega, by rw [List.length_drop]; omega⟩
  rw [wL]
  by_cases h4 : getR (((frRest l).drop 5).take 4) = (((frRest l).drop 9).length : Int)
  rotate_left 1
  · rw [bneT h4, cond_true]
    have e : frRdE l = false := by unfold frRdE; rw [beq_eq_false_iff_ne.2 h4]; simp
    rw [frRdF, e]; rfl
  rw [bneF h4, cond_false]
  have e : frRdE l = true := by unfold frRdE; rw [decide_eq_true (by omega : 2 ≤ l.length), h2, decide_eq_true (by omega : 9 ≤ (frRest l).length), h4]; simp
  have gq := getI4_bd (byt_take (byt_drop hbr 1) 4) (by rw [List.length_take, List.length_drop]; omega)
  have wq : IntKind.i64.wrap (getR (((frRest l).drop 1).take 4)) = getR (((frRest l).drop 1).take 4) := IntWalk.i64_in _ (by omega)
  rw [wq]
  refine ⟨by omega, by omega, fun c0 e0 => ⟨by omega, by omega, fun c1 e1 => ⟨by omega, by omega, fun c2 e2 => ?_⟩⟩⟩
  have b0 := hb' c0 (List.mem_of_getElem? e0)
  have b1 := hb' c1 (List.mem_of_getElem? e1)
  have b2 := hbr c2 (List.mem_of_getElem? e2)
  rw [IntWalk.i64_in c0 (by omega), IntWalk.i64_in c1 (by omega), IntWalk.i64_in c2 (by omega), frRdF, e, if_pos rfl, frAt, getD_of e0 rfl, getD_of e1 rfl, getD_of e2 rfl]

theorem vc_ftake : VC Tryd.prog Tryd.f19 (bodyOf Tryd.f19) S_ftake [(53, S_fread), (39, S_fchk), (54, S_mchk), (55, S_bcl)] (fun _ _ => none) = (∀ (x : List Int × List Int × Unit), (List.length x.fst ≤ (1000000000 : Nat) ∧ List.length x.snd.fst ≤ (100000000 : Nat) ∧ ∀ (x_1 : Int), x_1 ∈ x.snd.fst →
  (0 : Int) ≤ x_1 ∧ x_1 < (256 : Int)) →
  List.length x.fst ≤ (9223372036854775807 : Nat) →
  List.length x.snd.fst ≤ (9223372036854775807 : Nat) →
  List.length x.snd.fst ≤ (9223372036854775807 : Nat) →
  bif decide (IntKind.wrap IntKind.i64 ((↑(List.length x.snd.fst) : Int) - (32 : Int)) < (0 : Int)) then ((((0 : Int), (0 : Int), ((0 : Int), (0 : Int), [], ()), (0 : Int), (0 : Int), [], ()), (3 : Int), ()), ()) = ((frTkF x.fst x.snd.fst, frTkE x.fst x.snd.fst, ()), ()) else (0 : Int) ≤ (0 : Int) ∧ (0 : Int) ≤ IntKind.wrap IntKind.i64 ((↑(List.length x.snd.fst) : Int) - (32 : Int)) ∧ IntKind.wrap IntKind.i64 ((↑(List.length x.snd.fst) : Int) - (32 : Int)) ≤ (↑(List.length x.snd.fst) : Int) ∧ (∀ (x_1 : Int), x_1 ∈ List.take (Int.toNat (IntKind.wrap IntKind.i64 ((↑(List.length x.snd.fst) : Int) - (32 : Int))) - (0 : Nat)) (List.drop ((0 : Nat)) x.snd.fst) →
  (0 : Int) ≤ x_1 ∧ x_1 < (256 : Int)) ∧ bif !frRdE (List.take (Int.toNat (IntKind.wrap IntKind.i64 ((↑(List.length x.snd.fst) : Int) - (32 : Int))) - (0 : Nat)) (List.drop ((0 : Nat)) x.snd.fst)) then ((((0 : Int), (0 : Int), ((0 : Int), (0 : Int), [], ()), (0 : Int), (0 : Int), [], ()), (3 : Int), ()), ()) = ((frTkF x.fst x.snd.fst, frTkE x.fst x.snd.fst, ()), ()) else True ∧ bif frChk (frRdF (List.take (Int.toNat (IntKind.wrap IntKind.i64 ((↑(List.length x.snd.fst) : Int) - (32 : Int))) - (0 : Nat)) (List.drop ((0 : Nat)) x.snd.fst))) != (0 : Int) then ((((0 : Int), (0 : Int), ((0 : Int), (0 : Int), [], ()), (0 : Int), (0 : Int), [], ()), (3 : Int), ()), ()) = ((frTkF x.fst x.snd.fst, frTkE x.fst x.snd.fst, ()), ()) else (0 : Int) ≤ (0 : Int) ∧ (0 : Int) ≤ IntKind.wrap IntKind.i64 ((↑(List.length x.snd.fst) : Int) - (32 : Int)) ∧ IntKind.wrap IntKind.i64 ((↑(List.length x.snd.fst) : Int) - (32 : Int)) ≤ (↑(List.length x.snd.fst) : Int) ∧ (0 : Int) ≤ IntKind.wrap IntKind.i64 ((↑(List.length x.snd.fst) : Int) - (32 : Int)) ∧ IntKind.wrap IntKind.i64 ((↑(List.length x.snd.fst) : Int) - (32 : Int)) ≤ (↑(List.length x.snd.fst) : Int) ∧ (↑(List.length x.snd.fst) : Int) ≤ (↑(List.length x.snd.fst) : Int) ∧ (List.length x.fst ≤ (1000000000 : Nat) ∧ List.length (List.take (Int.toNat (IntKind.wrap IntKind.i64 ((↑(List.length x.snd.fst) : Int) - (32 : Int))) - (0 : Nat)) (List.drop ((0 : Nat)) x.snd.fst)) ≤ (100000000 : Nat) ∧ ∀ (x_1 : Int), x_1 ∈ List.take (Int.toNat (↑(List.length x.snd.fst) : Int) - Int.toNat (IntKind.wrap IntKind.i64 ((↑(List.length x.snd.fst) : Int) - (32 : Int)))) (List.drop (Int.toNat (IntKind.wrap IntKind.i64 ((↑(List.length x.snd.fst) : Int) - (32 : Int)))) x.snd.fst) →
  (0 : Int) ≤ x_1 ∧ x_1 < (256 : Int)) ∧ bif (if List.take (Int.toNat (↑(List.length x.snd.fst) : Int) - Int.toNat (IntKind.wrap IntKind.i64 ((↑(List.length x.snd.fst) : Int) - (32 : Int)))) (List.drop (Int.toNat (IntKind.wrap IntKind.i64 ((↑(List.length x.snd.fst) : Int) - (32 : Int)))) x.snd.fst) = tagF x.fst (List.take (Int.toNat (IntKind.wrap IntKind.i64 ((↑(List.length x.snd.fst) : Int) - (32 : Int))) - (0 : Nat)) (List.drop ((0 : Nat)) x.snd.fst)) then (0 : Int) else (4 : Int)) != (0 : Int) then ((((0 : Int), (0 : Int), ((0 : Int), (0 : Int), [], ()), (0 : Int), (0 : Int), [], ()), (4 : Int), ()), ()) = ((frTkF x.fst x.snd.fst, frTkE x.fst x.snd.fst, ()), ()) else List.length (frRdF (List.take (Int.toNat (IntKind.wrap IntKind.i64 ((↑(List.length x.snd.fst) : Int) - (32 : Int))) - (0 : Nat)) (List.drop ((0 : Nat)) x.snd.fst))).snd.snd.snd.snd.snd.fst ≤ (1000000000000 : Nat) ∧ ((frRdF (List.take (Int.toNat (IntKind.wrap IntKind.i64 ((↑(List.length x.snd.fst) : Int) - (32 : Int))) - (0 : Nat)) (List.drop ((0 : Nat)) x.snd.fst)), (0 : Int), ()), ()) = ((frTkF x.fst x.snd.fst, frTkE x.fst x.snd.fst, ()), ())) := by kernel_rfl
theorem en_ftake (us : Array Value) (u : World) : (callFunc 19 us).run Tryd.prog u = .ok (.enter 19 us) u := by kernel_rfl
theorem sc_ftake : SC Tryd.prog 19 S_ftake := by
  refine SC.of Tryd.func19 (c := bodyOf Tryd.f19) (by kernel_rfl) (by kernel_rfl) (fun x => (by decide : (2:Nat) ≤ Tryd.f19.ntmps)) (DOk.cons sc_fread en_fread (DOk.cons sc_fchk en_fchk (DOk.cons sc_mchk en_mchk (DOk.cons sc_bcl en_bcl DOk.nil)))) (Eq.mpr vc_ftake ?_)
  rintro ⟨k, l, ⟨⟩⟩ ⟨hk, hl, hb⟩ - - -
  dsimp only at hk hl hb ⊢
  have hb' : byt l := hb
  have w32 : IntKind.i64.wrap ((l.length : Int) - 32) = (l.length : Int) - 32 := IntWalk.i64_in _ (by omega)
  rw [w32]
  by_cases h1 : l.length < 32
  · rw [decide_eq_true (by omega : (l.length : Int) - 32 < 0), cond_true]
    have e : frTkE k l = 3 := by unfold frTkE; rw [if_pos h1]
    rw [frTkF, e]; rfl
  rw [decide_eq_false (by omega), cond_false]
  have e1 : Int.toNat ((l.length : Int) - 32) = l.length - 32 := by omega
  have TT : List.take (l.length - 32 - 0) (List.drop 0 l) = l.take (l.length - 32) := by rw [List.drop_zero, Nat.sub_zero]
  have TD := dropT l (l.length - 32)
  simp only [e1, TT, TD]
  have hbt := byt_take hb' (l.length - 32)
  have hbd := byt_drop hb' (l.length - 32)
  refine ⟨by omega, by omega, by omega, hbt, ?_⟩
  cases h2 : frRdE (l.take (l.length - 32))
  · rw [Bool.not_false, cond_true]
    have e : frTkE k l = 3 := by unfold frTkE; rw [if_neg h1, h2]; rfl
    rw [frTkF, e]; rfl
  rw [Bool.not_true, cond_false]
  refine ⟨trivial, ?_⟩
  by_cases h3 : frChk (frRdF (l.take (l.length - 32))) = 0
  rotate_left 1
  · rw [bneT h3, cond_true]
    have e : frTkE k l = 3 := by unfold frTkE; rw [if_neg h1, h2, if_pos rfl, if_neg h3]
    rw [frTkF, e]; rfl
  rw [bneF h3, cond_false]
  refine ⟨by omega, by omega, by omega, by omega, by omega, by omega, ⟨hk, by rw [List.length_take]; omega, hbd⟩, ?_⟩
  by_cases h4 : l.drop (l.length - 32) = tagF k (l.take (l.length - 32))
  rotate_left 1
  · rw [if_neg h4, show ((4 : Int) != 0) = true from rfl, cond_true]
    have e : frTkE k l = 4 := by unfold frTkE; rw [if_neg h1, h2, if_pos rfl, if_pos h3, if_neg h4]
    rw [frTkF, e]; rfl
  rw [if_pos h4, show ((0 : Int) != 0) = false from rfl, cond_false]
  have e : frTkE k l = 0 := by unfold frTkE; rw [if_neg h1, h2, if_pos rfl, if_pos h3, if_pos h4]
  obtain ⟨_, _, _, _, _, _, _, _, c9⟩ := frChk_0 h3
  exact ⟨by rcases c9 with h | h <;> omega, by rw [frTkF, e]; rfl⟩
end Go.Proofs.YtjkbkhjalimebaaDoor
