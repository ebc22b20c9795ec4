/- The laws PostSize and PostFence. Printed by gen.py. -/
import Derived.Test.YtjkbkhjalimebaaDoorPL
namespace Go.Proofs.YtjkbkhjalimebaaDoor
open Go.RowKit DoorU
set_option linter.unusedVariables false
set_option linter.unusedSimpArgs false
set_option maxRecDepth 100000
set_option maxHeartbeats 1000000

namespace DoorU
theorem frChk_len {a b k q : Int} {s : Sta} {x y : List Int} (h : x.length = y.length) : frChk (a, b, s, k, q, x, ()) = frChk (a, b, s, k, q, y, ()) := by
  simp only [frChk, h]
theorem ps_size (c : Cfg) (p : Pos) (to now : Int) {b b' : List Int} (h : b'.length = b.length) :
    (psF c p to b now).2.2.1 = (psF c p to b' now).2.2.1 ∧ (((psF c p to b now).2.1 = [] ∧ (psF c p to b' now).2.1 = []) ∨
      ∃ y y' : List Int, (psF c p to b now).2.1 = [(to, y, true, ())] ∧ (psF c p to b' now).2.1 = [(to, y', true, ())] ∧ y.length = 60 + p.2.1.2.2.1.length + b.length ∧ y'.length = y.length) := by
  unfold psF
  by_cases h1 : isNodeF c to = false ∨ to = p.1 ∨ stChk p.2.1 ≠ 0
  · rw [if_pos h1, if_pos h1]
    exact ⟨rfl, .inl ⟨rfl, rfl⟩⟩
  rw [if_neg h1, if_neg h1]
  by_cases h2 : 65536 < b.length
  · rw [if_pos h2, if_pos (by omega)]
    exact ⟨rfl, .inl ⟨rfl, rfl⟩⟩
  rw [if_neg h2, if_neg (by omega)]
  refine ⟨rfl, ?_⟩
  dsimp only [sndQ, sendF]
  by_cases h3 : winC c ≤ ((linkE p to).2.1.2.1.length : Nat)
  · rw [if_pos h3, if_pos h3]
    exact .inl ⟨rfl, rfl⟩
  rw [if_neg h3, if_neg h3]
  have e : ∀ x : List Int, iparF c (sndP c p to x now) to [itm (linkE p to).2.1.1 x now] true = parF c (p.1, to, p.2.1, 1, (linkE p to).2.1.1, x, ()) true := fun x => by
    unfold iparF
    rw [List.flatMap_cons, List.flatMap_nil, List.append_nil]
    rfl
  show (_ ∧ _) ∨ _
  dsimp only
  rw [e b, e b']
  unfold parF
  have hE : frChk (p.1, to, p.2.1, 1, (linkE p to).2.1.1, b', ()) = frChk (p.1, to, p.2.1, 1, (linkE p to).2.1.1, b, ()) := frChk_len h
  by_cases h4 : frChk (p.1, to, p.2.1, 1, (linkE p to).2.1.1, b, ()) = 0
  · have h5 : frChk (p.1, to, p.2.1, 1, (linkE p to).2.1.1, b', ()) = 0 := by rw [hE]; exact h4
    rw [if_pos h4, if_pos h5]
    refine .inr ⟨_, _, rfl, rfl, frPutF_len _ h4, ?_⟩
    rw [frPutF_len _ h4, frPutF_len _ h5]
    dsimp only
    omega
  · rw [if_neg h4, if_neg (by rw [hE]; exact h4)]
    exact .inl ⟨rfl, rfl⟩
theorem stSame_refl (s : Sta) : stSame s s = true := by unfold stSame; simp
theorem goF_1 (p : Pos) (s : Sta) : (goF p s).1 = p.1 := by
  unfold goF
  split <;> rfl
theorem linkE_1 (p : Pos) (n : Int) (h : p.2.2.1 = []) : lnkL p.2.2.1 n = [newPe n] ∧ lnkI p.2.2.1 n = 0 ∧ (linkE p n).1 = n := by
  have a : lnkL p.2.2.1 n = [newPe n] := by rw [h]; rfl
  have b : lnkI p.2.2.1 n = 0 := by rw [h]; rfl
  refine ⟨a, b, ?_⟩
  unfold linkE
  rw [a, b]
  rfl
theorem putPe_1 (p : Pos) (n : Int) (q : Pee) (h : p.2.2.1 = []) : (putPe p n q).2.2.1 = [q] := by
  obtain ⟨a, b, _⟩ := linkE_1 p n h
  show (lnkL p.2.2.1 n).set (lnkI p.2.2.1 n) q = [q]
  rw [a, b]
  rfl
end DoorU
def S_size : Spec := ⟨.pair aC (.pair aPo (.pair nI (.pair lY (.pair lY (.pair nI .unit))))), .pair .bool .unit, fun (x : Cfg × Pos × Int × List Int × List Int × Int × Unit) => x.1.1.length ≤ big ∧ okPo x.2.1 ∧ okSt x.2.1.2.1 ∧ x.2.2.2.1.length ≤ big ∧ x.2.2.2.2.1.length ≤ big, fun _ => ((true, ()) : Bool × Unit)⟩
def A_size (x : Cfg × Pos × Int × List Int × List Int × Int × Unit) : Nat → Option LA
  | 0 => some ⟨[75], [], .pair nI .unit, fun (v : Int × Unit) => 0 ≤ v.1 ∧ v.1 ≤ 1, fun (v : Int × Unit) => (1 - v.1).toNat⟩
  | _ => none
def S_fence : Spec := ⟨.pair aC (.pair aPo (.pair nI (.pair aFr .unit))), .pair .bool .unit, fun (x : Cfg × Pos × Int × Fra × Unit) => x.1.1.length ≤ big ∧ okPo x.2.1 ∧ okSt x.2.1.2.1 ∧ okSt x.2.2.2.1.2.2.1 ∧ byt x.2.2.2.1.2.2.2.2.2.1 ∧ x.2.2.2.1.2.2.2.2.2.1.length ≤ big, fun _ => ((true, ()) : Bool × Unit)⟩

theorem vc_size : VC Tryd.prog Tryd.f5 (bodyOf Tryd.f5) S_size [(10, S_live), (11, S_may), (21, S_psend)] A_size = (∀ (x : (List Int × Int × Int × Int × Int × Int × Int × Int × Int × Int × Int × Unit) × (Int × (Int × Int × List Int × Unit) × List (Int × (Int × List (Int × List Int × Int × Unit) × List (List Int) × Unit) × (Int × List (Int × List Int × Int × Unit) × Unit) × Unit) × Unit) × Int × List Int × List Int × Int × Unit), List.length x.fst.fst ≤ big ∧ okPo x.snd.fst ∧ okSt x.snd.fst.snd.fst ∧ List.length x.snd.snd.snd.fst ≤ big ∧ List.length x.snd.snd.snd.snd.fst ≤ big →
  List.length x.fst.fst ≤ (9223372036854775807 : Nat) →
  List.length x.snd.fst.snd.fst.snd.snd.fst ≤ (9223372036854775807 : Nat) →
  List.length x.snd.fst.snd.snd.fst ≤ (9223372036854775807 : Nat) →
  List.length x.snd.snd.snd.fst ≤ (9223372036854775807 : Nat) →
  List.length x.snd.snd.snd.snd.fst ≤ (9223372036854775807 : Nat) →
  True ∧ okPo x.snd.fst ∧ bif !mayF x.fst x.snd.fst then (true, ()) = (true, ()) else List.length x.snd.snd.snd.fst ≤ (9223372036854775807 : Nat) →
  bif decide ((300 : Int) < (↑(List.length x.snd.snd.snd.fst) : Int)) then (true, ()) = (true, ()) else List.length x.snd.snd.snd.snd.fst ≤ (9223372036854775807 : Nat) →
  List.length x.snd.snd.snd.fst ≤ (9223372036854775807 : Nat) →
  bif (↑(List.length x.snd.snd.snd.snd.fst) : Int) != (↑(List.length x.snd.snd.snd.fst) : Int) then (true, ()) = (true, ()) else (List.length x.fst.fst ≤ big ∧ okPo x.snd.fst ∧ okSt x.snd.fst.snd.fst ∧ List.length x.snd.snd.snd.fst ≤ big) ∧ (List.length x.fst.fst ≤ big ∧ okPo x.snd.fst ∧ okSt x.snd.fst.snd.fst ∧ List.length x.snd.snd.snd.snd.fst ≤ big) ∧ bif (psF x.fst x.snd.fst x.snd.snd.fst x.snd.snd.snd.fst x.snd.snd.snd.snd.snd.fst).snd.snd.fst != (psF x.fst x.snd.fst x.snd.snd.fst x.snd.snd.snd.snd.fst x.snd.snd.snd.snd.snd.fst).snd.snd.fst then (false, ()) = (true, ()) else List.length (psF x.fst x.snd.fst x.snd.snd.fst x.snd.snd.snd.fst x.snd.snd.snd.snd.snd.fst).snd.fst ≤ (9223372036854775807 : Nat) →
  List.length (psF x.fst x.snd.fst x.snd.snd.fst x.snd.snd.snd.snd.fst x.snd.snd.snd.snd.snd.fst).snd.fst ≤ (9223372036854775807 : Nat) →
  bif (↑(List.length (psF x.fst x.snd.fst x.snd.snd.fst x.snd.snd.snd.fst x.snd.snd.snd.snd.snd.fst).snd.fst) : Int) != (↑(List.length (psF x.fst x.snd.fst x.snd.snd.fst x.snd.snd.snd.snd.fst x.snd.snd.snd.snd.snd.fst).snd.fst) : Int) then (false, ()) = (true, ()) else List.length (psF x.fst x.snd.fst x.snd.snd.fst x.snd.snd.snd.fst x.snd.snd.snd.snd.snd.fst).snd.fst ≤ (9223372036854775807 : Nat) →
  bif decide ((1 : Int) < (↑(List.length (psF x.fst x.snd.fst x.snd.snd.fst x.snd.snd.snd.fst x.snd.snd.snd.snd.snd.fst).snd.fst) : Int)) then (false, ()) = (true, ()) else List.length (psF x.fst x.snd.fst x.snd.snd.fst x.snd.snd.snd.fst x.snd.snd.snd.snd.snd.fst).snd.fst ≤ (9223372036854775807 : Nat) →
  ((0 : Int) ≤ (0 : Int) ∧ (0 : Int) ≤ (1 : Int)) ∧ ∀ (v : Int × Unit), (0 : Int) ≤ v.fst ∧ v.fst ≤ (1 : Int) →
  bif decide (v.fst < (↑(List.length (psF x.fst x.snd.fst x.snd.snd.fst x.snd.snd.snd.fst x.snd.snd.snd.snd.snd.fst).snd.fst) : Int)) then (0 : Int) ≤ v.fst ∧ v.fst < (↑(List.length (psF x.fst x.snd.fst x.snd.snd.fst x.snd.snd.snd.fst x.snd.snd.snd.snd.snd.fst).snd.fst) : Int) ∧ ∀ (c0 : Int × List Int × Bool × Unit), (psF x.fst x.snd.fst x.snd.snd.fst x.snd.snd.snd.fst x.snd.snd.snd.snd.snd.fst).snd.fst[Int.toNat v.fst]? = some c0 →
  bif c0.fst != x.snd.snd.fst then (false, ()) = (true, ()) else (0 : Int) ≤ v.fst ∧ v.fst < (↑(List.length (psF x.fst x.snd.fst x.snd.snd.fst x.snd.snd.snd.snd.fst x.snd.snd.snd.snd.snd.fst).snd.fst) : Int) ∧ ∀ (c0 : Int × List Int × Bool × Unit), (psF x.fst x.snd.fst x.snd.snd.fst x.snd.snd.snd.snd.fst x.snd.snd.snd.snd.snd.fst).snd.fst[Int.toNat v.fst]? = some c0 →
  bif c0.fst != x.snd.snd.fst then (false, ()) = (true, ()) else (0 : Int) ≤ v.fst ∧ v.fst < (↑(List.length (psF x.fst x.snd.fst x.snd.snd.fst x.snd.snd.snd.fst x.snd.snd.snd.snd.snd.fst).snd.fst) : Int) ∧ ∀ (c0 : Int × List Int × Bool × Unit), (psF x.fst x.snd.fst x.snd.snd.fst x.snd.snd.snd.fst x.snd.snd.snd.snd.snd.fst).snd.fst[Int.toNat v.fst]? = some c0 →
  bif !c0.snd.snd.fst then (false, ()) = (true, ()) else (0 : Int) ≤ v.fst ∧ v.fst < (↑(List.length (psF x.fst x.snd.fst x.snd.snd.fst x.snd.snd.snd.fst x.snd.snd.snd.snd.snd.fst).snd.fst) : Int) ∧ ∀ (c0 : Int × List Int × Bool × Unit), (psF x.fst x.snd.fst x.snd.snd.fst x.snd.snd.snd.fst x.snd.snd.snd.snd.snd.fst).snd.fst[Int.toNat v.fst]? = some c0 →
  (0 : Int) ≤ v.fst ∧ v.fst < (↑(List.length (psF x.fst x.snd.fst x.snd.snd.fst x.snd.snd.snd.snd.fst x.snd.snd.snd.snd.snd.fst).snd.fst) : Int) ∧ ∀ (c0_1 : Int × List Int × Bool × Unit), (psF x.fst x.snd.fst x.snd.snd.fst x.snd.snd.snd.snd.fst x.snd.snd.snd.snd.snd.fst).snd.fst[Int.toNat v.fst]? = some c0_1 →
  bif (↑(List.length c0.snd.fst) : Int) != (↑(List.length c0_1.snd.fst) : Int) then (false, ()) = (true, ()) else (0 : Int) ≤ v.fst ∧ v.fst < (↑(List.length (psF x.fst x.snd.fst x.snd.snd.fst x.snd.snd.snd.fst x.snd.snd.snd.snd.snd.fst).snd.fst) : Int) ∧ ∀ (c0 : Int × List Int × Bool × Unit), (psF x.fst x.snd.fst x.snd.snd.fst x.snd.snd.snd.fst x.snd.snd.snd.snd.snd.fst).snd.fst[Int.toNat v.fst]? = some c0 →
  bif (↑(List.length c0.snd.fst) : Int) != IntKind.wrap IntKind.i64 (IntKind.wrap IntKind.i64 ((60 : Int) + (↑(List.length x.snd.fst.snd.fst.snd.snd.fst) : Int)) + (↑(List.length x.snd.snd.snd.fst) : Int)) then (false, ()) = (true, ()) else ((0 : Int) ≤ IntKind.wrap IntKind.i64 (v.fst + (1 : Int)) ∧ IntKind.wrap IntKind.i64 (v.fst + (1 : Int)) ≤ (1 : Int)) ∧ Int.toNat ((1 : Int) - IntKind.wrap IntKind.i64 (v.fst + (1 : Int))) < Int.toNat ((1 : Int) - v.fst) else (true, ()) = (true, ())) := by kernel_rfl
theorem en_size (us : Array Value) (u : World) : (callFunc 5 us).run Tryd.prog u = .ok (.enter 5 us) u := by kernel_rfl
theorem sc_size : SC Tryd.prog 5 S_size := by
  refine SC.of Tryd.func5 (c := bodyOf Tryd.f5) (by kernel_rfl) (by kernel_rfl) (fun x => (by decide : (6:Nat) ≤ Tryd.f5.ntmps)) (DOk.cons sc_live en_live (DOk.cons sc_may en_may (DOk.cons sc_psend en_psend DOk.nil))) (Eq.mpr vc_size ?_)
  rintro ⟨c, p, to, b, b', now, ⟨⟩⟩ ⟨h1, h2, h3, h4, h5⟩ - - - - -
  dsimp only at h1 h2 h3 h4 h5 ⊢
  have e1 : p.2.1.2.2.1.length ≤ 1000000000 := h2.1
  have e2 : b.length ≤ 1000000000 := h4
  refine ⟨trivial, h2, ?_⟩
  cases hm : mayF c p
  · rfl
  rw [Bool.not_true, cond_false]
  intro _
  by_cases a1 : 300 < (b.length : Int)
  · rw [decide_eq_true a1, cond_true]
  rw [decide_eq_false a1, cond_false]
  intro _ _
  by_cases a2 : b'.length = b.length
  rotate_left 1
  · rw [bneT (by omega), cond_true]
  rw [bneF (by omega), cond_false]
  refine ⟨⟨h1, h2, h3, h4⟩, ⟨h1, h2, h3, h5⟩, ?_⟩
  obtain ⟨k1, k2⟩ := ps_size c p to now a2
  rw [bneF k1, cond_false]
  intro _ _
  rcases k2 with ⟨k2, k3⟩ | ⟨y, y', k2, k3, k4, k5⟩
  · rw [k2, k3, show ((([] : List Par).length : Nat) : Int) = 0 from rfl, bneF rfl, cond_false, show decide ((1 : Int) < 0) = false from rfl, cond_false]
    refine fun _ _ => ⟨⟨Int.le_refl 0, by omega⟩, ?_⟩
    rintro ⟨i, ⟨⟩⟩ ⟨q0, q1⟩
    dsimp only at q0 q1 ⊢
    rw [decide_eq_false (by omega : ¬ i < 0), cond_false]
  · rw [k2, k3, show ((([(to, y, true, ())] : List Par).length : Nat) : Int) = 1 from rfl, show ((([(to, y', true, ())] : List Par).length : Nat) : Int) = 1 from rfl, bneF rfl, cond_false, show decide ((1 : Int) < 1) = false from rfl, cond_false]
    refine fun _ _ => ⟨⟨Int.le_refl 0, by omega⟩, ?_⟩
    rintro ⟨i, ⟨⟩⟩ ⟨q0, q1⟩
    dsimp only at q0 q1 ⊢
    by_cases hi : i < 1
    rotate_left 1
    · rw [decide_eq_false hi, cond_false]
    obtain rfl : i = 0 := by omega
    have w1 : IntKind.i64.wrap (60 + (p.2.1.2.2.1.length : Int)) = 60 + (p.2.1.2.2.1.length : Int) := IntWalk.i64_in _ (by omega)
    have w2 : IntKind.i64.wrap (60 + (p.2.1.2.2.1.length : Int) + (b.length : Int)) = 60 + (p.2.1.2.2.1.length : Int) + (b.length : Int) := IntWalk.i64_in _ (by omega)
    rw [decide_eq_true hi, cond_true, w1, w2]
    refine ⟨q0, hi, fun d1 hd1 => ?_⟩
    obtain rfl := Option.some.inj hd1
    rw [bneF rfl, cond_false]
    refine ⟨q0, hi, fun d2 hd2 => ?_⟩
    obtain rfl := Option.some.inj hd2
    rw [bneF rfl, cond_false]
    refine ⟨q0, hi, fun d3 hd3 => ?_⟩
    obtain rfl := Option.some.inj hd3
    rw [Bool.not_true, cond_false]
    refine ⟨q0, hi, fun d4 hd4 => ?_⟩
    obtain rfl := Option.some.inj hd4
    refine ⟨q0, hi, fun d5 hd5 => ?_⟩
    obtain rfl := Option.some.inj hd5
    dsimp only
    rw [bneF (by omega), cond_false]
    refine ⟨q0, hi, fun d6 hd6 => ?_⟩
    obtain rfl := Option.some.inj hd6
    dsimp only
    rw [bneF (by omega), cond_false]
    exact ⟨⟨by decide, by decide⟩, by decide⟩

theorem vc_fence : VC Tryd.prog Tryd.f3 (bodyOf Tryd.f3) S_fence [(10, S_live), (11, S_may), (12, S_rnod), (15, S_nodes), (14, S_pair), (13, S_fput), (16, S_ptake), (17, S_scmp), (18, S_ssame)] (fun _ _ => none) = (∀ (x : (List Int × Int × Int × Int × Int × Int × Int × Int × Int × Int × Int × Unit) × (Int × (Int × Int × List Int × Unit) × List (Int × (Int × List (Int × List Int × Int × Unit) × List (List Int) × Unit) × (Int × List (Int × List Int × Int × Unit) × Unit) × Unit) × Unit) × Int × (Int × Int × (Int × Int × List Int × Unit) × Int × Int × List Int × Unit) × Unit), List.length x.fst.fst ≤ big ∧ okPo x.snd.fst ∧ okSt x.snd.fst.snd.fst ∧ okSt x.snd.snd.snd.fst.snd.snd.fst ∧ (∀ (x_1 : Int), x_1 ∈ x.snd.snd.snd.fst.snd.snd.snd.snd.snd.fst →
  (0 : Int) ≤ x_1 ∧ x_1 < (256 : Int)) ∧ List.length x.snd.snd.snd.fst.snd.snd.snd.snd.snd.fst ≤ big →
  List.length x.fst.fst ≤ (9223372036854775807 : Nat) →
  List.length x.snd.fst.snd.fst.snd.snd.fst ≤ (9223372036854775807 : Nat) →
  List.length x.snd.fst.snd.snd.fst ≤ (9223372036854775807 : Nat) →
  List.length x.snd.snd.snd.fst.snd.snd.fst.snd.snd.fst ≤ (9223372036854775807 : Nat) →
  List.length x.snd.snd.snd.fst.snd.snd.snd.snd.snd.fst ≤ (9223372036854775807 : Nat) →
  True ∧ okPo x.snd.fst ∧ bif !mayF x.fst x.snd.fst then (true, ()) = (true, ()) else bif decide ((300 : Int) < (↑(List.length x.snd.snd.snd.fst.snd.snd.snd.snd.snd.fst) : Int)) then (true, ()) = (true, ()) else bif decide ((60 : Int) < (↑(List.length x.snd.snd.snd.fst.snd.snd.fst.snd.snd.fst) : Int)) then (true, ()) = (true, ()) else bif decide (x.snd.fst.fst < (0 : Int)) then (true, ()) = (true, ()) else True ∧ bif decide (rnodF x.fst ≤ x.snd.fst.fst) then (true, ()) = (true, ()) else List.length x.fst.fst ≤ (1000000000 : Nat) ∧ (List.length (pairF x.fst x.snd.snd.fst x.snd.fst.fst) ≤ (1000000000 : Nat) ∧ okSt x.snd.snd.snd.fst.snd.snd.fst) ∧ bif frChk (x.snd.snd.fst, x.snd.fst.fst, x.snd.snd.snd.fst.snd.snd) != (0 : Int) then (true, ()) = (true, ()) else True ∧ bif decide (nodesF x.fst ≤ x.snd.snd.fst) then (true, ()) = (true, ()) else (List.length x.fst.fst ≤ big ∧ okPo x.snd.fst ∧ okSt x.snd.fst.snd.fst ∧ List.length (frPutF (pairF x.fst x.snd.snd.fst x.snd.fst.fst) (x.snd.snd.fst, x.snd.fst.fst, x.snd.snd.snd.fst.snd.snd)) ≤ (100000000 : Nat) ∧ ∀ (x_1 : Int), x_1 ∈ frPutF (pairF x.fst x.snd.snd.fst x.snd.fst.fst) (x.snd.snd.fst, x.snd.fst.fst, x.snd.snd.snd.fst.snd.snd) →
  (0 : Int) ≤ x_1 ∧ x_1 < (256 : Int)) ∧ True ∧ bif decide (stCmp x.snd.snd.snd.fst.snd.snd.fst x.snd.fst.snd.fst < (0 : Int)) then bif (ptF x.fst x.snd.fst x.snd.snd.fst (frPutF (pairF x.fst x.snd.snd.fst x.snd.fst.fst) (x.snd.snd.fst, x.snd.fst.fst, x.snd.snd.snd.fst.snd.snd)) (0 : Int)).snd.snd.snd.fst == (6 : Int) then List.length (ptF x.fst x.snd.fst x.snd.snd.fst (frPutF (pairF x.fst x.snd.snd.fst x.snd.fst.fst) (x.snd.snd.fst, x.snd.fst.fst, x.snd.snd.snd.fst.snd.snd)) (0 : Int)).snd.fst ≤ (9223372036854775807 : Nat) →
  List.length (ptF x.fst x.snd.fst x.snd.snd.fst (frPutF (pairF x.fst x.snd.snd.fst x.snd.fst.fst) (x.snd.snd.fst, x.snd.fst.fst, x.snd.snd.snd.fst.snd.snd)) (0 : Int)).snd.snd.fst ≤ (9223372036854775807 : Nat) →
  (IntKind.wrap IntKind.i64 ((↑(List.length (ptF x.fst x.snd.fst x.snd.snd.fst (frPutF (pairF x.fst x.snd.snd.fst x.snd.fst.fst) (x.snd.snd.fst, x.snd.fst.fst, x.snd.snd.snd.fst.snd.snd)) (0 : Int)).snd.fst) : Int) + (↑(List.length (ptF x.fst x.snd.fst x.snd.snd.fst (frPutF (pairF x.fst x.snd.snd.fst x.snd.fst.fst) (x.snd.snd.fst, x.snd.fst.fst, x.snd.snd.snd.fst.snd.snd)) (0 : Int)).snd.snd.fst) : Int)) == (0 : Int), ()) = (true, ()) else (false, ()) = (true, ()) else bif stCmp x.snd.snd.snd.fst.snd.snd.fst x.snd.fst.snd.fst == (0 : Int) then True ∧ bif !stSame x.snd.snd.snd.fst.snd.snd.fst x.snd.fst.snd.fst then bif (ptF x.fst x.snd.fst x.snd.snd.fst (frPutF (pairF x.fst x.snd.snd.fst x.snd.fst.fst) (x.snd.snd.fst, x.snd.fst.fst, x.snd.snd.snd.fst.snd.snd)) (0 : Int)).snd.snd.snd.fst == (6 : Int) then List.length (ptF x.fst x.snd.fst x.snd.snd.fst (frPutF (pairF x.fst x.snd.snd.fst x.snd.fst.fst) (x.snd.snd.fst, x.snd.fst.fst, x.snd.snd.snd.fst.snd.snd)) (0 : Int)).snd.fst ≤ (9223372036854775807 : Nat) →
  List.length (ptF x.fst x.snd.fst x.snd.snd.fst (frPutF (pairF x.fst x.snd.snd.fst x.snd.fst.fst) (x.snd.snd.fst, x.snd.fst.fst, x.snd.snd.snd.fst.snd.snd)) (0 : Int)).snd.snd.fst ≤ (9223372036854775807 : Nat) →
  (IntKind.wrap IntKind.i64 ((↑(List.length (ptF x.fst x.snd.fst x.snd.snd.fst (frPutF (pairF x.fst x.snd.snd.fst x.snd.fst.fst) (x.snd.snd.fst, x.snd.fst.fst, x.snd.snd.snd.fst.snd.snd)) (0 : Int)).snd.fst) : Int) + (↑(List.length (ptF x.fst x.snd.fst x.snd.snd.fst (frPutF (pairF x.fst x.snd.snd.fst x.snd.fst.fst) (x.snd.snd.fst, x.snd.fst.fst, x.snd.snd.snd.fst.snd.snd)) (0 : Int)).snd.snd.fst) : Int)) == (0 : Int), ()) = (true, ()) else (false, ()) = (true, ()) else bif decide ((0 : Int) < stCmp x.snd.snd.snd.fst.snd.snd.fst x.snd.fst.snd.fst) then bif (ptF x.fst x.snd.fst x.snd.snd.fst (frPutF (pairF x.fst x.snd.snd.fst x.snd.fst.fst) (x.snd.snd.fst, x.snd.fst.fst, x.snd.snd.snd.fst.snd.snd)) (0 : Int)).snd.snd.snd.fst == (0 : Int) then True ∧ bif stSame (ptF x.fst x.snd.fst x.snd.snd.fst (frPutF (pairF x.fst x.snd.snd.fst x.snd.fst.fst) (x.snd.snd.fst, x.snd.fst.fst, x.snd.snd.snd.fst.snd.snd)) (0 : Int)).fst.snd.fst x.snd.snd.snd.fst.snd.snd.fst then List.length (ptF x.fst x.snd.fst x.snd.snd.fst (frPutF (pairF x.fst x.snd.snd.fst x.snd.fst.fst) (x.snd.snd.fst, x.snd.fst.fst, x.snd.snd.snd.fst.snd.snd)) (0 : Int)).fst.snd.snd.fst ≤ (9223372036854775807 : Nat) →
  bif (↑(List.length (ptF x.fst x.snd.fst x.snd.snd.fst (frPutF (pairF x.fst x.snd.snd.fst x.snd.fst.fst) (x.snd.snd.fst, x.snd.fst.fst, x.snd.snd.snd.fst.snd.snd)) (0 : Int)).fst.snd.snd.fst) : Int) == (1 : Int) then (0 : Int) ≤ (0 : Int) ∧ (0 : Int) < (↑(List.length (ptF x.fst x.snd.fst x.snd.snd.fst (frPutF (pairF x.fst x.snd.snd.fst x.snd.fst.fst) (x.snd.snd.fst, x.snd.fst.fst, x.snd.snd.snd.fst.snd.snd)) (0 : Int)).fst.snd.snd.fst) : Int) ∧ ∀ (c0 : Int × (Int × List (Int × List Int × Int × Unit) × List (List Int) × Unit) × (Int × List (Int × List Int × Int × Unit) × Unit) × Unit), (ptF x.fst x.snd.fst x.snd.snd.fst (frPutF (pairF x.fst x.snd.snd.fst x.snd.fst.fst) (x.snd.snd.fst, x.snd.fst.fst, x.snd.snd.snd.fst.snd.snd)) (0 : Int)).fst.snd.snd.fst[(0 : Nat)]? = some c0 →
  bif c0.fst == x.snd.snd.fst then ((ptF x.fst x.snd.fst x.snd.snd.fst (frPutF (pairF x.fst x.snd.snd.fst x.snd.fst.fst) (x.snd.snd.fst, x.snd.fst.fst, x.snd.snd.snd.fst.snd.snd)) (0 : Int)).fst.fst == x.snd.fst.fst, ()) = (true, ()) else (false, ()) = (true, ()) else (false, ()) = (true, ()) else (false, ()) = (true, ()) else (false, ()) = (true, ()) else bif (ptF x.fst x.snd.fst x.snd.snd.fst (frPutF (pairF x.fst x.snd.snd.fst x.snd.fst.fst) (x.snd.snd.fst, x.snd.fst.fst, x.snd.snd.snd.fst.snd.snd)) (0 : Int)).snd.snd.snd.fst == (0 : Int) then True ∧ bif stSame (ptF x.fst x.snd.fst x.snd.snd.fst (frPutF (pairF x.fst x.snd.snd.fst x.snd.fst.fst) (x.snd.snd.fst, x.snd.fst.fst, x.snd.snd.snd.fst.snd.snd)) (0 : Int)).fst.snd.fst x.snd.fst.snd.fst then ((ptF x.fst x.snd.fst x.snd.snd.fst (frPutF (pairF x.fst x.snd.snd.fst x.snd.fst.fst) (x.snd.snd.fst, x.snd.fst.fst, x.snd.snd.snd.fst.snd.snd)) (0 : Int)).fst.fst == x.snd.fst.fst, ()) = (true, ()) else (false, ()) = (true, ()) else (false, ()) = (true, ()) else bif decide ((0 : Int) < stCmp x.snd.snd.snd.fst.snd.snd.fst x.snd.fst.snd.fst) then bif (ptF x.fst x.snd.fst x.snd.snd.fst (frPutF (pairF x.fst x.snd.snd.fst x.snd.fst.fst) (x.snd.snd.fst, x.snd.fst.fst, x.snd.snd.snd.fst.snd.snd)) (0 : Int)).snd.snd.snd.fst == (0 : Int) then True ∧ bif stSame (ptF x.fst x.snd.fst x.snd.snd.fst (frPutF (pairF x.fst x.snd.snd.fst x.snd.fst.fst) (x.snd.snd.fst, x.snd.fst.fst, x.snd.snd.snd.fst.snd.snd)) (0 : Int)).fst.snd.fst x.snd.snd.snd.fst.snd.snd.fst then List.length (ptF x.fst x.snd.fst x.snd.snd.fst (frPutF (pairF x.fst x.snd.snd.fst x.snd.fst.fst) (x.snd.snd.fst, x.snd.fst.fst, x.snd.snd.snd.fst.snd.snd)) (0 : Int)).fst.snd.snd.fst ≤ (9223372036854775807 : Nat) →
  bif (↑(List.length (ptF x.fst x.snd.fst x.snd.snd.fst (frPutF (pairF x.fst x.snd.snd.fst x.snd.fst.fst) (x.snd.snd.fst, x.snd.fst.fst, x.snd.snd.snd.fst.snd.snd)) (0 : Int)).fst.snd.snd.fst) : Int) == (1 : Int) then (0 : Int) ≤ (0 : Int) ∧ (0 : Int) < (↑(List.length (ptF x.fst x.snd.fst x.snd.snd.fst (frPutF (pairF x.fst x.snd.snd.fst x.snd.fst.fst) (x.snd.snd.fst, x.snd.fst.fst, x.snd.snd.snd.fst.snd.snd)) (0 : Int)).fst.snd.snd.fst) : Int) ∧ ∀ (c0 : Int × (Int × List (Int × List Int × Int × Unit) × List (List Int) × Unit) × (Int × List (Int × List Int × Int × Unit) × Unit) × Unit), (ptF x.fst x.snd.fst x.snd.snd.fst (frPutF (pairF x.fst x.snd.snd.fst x.snd.fst.fst) (x.snd.snd.fst, x.snd.fst.fst, x.snd.snd.snd.fst.snd.snd)) (0 : Int)).fst.snd.snd.fst[(0 : Nat)]? = some c0 →
  bif c0.fst == x.snd.snd.fst then ((ptF x.fst x.snd.fst x.snd.snd.fst (frPutF (pairF x.fst x.snd.snd.fst x.snd.fst.fst) (x.snd.snd.fst, x.snd.fst.fst, x.snd.snd.snd.fst.snd.snd)) (0 : Int)).fst.fst == x.snd.fst.fst, ()) = (true, ()) else (false, ()) = (true, ()) else (false, ()) = (true, ()) else (false, ()) = (true, ()) else (false, ()) = (true, ()) else bif (ptF x.fst x.snd.fst x.snd.snd.fst (frPutF (pairF x.fst x.snd.snd.fst x.snd.fst.fst) (x.snd.snd.fst, x.snd.fst.fst, x.snd.snd.snd.fst.snd.snd)) (0 : Int)).snd.snd.snd.fst == (0 : Int) then True ∧ bif stSame (ptF x.fst x.snd.fst x.snd.snd.fst (frPutF (pairF x.fst x.snd.snd.fst x.snd.fst.fst) (x.snd.snd.fst, x.snd.fst.fst, x.snd.snd.snd.fst.snd.snd)) (0 : Int)).fst.snd.fst x.snd.fst.snd.fst then ((ptF x.fst x.snd.fst x.snd.snd.fst (frPutF (pairF x.fst x.snd.snd.fst x.snd.fst.fst) (x.snd.snd.fst, x.snd.fst.fst, x.snd.snd.snd.fst.snd.snd)) (0 : Int)).fst.fst == x.snd.fst.fst, ()) = (true, ()) else (false, ()) = (true, ()) else (false, ()) = (true, ())) := by kernel_rfl
theorem en_fence (us : Array Value) (u : World) : (callFunc 3 us).run Tryd.prog u = .ok (.enter 3 us) u := by kernel_rfl
theorem sc_fence : SC Tryd.prog 3 S_fence := by
  refine SC.of Tryd.func3 (c := bodyOf Tryd.f3) (by kernel_rfl) (by kernel_rfl) (fun x => (by decide : (4:Nat) ≤ Tryd.f3.ntmps)) (DOk.cons sc_live en_live (DOk.cons sc_may en_may (DOk.cons sc_rnod en_rnod (DOk.cons sc_nodes en_nodes (DOk.cons sc_pair en_pair (DOk.cons sc_fput en_fput (DOk.cons sc_ptake en_ptake (DOk.cons sc_scmp en_scmp (DOk.cons sc_ssame en_ssame DOk.nil))))))))) (Eq.mpr vc_fence ?_)
  rintro ⟨c, p, n, ⟨fa, fb, fs, fk, fq, fbd, ⟨⟩⟩, ⟨⟩⟩ ⟨h1, h2, h3, h4, h5, h6⟩ - - - - -
  dsimp only at h1 h2 h3 h4 h5 h6 ⊢
  have e1 : c.1.length ≤ 1000000000 := h1
  have hb : byt fbd := h5
  refine ⟨trivial, h2, ?_⟩
  cases hm : mayF c p
  · rfl
  rw [Bool.not_true, cond_false]
  by_cases a1 : 300 < (fbd.length : Int)
  · rw [decide_eq_true a1, cond_true]
  rw [decide_eq_false a1, cond_false]
  by_cases a2 : 60 < (fs.2.2.1.length : Int)
  · rw [decide_eq_true a2, cond_true]
  rw [decide_eq_false a2, cond_false]
  by_cases a3 : p.1 < 0
  · rw [decide_eq_true a3, cond_true]
  rw [decide_eq_false a3, cond_false]
  refine ⟨trivial, ?_⟩
  by_cases a4 : rnodF c ≤ p.1
  · rw [decide_eq_true a4, cond_true]
  rw [decide_eq_false a4, cond_false]
  refine ⟨by omega, ⟨by rw [pairF_len]; omega, h4⟩, ?_⟩
  by_cases a5 : frChk (n, p.1, fs, fk, fq, fbd, ()) = 0
  rotate_left 1
  · rw [bneT a5, cond_true]
  rw [bneF a5, cond_false]
  refine ⟨trivial, ?_⟩
  by_cases a6 : nodesF c ≤ n
  · rw [decide_eq_true a6, cond_true]
  rw [decide_eq_false a6, cond_false]
  obtain ⟨c1, c2, c3, c4, c5, c6, c7, c8, c9⟩ := frChk_0 a5
  dsimp only at c1 c2 c3 c4 c5 c6 c7 c8 c9
  obtain ⟨t0, t1⟩ := frTk_put (pairF c n p.1) (f := (n, p.1, fs, fk, fq, fbd, ())) a5 h4
  have hN : isNodeF c n = true := by unfold isNodeF; rw [decide_eq_true c1, decide_eq_true (by omega)]; rfl
  have hno : ¬ (isNodeF c n = false ∨ n = p.1) := by
    rintro (h | h)
    · rw [hN] at h; cases h
    · exact c5 h
  have hn1 : ¬ ((n, p.1, fs, fk, fq, fbd, ()).1 ≠ n ∨ (n, p.1, fs, fk, fq, fbd, ()).2.1 ≠ p.1) := by
    rintro (h | h) <;> exact h rfl
  have hG : ptF c p n (frPutF (pairF c n p.1) (n, p.1, fs, fk, fq, fbd, ())) 0 = ptG c p n (n, p.1, fs, fk, fq, fbd, ()) 0 := by rw [ptF, if_neg hno, if_neg (fun h => h t0), t1]
  rw [ptG, if_neg hn1] at hG
  dsimp only at hG
  refine ⟨⟨h1, h2, h3, by rw [frPutF_len _ a5]; dsimp only; omega, frPutF_byt _ hb⟩, trivial, ?_⟩
  rw [hG]
  by_cases b1 : stCmp fs p.2.1 < 0
  · rw [decide_eq_true b1, cond_true, if_pos (.inl b1)]
    exact fun _ _ => rfl
  rw [decide_eq_false b1, cond_false]
  by_cases b2 : stCmp fs p.2.1 = 0
  · rw [beq_iff_eq.2 b2, cond_true]
    refine ⟨trivial, ?_⟩
    cases b3 : stSame fs p.2.1
    · rw [if_pos (.inr ⟨b2, rfl⟩), Bool.not_false, cond_true]
      exact fun _ _ => rfl
    · have hgo : goF p fs = p := by rw [goF, if_pos (by omega)]
      rw [Bool.not_true, cond_false, decide_eq_false (by omega : ¬ 0 < stCmp fs p.2.1), cond_false, if_neg (by
        rintro (h | ⟨_, h⟩)
        · exact b1 h
        · cases h)]
      by_cases hk : fk = 2
      · rw [if_pos hk]
        dsimp only
        generalize hQ : tkAP c p n (n, p.1, fs, fk, fq, fbd, ()) 0 = Q
        have q1 : Q.1 = p.1 := by rw [← hQ]; exact goF_1 p fs
        have q2 : Q.2.1 = p.2.1 := by rw [← hQ]; show (goF p fs).2.1 = p.2.1; rw [hgo]
        rw [show ((0 : Int) == 0) = true from rfl, cond_true, q2, stSame_refl, cond_true, q1, beq_self_eq_true]
        exact ⟨trivial, rfl⟩
      · rw [if_neg hk]
        dsimp only
        generalize hQ : tkTP c p n (n, p.1, fs, fk, fq, fbd, ()) = Q
        have q1 : Q.1 = p.1 := by rw [← hQ]; exact goF_1 p fs
        have q2 : Q.2.1 = p.2.1 := by rw [← hQ]; show (goF p fs).2.1 = p.2.1; rw [hgo]
        rw [show ((0 : Int) == 0) = true from rfl, cond_true, q2, stSame_refl, cond_true, q1, beq_self_eq_true]
        exact ⟨trivial, rfl⟩
  · have hgo : goF p fs = (p.1, fs, [], ()) := by rw [goF, if_neg (by omega)]
    rw [beq_eq_false_iff_ne.2 b2, cond_false, decide_eq_true (by omega : 0 < stCmp fs p.2.1), cond_true, if_neg (by
      rintro (h | ⟨h, _⟩)
      · exact b1 h
      · exact b2 h)]
    by_cases hk : fk = 2
    · rw [if_pos hk]
      dsimp only
      generalize hQ : tkAP c p n (n, p.1, fs, fk, fq, fbd, ()) 0 = Q
      have q1 : Q.1 = p.1 := by rw [← hQ]; exact goF_1 p fs
      have q2 : Q.2.1 = fs := by rw [← hQ]; show (goF p fs).2.1 = fs; rw [hgo]
      have q3 : ∃ q : Pee, q.1 = n ∧ Q.2.2.1 = [q] := by
        rw [← hQ]
        refine ⟨_, ?_, putPe_1 (goF p fs) n _ (by rw [hgo])⟩
        exact (linkE_1 (goF p fs) n (by rw [hgo])).2.2
      obtain ⟨q, qn, q3⟩ := q3
      rw [show ((0 : Int) == 0) = true from rfl, cond_true, q2, stSame_refl, cond_true, q3, q1]
      refine ⟨trivial, fun _ => ?_⟩
      rw [show ((([q] : List Pee).length : Nat) : Int) == 1 from rfl, cond_true]
      refine ⟨Int.le_refl _, by show (0 : Int) < 1; decide, fun d hd => ?_⟩
      obtain rfl := Option.some.inj hd
      rw [qn, beq_self_eq_true, cond_true, beq_self_eq_true]
    · rw [if_neg hk]
      dsimp only
      generalize hQ : tkTP c p n (n, p.1, fs, fk, fq, fbd, ()) = Q
      have q1 : Q.1 = p.1 := by rw [← hQ]; exact goF_1 p fs
      have q2 : Q.2.1 = fs := by rw [← hQ]; show (goF p fs).2.1 = fs; rw [hgo]
      have q3 : ∃ q : Pee, q.1 = n ∧ Q.2.2.1 = [q] := by
        rw [← hQ]
        refine ⟨_, ?_, putPe_1 (goF p fs) n _ (by rw [hgo])⟩
        exact (linkE_1 (goF p fs) n (by rw [hgo])).2.2
      obtain ⟨q, qn, q3⟩ := q3
      rw [show ((0 : Int) == 0) = true from rfl, cond_true, q2, stSame_refl, cond_true, q3, q1]
      refine ⟨trivial, fun _ => ?_⟩
      rw [show ((([q] : List Pee).length : Nat) : Int) == 1 from rfl, cond_true]
      refine ⟨Int.le_refl _, by show (0 : Int) < 1; decide, fun d hd => ?_⟩
      obtain rfl := Option.some.inj hd
      rw [qn, beq_self_eq_true, cond_true, beq_self_eq_true]
end Go.Proofs.YtjkbkhjalimebaaDoor
