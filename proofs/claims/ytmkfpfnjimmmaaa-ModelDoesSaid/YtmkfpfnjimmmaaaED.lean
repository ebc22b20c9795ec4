/- The words of what package model calls. Printed by gen.py. -/
import Derived.Test.YtmkfpfnjimmmaaaEC
namespace Go.Proofs.Ytmkfpfnjimmmaaa
open Go.RowKit DoorU
set_option linter.unusedVariables false
set_option linter.unusedSimpArgs false
set_option maxRecDepth 100000
set_option maxHeartbeats 1000000

theorem vc_clY : VC Try.prog Try.f93 (bodyOf Try.f93) S_clY [] (fun _ _ => none) = (∀ (x : List Int × Unit), List.length x.fst ≤ (140737488351232 : Nat) →
  List.length x.fst ≤ (9223372036854775807 : Nat) →
  (List.length x.fst = (0 : Nat) →
  ([], ()) = x) ∧ ((0 : Nat) + List.length x.fst) * (1 : Nat) ≤ (140737488355328 : Nat) ∧ ([] ++ x.fst, ()) = x) := by kernel_rfl
theorem en_clY (us : Array Value) (u : World) : (callFunc 93 us).run Try.prog u = .ok (.enter 93 us) u := by kernel_rfl
theorem sc_clY : SC Try.prog 93 S_clY := by
  refine SC.of Try.func93 (c := bodyOf Try.f93) (by kernel_rfl) (by kernel_rfl) (fun x => (by decide : (1:Nat) ≤ Try.f93.ntmps)) DOk.nil (Eq.mpr vc_clY ?_)
  rintro ⟨l, u⟩ h _
  dsimp only at h ⊢
  refine ⟨fun h0 => ?_, by simp only [Nat.zero_add]; omega, rfl⟩
  rw [List.length_eq_zero_iff.1 h0]

theorem vc_clL : VC Try.prog Try.f95 (bodyOf Try.f95) S_clL [] (fun _ _ => none) = (∀ (x : List (Bool × Int × Int × Int × List Int × Unit) × Unit), List.length x.fst * (56 : Nat) ≤ (140737488351232 : Nat) →
  List.length x.fst ≤ (9223372036854775807 : Nat) →
  (List.length x.fst = (0 : Nat) →
  ([], ()) = x) ∧ ((0 : Nat) + List.length x.fst) * (56 : Nat) ≤ (140737488355328 : Nat) ∧ ([] ++ x.fst, ()) = x) := by kernel_rfl
theorem en_clL (us : Array Value) (u : World) : (callFunc 95 us).run Try.prog u = .ok (.enter 95 us) u := by kernel_rfl
theorem sc_clL : SC Try.prog 95 S_clL := by
  refine SC.of Try.func95 (c := bodyOf Try.f95) (by kernel_rfl) (by kernel_rfl) (fun x => (by decide : (1:Nat) ≤ Try.f95.ntmps)) DOk.nil (Eq.mpr vc_clL ?_)
  rintro ⟨l, u⟩ h _
  dsimp only at h ⊢
  refine ⟨fun h0 => ?_, by simp only [Nat.zero_add]; omega, rfl⟩
  rw [List.length_eq_zero_iff.1 h0]

theorem vc_clQ : VC Try.prog Try.f109 (bodyOf Try.f109) S_clQ [] (fun _ _ => none) = (∀ (x : List (Int × List (Bool × Int × Int × Int × List Int × Unit) × Unit) × Unit), List.length x.fst * (32 : Nat) ≤ (140737488351232 : Nat) →
  List.length x.fst ≤ (9223372036854775807 : Nat) →
  (List.length x.fst = (0 : Nat) →
  ([], ()) = x) ∧ ((0 : Nat) + List.length x.fst) * (32 : Nat) ≤ (140737488355328 : Nat) ∧ ([] ++ x.fst, ()) = x) := by kernel_rfl
theorem en_clQ (us : Array Value) (u : World) : (callFunc 109 us).run Try.prog u = .ok (.enter 109 us) u := by kernel_rfl
theorem sc_clQ : SC Try.prog 109 S_clQ := by
  refine SC.of Try.func109 (c := bodyOf Try.f109) (by kernel_rfl) (by kernel_rfl) (fun x => (by decide : (1:Nat) ≤ Try.f109.ntmps)) DOk.nil (Eq.mpr vc_clQ ?_)
  rintro ⟨l, u⟩ h _
  dsimp only at h ⊢
  refine ⟨fun h0 => ?_, by simp only [Nat.zero_add]; omega, rfl⟩
  rw [List.length_eq_zero_iff.1 h0]

theorem vc_clI : VC Try.prog Try.f111 (bodyOf Try.f111) S_clI [] (fun _ _ => none) = (∀ (x : List Int × Unit), List.length x.fst * (8 : Nat) ≤ (140737488351232 : Nat) →
  List.length x.fst ≤ (9223372036854775807 : Nat) →
  (List.length x.fst = (0 : Nat) →
  ([], ()) = x) ∧ ((0 : Nat) + List.length x.fst) * (8 : Nat) ≤ (140737488355328 : Nat) ∧ ([] ++ x.fst, ()) = x) := by kernel_rfl
theorem en_clI (us : Array Value) (u : World) : (callFunc 111 us).run Try.prog u = .ok (.enter 111 us) u := by kernel_rfl
theorem sc_clI : SC Try.prog 111 S_clI := by
  refine SC.of Try.func111 (c := bodyOf Try.f111) (by kernel_rfl) (by kernel_rfl) (fun x => (by decide : (1:Nat) ≤ Try.f111.ntmps)) DOk.nil (Eq.mpr vc_clI ?_)
  rintro ⟨l, u⟩ h _
  dsimp only at h ⊢
  refine ⟨fun h0 => ?_, by simp only [Nat.zero_add]; omega, rfl⟩
  rw [List.length_eq_zero_iff.1 h0]

theorem vc_clB : VC Try.prog Try.f110 (bodyOf Try.f110) S_clB [] (fun _ _ => none) = (∀ (x : List (List (Bool × Int × Int × Int × List Int × Unit)) × Unit), List.length x.fst * (24 : Nat) ≤ (140737488351232 : Nat) →
  List.length x.fst ≤ (9223372036854775807 : Nat) →
  (List.length x.fst = (0 : Nat) →
  ([], ()) = x) ∧ ((0 : Nat) + List.length x.fst) * (24 : Nat) ≤ (140737488355328 : Nat) ∧ ([] ++ x.fst, ()) = x) := by kernel_rfl
theorem en_clB (us : Array Value) (u : World) : (callFunc 110 us).run Try.prog u = .ok (.enter 110 us) u := by kernel_rfl
theorem sc_clB : SC Try.prog 110 S_clB := by
  refine SC.of Try.func110 (c := bodyOf Try.f110) (by kernel_rfl) (by kernel_rfl) (fun x => (by decide : (1:Nat) ≤ Try.f110.ntmps)) DOk.nil (Eq.mpr vc_clB ?_)
  rintro ⟨l, u⟩ h _
  dsimp only at h ⊢
  refine ⟨fun h0 => ?_, by simp only [Nat.zero_add]; omega, rfl⟩
  rw [List.length_eq_zero_iff.1 h0]

theorem vc_puQ : VC Try.prog Try.f87 (bodyOf Try.f87) S_puQ [(109, S_clQ)] (fun _ _ => none) = (∀ (x : List (Int × List (Bool × Int × Int × Int × List Int × Unit) × Unit) × Int × (Int × List (Bool × Int × Int × Int × List Int × Unit) × Unit) × Unit), List.length x.fst * (32 : Nat) ≤ (140737488351232 : Nat) ∧ (0 : Int) ≤ x.snd.fst ∧ x.snd.fst < (↑(List.length x.fst) : Int) →
  List.length x.fst ≤ (9223372036854775807 : Nat) →
  List.length x.snd.snd.fst.snd.fst ≤ (9223372036854775807 : Nat) →
  List.length x.fst * (32 : Nat) ≤ (140737488351232 : Nat) ∧ (0 : Int) ≤ x.snd.fst ∧ x.snd.fst < (↑(List.length x.fst) : Int) ∧ Int.toNat x.snd.fst < List.length x.fst ∧ ∀ (x0 : Int × List (Bool × Int × Int × Int × List Int × Unit) × Unit), x.fst[Int.toNat x.snd.fst]? = some x0 →
  (List.set x.fst (Int.toNat x.snd.fst) x.snd.snd.fst, ()) = (List.set x.fst (Int.toNat x.snd.fst) x.snd.snd.fst, ())) := by kernel_rfl
theorem en_puQ (us : Array Value) (u : World) : (callFunc 87 us).run Try.prog u = .ok (.enter 87 us) u := by kernel_rfl
theorem sc_puQ : SC Try.prog 87 S_puQ := by
  refine SC.of Try.func87 (c := bodyOf Try.f87) (by kernel_rfl) (by kernel_rfl) (fun x => (by decide : (3:Nat) ≤ Try.f87.ntmps)) (DOk.cons sc_clQ en_clQ DOk.nil) (Eq.mpr vc_puQ ?_)
  rintro ⟨l, i, x, u⟩ ⟨h1, h2, h3⟩ _ _
  exact ⟨h1, h2, h3, by omega, fun _ _ => rfl⟩

theorem vc_puI : VC Try.prog Try.f96 (bodyOf Try.f96) S_puI [(111, S_clI)] (fun _ _ => none) = (∀ (x : List Int × Int × Int × Unit), List.length x.fst * (8 : Nat) ≤ (140737488351232 : Nat) ∧ (0 : Int) ≤ x.snd.fst ∧ x.snd.fst < (↑(List.length x.fst) : Int) →
  List.length x.fst ≤ (9223372036854775807 : Nat) →
  List.length x.fst * (8 : Nat) ≤ (140737488351232 : Nat) ∧ (0 : Int) ≤ x.snd.fst ∧ x.snd.fst < (↑(List.length x.fst) : Int) ∧ Int.toNat x.snd.fst < List.length x.fst ∧ ∀ (x0 : Int), x.fst[Int.toNat x.snd.fst]? = some x0 →
  (List.set x.fst (Int.toNat x.snd.fst) x.snd.snd.fst, ()) = (List.set x.fst (Int.toNat x.snd.fst) x.snd.snd.fst, ())) := by kernel_rfl
theorem en_puI (us : Array Value) (u : World) : (callFunc 96 us).run Try.prog u = .ok (.enter 96 us) u := by kernel_rfl
theorem sc_puI : SC Try.prog 96 S_puI := by
  refine SC.of Try.func96 (c := bodyOf Try.f96) (by kernel_rfl) (by kernel_rfl) (fun x => (by decide : (3:Nat) ≤ Try.f96.ntmps)) (DOk.cons sc_clI en_clI DOk.nil) (Eq.mpr vc_puI ?_)
  rintro ⟨l, i, x, u⟩ ⟨h1, h2, h3⟩ _ 
  exact ⟨h1, h2, h3, by omega, fun _ _ => rfl⟩

theorem vc_puB : VC Try.prog Try.f94 (bodyOf Try.f94) S_puB [(110, S_clB)] (fun _ _ => none) = (∀ (x : List (List (Bool × Int × Int × Int × List Int × Unit)) × Int × List (Bool × Int × Int × Int × List Int × Unit) × Unit), List.length x.fst * (24 : Nat) ≤ (140737488351232 : Nat) ∧ (0 : Int) ≤ x.snd.fst ∧ x.snd.fst < (↑(List.length x.fst) : Int) →
  List.length x.fst ≤ (9223372036854775807 : Nat) →
  List.length x.snd.snd.fst ≤ (9223372036854775807 : Nat) →
  List.length x.fst * (24 : Nat) ≤ (140737488351232 : Nat) ∧ (0 : Int) ≤ x.snd.fst ∧ x.snd.fst < (↑(List.length x.fst) : Int) ∧ Int.toNat x.snd.fst < List.length x.fst ∧ ∀ (x0 : List (Bool × Int × Int × Int × List Int × Unit)), x.fst[Int.toNat x.snd.fst]? = some x0 →
  (List.set x.fst (Int.toNat x.snd.fst) x.snd.snd.fst, ()) = (List.set x.fst (Int.toNat x.snd.fst) x.snd.snd.fst, ())) := by kernel_rfl
theorem en_puB (us : Array Value) (u : World) : (callFunc 94 us).run Try.prog u = .ok (.enter 94 us) u := by kernel_rfl
theorem sc_puB : SC Try.prog 94 S_puB := by
  refine SC.of Try.func94 (c := bodyOf Try.f94) (by kernel_rfl) (by kernel_rfl) (fun x => (by decide : (3:Nat) ≤ Try.f94.ntmps)) (DOk.cons sc_clB en_clB DOk.nil) (Eq.mpr vc_puB ?_)
  rintro ⟨l, i, x, u⟩ ⟨h1, h2, h3⟩ _ _
  exact ⟨h1, h2, h3, by omega, fun _ _ => rfl⟩

theorem vc_cop : VC Try.prog Try.f107 (bodyOf Try.f107) S_cop [(93, S_clY)] A_cop = (∀ (x : (Int × List (Bool × Int × Int × Int × List Int × Unit) × Unit) × Unit), smQ x.fst →
  List.length x.fst.snd.fst ≤ (9223372036854775807 : Nat) →
  List.length x.fst.snd.fst ≤ (9223372036854775807 : Nat) →
  (0 : Int) ≤ (0 : Int) ∧ (0 : Int) ≤ IntKind.wrap IntKind.i64 ((↑(List.length x.fst.snd.fst) : Int) + (1 : Int)) ∧ (56 : Int) * IntKind.wrap IntKind.i64 ((↑(List.length x.fst.snd.fst) : Int) + (1 : Int)) ≤ (281474976710656 : Int) ∧ IntKind.wrap IntKind.i64 ((↑(List.length x.fst.snd.fst) : Int) + (1 : Int)) ≤ (140737488351232 : Int) ∧ (List.length x.fst.snd.fst ≤ (9223372036854775807 : Nat) →
  inv1 x.fst.snd.fst (0 : Int) [] ∧ ∀ (v : Int × List (Bool × Int × Int × Int × List Int × Unit) × Unit), inv1 x.fst.snd.fst v.fst v.snd.fst →
  bif decide (v.fst < (↑(List.length x.fst.snd.fst) : Int)) then (0 : Int) ≤ v.fst ∧ v.fst < (↑(List.length x.fst.snd.fst) : Int) ∧ ∀ (c0 : Bool × Int × Int × Int × List Int × Unit), x.fst.snd.fst[Int.toNat v.fst]? = some c0 →
  List.length c0.snd.snd.snd.snd.fst ≤ (140737488351232 : Nat) ∧ (List.length v.snd.fst + List.length [c0]) * (56 : Nat) ≤ (140737488355328 : Nat) ∧ inv1 x.fst.snd.fst (IntKind.wrap IntKind.i64 (v.fst + (1 : Int))) (v.snd.fst ++ [c0]) ∧ Int.toNat ((↑(List.length x.fst.snd.fst) : Int) - IntKind.wrap IntKind.i64 (v.fst + (1 : Int))) < Int.toNat ((↑(List.length x.fst.snd.fst) : Int) - v.fst) else ((x.fst.fst, v.snd), ()) = x)) := by kernel_rfl
theorem en_cop (us : Array Value) (u : World) : (callFunc 107 us).run Try.prog u = .ok (.enter 107 us) u := by kernel_rfl
theorem sc_cop : SC Try.prog 107 S_cop := by
  refine SC.of Try.func107 (c := bodyOf Try.f107) (by kernel_rfl) (by kernel_rfl) (fun x => (by decide : (1:Nat) ≤ Try.f107.ntmps)) (DOk.cons sc_clY en_clY DOk.nil) (Eq.mpr vc_cop ?_)
  rintro ⟨⟨nx, l, u⟩, u'⟩ ⟨h1, h2⟩ _ _
  dsimp only at h1 h2 ⊢
  have e1 : IntKind.i64.wrap ((l.length : Int) + 1) = (l.length : Int) + 1 := IntWalk.i64_in _ (by omega)
  rw [e1]
  refine ⟨by decide, by omega, by omega, by omega, fun _ => ⟨⟨by decide, by omega, rfl⟩, ?_⟩⟩
  rintro ⟨i, b, u⟩ ⟨h3, h4, h5⟩
  dsimp only at h3 h4 h5 ⊢
  subst h5
  by_cases hc : i < (l.length : Int)
  · rw [decide_eq_true hc]
    refine ⟨h3, hc, fun c0 hc0 => ?_⟩
    have e2 : IntKind.i64.wrap (i + 1) = i + 1 := IntWalk.i64_in _ (by omega)
    have e3 : (i + 1).toNat = i.toNat + 1 := by omega
    rw [e2]
    dsimp only [inv1]
    rw [e3]
    have h6 := h2 c0 (List.mem_of_getElem? hc0)
    refine ⟨by omega, by simp only [List.length_append, List.length_take, List.length_cons, List.length_nil]; omega, ⟨by omega, by omega, ?_⟩, by omega⟩
    rw [List.take_add_one, hc0]
    rfl
  · rw [decide_eq_false hc]
    have : i.toNat = l.length := by omega
    rw [this, List.take_length]
    rfl

theorem vc_wit : VC Try.prog Try.f106 (bodyOf Try.f106) S_wit [] (fun _ _ => none) = (∀ (x : Int × Int × Int × Unit), True →
  bif decide (x.snd.fst ≤ x.fst) then (decide (x.fst ≤ x.snd.snd.fst), ()) = (wit x.fst x.snd.fst x.snd.snd.fst, ()) else (false, ()) = (wit x.fst x.snd.fst x.snd.snd.fst, ())) := by kernel_rfl
theorem en_wit (us : Array Value) (u : World) : (callFunc 106 us).run Try.prog u = .ok (.enter 106 us) u := by kernel_rfl
theorem sc_wit : SC Try.prog 106 S_wit := by
  refine SC.of Try.func106 (c := bodyOf Try.f106) (by kernel_rfl) (by kernel_rfl) (fun x => (by decide : (3:Nat) ≤ Try.f106.ntmps)) DOk.nil (Eq.mpr vc_wit ?_)
  rintro ⟨a, b, c, u⟩ -
  dsimp only [wit]
  cases h : decide (b ≤ a) <;> simp_all

theorem vc_rwit : VC Try.prog Try.f99 (bodyOf Try.f99) S_wit [] (fun _ _ => none) = (∀ (x : Int × Int × Int × Unit), True →
  bif decide (x.snd.fst ≤ x.fst) then (decide (x.fst ≤ x.snd.snd.fst), ()) = (wit x.fst x.snd.fst x.snd.snd.fst, ()) else (false, ()) = (wit x.fst x.snd.fst x.snd.snd.fst, ())) := by kernel_rfl
theorem en_rwit (us : Array Value) (u : World) : (callFunc 99 us).run Try.prog u = .ok (.enter 99 us) u := by kernel_rfl
theorem sc_rwit : SC Try.prog 99 S_wit := by
  refine SC.of Try.func99 (c := bodyOf Try.f99) (by kernel_rfl) (by kernel_rfl) (fun x => (by decide : (3:Nat) ≤ Try.f99.ntmps)) DOk.nil (Eq.mpr vc_rwit ?_)
  rintro ⟨a, b, c, u⟩ -
  dsimp only [wit]
  cases h : decide (b ≤ a) <;> simp_all

theorem vc_chk : VC Try.prog Try.f82 (bodyOf Try.f82) S_chk [(106, S_wit)] (fun _ _ => none) = (∀ (x : (List Int × Int × Int × Int × Int × Int × Int × Int × Int × Int × Int × Unit) × Unit), True →
  List.length x.fst.fst ≤ (9223372036854775807 : Nat) →
  List.length x.fst.fst ≤ (9223372036854775807 : Nat) →
  bif decide ((64 : Int) < (↑(List.length x.fst.fst) : Int)) then ((1 : Int), ()) = (chk x.fst, ()) else True ∧ bif !wit x.fst.snd.fst (1 : Int) (8 : Int) then ((1 : Int), ()) = (chk x.fst, ()) else True ∧ bif !wit x.fst.snd.snd.fst (0 : Int) (8 : Int) then ((1 : Int), ()) = (chk x.fst, ()) else True ∧ bif !wit x.fst.snd.snd.snd.fst (1 : Int) (8 : Int) then ((1 : Int), ()) = (chk x.fst, ()) else True ∧ bif !wit x.fst.snd.snd.snd.snd.fst (1 : Int) (64 : Int) then ((1 : Int), ()) = (chk x.fst, ()) else True ∧ bif !wit x.fst.snd.snd.snd.snd.snd.fst (1 : Int) (10000 : Int) then ((1 : Int), ()) = (chk x.fst, ()) else bif decide (x.fst.snd.snd.snd.snd.snd.snd.fst ≤ x.fst.snd.snd.snd.snd.snd.fst) then ((1 : Int), ()) = (chk x.fst, ()) else bif decide ((10000 : Int) < x.fst.snd.snd.snd.snd.snd.snd.fst) then ((1 : Int), ()) = (chk x.fst, ()) else True ∧ bif !wit x.fst.snd.snd.snd.snd.snd.snd.snd.fst (1 : Int) (10000 : Int) then ((1 : Int), ()) = (chk x.fst, ()) else True ∧ bif !wit x.fst.snd.snd.snd.snd.snd.snd.snd.snd.fst (1 : Int) (64 : Int) then ((1 : Int), ()) = (chk x.fst, ()) else bif decide (x.fst.snd.snd.snd.snd.snd.snd.snd.snd.snd.fst < (1 : Int)) then ((1 : Int), ()) = (chk x.fst, ()) else bif decide (x.fst.snd.snd.snd.snd.snd.snd.snd.snd.snd.snd.fst < (1 : Int)) then ((1 : Int), ()) = (chk x.fst, ()) else ((0 : Int), ()) = (chk x.fst, ())) := by kernel_rfl
theorem en_chk (us : Array Value) (u : World) : (callFunc 82 us).run Try.prog u = .ok (.enter 82 us) u := by kernel_rfl
theorem sc_chk : SC Try.prog 82 S_chk := by
  refine SC.of Try.func82 (c := bodyOf Try.f82) (by kernel_rfl) (by kernel_rfl) (fun x => (by decide : (1:Nat) ≤ Try.f82.ntmps)) (DOk.cons sc_wit en_wit DOk.nil) (Eq.mpr vc_chk ?_)
  rintro ⟨⟨a, b, c, d, e, f, g, h, i, j, k, u⟩, u'⟩ - h1 h2
  dsimp only [chk, okC]
  have nl : ∀ a b : Int, decide (a ≤ b) = !decide (b < a) := fun a b => by rw [Bool.eq_iff_iff]; simp
  have e1 : decide (a.length ≤ 64) = !decide ((64 : Int) < (a.length : Int)) := by rw [Bool.eq_iff_iff]; simp; omega
  simp only [e1, nl, true_and]
  cases decide ((64 : Int) < (a.length : Int)) <;> simp only [Bool.not_true, Bool.not_false, Bool.true_and, Bool.false_and, cond_true, cond_false]
  cases wit b 1 8 <;> simp only [Bool.not_true, Bool.not_false, Bool.true_and, Bool.false_and, cond_true, cond_false]
  cases wit c 0 8 <;> simp only [Bool.not_true, Bool.not_false, Bool.true_and, Bool.false_and, cond_true, cond_false]
  cases wit d 1 8 <;> simp only [Bool.not_true, Bool.not_false, Bool.true_and, Bool.false_and, cond_true, cond_false]
  cases wit e 1 64 <;> simp only [Bool.not_true, Bool.not_false, Bool.true_and, Bool.false_and, cond_true, cond_false]
  cases wit f 1 10000 <;> simp only [Bool.not_true, Bool.not_false, Bool.true_and, Bool.false_and, cond_true, cond_false]
  cases decide (f < g) <;> simp only [Bool.not_true, Bool.not_false, Bool.true_and, Bool.false_and, cond_true, cond_false]
  cases decide (10000 < g) <;> simp only [Bool.not_true, Bool.not_false, Bool.true_and, Bool.false_and, cond_true, cond_false]
  cases wit h 1 10000 <;> simp only [Bool.not_true, Bool.not_false, Bool.true_and, Bool.false_and, cond_true, cond_false]
  cases wit i 1 64 <;> simp only [Bool.not_true, Bool.not_false, Bool.true_and, Bool.false_and, cond_true, cond_false]
  cases decide (j < 1) <;> simp only [Bool.not_true, Bool.not_false, Bool.true_and, Bool.false_and, cond_true, cond_false]
  cases decide (k < 1) <;> rfl
theorem en_plain (us : Array Value) (u : World) : (callFunc 80 us).run Try.prog u = .ok (.enter 80 us) u := by kernel_rfl
theorem sc_plain : SC Try.prog 80 S_plain := by
  refine SC.of Try.func80 (c := bodyOf Try.f80) (ann := fun _ _ => none) (by kernel_rfl) (by kernel_rfl) (fun x => (by decide : (0:Nat) ≤ Try.f80.ntmps)) DOk.nil ?_
  intro x _
  rfl
theorem en_qNew (us : Array Value) (u : World) : (callFunc 83 us).run Try.prog u = .ok (.enter 83 us) u := by kernel_rfl
theorem sc_qNew : SC Try.prog 83 S_qNew := by
  refine SC.of Try.func83 (c := bodyOf Try.f83) (ann := fun _ _ => none) (by kernel_rfl) (by kernel_rfl) (fun x => (by decide : (1:Nat) ≤ Try.f83.ntmps)) DOk.nil ?_
  intro x _
  rfl

theorem vc_cli : VC Try.prog Try.f108 (bodyOf Try.f108) S_cli [] (fun _ _ => none) = (∀ (x : (List Int × Int × Int × Int × Int × Int × Int × Int × Int × Int × Int × Unit) × Int × Unit), True →
  List.length x.fst.fst ≤ (9223372036854775807 : Nat) →
  bif decide ((0 : Int) ≤ x.snd.fst) then (decide (x.snd.fst < x.fst.snd.snd.snd.fst), ()) = (cli x.fst x.snd.fst, ()) else (false, ()) = (cli x.fst x.snd.fst, ())) := by kernel_rfl
theorem en_cli (us : Array Value) (u : World) : (callFunc 108 us).run Try.prog u = .ok (.enter 108 us) u := by kernel_rfl
theorem sc_cli : SC Try.prog 108 S_cli := by
  refine SC.of Try.func108 (c := bodyOf Try.f108) (by kernel_rfl) (by kernel_rfl) (fun x => (by decide : (2:Nat) ≤ Try.f108.ntmps)) DOk.nil (Eq.mpr vc_cli ?_)
  rintro ⟨⟨a, b, c, d, e, f, g, h, i, j, k, u⟩, n, u'⟩ - _
  dsimp only [cli]
  cases h : decide ((0 : Int) ≤ n) <;> simp_all

theorem vc_qPut : VC Try.prog Try.f86 (bodyOf Try.f86) S_qPut [(107, S_cop), (108, S_cli), (93, S_clY)] (fun _ _ => none) = (∀ (x : (List Int × Int × Int × Int × Int × Int × Int × Int × Int × Int × Int × Unit) × (Int × List (Bool × Int × Int × Int × List Int × Unit) × Unit) × Int × Int × List Int × Unit), smQ x.snd.fst ∧ List.length x.snd.snd.snd.snd.fst ≤ (1000 : Nat) →
  List.length x.fst.fst ≤ (9223372036854775807 : Nat) →
  List.length x.snd.fst.snd.fst ≤ (9223372036854775807 : Nat) →
  List.length x.snd.snd.snd.snd.fst ≤ (9223372036854775807 : Nat) →
  smQ x.snd.fst ∧ True ∧ bif !cli x.fst x.snd.snd.fst then ((x.snd.fst, (3 : Int), ()), ()) = (((qPut x.fst x.snd.fst x.snd.snd.fst x.snd.snd.snd.fst x.snd.snd.snd.snd.fst).fst, (qPut x.fst x.snd.fst x.snd.snd.fst x.snd.snd.snd.fst x.snd.snd.snd.snd.fst).snd, ()), ()) else True ∧ bif !cli x.fst x.snd.snd.snd.fst then ((x.snd.fst, (3 : Int), ()), ()) = (((qPut x.fst x.snd.fst x.snd.snd.fst x.snd.snd.snd.fst x.snd.snd.snd.snd.fst).fst, (qPut x.fst x.snd.fst x.snd.snd.fst x.snd.snd.snd.fst x.snd.snd.snd.snd.fst).snd, ()), ()) else List.length x.snd.snd.snd.snd.fst ≤ (9223372036854775807 : Nat) →
  bif decide ((64 : Int) < (↑(List.length x.snd.snd.snd.snd.fst) : Int)) then ((x.snd.fst, (3 : Int), ()), ()) = (((qPut x.fst x.snd.fst x.snd.snd.fst x.snd.snd.snd.fst x.snd.snd.snd.snd.fst).fst, (qPut x.fst x.snd.fst x.snd.snd.fst x.snd.snd.snd.fst x.snd.snd.snd.snd.fst).snd, ()), ()) else bif x.snd.fst.fst == (18446744073709551615 : Int) then ((x.snd.fst, (4 : Int), ()), ()) = (((qPut x.fst x.snd.fst x.snd.snd.fst x.snd.snd.snd.fst x.snd.snd.snd.snd.fst).fst, (qPut x.fst x.snd.fst x.snd.snd.fst x.snd.snd.snd.fst x.snd.snd.snd.snd.fst).snd, ()), ()) else bif decide (x.fst.snd.snd.snd.snd.fst ≤ (↑(List.length x.snd.fst.snd.fst) : Int)) then ((x.snd.fst, (2 : Int), ()), ()) = (((qPut x.fst x.snd.fst x.snd.snd.fst x.snd.snd.snd.fst x.snd.snd.snd.snd.fst).fst, (qPut x.fst x.snd.fst x.snd.snd.fst x.snd.snd.snd.fst x.snd.snd.snd.snd.fst).snd, ()), ()) else List.length x.snd.snd.snd.snd.fst ≤ (140737488351232 : Nat) ∧ (List.length x.snd.fst.snd.fst + List.length [(false, x.snd.snd.fst, x.snd.snd.snd.fst, x.snd.fst.fst, x.snd.snd.snd.snd)]) * (56 : Nat) ≤ (140737488355328 : Nat) ∧ (((IntKind.wrap IntKind.u64 (x.snd.fst.fst + (1 : Int)), x.snd.fst.snd.fst ++ [(false, x.snd.snd.fst, x.snd.snd.snd.fst, x.snd.fst.fst, x.snd.snd.snd.snd)], ()), (1 : Int), ()), ()) = (((qPut x.fst x.snd.fst x.snd.snd.fst x.snd.snd.snd.fst x.snd.snd.snd.snd.fst).fst, (qPut x.fst x.snd.fst x.snd.snd.fst x.snd.snd.snd.fst x.snd.snd.snd.snd.fst).snd, ()), ())) := by kernel_rfl
theorem en_qPut (us : Array Value) (u : World) : (callFunc 86 us).run Try.prog u = .ok (.enter 86 us) u := by kernel_rfl
theorem sc_qPut : SC Try.prog 86 S_qPut := by
  refine SC.of Try.func86 (c := bodyOf Try.f86) (by kernel_rfl) (by kernel_rfl) (fun x => (by decide : (5:Nat) ≤ Try.f86.ntmps)) (DOk.cons sc_cop en_cop (DOk.cons sc_cli en_cli (DOk.cons sc_clY en_clY DOk.nil))) (Eq.mpr vc_qPut ?_)
  rintro ⟨⟨a, b, c, d, e, f, g, h, i, j, k, ⟨⟩⟩, ⟨nx, l, ⟨⟩⟩, fr, to, text, ⟨⟩⟩ ⟨h1, h2⟩ _ _ _
  dsimp only [qPut] at h1 h2 ⊢
  refine ⟨h1, trivial, ?_⟩
  cases q1 : cli (a, b, c, d, e, f, g, h, i, j, k, ()) fr
  · rfl
  refine ⟨trivial, ?_⟩
  cases q2 : cli (a, b, c, d, e, f, g, h, i, j, k, ()) to
  · rfl
  intro _
  have e1 : decide ((64 : Int) < (text.length : Int)) = decide (64 < text.length) := by rw [Bool.eq_iff_iff]; simp; omega
  rw [e1]
  cases q3 : decide (64 < text.length)
  case true => rfl
  have e2 : (nx == 18446744073709551615) = decide (nx = 18446744073709551615) := by rw [Bool.eq_iff_iff]; simp
  rw [e2]
  cases q4 : decide (nx = 18446744073709551615)
  case true => rfl
  cases q5 : decide (e ≤ (l.length : Int))
  case true => rfl
  have h3 := h1.1
  dsimp only at h3
  exact ⟨by omega, by simp only [List.length_cons, List.length_nil]; omega, rfl⟩

theorem vc_qHead : VC Try.prog Try.f97 (bodyOf Try.f97) S_qHead [(93, S_clY)] (fun _ _ => none) = (∀ (x : (Int × List (Bool × Int × Int × Int × List Int × Unit) × Unit) × Unit), smQ x.fst →
  List.length x.fst.snd.fst ≤ (9223372036854775807 : Nat) →
  List.length x.fst.snd.fst ≤ (9223372036854775807 : Nat) →
  bif (↑(List.length x.fst.snd.fst) : Int) == (0 : Int) then (((false, (0 : Int), (0 : Int), (0 : Int), [], ()), false, ()), ()) = (((qHead x.fst).fst, (qHead x.fst).snd, ()), ()) else (0 : Int) ≤ (0 : Int) ∧ (0 : Int) < (↑(List.length x.fst.snd.fst) : Int) ∧ ∀ (c0 : Bool × Int × Int × Int × List Int × Unit), x.fst.snd.fst[(0 : Nat)]? = some c0 →
  List.length c0.snd.snd.snd.snd.fst ≤ (140737488351232 : Nat) ∧ ((c0, true, ()), ()) = (((qHead x.fst).fst, (qHead x.fst).snd, ()), ())) := by kernel_rfl
theorem en_qHead (us : Array Value) (u : World) : (callFunc 97 us).run Try.prog u = .ok (.enter 97 us) u := by kernel_rfl
theorem sc_qHead : SC Try.prog 97 S_qHead := by
  refine SC.of Try.func97 (c := bodyOf Try.f97) (by kernel_rfl) (by kernel_rfl) (fun x => (by decide : (1:Nat) ≤ Try.f97.ntmps)) (DOk.cons sc_clY en_clY DOk.nil) (Eq.mpr vc_qHead ?_)
  rintro ⟨⟨nx, l, ⟨⟩⟩, ⟨⟩⟩ h1 _ _
  cases l with
  | nil => rfl
  | cons y r =>
    have e : (((y :: r).length : Int) == 0) = false := by simp; omega
    dsimp only
    rw [e]
    refine ⟨by decide, by simp, fun c0 h0 => ?_⟩
    obtain rfl : y = c0 := by simpa using h0
    have := h1.2 y (List.mem_cons_self ..)
    exact ⟨by omega, rfl⟩

theorem vc_qPop : VC Try.prog Try.f98 (bodyOf Try.f98) S_qPop [(107, S_cop)] (fun _ _ => none) = (∀ (x : (Int × List (Bool × Int × Int × Int × List Int × Unit) × Unit) × Int × Unit), smQ x.fst →
  List.length x.fst.snd.fst ≤ (9223372036854775807 : Nat) →
  List.length x.fst.snd.fst ≤ (9223372036854775807 : Nat) →
  bif (↑(List.length x.fst.snd.fst) : Int) == (0 : Int) then smQ x.fst ∧ ((x.fst, false, ()), ()) = (((qPop x.fst x.snd.fst).fst, (qPop x.fst x.snd.fst).snd, ()), ()) else (0 : Int) ≤ (0 : Int) ∧ (0 : Int) < (↑(List.length x.fst.snd.fst) : Int) ∧ ∀ (c0 : Bool × Int × Int × Int × List Int × Unit), x.fst.snd.fst[(0 : Nat)]? = some c0 →
  bif c0.snd.snd.snd.fst != x.snd.fst then smQ x.fst ∧ ((x.fst, false, ()), ()) = (((qPop x.fst x.snd.fst).fst, (qPop x.fst x.snd.fst).snd, ()), ()) else (0 : Int) ≤ (1 : Int) ∧ (1 : Int) ≤ (↑(List.length x.fst.snd.fst) : Int) ∧ (↑(List.length x.fst.snd.fst) : Int) ≤ (↑(List.length x.fst.snd.fst) : Int) ∧ smQ (x.fst.fst, List.take (Int.toNat (↑(List.length x.fst.snd.fst) : Int) - (1 : Nat)) (List.drop ((1 : Nat)) x.fst.snd.fst), ()) ∧ (((x.fst.fst, List.take (Int.toNat (↑(List.length x.fst.snd.fst) : Int) - (1 : Nat)) (List.drop ((1 : Nat)) x.fst.snd.fst), ()), true, ()), ()) = (((qPop x.fst x.snd.fst).fst, (qPop x.fst x.snd.fst).snd, ()), ())) := by kernel_rfl
theorem en_qPop (us : Array Value) (u : World) : (callFunc 98 us).run Try.prog u = .ok (.enter 98 us) u := by kernel_rfl
theorem sc_qPop : SC Try.prog 98 S_qPop := by
  refine SC.of Try.func98 (c := bodyOf Try.f98) (by kernel_rfl) (by kernel_rfl) (fun x => (by decide : (2:Nat) ≤ Try.f98.ntmps)) (DOk.cons sc_cop en_cop DOk.nil) (Eq.mpr vc_qPop ?_)
  rintro ⟨⟨nx, l, ⟨⟩⟩, seq, ⟨⟩⟩ h1 _ _
  cases l with
  | nil => exact ⟨h1, rfl⟩
  | cons y r =>
    have e : (((y :: r).length : Int) == 0) = false := by simp; omega
    dsimp only at h1 ⊢
    rw [e]
    refine ⟨by decide, by simp, fun c0 h0 => ?_⟩
    obtain rfl : y = c0 := by simpa using h0
    have e2 : (y.2.2.2.1 != seq) = !decide (y.2.2.2.1 = seq) := by rw [Bool.eq_iff_iff]; simp
    rw [e2]
    dsimp only [qPop]
    cases q : decide (y.2.2.2.1 = seq)
    · exact ⟨h1, rfl⟩
    · have e3 : List.take (((y :: r).length : Int).toNat - 1) (List.drop 1 (y :: r)) = r := by simp
      rw [e3]
      have h2 := h1.1
      dsimp only at h2
      refine ⟨by decide, by simp; omega, Int.le_refl _, ⟨by simp at h2 ⊢; omega, fun l hl => h1.2 l (List.mem_cons_of_mem _ hl)⟩, rfl⟩

theorem vc_mCl : VC Try.prog Try.f85 (bodyOf Try.f85) S_mCl [] (fun _ _ => none) = (∀ (x : (List (Int × List (Bool × Int × Int × Int × List Int × Unit) × Unit) × List Int × List (List (Bool × Int × Int × Int × List Int × Unit)) × Unit) × Int × Unit), True →
  List.length x.fst.fst ≤ (9223372036854775807 : Nat) →
  List.length x.fst.snd.fst ≤ (9223372036854775807 : Nat) →
  List.length x.fst.snd.snd.fst ≤ (9223372036854775807 : Nat) →
  bif decide ((0 : Int) ≤ x.snd.fst) then List.length x.fst.fst ≤ (9223372036854775807 : Nat) →
  bif decide (x.snd.fst < (↑(List.length x.fst.fst) : Int)) then List.length x.fst.snd.fst ≤ (9223372036854775807 : Nat) →
  bif decide (x.snd.fst < (↑(List.length x.fst.snd.fst) : Int)) then List.length x.fst.snd.snd.fst ≤ (9223372036854775807 : Nat) →
  (decide (x.snd.fst < (↑(List.length x.fst.snd.snd.fst) : Int)), ()) = (mCl x.fst x.snd.fst, ()) else (false, ()) = (mCl x.fst x.snd.fst, ()) else (false, ()) = (mCl x.fst x.snd.fst, ()) else (false, ()) = (mCl x.fst x.snd.fst, ())) := by kernel_rfl
theorem en_mCl (us : Array Value) (u : World) : (callFunc 85 us).run Try.prog u = .ok (.enter 85 us) u := by kernel_rfl
theorem sc_mCl : SC Try.prog 85 S_mCl := by
  refine SC.of Try.func85 (c := bodyOf Try.f85) (by kernel_rfl) (by kernel_rfl) (fun x => (by decide : (2:Nat) ≤ Try.f85.ntmps)) DOk.nil (Eq.mpr vc_mCl ?_)
  rintro ⟨⟨q, c, b, ⟨⟩⟩, n, ⟨⟩⟩ - _ _ _
  dsimp only [mCl]
  cases decide ((0 : Int) ≤ n)
  · rfl
  intro _
  cases decide (n < (q.length : Int))
  · rfl
  intro _
  cases decide (n < (c.length : Int))
  · rfl
  intro _
  rfl
end Go.Proofs.Ytmkfpfnjimmmaaa
