/- The words of package model. Printed by gen.py. -/
import Derived.Test.YtmkfpfnjimmmaaaED
namespace Go.Proofs.Ytmkfpfnjimmmaaa
open Go.RowKit DoorU
set_option linter.unusedVariables false
set_option linter.unusedSimpArgs false
set_option maxRecDepth 100000
set_option maxHeartbeats 1000000

abbrev ownM : Sh := .pair (.own tQ 77) (.pair (.own tI 3) (.pair (.own (.sl tL) 74) .unit))
def DoorU.inv3 (n seq i : Int) (m : Mod) : Prop := 0 ≤ i ∧ i ≤ n ∧ m.1 = List.replicate i.toNat (seq, [], ()) ++ List.replicate (n.toNat - i.toNat) (0, [], ()) ∧ m.2.1 = List.replicate n.toNat 0 ∧ m.2.2.1 = List.replicate n.toNat []
def A_mNew (x : Cfg × Unit) : Nat → Option LA
  | 0 => some ⟨[23, 4], [], .pair nI (.pair (.var 60 ownM) .unit), fun (v : Int × Mod × Unit) => DoorU.inv3 x.1.2.2.2.1 x.1.2.2.2.2.2.2.2.2.2.2.1 v.1 v.2.1, fun (v : Int × Mod × Unit) => (x.1.2.2.2.1 - v.1).toNat⟩
  | _ => none
theorem mCl_of {m : Mod} {who : Int} (h : mCl m who = true) : 0 ≤ who ∧ who < m.1.length ∧ who < m.2.1.length ∧ who < m.2.2.1.length := by
  simp only [mCl, Bool.and_eq_true, decide_eq_true_eq] at h
  exact ⟨h.1.1.1, h.1.1.2, h.1.2, h.2⟩
theorem okC_cl {c : Cfg} (h : okC c = true) : 1 ≤ c.2.2.2.1 ∧ c.2.2.2.1 ≤ 8 := by
  simp only [okC, wit, Bool.and_eq_true, decide_eq_true_eq] at h
  omega
theorem rep_set {α : Type} (i m : Nat) (x z : α) : (List.replicate i x ++ List.replicate (m + 1) z).set i x = List.replicate (i + 1) x ++ List.replicate m z := by
  rw [List.set_append_right _ _ (by simp)]
  rw [List.length_replicate, Nat.sub_self, List.replicate_succ (n := m), List.set_cons_zero, List.replicate_succ', List.append_assoc]
  rfl
theorem btw_step {l : List Let} {i : Nat} {x : Let} (h : l[i]? = some x) (fr to : Int) : btw (l.take (i + 1)) fr to = btw (l.take i) fr to ++ bif decide (x.2.1 = fr) && decide (x.2.2.1 = to) then [x] else [] := by
  unfold btw
  rw [List.take_add_one, h, List.filter_append]
  refine congrArg (List.filter _ (List.take i l) ++ ·) ?_
  show List.filter _ [x] = _
  rw [List.filter_cons]
  cases decide (x.2.1 = fr) && decide (x.2.2.1 = to) <;> rfl

theorem vc_mNew : VC Try.prog Try.f49 (bodyOf Try.f49) S_mNew [(82, S_chk), (83, S_qNew)] A_mNew = (∀ (x : (List Int × Int × Int × Int × Int × Int × Int × Int × Int × Int × Int × Unit) × Unit), True →
  List.length x.fst.fst ≤ (9223372036854775807 : Nat) →
  True ∧ bif chk x.fst != (0 : Int) then (((nilT (Int × List (Bool × Int × Int × Int × List Int × Unit) × Unit), nilT Int, nilT (List (Bool × Int × Int × Int × List Int × Unit)), ()), (1 : Int), ()), ()) = (((mNew x.fst).fst, (mNew x.fst).snd, ()), ()) else (0 : Int) ≤ x.fst.snd.snd.snd.fst ∧ x.fst.snd.snd.snd.fst ≤ x.fst.snd.snd.snd.fst ∧ (32 : Int) * x.fst.snd.snd.snd.fst ≤ (281474976710656 : Int) ∧ x.fst.snd.snd.snd.fst ≤ (140737488351232 : Int) ∧ (0 : Int) ≤ x.fst.snd.snd.snd.fst ∧ x.fst.snd.snd.snd.fst ≤ x.fst.snd.snd.snd.fst ∧ (8 : Int) * x.fst.snd.snd.snd.fst ≤ (281474976710656 : Int) ∧ x.fst.snd.snd.snd.fst ≤ (140737488351232 : Int) ∧ (0 : Int) ≤ x.fst.snd.snd.snd.fst ∧ x.fst.snd.snd.snd.fst ≤ x.fst.snd.snd.snd.fst ∧ (24 : Int) * x.fst.snd.snd.snd.fst ≤ (281474976710656 : Int) ∧ x.fst.snd.snd.snd.fst ≤ (140737488351232 : Int) ∧ inv3 x.fst.snd.snd.snd.fst x.fst.snd.snd.snd.snd.snd.snd.snd.snd.snd.snd.fst (0 : Int) (List.replicate (Int.toNat x.fst.snd.snd.snd.fst) ((0 : Int), nilT (Bool × Int × Int × Int × List Int × Unit), ()), List.replicate (Int.toNat x.fst.snd.snd.snd.fst) (0 : Int), List.replicate (Int.toNat x.fst.snd.snd.snd.fst) (nilT (Bool × Int × Int × Int × List Int × Unit)), ()) ∧ ∀ (v : Int × (List (Int × List (Bool × Int × Int × Int × List Int × Unit) × Unit) × List Int × List (List (Bool × Int × Int × Int × List Int × Unit)) × Unit) × Unit), inv3 x.fst.snd.snd.snd.fst x.fst.snd.snd.snd.snd.snd.snd.snd.snd.snd.snd.fst v.fst v.snd.fst →
  bif decide (v.fst < (↑(List.length (List.replicate (Int.toNat x.fst.snd.snd.snd.fst) ((0 : Int), nilT (Bool × Int × Int × Int × List Int × Unit), ()))) : Int)) then True ∧ (0 : Int) ≤ v.fst ∧ v.fst < (↑(List.length v.snd.fst.fst) : Int) ∧ Int.toNat v.fst < List.length v.snd.fst.fst ∧ ∀ (x0 : Int × List (Bool × Int × Int × Int × List Int × Unit) × Unit), v.snd.fst.fst[Int.toNat v.fst]? = some x0 →
  inv3 x.fst.snd.snd.snd.fst x.fst.snd.snd.snd.snd.snd.snd.snd.snd.snd.snd.fst (IntKind.wrap IntKind.i64 (v.fst + (1 : Int))) (List.set v.snd.fst.fst (Int.toNat v.fst) (x.fst.snd.snd.snd.snd.snd.snd.snd.snd.snd.snd.fst, nilT (Bool × Int × Int × Int × List Int × Unit), ()), v.snd.fst.snd) ∧ Int.toNat (x.fst.snd.snd.snd.fst - IntKind.wrap IntKind.i64 (v.fst + (1 : Int))) < Int.toNat (x.fst.snd.snd.snd.fst - v.fst) else ((v.snd.fst, (0 : Int), ()), ()) = (((mNew x.fst).fst, (mNew x.fst).snd, ()), ())) := by kernel_rfl
theorem en_mNew (us : Array Value) (u : World) : (callFunc 49 us).run Try.prog u = .ok (.enter 49 us) u := by kernel_rfl
theorem sc_mNew : SC Try.prog 49 S_mNew := by
  refine SC.of Try.func49 (c := bodyOf Try.f49) (by kernel_rfl) (by kernel_rfl) (fun x => (by decide : (1:Nat) ≤ Try.f49.ntmps)) (DOk.cons sc_chk en_chk (DOk.cons sc_qNew en_qNew DOk.nil)) (Eq.mpr vc_mNew ?_)
  rintro ⟨⟨a, b, c, d, e, f, g, h, i, j, k, ⟨⟩⟩, ⟨⟩⟩ - _
  refine ⟨trivial, ?_⟩
  dsimp only [nilT]
  have e1 : (chk (a, b, c, d, e, f, g, h, i, j, k, ()) != 0) = !okC (a, b, c, d, e, f, g, h, i, j, k, ()) := by unfold chk; cases okC (a, b, c, d, e, f, g, h, i, j, k, ()) <;> rfl
  rw [e1]
  cases hk : okC (a, b, c, d, e, f, g, h, i, j, k, ())
  · simp only [Bool.not_false, cond_true, mNew, hk, cond_false]
  have hd : 1 ≤ d ∧ d ≤ 8 := okC_cl hk
  obtain ⟨hd1, hd2⟩ := hd
  simp only [Bool.not_true, cond_false]
  refine ⟨by omega, by omega, by omega, by omega, by omega, by omega, by omega, by omega, by omega, by omega, by omega, by omega, ⟨by omega, by omega, by simp, rfl, rfl⟩, ?_⟩
  rintro ⟨n, ⟨Q, C, B, ⟨⟩⟩, ⟨⟩⟩ ⟨h1, h2, h3, h4, h5⟩
  dsimp only at h1 h2 h3 h4 h5 ⊢
  subst h3 h4 h5
  rw [List.length_replicate]
  by_cases hn : n < (d.toNat : Int)
  · rw [decide_eq_true hn]
    have hl : (List.replicate n.toNat (k, ([] : List Let), ()) ++ List.replicate (d.toNat - n.toNat) ((0 : Int), ([] : List Let), ())).length = d.toNat := by simp; omega
    rw [hl]
    refine ⟨trivial, h1, hn, by omega, fun x0 _ => ?_⟩
    have e2 : IntKind.i64.wrap (n + 1) = n + 1 := IntWalk.i64_in _ (by omega)
    rw [e2]
    refine ⟨⟨by omega, by omega, ?_, rfl, rfl⟩, by omega⟩
    have e3 : d.toNat - n.toNat = (d.toNat - (n + 1).toNat) + 1 := by omega
    have e4 : (n + 1).toNat = n.toNat + 1 := by omega
    dsimp only
    rw [e3, rep_set, e4]
  · rw [decide_eq_false hn]
    have e5 : n.toNat = d.toNat := by omega
    simp only [cond_false, mNew, hk, cond_true, e5, Nat.sub_self, List.replicate_zero, List.append_nil]

theorem vc_mSay : VC Try.prog Try.f51 (bodyOf Try.f51) S_mSay [(85, S_mCl), (86, S_qPut), (87, S_puQ)] (fun _ _ => none) = (∀ (x : (List Int × Int × Int × Int × Int × Int × Int × Int × Int × Int × Int × Unit) × (List (Int × List (Bool × Int × Int × Int × List Int × Unit) × Unit) × List Int × List (List (Bool × Int × Int × Int × List Int × Unit)) × Unit) × Int × Int × List Int × Unit), smM x.snd.fst ∧ List.length x.snd.snd.snd.snd.fst ≤ (1000 : Nat) →
  List.length x.fst.fst ≤ (9223372036854775807 : Nat) →
  List.length x.snd.fst.fst ≤ (9223372036854775807 : Nat) →
  List.length x.snd.fst.snd.fst ≤ (9223372036854775807 : Nat) →
  List.length x.snd.fst.snd.snd.fst ≤ (9223372036854775807 : Nat) →
  List.length x.snd.snd.snd.snd.fst ≤ (9223372036854775807 : Nat) →
  True ∧ bif !mCl x.snd.fst x.snd.snd.fst then ((x.snd.fst, (3 : Int), ()), ()) = (((mSay x.fst x.snd.fst x.snd.snd.fst x.snd.snd.snd.fst x.snd.snd.snd.snd.fst).fst, (mSay x.fst x.snd.fst x.snd.snd.fst x.snd.snd.snd.fst x.snd.snd.snd.snd.fst).snd, ()), ()) else (0 : Int) ≤ x.snd.snd.fst ∧ x.snd.snd.fst < (↑(List.length x.snd.fst.fst) : Int) ∧ ∀ (c0 : Int × List (Bool × Int × Int × Int × List Int × Unit) × Unit), x.snd.fst.fst[Int.toNat x.snd.snd.fst]? = some c0 →
  (smQ c0 ∧ List.length x.snd.snd.snd.snd.fst ≤ (1000 : Nat)) ∧ (List.length x.snd.fst.fst * (32 : Nat) ≤ (140737488351232 : Nat) ∧ (0 : Int) ≤ x.snd.snd.fst ∧ x.snd.snd.fst < (↑(List.length x.snd.fst.fst) : Int)) ∧ (((List.set x.snd.fst.fst (Int.toNat x.snd.snd.fst) (qPut x.fst c0 x.snd.snd.fst x.snd.snd.snd.fst x.snd.snd.snd.snd.fst).fst, x.snd.fst.snd), (qPut x.fst c0 x.snd.snd.fst x.snd.snd.snd.fst x.snd.snd.snd.snd.fst).snd, ()), ()) = (((mSay x.fst x.snd.fst x.snd.snd.fst x.snd.snd.snd.fst x.snd.snd.snd.snd.fst).fst, (mSay x.fst x.snd.fst x.snd.snd.fst x.snd.snd.snd.fst x.snd.snd.snd.snd.fst).snd, ()), ())) := by kernel_rfl
theorem en_mSay (us : Array Value) (u : World) : (callFunc 51 us).run Try.prog u = .ok (.enter 51 us) u := by kernel_rfl
theorem sc_mSay : SC Try.prog 51 S_mSay := by
  refine SC.of Try.func51 (c := bodyOf Try.f51) (by kernel_rfl) (by kernel_rfl) (fun x => (by decide : (5:Nat) ≤ Try.f51.ntmps)) (DOk.cons sc_mCl en_mCl (DOk.cons sc_qPut en_qPut (DOk.cons sc_puQ en_puQ DOk.nil))) (Eq.mpr vc_mSay ?_)
  rintro ⟨⟨a, b, c, d, e, f, g, h, i, j, k, ⟨⟩⟩, ⟨Q, C, B, ⟨⟩⟩, who, to, text, ⟨⟩⟩ ⟨⟨w1, w2, w3, w4, w5⟩, h2⟩ _ _ _ _ _
  refine ⟨trivial, ?_⟩
  dsimp only at w1 w2 w3 w4 w5 h2 ⊢
  cases hc : mCl (Q, C, B, ()) who
  · simp only [mSay, hc, cond_false, cond_true, Bool.not_false]
  obtain ⟨q1, q2, q3, q4⟩ := mCl_of hc
  dsimp only at q1 q2 q3 q4
  simp only [Bool.not_true, cond_false]
  refine ⟨q1, q2, fun c0 h0 => ?_⟩
  refine ⟨⟨w4 c0 (List.mem_of_getElem? h0), h2⟩, ⟨by omega, q1, q2⟩, ?_⟩
  simp only [mSay, hc, h0, cond_true]

theorem vc_mCome : VC Try.prog Try.f56 (bodyOf Try.f56) S_mCome [(85, S_mCl), (93, S_clY), (95, S_clL), (94, S_puB), (96, S_puI)] (fun _ _ => none) = (∀ (x : (List (Int × List (Bool × Int × Int × Int × List Int × Unit) × Unit) × List Int × List (List (Bool × Int × Int × Int × List Int × Unit)) × Unit) × Int × Unit), smM x.fst →
  List.length x.fst.fst ≤ (9223372036854775807 : Nat) →
  List.length x.fst.snd.fst ≤ (9223372036854775807 : Nat) →
  List.length x.fst.snd.snd.fst ≤ (9223372036854775807 : Nat) →
  True ∧ bif !mCl x.fst x.snd.fst then ((x.fst, false, ()), ()) = (((mCome x.fst x.snd.fst).fst, (mCome x.fst x.snd.fst).snd, ()), ()) else (0 : Int) ≤ x.snd.fst ∧ x.snd.fst < (↑(List.length x.fst.snd.fst) : Int) ∧ ∀ (c0 : Int), x.fst.snd.fst[Int.toNat x.snd.fst]? = some c0 →
  (0 : Int) ≤ x.snd.fst ∧ x.snd.fst < (↑(List.length x.fst.fst) : Int) ∧ ∀ (c0_1 : Int × List (Bool × Int × Int × Int × List Int × Unit) × Unit), x.fst.fst[Int.toNat x.snd.fst]? = some c0_1 →
  bif decide (c0 < (0 : Int)) then ((x.fst, false, ()), ()) = (((mCome x.fst x.snd.fst).fst, (mCome x.fst x.snd.fst).snd, ()), ()) else bif decide ((↑(List.length c0_1.snd.fst) : Int) ≤ c0) then ((x.fst, false, ()), ()) = (((mCome x.fst x.snd.fst).fst, (mCome x.fst x.snd.fst).snd, ()), ()) else (0 : Int) ≤ c0 ∧ c0 < (↑(List.length c0_1.snd.fst) : Int) ∧ ∀ (c0_2 : Bool × Int × Int × Int × List Int × Unit), c0_1.snd.fst[Int.toNat c0]? = some c0_2 →
  True ∧ bif !mCl x.fst c0_2.snd.snd.fst then ((x.fst, false, ()), ()) = (((mCome x.fst x.snd.fst).fst, (mCome x.fst x.snd.fst).snd, ()), ()) else (0 : Int) ≤ c0 ∧ c0 < (↑(List.length c0_1.snd.fst) : Int) ∧ ∀ (c0_3 : Bool × Int × Int × Int × List Int × Unit), c0_1.snd.fst[Int.toNat c0]? = some c0_3 →
  List.length c0_3.snd.snd.snd.snd.fst ≤ (140737488351232 : Nat) ∧ (0 : Int) ≤ c0_3.snd.snd.fst ∧ c0_3.snd.snd.fst < (↑(List.length x.fst.snd.snd.fst) : Int) ∧ ∀ (c0_4 : List (Bool × Int × Int × Int × List Int × Unit)), x.fst.snd.snd.fst[Int.toNat c0_3.snd.snd.fst]? = some c0_4 →
  List.length c0_4 * (56 : Nat) ≤ (140737488351232 : Nat) ∧ (List.length c0_4 + List.length [c0_3]) * (56 : Nat) ≤ (140737488355328 : Nat) ∧ (List.length x.fst.snd.snd.fst * (24 : Nat) ≤ (140737488351232 : Nat) ∧ (0 : Int) ≤ c0_3.snd.snd.fst ∧ c0_3.snd.snd.fst < (↑(List.length x.fst.snd.snd.fst) : Int)) ∧ (List.length x.fst.snd.fst * (8 : Nat) ≤ (140737488351232 : Nat) ∧ (0 : Int) ≤ x.snd.fst ∧ x.snd.fst < (↑(List.length x.fst.snd.fst) : Int)) ∧ (((x.fst.fst, List.set x.fst.snd.fst (Int.toNat x.snd.fst) (IntKind.wrap IntKind.i64 (c0 + (1 : Int))), List.set x.fst.snd.snd.fst (Int.toNat c0_3.snd.snd.fst) (c0_4 ++ [c0_3]), ()), true, ()), ()) = (((mCome x.fst x.snd.fst).fst, (mCome x.fst x.snd.fst).snd, ()), ())) := by kernel_rfl
theorem en_mCome (us : Array Value) (u : World) : (callFunc 56 us).run Try.prog u = .ok (.enter 56 us) u := by kernel_rfl
theorem sc_mCome : SC Try.prog 56 S_mCome := by
  refine SC.of Try.func56 (c := bodyOf Try.f56) (by kernel_rfl) (by kernel_rfl) (fun x => (by decide : (2:Nat) ≤ Try.f56.ntmps)) (DOk.cons sc_mCl en_mCl (DOk.cons sc_clY en_clY (DOk.cons sc_clL en_clL (DOk.cons sc_puB en_puB (DOk.cons sc_puI en_puI DOk.nil))))) (Eq.mpr vc_mCome ?_)
  rintro ⟨⟨Q, C, B, ⟨⟩⟩, who, ⟨⟩⟩ ⟨w1, w2, w3, w4, w5⟩ _ _ _
  refine ⟨trivial, ?_⟩
  dsimp only at w1 w2 w3 w4 w5 ⊢
  cases hc : mCl (Q, C, B, ()) who
  · simp only [mCome, hc, cond_false, cond_true, Bool.not_false]
  obtain ⟨q1, q2, q3, q4⟩ := mCl_of hc
  dsimp only at q1 q2 q3 q4
  simp only [Bool.not_true, cond_false]
  refine ⟨q1, q3, fun p hp => ⟨q1, q2, fun q hq => ?_⟩⟩
  cases hp0 : decide (p < 0)
  case true => simp only [mCome, hc, hp, hq, hp0, Bool.true_or, cond_true]
  cases hp1 : decide ((q.2.1.length : Int) ≤ p)
  case true => simp only [mCome, hc, hp, hq, hp0, hp1, Bool.or_true, cond_true, cond_false]
  have r0 : 0 ≤ p := by simpa using hp0
  have r1 : p < q.2.1.length := by simpa using hp1
  simp only [cond_false]
  refine ⟨r0, r1, fun l hl => ⟨trivial, ?_⟩⟩
  cases hl2 : mCl (Q, C, B, ()) l.2.2.1
  case false => simp only [mCome, hc, hp, hq, hp0, hp1, hl, hl2, Bool.or_self, cond_true, cond_false, Bool.not_false]
  obtain ⟨s1, s2, s3, s4⟩ := mCl_of hl2
  simp only [Bool.not_true, cond_false]
  refine ⟨r0, r1, fun l' hl' => ?_⟩
  obtain rfl : l = l' := Option.some.inj (hl.symm.trans hl')
  have hm := w4 q (List.mem_of_getElem? hq)
  have hl3 := hm.2 l (List.mem_of_getElem? hl)
  refine ⟨by omega, s1, s4, fun b hb => ?_⟩
  have hb1 := (w5 b (List.mem_of_getElem? hb)).1
  refine ⟨by omega, by simp only [List.length_cons, List.length_nil]; omega, ⟨by omega, s1, s4⟩, ⟨by omega, q1, q3⟩, ?_⟩
  have e : IntKind.i64.wrap (p + 1) = p + 1 := IntWalk.i64_in _ (by have := hm.1; omega)
  rw [e]
  simp only [mCome, hc, hp, hq, hp0, hp1, hl, hl2, hb, Bool.or_self, cond_true, cond_false]

theorem vc_mGone : VC Try.prog Try.f58 (bodyOf Try.f58) S_mGone [(85, S_mCl), (97, S_qHead), (98, S_qPop), (87, S_puQ), (96, S_puI)] (fun _ _ => none) = (∀ (x : (List (Int × List (Bool × Int × Int × Int × List Int × Unit) × Unit) × List Int × List (List (Bool × Int × Int × Int × List Int × Unit)) × Unit) × Int × Unit), smM x.fst →
  List.length x.fst.fst ≤ (9223372036854775807 : Nat) →
  List.length x.fst.snd.fst ≤ (9223372036854775807 : Nat) →
  List.length x.fst.snd.snd.fst ≤ (9223372036854775807 : Nat) →
  True ∧ bif !mCl x.fst x.snd.fst then ((x.fst, false, ()), ()) = (((mGone x.fst x.snd.fst).fst, (mGone x.fst x.snd.fst).snd, ()), ()) else (0 : Int) ≤ x.snd.fst ∧ x.snd.fst < (↑(List.length x.fst.snd.fst) : Int) ∧ ∀ (c0 : Int), x.fst.snd.fst[Int.toNat x.snd.fst]? = some c0 →
  bif decide (c0 ≤ (0 : Int)) then ((x.fst, false, ()), ()) = (((mGone x.fst x.snd.fst).fst, (mGone x.fst x.snd.fst).snd, ()), ()) else (0 : Int) ≤ x.snd.fst ∧ x.snd.fst < (↑(List.length x.fst.fst) : Int) ∧ ∀ (c0 : Int × List (Bool × Int × Int × Int × List Int × Unit) × Unit), x.fst.fst[Int.toNat x.snd.fst]? = some c0 →
  smQ c0 ∧ bif !(qHead c0).snd then ((x.fst, false, ()), ()) = (((mGone x.fst x.snd.fst).fst, (mGone x.fst x.snd.fst).snd, ()), ()) else (0 : Int) ≤ x.snd.fst ∧ x.snd.fst < (↑(List.length x.fst.fst) : Int) ∧ ∀ (c0_1 : Int × List (Bool × Int × Int × Int × List Int × Unit) × Unit), x.fst.fst[Int.toNat x.snd.fst]? = some c0_1 →
  smQ c0_1 ∧ (List.length x.fst.fst * (32 : Nat) ≤ (140737488351232 : Nat) ∧ (0 : Int) ≤ x.snd.fst ∧ x.snd.fst < (↑(List.length x.fst.fst) : Int)) ∧ (0 : Int) ≤ x.snd.fst ∧ x.snd.fst < (↑(List.length x.fst.snd.fst) : Int) ∧ ∀ (c0_2 : Int), x.fst.snd.fst[Int.toNat x.snd.fst]? = some c0_2 →
  (List.length x.fst.snd.fst * (8 : Nat) ≤ (140737488351232 : Nat) ∧ (0 : Int) ≤ x.snd.fst ∧ x.snd.fst < (↑(List.length x.fst.snd.fst) : Int)) ∧ (((List.set x.fst.fst (Int.toNat x.snd.fst) (qPop c0_1 (qHead c0).fst.snd.snd.snd.fst).fst, List.set x.fst.snd.fst (Int.toNat x.snd.fst) (IntKind.wrap IntKind.i64 (c0_2 - (1 : Int))), x.fst.snd.snd), true, ()), ()) = (((mGone x.fst x.snd.fst).fst, (mGone x.fst x.snd.fst).snd, ()), ())) := by kernel_rfl
theorem en_mGone (us : Array Value) (u : World) : (callFunc 58 us).run Try.prog u = .ok (.enter 58 us) u := by kernel_rfl
theorem sc_mGone : SC Try.prog 58 S_mGone := by
  refine SC.of Try.func58 (c := bodyOf Try.f58) (by kernel_rfl) (by kernel_rfl) (fun x => (by decide : (2:Nat) ≤ Try.f58.ntmps)) (DOk.cons sc_mCl en_mCl (DOk.cons sc_qHead en_qHead (DOk.cons sc_qPop en_qPop (DOk.cons sc_puQ en_puQ (DOk.cons sc_puI en_puI DOk.nil))))) (Eq.mpr vc_mGone ?_)
  rintro ⟨⟨Q, C, B, ⟨⟩⟩, who, ⟨⟩⟩ ⟨w1, w2, w3, w4, w5⟩ _ _ _
  refine ⟨trivial, ?_⟩
  dsimp only at w1 w2 w3 w4 w5 ⊢
  cases hc : mCl (Q, C, B, ()) who
  · simp only [mGone, hc, cond_false, cond_true, Bool.not_false]
  obtain ⟨q1, q2, q3, q4⟩ := mCl_of hc
  dsimp only at q1 q2 q3 q4
  simp only [Bool.not_true, cond_false]
  refine ⟨q1, q3, fun p hp => ?_⟩
  cases hp0 : decide (p ≤ 0)
  case true =>
    have hq : ∃ q, Q[who.toNat]? = some q := ⟨_, List.getElem?_eq_getElem (by omega)⟩
    obtain ⟨q, hq⟩ := hq
    simp only [mGone, hc, hp, hq, hp0, cond_true]
  simp only [cond_false]
  refine ⟨q1, q2, fun q hq => ⟨w4 q (List.mem_of_getElem? hq), ?_⟩⟩
  obtain ⟨nx, it, ⟨⟩⟩ := q
  cases it with
  | nil => simp only [qHead, mGone, hc, hp, hq, hp0, Bool.not_false, cond_true, cond_false]
  | cons l r =>
    simp only [qHead, Bool.not_true, cond_false]
    refine ⟨q1, q2, fun q' hq' => ?_⟩
    obtain rfl := Option.some.inj (hq.symm.trans hq')
    refine ⟨w4 _ (List.mem_of_getElem? hq), ⟨by omega, q1, q2⟩, q1, q3, fun p' hp' => ?_⟩
    obtain rfl := Option.some.inj (hp.symm.trans hp')
    refine ⟨⟨by omega, q1, q3⟩, ?_⟩
    simp only [qPop, mGone, hc, hp, hq, hp0, decide_true, cond_true, cond_false]

theorem vc_mTake : VC Try.prog Try.f60 (bodyOf Try.f60) S_mTake [(85, S_mCl), (93, S_clY), (95, S_clL), (94, S_puB)] (fun _ _ => none) = (∀ (x : (List (Int × List (Bool × Int × Int × Int × List Int × Unit) × Unit) × List Int × List (List (Bool × Int × Int × Int × List Int × Unit)) × Unit) × Int × Unit), smM x.fst →
  List.length x.fst.fst ≤ (9223372036854775807 : Nat) →
  List.length x.fst.snd.fst ≤ (9223372036854775807 : Nat) →
  List.length x.fst.snd.snd.fst ≤ (9223372036854775807 : Nat) →
  True ∧ bif !mCl x.fst x.snd.fst then ((x.fst, (false, (0 : Int), (0 : Int), (0 : Int), [], ()), false, ()), ()) = (((mTake x.fst x.snd.fst).fst, (mTake x.fst x.snd.fst).snd.fst, (mTake x.fst x.snd.fst).snd.snd, ()), ()) else (0 : Int) ≤ x.snd.fst ∧ x.snd.fst < (↑(List.length x.fst.snd.snd.fst) : Int) ∧ ∀ (c0 : List (Bool × Int × Int × Int × List Int × Unit)), x.fst.snd.snd.fst[Int.toNat x.snd.fst]? = some c0 →
  List.length c0 ≤ (9223372036854775807 : Nat) →
  bif (↑(List.length c0) : Int) == (0 : Int) then ((x.fst, (false, (0 : Int), (0 : Int), (0 : Int), [], ()), false, ()), ()) = (((mTake x.fst x.snd.fst).fst, (mTake x.fst x.snd.fst).snd.fst, (mTake x.fst x.snd.fst).snd.snd, ()), ()) else (0 : Int) ≤ x.snd.fst ∧ x.snd.fst < (↑(List.length x.fst.snd.snd.fst) : Int) ∧ ∀ (c0 : List (Bool × Int × Int × Int × List Int × Unit)), x.fst.snd.snd.fst[Int.toNat x.snd.fst]? = some c0 →
  (0 : Int) ≤ (0 : Int) ∧ (0 : Int) < (↑(List.length c0) : Int) ∧ ∀ (c0_1 : Bool × Int × Int × Int × List Int × Unit), c0[(0 : Nat)]? = some c0_1 →
  List.length c0_1.snd.snd.snd.snd.fst ≤ (140737488351232 : Nat) ∧ (0 : Int) ≤ x.snd.fst ∧ x.snd.fst < (↑(List.length x.fst.snd.snd.fst) : Int) ∧ ∀ (c0 : List (Bool × Int × Int × Int × List Int × Unit)), x.fst.snd.snd.fst[Int.toNat x.snd.fst]? = some c0 →
  (0 : Int) ≤ (1 : Int) ∧ (1 : Int) ≤ (↑(List.length c0) : Int) ∧ (↑(List.length c0) : Int) ≤ (↑(List.length c0) : Int) ∧ List.length (List.take (Int.toNat (↑(List.length c0) : Int) - (1 : Nat)) (List.drop ((1 : Nat)) c0)) * (56 : Nat) ≤ (140737488351232 : Nat) ∧ (List.length x.fst.snd.snd.fst * (24 : Nat) ≤ (140737488351232 : Nat) ∧ (0 : Int) ≤ x.snd.fst ∧ x.snd.fst < (↑(List.length x.fst.snd.snd.fst) : Int)) ∧ (((x.fst.fst, x.fst.snd.fst, List.set x.fst.snd.snd.fst (Int.toNat x.snd.fst) (List.take (Int.toNat (↑(List.length c0) : Int) - (1 : Nat)) (List.drop ((1 : Nat)) c0)), ()), c0_1, true, ()), ()) = (((mTake x.fst x.snd.fst).fst, (mTake x.fst x.snd.fst).snd.fst, (mTake x.fst x.snd.fst).snd.snd, ()), ())) := by kernel_rfl
theorem en_mTake (us : Array Value) (u : World) : (callFunc 60 us).run Try.prog u = .ok (.enter 60 us) u := by kernel_rfl
theorem sc_mTake : SC Try.prog 60 S_mTake := by
  refine SC.of Try.func60 (c := bodyOf Try.f60) (by kernel_rfl) (by kernel_rfl) (fun x => (by decide : (2:Nat) ≤ Try.f60.ntmps)) (DOk.cons sc_mCl en_mCl (DOk.cons sc_clY en_clY (DOk.cons sc_clL en_clL (DOk.cons sc_puB en_puB DOk.nil)))) (Eq.mpr vc_mTake ?_)
  rintro ⟨⟨Q, C, B, ⟨⟩⟩, who, ⟨⟩⟩ ⟨w1, w2, w3, w4, w5⟩ _ _ _
  refine ⟨trivial, ?_⟩
  dsimp only at w1 w2 w3 w4 w5 ⊢
  cases hc : mCl (Q, C, B, ()) who
  · simp only [mTake, hc, cond_false, cond_true, Bool.not_false]
  obtain ⟨q1, q2, q3, q4⟩ := mCl_of hc
  dsimp only at q1 q2 q3 q4
  simp only [Bool.not_true, cond_false]
  refine ⟨q1, q4, fun b hb _ => ?_⟩
  have h5 := w5 b (List.mem_of_getElem? hb)
  cases b with
  | nil =>
    have e : ((([] : List Let).length : Int) == 0) = true := rfl
    rw [e]
    simp only [cond_true, mTake, hc, hb]
  | cons l r =>
    have e : (((l :: r).length : Int) == 0) = false := by simp; omega
    rw [e]
    simp only [cond_false]
    refine ⟨q1, q4, fun b' hb' => ?_⟩
    obtain rfl := Option.some.inj (hb.symm.trans hb')
    refine ⟨by decide, by simp, fun l' hl' => ?_⟩
    obtain rfl : l = l' := by simpa using hl'
    have h6 := h5.2 l (List.mem_cons_self ..)
    have h7 := h5.1
    refine ⟨by omega, q1, q4, fun b' hb' => ?_⟩
    obtain rfl := Option.some.inj (hb.symm.trans hb')
    have e3 : List.take (((l :: r).length : Int).toNat - 1) (List.drop 1 (l :: r)) = r := by simp
    rw [e3]
    refine ⟨by decide, by simp; omega, Int.le_refl _, by simp at h7; omega, ⟨by omega, q1, q4⟩, ?_⟩
    simp only [mTake, hc, hb, cond_true]

theorem vc_mWait : VC Try.prog Try.f54 (bodyOf Try.f54) S_mWait [(85, S_mCl)] (fun _ _ => none) = (∀ (x : (List (Int × List (Bool × Int × Int × Int × List Int × Unit) × Unit) × List Int × List (List (Bool × Int × Int × Int × List Int × Unit)) × Unit) × Int × Unit), True →
  List.length x.fst.fst ≤ (9223372036854775807 : Nat) →
  List.length x.fst.snd.fst ≤ (9223372036854775807 : Nat) →
  List.length x.fst.snd.snd.fst ≤ (9223372036854775807 : Nat) →
  True ∧ bif !mCl x.fst x.snd.fst then ((0 : Int), ()) = (mWait x.fst x.snd.fst, ()) else (0 : Int) ≤ x.snd.fst ∧ x.snd.fst < (↑(List.length x.fst.fst) : Int) ∧ ∀ (c0 : Int × List (Bool × Int × Int × Int × List Int × Unit) × Unit), x.fst.fst[Int.toNat x.snd.fst]? = some c0 →
  List.length c0.snd.fst ≤ (9223372036854775807 : Nat) →
  ((↑(List.length c0.snd.fst) : Int), ()) = (mWait x.fst x.snd.fst, ())) := by kernel_rfl
theorem en_mWait (us : Array Value) (u : World) : (callFunc 54 us).run Try.prog u = .ok (.enter 54 us) u := by kernel_rfl
theorem sc_mWait : SC Try.prog 54 S_mWait := by
  refine SC.of Try.func54 (c := bodyOf Try.f54) (by kernel_rfl) (by kernel_rfl) (fun x => (by decide : (2:Nat) ≤ Try.f54.ntmps)) (DOk.cons sc_mCl en_mCl DOk.nil) (Eq.mpr vc_mWait ?_)
  rintro ⟨⟨Q, C, B, ⟨⟩⟩, who, ⟨⟩⟩ - _ _ _
  refine ⟨trivial, ?_⟩
  dsimp only
  cases hc : mCl (Q, C, B, ()) who
  · simp only [mWait, hc, cond_false, cond_true, Bool.not_false]
  obtain ⟨q1, q2, q3, q4⟩ := mCl_of hc
  dsimp only at q1 q2 q3 q4
  simp only [Bool.not_true, cond_false]
  refine ⟨q1, q2, fun q hq _ => ?_⟩
  simp only [mWait, hc, hq, cond_true]

theorem vc_btw : VC Try.prog Try.f64 (bodyOf Try.f64) S_btw [] A_btw = (∀ (x : List (Bool × Int × Int × Int × List Int × Unit) × Int × Int × Unit), List.length x.fst ≤ (100000 : Nat) →
  List.length x.fst ≤ (9223372036854775807 : Nat) →
  List.length x.fst ≤ (9223372036854775807 : Nat) →
  ((0 : Int) ≤ (0 : Int) ∧ (0 : Int) ≤ (↑(List.length x.fst) : Int) ∧ nilT (Bool × Int × Int × Int × List Int × Unit) = btw (List.take (Int.toNat (0 : Int)) x.fst) x.snd.fst x.snd.snd.fst) ∧ ∀ (v : Int × List (Bool × Int × Int × Int × List Int × Unit) × Unit), (0 : Int) ≤ v.fst ∧ v.fst ≤ (↑(List.length x.fst) : Int) ∧ v.snd.fst = btw (List.take (Int.toNat v.fst) x.fst) x.snd.fst x.snd.snd.fst →
  bif decide (v.fst < (↑(List.length x.fst) : Int)) then (0 : Int) ≤ v.fst ∧ v.fst < (↑(List.length x.fst) : Int) ∧ ∀ (c0 : Bool × Int × Int × Int × List Int × Unit), x.fst[Int.toNat v.fst]? = some c0 →
  bif c0.snd.fst == x.snd.fst then bif c0.snd.snd.fst == x.snd.snd.fst then (List.length v.snd.fst + List.length (c0 :: nilT (Bool × Int × Int × Int × List Int × Unit))) * (56 : Nat) ≤ (140737488355328 : Nat) ∧ ((0 : Int) ≤ IntKind.wrap IntKind.i64 (v.fst + (1 : Int)) ∧ IntKind.wrap IntKind.i64 (v.fst + (1 : Int)) ≤ (↑(List.length x.fst) : Int) ∧ v.snd.fst ++ c0 :: nilT (Bool × Int × Int × Int × List Int × Unit) = btw (List.take (Int.toNat (IntKind.wrap IntKind.i64 (v.fst + (1 : Int)))) x.fst) x.snd.fst x.snd.snd.fst) ∧ Int.toNat ((↑(List.length x.fst) : Int) - IntKind.wrap IntKind.i64 (v.fst + (1 : Int))) < Int.toNat ((↑(List.length x.fst) : Int) - v.fst) else ((0 : Int) ≤ IntKind.wrap IntKind.i64 (v.fst + (1 : Int)) ∧ IntKind.wrap IntKind.i64 (v.fst + (1 : Int)) ≤ (↑(List.length x.fst) : Int) ∧ v.snd.fst = btw (List.take (Int.toNat (IntKind.wrap IntKind.i64 (v.fst + (1 : Int)))) x.fst) x.snd.fst x.snd.snd.fst) ∧ Int.toNat ((↑(List.length x.fst) : Int) - IntKind.wrap IntKind.i64 (v.fst + (1 : Int))) < Int.toNat ((↑(List.length x.fst) : Int) - v.fst) else ((0 : Int) ≤ IntKind.wrap IntKind.i64 (v.fst + (1 : Int)) ∧ IntKind.wrap IntKind.i64 (v.fst + (1 : Int)) ≤ (↑(List.length x.fst) : Int) ∧ v.snd.fst = btw (List.take (Int.toNat (IntKind.wrap IntKind.i64 (v.fst + (1 : Int)))) x.fst) x.snd.fst x.snd.snd.fst) ∧ Int.toNat ((↑(List.length x.fst) : Int) - IntKind.wrap IntKind.i64 (v.fst + (1 : Int))) < Int.toNat ((↑(List.length x.fst) : Int) - v.fst) else v.snd = (btw x.fst x.snd.fst x.snd.snd.fst, ())) := by kernel_rfl
theorem en_btw (us : Array Value) (u : World) : (callFunc 64 us).run Try.prog u = .ok (.enter 64 us) u := by kernel_rfl
theorem sc_btw : SC Try.prog 64 S_btw := by
  refine SC.of Try.func64 (c := bodyOf Try.f64) (by kernel_rfl) (by kernel_rfl) (fun x => (by decide : (3:Nat) ≤ Try.f64.ntmps)) DOk.nil (Eq.mpr vc_btw ?_)
  rintro ⟨l, fr, to, ⟨⟩⟩ h _ _
  dsimp only [nilT] at h ⊢
  refine ⟨⟨by decide, by omega, rfl⟩, ?_⟩
  rintro ⟨i, b, ⟨⟩⟩ ⟨h1, h2, h3⟩
  dsimp only at h1 h2 h3 ⊢
  subst h3
  by_cases hi : i < (l.length : Int)
  · rw [decide_eq_true hi]
    refine ⟨h1, hi, fun c0 h0 => ?_⟩
    have e2 : IntKind.i64.wrap (i + 1) = i + 1 := IntWalk.i64_in _ (by omega)
    have e3 : (i + 1).toNat = i.toNat + 1 := by omega
    have e4 : (c0.2.1 == fr) = decide (c0.2.1 = fr) := by rw [Bool.eq_iff_iff]; simp
    have e5 : (c0.2.2.1 == to) = decide (c0.2.2.1 = to) := by rw [Bool.eq_iff_iff]; simp
    have e6 : (btw (l.take i.toNat) fr to).length ≤ l.length := Nat.le_trans (List.length_filter_le _ _) (by simp; omega)
    rw [e2, e3, e4, e5, btw_step h0]
    cases hq1 : decide (c0.2.1 = fr)
    · simp only [cond_false, Bool.false_and, List.append_nil]
      exact ⟨⟨by omega, by omega, trivial⟩, by omega⟩
    cases hq2 : decide (c0.2.2.1 = to)
    · simp only [cond_false, cond_true, Bool.and_false, List.append_nil]
      exact ⟨⟨by omega, by omega, trivial⟩, by omega⟩
    · simp only [cond_true, Bool.and_self]
      exact ⟨by simp only [List.length_cons, List.length_nil]; omega, ⟨by omega, by omega, trivial⟩, by omega⟩
  · rw [decide_eq_false hi]
    have e5 : i.toNat = l.length := by omega
    simp only [cond_false, e5, List.take_length]
end Go.Proofs.Ytmkfpfnjimmmaaa
