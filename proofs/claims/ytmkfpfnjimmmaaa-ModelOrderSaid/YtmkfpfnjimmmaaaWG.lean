/- The words of the law of order. Printed by gen.py. -/
import Derived.Test.YtmkfpfnjimmmaaaWH
namespace Go.Proofs.Ytmkfpfnjimmmaaa
open Go.RowKit DoorU
set_option linter.unusedVariables false
set_option linter.unusedSimpArgs false
set_option maxRecDepth 100000
set_option maxHeartbeats 1000000
def RestP (c : Cfg) (n : Nat) (i : Int) (m : Mod) (sent taken : List Let) : Prop :=
  (List.length m.snd.snd.fst ≤ (9223372036854775807 : Nat) →
  bif (↑(List.length m.snd.snd.fst) : Int) != c.2.2.2.1 then (false, ()) = (true, ()) else List.length m.fst ≤ (9223372036854775807 : Nat) →
  bif (↑(List.length m.fst) : Int) != c.2.2.2.1 then (false, ()) = (true, ()) else List.length m.snd.fst ≤ (9223372036854775807 : Nat) →
  bif (↑(List.length m.snd.fst) : Int) != c.2.2.2.1 then (false, ()) = (true, ()) else List.length m.snd.snd.fst ≤ (9223372036854775807 : Nat) →
  nn (0 : Int) ∧ ∀ (v_1 : Int × Unit), nn v_1.fst →
  bif decide (v_1.1 < (↑(List.length m.snd.snd.fst) : Int)) then (0 : Int) ≤ v_1.1 ∧ v_1.1 < (↑(List.length m.snd.snd.fst) : Int) ∧ ∀ (c0_1 : List (Bool × Int × Int × Int × List Int × Unit)), m.snd.snd.fst[Int.toNat v_1.1]? = some c0_1 →
  nn (0 : Int) ∧ ∀ (v_2 : Int × Unit), nn v_2.fst →
  bif decide (v_2.1 < c.2.2.2.1) then List.length taken ≤ (100000 : Nat) ∧ List.length c0_1 ≤ (100000 : Nat) ∧ (List.length (btw taken v_2.1 v_1.1) + List.length (btw c0_1 v_2.1 v_1.1)) * nat_lit 56 ≤ (140737488351232 : Nat) ∧ List.length sent ≤ (100000 : Nat) ∧ bif decide ((↑(List.length (btw sent v_2.1 v_1.1)) : Int) < (↑(List.length (btw taken v_2.1 v_1.1 ++ btw c0_1 v_2.1 v_1.1)) : Int)) then (false, ()) = (true, ()) else nn (0 : Int) ∧ ∀ (v_3 : Int × Unit), nn v_3.fst →
  bif decide (v_3.1 < (↑(List.length (btw taken v_2.1 v_1.1 ++ btw c0_1 v_2.1 v_1.1)) : Int)) then (0 : Int) ≤ v_3.1 ∧ v_3.1 < (↑(List.length (btw taken v_2.1 v_1.1 ++ btw c0_1 v_2.1 v_1.1)) : Int) ∧ Int.toNat v_3.1 < List.length (btw taken v_2.1 v_1.1 ++ btw c0_1 v_2.1 v_1.1) ∧ ∀ (x : Bool × Int × Int × Int × List Int × Unit), (btw taken v_2.1 v_1.1 ++ btw c0_1 v_2.1 v_1.1)[Int.toNat v_3.1]? = some x →
  (0 : Int) ≤ v_3.1 ∧ v_3.1 < (↑(List.length (btw sent v_2.1 v_1.1)) : Int) ∧ Int.toNat v_3.1 < List.length (btw sent v_2.1 v_1.1) ∧ ∀ (x_1 : Bool × Int × Int × Int × List Int × Unit), (btw sent v_2.1 v_1.1)[Int.toNat v_3.1]? = some x_1 →
  (byt x.2.snd.snd.snd.fst ∧ byt x_1.2.snd.snd.snd.fst) ∧ bif !x.2.snd.snd.snd.fst == x_1.2.snd.snd.snd.fst then (false, ()) = (true, ()) else nn (IntKind.wrap IntKind.i64 (v_3.1 + (1 : Int))) ∧ Int.toNat ((1000000 : Int) - IntKind.wrap IntKind.i64 (v_3.1 + (1 : Int))) < Int.toNat ((1000000 : Int) - v_3.fst) else nn (IntKind.wrap IntKind.i64 (v_2.1 + (1 : Int))) ∧ Int.toNat (c.2.2.2.1 - IntKind.wrap IntKind.i64 (v_2.1 + (1 : Int))) < Int.toNat (c.2.2.2.1 - v_2.fst) else (0 : Int) ≤ v_1.1 ∧ v_1.1 < (↑(List.length m.snd.fst) : Int) ∧ ∀ (c0_2 : Int), m.snd.fst[Int.toNat v_1.1]? = some c0_2 →
  bif decide (c0_2 < (0 : Int)) then (false, ()) = (true, ()) else (0 : Int) ≤ v_1.1 ∧ v_1.1 < (↑(List.length m.snd.fst) : Int) ∧ ∀ (c0_3 : Int), m.snd.fst[Int.toNat v_1.1]? = some c0_3 →
  (0 : Int) ≤ v_1.1 ∧ v_1.1 < (↑(List.length m.fst) : Int) ∧ ∀ (c0_4 : Int × List (Bool × Int × Int × Int × List Int × Unit) × Unit), m.fst[Int.toNat v_1.1]? = some c0_4 →
  bif decide ((↑(List.length c0_4.2.fst) : Int) < c0_3) then (false, ()) = (true, ()) else nn (IntKind.wrap IntKind.i64 (v_1.1 + (1 : Int))) ∧ Int.toNat (c.2.2.2.1 - IntKind.wrap IntKind.i64 (v_1.1 + (1 : Int))) < Int.toNat (c.2.2.2.1 - v_1.fst) else (MI c (IntKind.wrap IntKind.i64 (i + (1 : Int))) m sent taken ∧ le (n) (IntKind.wrap IntKind.i64 (i + (1 : Int)))) ∧ Int.toNat ((↑(n) : Int) - IntKind.wrap IntKind.i64 (i + (1 : Int))) < Int.toNat ((↑(n) : Int) - i))
theorem chk_ne (c : Cfg) : (chk c != 0) = !okC c := by unfold chk; cases okC c <;> rfl
theorem btw_len (l : List Let) (f t : Int) : (btw l f t).length ≤ l.length := List.length_filter_le _ _
theorem rest_ok {c : Cfg} {n : Nat} {i : Int} {m : Mod} {sent taken : List Let} (h : MI c (i + 1) m sent taken) (h0 : 0 ≤ i) (hin : i < n) (hn : n ≤ 80) : RestP c n i m sent taken := by
  have hN := h.n
  have hI := h.hi
  have hlq := h.lq
  have hlc := h.lc
  have hlb := h.lb
  have hls := h.ls
  have hlt := h.lt
  have b1 : ((List.length m.2.2.1 : Int) != c.2.2.2.1) = false := by rw [hlb]; exact bne_self_eq_false _
  have b2 : ((List.length m.1 : Int) != c.2.2.2.1) = false := by rw [hlq]; exact bne_self_eq_false _
  have b3 : ((List.length m.2.1 : Int) != c.2.2.2.1) = false := by rw [hlc]; exact bne_self_eq_false _
  have wi : IntKind.i64.wrap (i + 1) = i + 1 := IntWalk.i64_in _ (by omega)
  unfold RestP
  intro _
  rw [b1, cond_false]
  intro _
  rw [b2, cond_false]
  intro _
  rw [b3, cond_false]
  intro _
  refine ⟨Int.le_refl 0, ?_⟩
  rintro ⟨t, ⟨⟩⟩ ht
  dsimp only [nn] at ht ⊢
  by_cases h1 : t < (m.2.2.1.length : Int)
  · rw [decide_eq_true h1, cond_true]
    refine ⟨ht, h1, fun bx hbx => ⟨Int.le_refl 0, ?_⟩⟩
    have wt : IntKind.i64.wrap (t + 1) = t + 1 := IntWalk.i64_in _ (by omega)
    have hbb := h.b t.toNat bx hbx
    rintro ⟨f, ⟨⟩⟩ hf
    dsimp only at hf ⊢
    by_cases h2 : f < c.2.2.2.1
    · rw [decide_eq_true h2, cond_true]
      have wf : IntKind.i64.wrap (f + 1) = f + 1 := IntWalk.i64_in _ (by omega)
      have hq : m.1[f.toNat]? = some (m.1[f.toNat]'(by omega)) := List.getElem?_eq_getElem (by omega)
      have hp : m.2.1[f.toNat]? = some (m.2.1[f.toNat]'(by omega)) := List.getElem?_eq_getElem (by omega)
      have key := h.h f.toNat t.toNat _ _ bx hq hp hbx
      rw [show ((f.toNat : Nat) : Int) = f by omega, show ((t.toNat : Nat) : Int) = t by omega] at key
      have l1 := btw_len taken f t
      have l2 := btw_len bx f t
      have l3 := btw_len sent f t
      have key2 : ∃ r, (btw taken f t ++ btw bx f t).map (fun x => x.2.2.2.2.1) ++ r = (btw sent f t).map (fun x => x.2.2.2.2.1) := ⟨_, by rw [List.map_append]; exact key⟩
      obtain ⟨r, key2⟩ := key2
      have hlen : (btw taken f t ++ btw bx f t).length ≤ (btw sent f t).length := by
        have := congrArg List.length key2
        rw [List.length_append, List.length_map, List.length_map] at this
        omega
      have hlen2 : (btw taken f t ++ btw bx f t).length = (btw taken f t).length + (btw bx f t).length := List.length_append
      refine ⟨by omega, by omega, by omega, by omega, ?_⟩
      rw [decide_eq_false (by omega), cond_false]
      refine ⟨Int.le_refl 0, ?_⟩
      rintro ⟨j, ⟨⟩⟩ hj
      dsimp only at hj ⊢
      by_cases h3 : j < ((btw taken f t ++ btw bx f t).length : Int)
      · rw [decide_eq_true h3, cond_true]
        refine ⟨hj, h3, by omega, fun x hx => ⟨hj, by omega, by omega, fun y hy => ⟨⟨?_, ?_⟩, ?_⟩⟩⟩
        · rcases List.mem_append.1 (List.mem_of_getElem? hx) with h4 | h4
          · exact (h.ot x (List.mem_filter.1 h4).1).1
          · exact (hbb.2 x (List.mem_filter.1 h4).1).1.1
        · exact (h.os y (List.mem_filter.1 (List.mem_of_getElem? hy)).1).1
        · have e : x.2.2.2.2.1 = y.2.2.2.2.1 := by
            have h5 := congrArg (fun l => l[j.toNat]?) key2
            rw [List.getElem?_append_left (by rw [List.length_map]; omega), List.getElem?_map, List.getElem?_map, hx, hy] at h5
            exact Option.some.inj h5
          rw [e, beq_self_eq_true, Bool.not_true, cond_false]
          have wj : IntKind.i64.wrap (j + 1) = j + 1 := IntWalk.i64_in _ (by omega)
          rw [wj]
          exact ⟨by omega, by omega⟩
      · rw [decide_eq_false h3, cond_false, wf]
        exact ⟨by omega, by omega⟩
    · rw [decide_eq_false h2, cond_false]
      refine ⟨ht, by omega, fun p hp => ?_⟩
      have hq : m.1[t.toNat]? = some (m.1[t.toNat]'(by omega)) := List.getElem?_eq_getElem (by omega)
      have hc := h.hc _ _ _ hp hq
      rw [decide_eq_false (by omega), cond_false]
      refine ⟨ht, by omega, fun p' hp' => ⟨ht, by omega, fun q' hq' => ?_⟩⟩
      obtain rfl := Option.some.inj (hp.symm.trans hp')
      obtain rfl := Option.some.inj (hq.symm.trans hq')
      rw [decide_eq_false (by omega), cond_false, wt]
      exact ⟨by omega, by omega⟩
  · rw [decide_eq_false h1, cond_false, wi]
    exact ⟨⟨h, by unfold DoorU.le; omega⟩, by omega⟩

theorem vc_rchk : VC Try.prog Try.f63 (bodyOf Try.f63) S_chk [(99, S_wit)] (fun _ _ => none) = (∀ (x : (List Int × Int × Int × Int × Int × Int × Int × Int × Int × Int × Int × Unit) × Unit), True →
  List.length x.1.fst ≤ (9223372036854775807 : Nat) →
  List.length x.1.fst ≤ (9223372036854775807 : Nat) →
  bif decide ((↑(List.length x.1.fst) : Int) ≤ (64 : Int)) then True ∧ bif wit x.1.snd.fst (1 : Int) (8 : Int) then True ∧ bif wit x.1.snd.snd.fst (0 : Int) (8 : Int) then True ∧ bif wit x.1.snd.snd.snd.fst (1 : Int) (8 : Int) then True ∧ bif wit x.1.snd.snd.snd.snd.fst (1 : Int) (64 : Int) then True ∧ bif wit x.1.snd.snd.snd.snd.snd.fst (1 : Int) (10000 : Int) then bif decide (x.1.snd.snd.snd.snd.snd.fst < x.1.snd.snd.snd.snd.snd.snd.fst) then bif decide (x.1.snd.snd.snd.snd.snd.snd.fst ≤ (10000 : Int)) then True ∧ bif wit x.1.snd.snd.snd.snd.snd.snd.snd.fst (1 : Int) (10000 : Int) then True ∧ bif !wit x.1.snd.snd.snd.snd.snd.snd.snd.snd.fst (1 : Int) (64 : Int) then ((1 : Int), ()) = (chk x.1, ()) else bif decide (x.1.snd.snd.snd.snd.snd.snd.snd.snd.snd.fst < (1 : Int)) then ((1 : Int), ()) = (chk x.1, ()) else bif decide (x.1.snd.snd.snd.snd.snd.snd.snd.snd.snd.snd.fst < (1 : Int)) then ((1 : Int), ()) = (chk x.1, ()) else ((0 : Int), ()) = (chk x.1, ()) else ((1 : Int), ()) = (chk x.1, ()) else ((1 : Int), ()) = (chk x.1, ()) else ((1 : Int), ()) = (chk x.1, ()) else ((1 : Int), ()) = (chk x.1, ()) else ((1 : Int), ()) = (chk x.1, ()) else ((1 : Int), ()) = (chk x.1, ()) else ((1 : Int), ()) = (chk x.1, ()) else ((1 : Int), ()) = (chk x.1, ()) else ((1 : Int), ()) = (chk x.1, ())) := by kernel_rfl
theorem en_rchk (us : Array Value) (u : World) : (callFunc 63 us).run Try.prog u = .ok (.enter 63 us) u := by kernel_rfl
theorem sc_rchk : SC Try.prog 63 S_chk := by
  refine SC.of Try.func63 (c := bodyOf Try.f63) (by kernel_rfl) (by kernel_rfl) (fun x => (by decide : (1:Nat) ≤ Try.f63.ntmps)) (DOk.cons sc_rwit en_rwit DOk.nil) (Eq.mpr vc_rchk ?_)
  rintro ⟨⟨a, b, c, d, e, f, g, h, i, j, k, ⟨⟩⟩, ⟨⟩⟩ - h1 h2
  dsimp only [chk, okC]
  have nl : ∀ a b : Int, decide (a < b) = !decide (b ≤ a) := fun a b => by rw [Bool.eq_iff_iff]; simp
  have e1 : decide (a.length ≤ 64) = decide ((a.length : Int) ≤ (64 : Int)) := by rw [Bool.eq_iff_iff]; simp; omega
  simp only [e1, nl, true_and]
  cases decide ((a.length : Int) ≤ (64 : Int)) <;> simp only [Bool.not_true, Bool.not_false, Bool.true_and, Bool.false_and, Bool.and_false, cond_true, cond_false, true_and]
  cases wit b 1 8 <;> simp only [Bool.not_true, Bool.not_false, Bool.true_and, Bool.false_and, Bool.and_false, cond_true, cond_false, true_and]
  cases wit c 0 8 <;> simp only [Bool.not_true, Bool.not_false, Bool.true_and, Bool.false_and, Bool.and_false, cond_true, cond_false, true_and]
  cases wit d 1 8 <;> simp only [Bool.not_true, Bool.not_false, Bool.true_and, Bool.false_and, Bool.and_false, cond_true, cond_false, true_and]
  cases wit e 1 64 <;> simp only [Bool.not_true, Bool.not_false, Bool.true_and, Bool.false_and, Bool.and_false, cond_true, cond_false, true_and]
  cases wit f 1 10000 <;> simp only [Bool.not_true, Bool.not_false, Bool.true_and, Bool.false_and, Bool.and_false, cond_true, cond_false, true_and]
  cases decide (g ≤ f) <;> simp only [Bool.not_true, Bool.not_false, Bool.true_and, Bool.false_and, Bool.and_false, cond_true, cond_false, true_and]
  cases decide (g ≤ 10000) <;> simp only [Bool.not_true, Bool.not_false, Bool.true_and, Bool.false_and, Bool.and_false, cond_true, cond_false, true_and]
  cases wit h 1 10000 <;> simp only [Bool.not_true, Bool.not_false, Bool.true_and, Bool.false_and, Bool.and_false, cond_true, cond_false, true_and]
  cases wit i 1 64 <;> simp only [Bool.not_true, Bool.not_false, Bool.true_and, Bool.false_and, Bool.and_false, cond_true, cond_false, true_and]
  cases decide (1 ≤ j) <;> simp only [Bool.not_true, Bool.not_false, Bool.true_and, Bool.false_and, Bool.and_false, cond_true, cond_false, true_and]
  cases decide (1 ≤ k) <;> rfl

theorem vc_live : VC Try.prog Try.f47 (bodyOf Try.f47) S_live [(80, S_plain), (49, S_mNew), (51, S_mSay), (56, S_mCome), (58, S_mGone), (60, S_mTake), (54, S_mWait), (26, S_same)] (fun _ _ => none) = (∀ (x : Unit), True →
  True ∧ True ∧ True ∧ (0 : Nat) < nat_lit 2 ∧ (smM ((Int.ofNat (nat_lit 1), nilT (Bool × Int × Int × Int × List Int × Unit), ()) :: (Int.ofNat (nat_lit 1), nilT (Bool × Int × Int × Int × List Int × Unit), ()) :: nilT (Int × List (Bool × Int × Int × Int × List Int × Unit) × Unit), (0 : Int) :: (0 : Int) :: nilT Int, nilT (Bool × Int × Int × Int × List Int × Unit) :: nilT (Bool × Int × Int × Int × List Int × Unit) :: nilT (List (Bool × Int × Int × Int × List Int × Unit)), ()) ∧ List.length ((104 : Int) :: (105 : Int) :: nilT Int) ≤ (1000 : Nat)) ∧ smM ((IntKind.wrap IntKind.u64 (Int.ofNat (nat_lit 1) + (1 : Int)), (false, (0 : Int), (1 : Int), Int.ofNat (nat_lit 1), (104 : Int) :: (105 : Int) :: nilT Int, ()) :: nilT (Bool × Int × Int × Int × List Int × Unit), ()) :: (Int.ofNat (nat_lit 1), nilT (Bool × Int × Int × Int × List Int × Unit), ()) :: nilT (Int × List (Bool × Int × Int × Int × List Int × Unit) × Unit), (0 : Int) :: (0 : Int) :: nilT Int, nilT (Bool × Int × Int × Int × List Int × Unit) :: nilT (Bool × Int × Int × Int × List Int × Unit) :: nilT (List (Bool × Int × Int × Int × List Int × Unit)), ()) ∧ smM ((IntKind.wrap IntKind.u64 (Int.ofNat (nat_lit 1) + (1 : Int)), (false, (0 : Int), (1 : Int), Int.ofNat (nat_lit 1), (104 : Int) :: (105 : Int) :: nilT Int, ()) :: nilT (Bool × Int × Int × Int × List Int × Unit), ()) :: (Int.ofNat (nat_lit 1), nilT (Bool × Int × Int × Int × List Int × Unit), ()) :: nilT (Int × List (Bool × Int × Int × Int × List Int × Unit) × Unit), Int.ofNat (nat_lit 1) :: (0 : Int) :: nilT Int, nilT (Bool × Int × Int × Int × List Int × Unit) :: ((false, (0 : Int), (1 : Int), Int.ofNat (nat_lit 1), (104 : Int) :: (105 : Int) :: nilT Int, ()) :: nilT (Bool × Int × Int × Int × List Int × Unit)) :: nilT (List (Bool × Int × Int × Int × List Int × Unit)), ()) ∧ smM ((IntKind.wrap IntKind.u64 (Int.ofNat (nat_lit 1) + (1 : Int)), nilT (Bool × Int × Int × Int × List Int × Unit), ()) :: (Int.ofNat (nat_lit 1), nilT (Bool × Int × Int × Int × List Int × Unit), ()) :: nilT (Int × List (Bool × Int × Int × Int × List Int × Unit) × Unit), Int.ofNat (nat_lit 0) :: (0 : Int) :: nilT Int, nilT (Bool × Int × Int × Int × List Int × Unit) :: ((false, (0 : Int), (1 : Int), Int.ofNat (nat_lit 1), (104 : Int) :: (105 : Int) :: nilT Int, ()) :: nilT (Bool × Int × Int × Int × List Int × Unit)) :: nilT (List (Bool × Int × Int × Int × List Int × Unit)), ()) ∧ True ∧ True ∧ (0 : Nat) < nat_lit 2 ∧ (byt ((104 : Int) :: (105 : Int) :: nilT Int) ∧ byt ((104 : Int) :: (105 : Int) :: nilT Int)) ∧ (true, ()) = (true, ())) := by kernel_rfl
theorem en_live (us : Array Value) (u : World) : (callFunc 47 us).run Try.prog u = .ok (.enter 47 us) u := by kernel_rfl
theorem sc_live : SC Try.prog 47 S_live := by
  refine SC.of Try.func47 (c := bodyOf Try.f47) (by kernel_rfl) (by kernel_rfl) (fun x => (by decide : (0:Nat) ≤ Try.f47.ntmps)) (DOk.cons sc_plain en_plain (DOk.cons sc_mNew en_mNew (DOk.cons sc_mSay en_mSay (DOk.cons sc_mCome en_mCome (DOk.cons sc_mGone en_mGone (DOk.cons sc_mTake en_mTake (DOk.cons sc_mWait en_mWait (DOk.cons sc_same en_same DOk.nil)))))))) (Eq.mpr vc_live ?_)
  intro _ _
  simp [smM, smQ, byt, nilT]
  intro a b c l _ _ _ h
  subst h
  simp

theorem vc_order : VC Try.prog Try.f17 (bodyOf Try.f17) S_order [(47, S_live), (63, S_chk), (64, S_btw), (80, S_plain), (49, S_mNew), (51, S_mSay), (56, S_mCome), (58, S_mGone), (60, S_mTake), (54, S_mWait), (26, S_same)] A_order = (∀ (x : (List Int × Int × Int × Int × Int × Int × Int × Int × Int × Int × Int × Unit) × List Int × Unit), True →
  List.length x.1.fst ≤ (9223372036854775807 : Nat) →
  List.length x.2.fst ≤ (9223372036854775807 : Nat) →
  True ∧ True ∧ bif chk x.1 != (0 : Int) then (true, ()) = (true, ()) else List.length x.2.fst ≤ (9223372036854775807 : Nat) →
  bif decide ((80 : Int) < (↑(List.length x.2.fst) : Int)) then (true, ()) = (true, ()) else bif decide ((4611686018427387904 : Int) < x.1.snd.snd.snd.snd.snd.snd.snd.snd.snd.snd.fst) then (true, ()) = (true, ()) else True ∧ bif (mNew x.1).snd != (0 : Int) then (false, ()) = (true, ()) else List.length (mNew x.1).fst.fst ≤ (9223372036854775807 : Nat) →
  bif (↑(List.length (mNew x.1).fst.fst) : Int) != x.1.snd.snd.snd.fst then (false, ()) = (true, ()) else List.length (mNew x.1).fst.snd.snd.fst ≤ (9223372036854775807 : Nat) →
  bif (↑(List.length (mNew x.1).fst.snd.snd.fst) : Int) != x.1.snd.snd.snd.fst then (false, ()) = (true, ()) else List.length x.2.fst ≤ (9223372036854775807 : Nat) →
  (MI x.1 (0 : Int) (mNew x.1).fst (nilT (Bool × Int × Int × Int × List Int × Unit)) (nilT (Bool × Int × Int × Int × List Int × Unit)) ∧ le (List.length x.2.fst) (0 : Int)) ∧ ∀ (v : Int × (List (Int × List (Bool × Int × Int × Int × List Int × Unit) × Unit) × List Int × List (List (Bool × Int × Int × Int × List Int × Unit)) × Unit) × List (Bool × Int × Int × Int × List Int × Unit) × List (Bool × Int × Int × Int × List Int × Unit) × Unit), MI x.1 v.fst v.2.fst v.2.snd.fst v.2.snd.snd.fst ∧ le (List.length x.2.fst) v.fst →
  bif decide (v.1 < (↑(List.length x.2.fst) : Int)) then (0 : Int) ≤ v.1 ∧ v.1 < (↑(List.length x.2.fst) : Int) ∧ ∀ (c0 : Int), x.2.fst[Int.toNat v.1]? = some c0 →
  bif decide (c0 < (0 : Int)) then (true, ()) = (true, ()) else (4 : Int) ≠ (0 : Int) ∧ x.1.snd.snd.snd.fst ≠ (0 : Int) ∧ (4 : Int) ≠ (0 : Int) ∧ bif Int.tmod c0 (4 : Int) == (0 : Int) then (32 : Int) ≠ (0 : Int) ∧ x.1.snd.snd.snd.fst ≠ (0 : Int) ∧ (smM v.2.fst ∧ List.length (IntKind.wrap IntKind.u8 v.1 :: nilT Int) ≤ (1000 : Nat)) ∧ bif (mSay x.1 v.2.fst (Int.tmod (IntKind.wrap IntKind.i64 (Int.tdiv c0 (4 : Int))) x.1.snd.snd.snd.fst) (Int.tmod (IntKind.wrap IntKind.i64 (Int.tdiv c0 (32 : Int))) x.1.snd.snd.snd.fst) (IntKind.wrap IntKind.u8 v.1 :: nilT Int)).snd == (1 : Int) then (32 : Int) ≠ (0 : Int) ∧ x.1.snd.snd.snd.fst ≠ (0 : Int) ∧ (List.length v.2.snd.fst + List.length ((false, Int.tmod (IntKind.wrap IntKind.i64 (Int.tdiv c0 (4 : Int))) x.1.snd.snd.snd.fst, Int.tmod (IntKind.wrap IntKind.i64 (Int.tdiv c0 (32 : Int))) x.1.snd.snd.snd.fst, (0 : Int), IntKind.wrap IntKind.u8 v.1 :: nilT Int, ()) :: nilT (Bool × Int × Int × Int × List Int × Unit))) * nat_lit 56 ≤ (140737488351232 : Nat) ∧ (List.length (mSay x.1 v.2.fst (Int.tmod (IntKind.wrap IntKind.i64 (Int.tdiv c0 (4 : Int))) x.1.snd.snd.snd.fst) (Int.tmod (IntKind.wrap IntKind.i64 (Int.tdiv c0 (32 : Int))) x.1.snd.snd.snd.fst) (IntKind.wrap IntKind.u8 v.1 :: nilT Int)).fst.snd.snd.fst ≤ (9223372036854775807 : Nat) →
  bif (↑(List.length (mSay x.1 v.2.fst (Int.tmod (IntKind.wrap IntKind.i64 (Int.tdiv c0 (4 : Int))) x.1.snd.snd.snd.fst) (Int.tmod (IntKind.wrap IntKind.i64 (Int.tdiv c0 (32 : Int))) x.1.snd.snd.snd.fst) (IntKind.wrap IntKind.u8 v.1 :: nilT Int)).fst.snd.snd.fst) : Int) != x.1.snd.snd.snd.fst then (false, ()) = (true, ()) else List.length (mSay x.1 v.2.fst (Int.tmod (IntKind.wrap IntKind.i64 (Int.tdiv c0 (4 : Int))) x.1.snd.snd.snd.fst) (Int.tmod (IntKind.wrap IntKind.i64 (Int.tdiv c0 (32 : Int))) x.1.snd.snd.snd.fst) (IntKind.wrap IntKind.u8 v.1 :: nilT Int)).fst.fst ≤ (9223372036854775807 : Nat) →
  bif (↑(List.length (mSay x.1 v.2.fst (Int.tmod (IntKind.wrap IntKind.i64 (Int.tdiv c0 (4 : Int))) x.1.snd.snd.snd.fst) (Int.tmod (IntKind.wrap IntKind.i64 (Int.tdiv c0 (32 : Int))) x.1.snd.snd.snd.fst) (IntKind.wrap IntKind.u8 v.1 :: nilT Int)).fst.fst) : Int) != x.1.snd.snd.snd.fst then (false, ()) = (true, ()) else List.length (mSay x.1 v.2.fst (Int.tmod (IntKind.wrap IntKind.i64 (Int.tdiv c0 (4 : Int))) x.1.snd.snd.snd.fst) (Int.tmod (IntKind.wrap IntKind.i64 (Int.tdiv c0 (32 : Int))) x.1.snd.snd.snd.fst) (IntKind.wrap IntKind.u8 v.1 :: nilT Int)).fst.snd.fst ≤ (9223372036854775807 : Nat) →
  bif (↑(List.length (mSay x.1 v.2.fst (Int.tmod (IntKind.wrap IntKind.i64 (Int.tdiv c0 (4 : Int))) x.1.snd.snd.snd.fst) (Int.tmod (IntKind.wrap IntKind.i64 (Int.tdiv c0 (32 : Int))) x.1.snd.snd.snd.fst) (IntKind.wrap IntKind.u8 v.1 :: nilT Int)).fst.snd.fst) : Int) != x.1.snd.snd.snd.fst then (false, ()) = (true, ()) else List.length (mSay x.1 v.2.fst (Int.tmod (IntKind.wrap IntKind.i64 (Int.tdiv c0 (4 : Int))) x.1.snd.snd.snd.fst) (Int.tmod (IntKind.wrap IntKind.i64 (Int.tdiv c0 (32 : Int))) x.1.snd.snd.snd.fst) (IntKind.wrap IntKind.u8 v.1 :: nilT Int)).fst.snd.snd.fst ≤ (9223372036854775807 : Nat) →
  nn (0 : Int) ∧ ∀ (v_1 : Int × Unit), nn v_1.fst →
  bif decide (v_1.1 < (↑(List.length (mSay x.1 v.2.fst (Int.tmod (IntKind.wrap IntKind.i64 (Int.tdiv c0 (4 : Int))) x.1.snd.snd.snd.fst) (Int.tmod (IntKind.wrap IntKind.i64 (Int.tdiv c0 (32 : Int))) x.1.snd.snd.snd.fst) (IntKind.wrap IntKind.u8 v.1 :: nilT Int)).fst.snd.snd.fst) : Int)) then (0 : Int) ≤ v_1.1 ∧ v_1.1 < (↑(List.length (mSay x.1 v.2.fst (Int.tmod (IntKind.wrap IntKind.i64 (Int.tdiv c0 (4 : Int))) x.1.snd.snd.snd.fst) (Int.tmod (IntKind.wrap IntKind.i64 (Int.tdiv c0 (32 : Int))) x.1.snd.snd.snd.fst) (IntKind.wrap IntKind.u8 v.1 :: nilT Int)).fst.snd.snd.fst) : Int) ∧ ∀ (c0_1 : List (Bool × Int × Int × Int × List Int × Unit)), (mSay x.1 v.2.fst (Int.tmod (IntKind.wrap IntKind.i64 (Int.tdiv c0 (4 : Int))) x.1.snd.snd.snd.fst) (Int.tmod (IntKind.wrap IntKind.i64 (Int.tdiv c0 (32 : Int))) x.1.snd.snd.snd.fst) (IntKind.wrap IntKind.u8 v.1 :: nilT Int)).fst.snd.snd.fst[Int.toNat v_1.1]? = some c0_1 →
  nn (0 : Int) ∧ ∀ (v_2 : Int × Unit), nn v_2.fst →
  bif decide (v_2.1 < x.1.snd.snd.snd.fst) then List.length v.2.snd.snd.fst ≤ (100000 : Nat) ∧ List.length c0_1 ≤ (100000 : Nat) ∧ (List.length (btw v.2.snd.snd.fst v_2.1 v_1.1) + List.length (btw c0_1 v_2.1 v_1.1)) * nat_lit 56 ≤ (140737488351232 : Nat) ∧ List.length (v.2.snd.fst ++ (false, Int.tmod (IntKind.wrap IntKind.i64 (Int.tdiv c0 (4 : Int))) x.1.snd.snd.snd.fst, Int.tmod (IntKind.wrap IntKind.i64 (Int.tdiv c0 (32 : Int))) x.1.snd.snd.snd.fst, (0 : Int), IntKind.wrap IntKind.u8 v.1 :: nilT Int, ()) :: nilT (Bool × Int × Int × Int × List Int × Unit)) ≤ (100000 : Nat) ∧ bif decide ((↑(List.length (btw (v.2.snd.fst ++ (false, Int.tmod (IntKind.wrap IntKind.i64 (Int.tdiv c0 (4 : Int))) x.1.snd.snd.snd.fst, Int.tmod (IntKind.wrap IntKind.i64 (Int.tdiv c0 (32 : Int))) x.1.snd.snd.snd.fst, (0 : Int), IntKind.wrap IntKind.u8 v.1 :: nilT Int, ()) :: nilT (Bool × Int × Int × Int × List Int × Unit)) v_2.1 v_1.1)) : Int) < (↑(List.length (btw v.2.snd.snd.fst v_2.1 v_1.1 ++ btw c0_1 v_2.1 v_1.1)) : Int)) then (false, ()) = (true, ()) else nn (0 : Int) ∧ ∀ (v_3 : Int × Unit), nn v_3.fst →
  bif decide (v_3.1 < (↑(List.length (btw v.2.snd.snd.fst v_2.1 v_1.1 ++ btw c0_1 v_2.1 v_1.1)) : Int)) then (0 : Int) ≤ v_3.1 ∧ v_3.1 < (↑(List.length (btw v.2.snd.snd.fst v_2.1 v_1.1 ++ btw c0_1 v_2.1 v_1.1)) : Int) ∧ Int.toNat v_3.1 < List.length (btw v.2.snd.snd.fst v_2.1 v_1.1 ++ btw c0_1 v_2.1 v_1.1) ∧ ∀ (x_1 : Bool × Int × Int × Int × List Int × Unit), (btw v.2.snd.snd.fst v_2.1 v_1.1 ++ btw c0_1 v_2.1 v_1.1)[Int.toNat v_3.1]? = some x_1 →
  (0 : Int) ≤ v_3.1 ∧ v_3.1 < (↑(List.length (btw (v.2.snd.fst ++ (false, Int.tmod (IntKind.wrap IntKind.i64 (Int.tdiv c0 (4 : Int))) x.1.snd.snd.snd.fst, Int.tmod (IntKind.wrap IntKind.i64 (Int.tdiv c0 (32 : Int))) x.1.snd.snd.snd.fst, (0 : Int), IntKind.wrap IntKind.u8 v.1 :: nilT Int, ()) :: nilT (Bool × Int × Int × Int × List Int × Unit)) v_2.1 v_1.1)) : Int) ∧ Int.toNat v_3.1 < List.length (btw (v.2.snd.fst ++ (false, Int.tmod (IntKind.wrap IntKind.i64 (Int.tdiv c0 (4 : Int))) x.1.snd.snd.snd.fst, Int.tmod (IntKind.wrap IntKind.i64 (Int.tdiv c0 (32 : Int))) x.1.snd.snd.snd.fst, (0 : Int), IntKind.wrap IntKind.u8 v.1 :: nilT Int, ()) :: nilT (Bool × Int × Int × Int × List Int × Unit)) v_2.1 v_1.1) ∧ ∀ (x_2 : Bool × Int × Int × Int × List Int × Unit), (btw (v.2.snd.fst ++ (false, Int.tmod (IntKind.wrap IntKind.i64 (Int.tdiv c0 (4 : Int))) x.1.snd.snd.snd.fst, Int.tmod (IntKind.wrap IntKind.i64 (Int.tdiv c0 (32 : Int))) x.1.snd.snd.snd.fst, (0 : Int), IntKind.wrap IntKind.u8 v.1 :: nilT Int, ()) :: nilT (Bool × Int × Int × Int × List Int × Unit)) v_2.1 v_1.1)[Int.toNat v_3.1]? = some x_2 →
  (byt x_1.2.snd.snd.snd.fst ∧ byt x_2.2.snd.snd.snd.fst) ∧ bif !x_1.2.snd.snd.snd.fst == x_2.2.snd.snd.snd.fst then (false, ()) = (true, ()) else nn (IntKind.wrap IntKind.i64 (v_3.1 + (1 : Int))) ∧ Int.toNat ((1000000 : Int) - IntKind.wrap IntKind.i64 (v_3.1 + (1 : Int))) < Int.toNat ((1000000 : Int) - v_3.fst) else nn (IntKind.wrap IntKind.i64 (v_2.1 + (1 : Int))) ∧ Int.toNat (x.1.snd.snd.snd.fst - IntKind.wrap IntKind.i64 (v_2.1 + (1 : Int))) < Int.toNat (x.1.snd.snd.snd.fst - v_2.fst) else (0 : Int) ≤ v_1.1 ∧ v_1.1 < (↑(List.length (mSay x.1 v.2.fst (Int.tmod (IntKind.wrap IntKind.i64 (Int.tdiv c0 (4 : Int))) x.1.snd.snd.snd.fst) (Int.tmod (IntKind.wrap IntKind.i64 (Int.tdiv c0 (32 : Int))) x.1.snd.snd.snd.fst) (IntKind.wrap IntKind.u8 v.1 :: nilT Int)).fst.snd.fst) : Int) ∧ ∀ (c0_2 : Int), (mSay x.1 v.2.fst (Int.tmod (IntKind.wrap IntKind.i64 (Int.tdiv c0 (4 : Int))) x.1.snd.snd.snd.fst) (Int.tmod (IntKind.wrap IntKind.i64 (Int.tdiv c0 (32 : Int))) x.1.snd.snd.snd.fst) (IntKind.wrap IntKind.u8 v.1 :: nilT Int)).fst.snd.fst[Int.toNat v_1.1]? = some c0_2 →
  bif decide (c0_2 < (0 : Int)) then (false, ()) = (true, ()) else (0 : Int) ≤ v_1.1 ∧ v_1.1 < (↑(List.length (mSay x.1 v.2.fst (Int.tmod (IntKind.wrap IntKind.i64 (Int.tdiv c0 (4 : Int))) x.1.snd.snd.snd.fst) (Int.tmod (IntKind.wrap IntKind.i64 (Int.tdiv c0 (32 : Int))) x.1.snd.snd.snd.fst) (IntKind.wrap IntKind.u8 v.1 :: nilT Int)).fst.snd.fst) : Int) ∧ ∀ (c0_3 : Int), (mSay x.1 v.2.fst (Int.tmod (IntKind.wrap IntKind.i64 (Int.tdiv c0 (4 : Int))) x.1.snd.snd.snd.fst) (Int.tmod (IntKind.wrap IntKind.i64 (Int.tdiv c0 (32 : Int))) x.1.snd.snd.snd.fst) (IntKind.wrap IntKind.u8 v.1 :: nilT Int)).fst.snd.fst[Int.toNat v_1.1]? = some c0_3 →
  (0 : Int) ≤ v_1.1 ∧ v_1.1 < (↑(List.length (mSay x.1 v.2.fst (Int.tmod (IntKind.wrap IntKind.i64 (Int.tdiv c0 (4 : Int))) x.1.snd.snd.snd.fst) (Int.tmod (IntKind.wrap IntKind.i64 (Int.tdiv c0 (32 : Int))) x.1.snd.snd.snd.fst) (IntKind.wrap IntKind.u8 v.1 :: nilT Int)).fst.fst) : Int) ∧ ∀ (c0_4 : Int × List (Bool × Int × Int × Int × List Int × Unit) × Unit), (mSay x.1 v.2.fst (Int.tmod (IntKind.wrap IntKind.i64 (Int.tdiv c0 (4 : Int))) x.1.snd.snd.snd.fst) (Int.tmod (IntKind.wrap IntKind.i64 (Int.tdiv c0 (32 : Int))) x.1.snd.snd.snd.fst) (IntKind.wrap IntKind.u8 v.1 :: nilT Int)).fst.fst[Int.toNat v_1.1]? = some c0_4 →
  bif decide ((↑(List.length c0_4.2.fst) : Int) < c0_3) then (false, ()) = (true, ()) else nn (IntKind.wrap IntKind.i64 (v_1.1 + (1 : Int))) ∧ Int.toNat (x.1.snd.snd.snd.fst - IntKind.wrap IntKind.i64 (v_1.1 + (1 : Int))) < Int.toNat (x.1.snd.snd.snd.fst - v_1.fst) else (MI x.1 (IntKind.wrap IntKind.i64 (v.1 + (1 : Int))) (mSay x.1 v.2.fst (Int.tmod (IntKind.wrap IntKind.i64 (Int.tdiv c0 (4 : Int))) x.1.snd.snd.snd.fst) (Int.tmod (IntKind.wrap IntKind.i64 (Int.tdiv c0 (32 : Int))) x.1.snd.snd.snd.fst) (IntKind.wrap IntKind.u8 v.1 :: nilT Int)).fst (v.2.snd.fst ++ (false, Int.tmod (IntKind.wrap IntKind.i64 (Int.tdiv c0 (4 : Int))) x.1.snd.snd.snd.fst, Int.tmod (IntKind.wrap IntKind.i64 (Int.tdiv c0 (32 : Int))) x.1.snd.snd.snd.fst, (0 : Int), IntKind.wrap IntKind.u8 v.1 :: nilT Int, ()) :: nilT (Bool × Int × Int × Int × List Int × Unit)) v.2.snd.snd.fst ∧ le (List.length x.2.fst) (IntKind.wrap IntKind.i64 (v.1 + (1 : Int)))) ∧ Int.toNat ((↑(List.length x.2.fst) : Int) - IntKind.wrap IntKind.i64 (v.1 + (1 : Int))) < Int.toNat ((↑(List.length x.2.fst) : Int) - v.fst)) else List.length (mSay x.1 v.2.fst (Int.tmod (IntKind.wrap IntKind.i64 (Int.tdiv c0 (4 : Int))) x.1.snd.snd.snd.fst) (Int.tmod (IntKind.wrap IntKind.i64 (Int.tdiv c0 (32 : Int))) x.1.snd.snd.snd.fst) (IntKind.wrap IntKind.u8 v.1 :: nilT Int)).fst.snd.snd.fst ≤ (9223372036854775807 : Nat) →
  bif (↑(List.length (mSay x.1 v.2.fst (Int.tmod (IntKind.wrap IntKind.i64 (Int.tdiv c0 (4 : Int))) x.1.snd.snd.snd.fst) (Int.tmod (IntKind.wrap IntKind.i64 (Int.tdiv c0 (32 : Int))) x.1.snd.snd.snd.fst) (IntKind.wrap IntKind.u8 v.1 :: nilT Int)).fst.snd.snd.fst) : Int) != x.1.snd.snd.snd.fst then (false, ()) = (true, ()) else List.length (mSay x.1 v.2.fst (Int.tmod (IntKind.wrap IntKind.i64 (Int.tdiv c0 (4 : Int))) x.1.snd.snd.snd.fst) (Int.tmod (IntKind.wrap IntKind.i64 (Int.tdiv c0 (32 : Int))) x.1.snd.snd.snd.fst) (IntKind.wrap IntKind.u8 v.1 :: nilT Int)).fst.fst ≤ (9223372036854775807 : Nat) →
  bif (↑(List.length (mSay x.1 v.2.fst (Int.tmod (IntKind.wrap IntKind.i64 (Int.tdiv c0 (4 : Int))) x.1.snd.snd.snd.fst) (Int.tmod (IntKind.wrap IntKind.i64 (Int.tdiv c0 (32 : Int))) x.1.snd.snd.snd.fst) (IntKind.wrap IntKind.u8 v.1 :: nilT Int)).fst.fst) : Int) != x.1.snd.snd.snd.fst then (false, ()) = (true, ()) else List.length (mSay x.1 v.2.fst (Int.tmod (IntKind.wrap IntKind.i64 (Int.tdiv c0 (4 : Int))) x.1.snd.snd.snd.fst) (Int.tmod (IntKind.wrap IntKind.i64 (Int.tdiv c0 (32 : Int))) x.1.snd.snd.snd.fst) (IntKind.wrap IntKind.u8 v.1 :: nilT Int)).fst.snd.fst ≤ (9223372036854775807 : Nat) →
  bif (↑(List.length (mSay x.1 v.2.fst (Int.tmod (IntKind.wrap IntKind.i64 (Int.tdiv c0 (4 : Int))) x.1.snd.snd.snd.fst) (Int.tmod (IntKind.wrap IntKind.i64 (Int.tdiv c0 (32 : Int))) x.1.snd.snd.snd.fst) (IntKind.wrap IntKind.u8 v.1 :: nilT Int)).fst.snd.fst) : Int) != x.1.snd.snd.snd.fst then (false, ()) = (true, ()) else List.length (mSay x.1 v.2.fst (Int.tmod (IntKind.wrap IntKind.i64 (Int.tdiv c0 (4 : Int))) x.1.snd.snd.snd.fst) (Int.tmod (IntKind.wrap IntKind.i64 (Int.tdiv c0 (32 : Int))) x.1.snd.snd.snd.fst) (IntKind.wrap IntKind.u8 v.1 :: nilT Int)).fst.snd.snd.fst ≤ (9223372036854775807 : Nat) →
  nn (0 : Int) ∧ ∀ (v_1 : Int × Unit), nn v_1.fst →
  bif decide (v_1.1 < (↑(List.length (mSay x.1 v.2.fst (Int.tmod (IntKind.wrap IntKind.i64 (Int.tdiv c0 (4 : Int))) x.1.snd.snd.snd.fst) (Int.tmod (IntKind.wrap IntKind.i64 (Int.tdiv c0 (32 : Int))) x.1.snd.snd.snd.fst) (IntKind.wrap IntKind.u8 v.1 :: nilT Int)).fst.snd.snd.fst) : Int)) then (0 : Int) ≤ v_1.1 ∧ v_1.1 < (↑(List.length (mSay x.1 v.2.fst (Int.tmod (IntKind.wrap IntKind.i64 (Int.tdiv c0 (4 : Int))) x.1.snd.snd.snd.fst) (Int.tmod (IntKind.wrap IntKind.i64 (Int.tdiv c0 (32 : Int))) x.1.snd.snd.snd.fst) (IntKind.wrap IntKind.u8 v.1 :: nilT Int)).fst.snd.snd.fst) : Int) ∧ ∀ (c0_1 : List (Bool × Int × Int × Int × List Int × Unit)), (mSay x.1 v.2.fst (Int.tmod (IntKind.wrap IntKind.i64 (Int.tdiv c0 (4 : Int))) x.1.snd.snd.snd.fst) (Int.tmod (IntKind.wrap IntKind.i64 (Int.tdiv c0 (32 : Int))) x.1.snd.snd.snd.fst) (IntKind.wrap IntKind.u8 v.1 :: nilT Int)).fst.snd.snd.fst[Int.toNat v_1.1]? = some c0_1 →
  nn (0 : Int) ∧ ∀ (v_2 : Int × Unit), nn v_2.fst →
  bif decide (v_2.1 < x.1.snd.snd.snd.fst) then List.length v.2.snd.snd.fst ≤ (100000 : Nat) ∧ List.length c0_1 ≤ (100000 : Nat) ∧ (List.length (btw v.2.snd.snd.fst v_2.1 v_1.1) + List.length (btw c0_1 v_2.1 v_1.1)) * nat_lit 56 ≤ (140737488351232 : Nat) ∧ List.length v.2.snd.fst ≤ (100000 : Nat) ∧ bif decide ((↑(List.length (btw v.2.snd.fst v_2.1 v_1.1)) : Int) < (↑(List.length (btw v.2.snd.snd.fst v_2.1 v_1.1 ++ btw c0_1 v_2.1 v_1.1)) : Int)) then (false, ()) = (true, ()) else nn (0 : Int) ∧ ∀ (v_3 : Int × Unit), nn v_3.fst →
  bif decide (v_3.1 < (↑(List.length (btw v.2.snd.snd.fst v_2.1 v_1.1 ++ btw c0_1 v_2.1 v_1.1)) : Int)) then (0 : Int) ≤ v_3.1 ∧ v_3.1 < (↑(List.length (btw v.2.snd.snd.fst v_2.1 v_1.1 ++ btw c0_1 v_2.1 v_1.1)) : Int) ∧ Int.toNat v_3.1 < List.length (btw v.2.snd.snd.fst v_2.1 v_1.1 ++ btw c0_1 v_2.1 v_1.1) ∧ ∀ (x : Bool × Int × Int × Int × List Int × Unit), (btw v.2.snd.snd.fst v_2.1 v_1.1 ++ btw c0_1 v_2.1 v_1.1)[Int.toNat v_3.1]? = some x →
  (0 : Int) ≤ v_3.1 ∧ v_3.1 < (↑(List.length (btw v.2.snd.fst v_2.1 v_1.1)) : Int) ∧ Int.toNat v_3.1 < List.length (btw v.2.snd.fst v_2.1 v_1.1) ∧ ∀ (x_1 : Bool × Int × Int × Int × List Int × Unit), (btw v.2.snd.fst v_2.1 v_1.1)[Int.toNat v_3.1]? = some x_1 →
  (byt x.2.snd.snd.snd.fst ∧ byt x_1.2.snd.snd.snd.fst) ∧ bif !x.2.snd.snd.snd.fst == x_1.2.snd.snd.snd.fst then (false, ()) = (true, ()) else nn (IntKind.wrap IntKind.i64 (v_3.1 + (1 : Int))) ∧ Int.toNat ((1000000 : Int) - IntKind.wrap IntKind.i64 (v_3.1 + (1 : Int))) < Int.toNat ((1000000 : Int) - v_3.fst) else nn (IntKind.wrap IntKind.i64 (v_2.1 + (1 : Int))) ∧ Int.toNat (x.1.snd.snd.snd.fst - IntKind.wrap IntKind.i64 (v_2.1 + (1 : Int))) < Int.toNat (x.1.snd.snd.snd.fst - v_2.fst) else (0 : Int) ≤ v_1.1 ∧ v_1.1 < (↑(List.length (mSay x.1 v.2.fst (Int.tmod (IntKind.wrap IntKind.i64 (Int.tdiv c0 (4 : Int))) x.1.snd.snd.snd.fst) (Int.tmod (IntKind.wrap IntKind.i64 (Int.tdiv c0 (32 : Int))) x.1.snd.snd.snd.fst) (IntKind.wrap IntKind.u8 v.1 :: nilT Int)).fst.snd.fst) : Int) ∧ ∀ (c0_2 : Int), (mSay x.1 v.2.fst (Int.tmod (IntKind.wrap IntKind.i64 (Int.tdiv c0 (4 : Int))) x.1.snd.snd.snd.fst) (Int.tmod (IntKind.wrap IntKind.i64 (Int.tdiv c0 (32 : Int))) x.1.snd.snd.snd.fst) (IntKind.wrap IntKind.u8 v.1 :: nilT Int)).fst.snd.fst[Int.toNat v_1.1]? = some c0_2 →
  bif decide (c0_2 < (0 : Int)) then (false, ()) = (true, ()) else (0 : Int) ≤ v_1.1 ∧ v_1.1 < (↑(List.length (mSay x.1 v.2.fst (Int.tmod (IntKind.wrap IntKind.i64 (Int.tdiv c0 (4 : Int))) x.1.snd.snd.snd.fst) (Int.tmod (IntKind.wrap IntKind.i64 (Int.tdiv c0 (32 : Int))) x.1.snd.snd.snd.fst) (IntKind.wrap IntKind.u8 v.1 :: nilT Int)).fst.snd.fst) : Int) ∧ ∀ (c0_3 : Int), (mSay x.1 v.2.fst (Int.tmod (IntKind.wrap IntKind.i64 (Int.tdiv c0 (4 : Int))) x.1.snd.snd.snd.fst) (Int.tmod (IntKind.wrap IntKind.i64 (Int.tdiv c0 (32 : Int))) x.1.snd.snd.snd.fst) (IntKind.wrap IntKind.u8 v.1 :: nilT Int)).fst.snd.fst[Int.toNat v_1.1]? = some c0_3 →
  (0 : Int) ≤ v_1.1 ∧ v_1.1 < (↑(List.length (mSay x.1 v.2.fst (Int.tmod (IntKind.wrap IntKind.i64 (Int.tdiv c0 (4 : Int))) x.1.snd.snd.snd.fst) (Int.tmod (IntKind.wrap IntKind.i64 (Int.tdiv c0 (32 : Int))) x.1.snd.snd.snd.fst) (IntKind.wrap IntKind.u8 v.1 :: nilT Int)).fst.fst) : Int) ∧ ∀ (c0_4 : Int × List (Bool × Int × Int × Int × List Int × Unit) × Unit), (mSay x.1 v.2.fst (Int.tmod (IntKind.wrap IntKind.i64 (Int.tdiv c0 (4 : Int))) x.1.snd.snd.snd.fst) (Int.tmod (IntKind.wrap IntKind.i64 (Int.tdiv c0 (32 : Int))) x.1.snd.snd.snd.fst) (IntKind.wrap IntKind.u8 v.1 :: nilT Int)).fst.fst[Int.toNat v_1.1]? = some c0_4 →
  bif decide ((↑(List.length c0_4.2.fst) : Int) < c0_3) then (false, ()) = (true, ()) else nn (IntKind.wrap IntKind.i64 (v_1.1 + (1 : Int))) ∧ Int.toNat (x.1.snd.snd.snd.fst - IntKind.wrap IntKind.i64 (v_1.1 + (1 : Int))) < Int.toNat (x.1.snd.snd.snd.fst - v_1.fst) else (MI x.1 (IntKind.wrap IntKind.i64 (v.1 + (1 : Int))) (mSay x.1 v.2.fst (Int.tmod (IntKind.wrap IntKind.i64 (Int.tdiv c0 (4 : Int))) x.1.snd.snd.snd.fst) (Int.tmod (IntKind.wrap IntKind.i64 (Int.tdiv c0 (32 : Int))) x.1.snd.snd.snd.fst) (IntKind.wrap IntKind.u8 v.1 :: nilT Int)).fst v.2.snd.fst v.2.snd.snd.fst ∧ le (List.length x.2.fst) (IntKind.wrap IntKind.i64 (v.1 + (1 : Int)))) ∧ Int.toNat ((↑(List.length x.2.fst) : Int) - IntKind.wrap IntKind.i64 (v.1 + (1 : Int))) < Int.toNat ((↑(List.length x.2.fst) : Int) - v.fst) else bif Int.tmod c0 (4 : Int) == (1 : Int) then smM v.2.fst ∧ (List.length (mCome v.2.fst (Int.tmod (IntKind.wrap IntKind.i64 (Int.tdiv c0 (4 : Int))) x.1.snd.snd.snd.fst)).fst.snd.snd.fst ≤ (9223372036854775807 : Nat) →
  bif (↑(List.length (mCome v.2.fst (Int.tmod (IntKind.wrap IntKind.i64 (Int.tdiv c0 (4 : Int))) x.1.snd.snd.snd.fst)).fst.snd.snd.fst) : Int) != x.1.snd.snd.snd.fst then (false, ()) = (true, ()) else List.length (mCome v.2.fst (Int.tmod (IntKind.wrap IntKind.i64 (Int.tdiv c0 (4 : Int))) x.1.snd.snd.snd.fst)).fst.fst ≤ (9223372036854775807 : Nat) →
  bif (↑(List.length (mCome v.2.fst (Int.tmod (IntKind.wrap IntKind.i64 (Int.tdiv c0 (4 : Int))) x.1.snd.snd.snd.fst)).fst.fst) : Int) != x.1.snd.snd.snd.fst then (false, ()) = (true, ()) else List.length (mCome v.2.fst (Int.tmod (IntKind.wrap IntKind.i64 (Int.tdiv c0 (4 : Int))) x.1.snd.snd.snd.fst)).fst.snd.fst ≤ (9223372036854775807 : Nat) →
  bif (↑(List.length (mCome v.2.fst (Int.tmod (IntKind.wrap IntKind.i64 (Int.tdiv c0 (4 : Int))) x.1.snd.snd.snd.fst)).fst.snd.fst) : Int) != x.1.snd.snd.snd.fst then (false, ()) = (true, ()) else List.length (mCome v.2.fst (Int.tmod (IntKind.wrap IntKind.i64 (Int.tdiv c0 (4 : Int))) x.1.snd.snd.snd.fst)).fst.snd.snd.fst ≤ (9223372036854775807 : Nat) →
  nn (0 : Int) ∧ ∀ (v_1 : Int × Unit), nn v_1.fst →
  bif decide (v_1.1 < (↑(List.length (mCome v.2.fst (Int.tmod (IntKind.wrap IntKind.i64 (Int.tdiv c0 (4 : Int))) x.1.snd.snd.snd.fst)).fst.snd.snd.fst) : Int)) then (0 : Int) ≤ v_1.1 ∧ v_1.1 < (↑(List.length (mCome v.2.fst (Int.tmod (IntKind.wrap IntKind.i64 (Int.tdiv c0 (4 : Int))) x.1.snd.snd.snd.fst)).fst.snd.snd.fst) : Int) ∧ ∀ (c0_1 : List (Bool × Int × Int × Int × List Int × Unit)), (mCome v.2.fst (Int.tmod (IntKind.wrap IntKind.i64 (Int.tdiv c0 (4 : Int))) x.1.snd.snd.snd.fst)).fst.snd.snd.fst[Int.toNat v_1.1]? = some c0_1 →
  nn (0 : Int) ∧ ∀ (v_2 : Int × Unit), nn v_2.fst →
  bif decide (v_2.1 < x.1.snd.snd.snd.fst) then List.length v.2.snd.snd.fst ≤ (100000 : Nat) ∧ List.length c0_1 ≤ (100000 : Nat) ∧ (List.length (btw v.2.snd.snd.fst v_2.1 v_1.1) + List.length (btw c0_1 v_2.1 v_1.1)) * nat_lit 56 ≤ (140737488351232 : Nat) ∧ List.length v.2.snd.fst ≤ (100000 : Nat) ∧ bif decide ((↑(List.length (btw v.2.snd.fst v_2.1 v_1.1)) : Int) < (↑(List.length (btw v.2.snd.snd.fst v_2.1 v_1.1 ++ btw c0_1 v_2.1 v_1.1)) : Int)) then (false, ()) = (true, ()) else nn (0 : Int) ∧ ∀ (v_3 : Int × Unit), nn v_3.fst →
  bif decide (v_3.1 < (↑(List.length (btw v.2.snd.snd.fst v_2.1 v_1.1 ++ btw c0_1 v_2.1 v_1.1)) : Int)) then (0 : Int) ≤ v_3.1 ∧ v_3.1 < (↑(List.length (btw v.2.snd.snd.fst v_2.1 v_1.1 ++ btw c0_1 v_2.1 v_1.1)) : Int) ∧ Int.toNat v_3.1 < List.length (btw v.2.snd.snd.fst v_2.1 v_1.1 ++ btw c0_1 v_2.1 v_1.1) ∧ ∀ (x : Bool × Int × Int × Int × List Int × Unit), (btw v.2.snd.snd.fst v_2.1 v_1.1 ++ btw c0_1 v_2.1 v_1.1)[Int.toNat v_3.1]? = some x →
  (0 : Int) ≤ v_3.1 ∧ v_3.1 < (↑(List.length (btw v.2.snd.fst v_2.1 v_1.1)) : Int) ∧ Int.toNat v_3.1 < List.length (btw v.2.snd.fst v_2.1 v_1.1) ∧ ∀ (x_1 : Bool × Int × Int × Int × List Int × Unit), (btw v.2.snd.fst v_2.1 v_1.1)[Int.toNat v_3.1]? = some x_1 →
  (byt x.2.snd.snd.snd.fst ∧ byt x_1.2.snd.snd.snd.fst) ∧ bif !x.2.snd.snd.snd.fst == x_1.2.snd.snd.snd.fst then (false, ()) = (true, ()) else nn (IntKind.wrap IntKind.i64 (v_3.1 + (1 : Int))) ∧ Int.toNat ((1000000 : Int) - IntKind.wrap IntKind.i64 (v_3.1 + (1 : Int))) < Int.toNat ((1000000 : Int) - v_3.fst) else nn (IntKind.wrap IntKind.i64 (v_2.1 + (1 : Int))) ∧ Int.toNat (x.1.snd.snd.snd.fst - IntKind.wrap IntKind.i64 (v_2.1 + (1 : Int))) < Int.toNat (x.1.snd.snd.snd.fst - v_2.fst) else (0 : Int) ≤ v_1.1 ∧ v_1.1 < (↑(List.length (mCome v.2.fst (Int.tmod (IntKind.wrap IntKind.i64 (Int.tdiv c0 (4 : Int))) x.1.snd.snd.snd.fst)).fst.snd.fst) : Int) ∧ ∀ (c0_2 : Int), (mCome v.2.fst (Int.tmod (IntKind.wrap IntKind.i64 (Int.tdiv c0 (4 : Int))) x.1.snd.snd.snd.fst)).fst.snd.fst[Int.toNat v_1.1]? = some c0_2 →
  bif decide (c0_2 < (0 : Int)) then (false, ()) = (true, ()) else (0 : Int) ≤ v_1.1 ∧ v_1.1 < (↑(List.length (mCome v.2.fst (Int.tmod (IntKind.wrap IntKind.i64 (Int.tdiv c0 (4 : Int))) x.1.snd.snd.snd.fst)).fst.snd.fst) : Int) ∧ ∀ (c0_3 : Int), (mCome v.2.fst (Int.tmod (IntKind.wrap IntKind.i64 (Int.tdiv c0 (4 : Int))) x.1.snd.snd.snd.fst)).fst.snd.fst[Int.toNat v_1.1]? = some c0_3 →
  (0 : Int) ≤ v_1.1 ∧ v_1.1 < (↑(List.length (mCome v.2.fst (Int.tmod (IntKind.wrap IntKind.i64 (Int.tdiv c0 (4 : Int))) x.1.snd.snd.snd.fst)).fst.fst) : Int) ∧ ∀ (c0_4 : Int × List (Bool × Int × Int × Int × List Int × Unit) × Unit), (mCome v.2.fst (Int.tmod (IntKind.wrap IntKind.i64 (Int.tdiv c0 (4 : Int))) x.1.snd.snd.snd.fst)).fst.fst[Int.toNat v_1.1]? = some c0_4 →
  bif decide ((↑(List.length c0_4.2.fst) : Int) < c0_3) then (false, ()) = (true, ()) else nn (IntKind.wrap IntKind.i64 (v_1.1 + (1 : Int))) ∧ Int.toNat (x.1.snd.snd.snd.fst - IntKind.wrap IntKind.i64 (v_1.1 + (1 : Int))) < Int.toNat (x.1.snd.snd.snd.fst - v_1.fst) else (MI x.1 (IntKind.wrap IntKind.i64 (v.1 + (1 : Int))) (mCome v.2.fst (Int.tmod (IntKind.wrap IntKind.i64 (Int.tdiv c0 (4 : Int))) x.1.snd.snd.snd.fst)).fst v.2.snd.fst v.2.snd.snd.fst ∧ le (List.length x.2.fst) (IntKind.wrap IntKind.i64 (v.1 + (1 : Int)))) ∧ Int.toNat ((↑(List.length x.2.fst) : Int) - IntKind.wrap IntKind.i64 (v.1 + (1 : Int))) < Int.toNat ((↑(List.length x.2.fst) : Int) - v.fst)) else bif Int.tmod c0 (4 : Int) == (2 : Int) then smM v.2.fst ∧ (List.length (mGone v.2.fst (Int.tmod (IntKind.wrap IntKind.i64 (Int.tdiv c0 (4 : Int))) x.1.snd.snd.snd.fst)).fst.snd.snd.fst ≤ (9223372036854775807 : Nat) →
  bif (↑(List.length (mGone v.2.fst (Int.tmod (IntKind.wrap IntKind.i64 (Int.tdiv c0 (4 : Int))) x.1.snd.snd.snd.fst)).fst.snd.snd.fst) : Int) != x.1.snd.snd.snd.fst then (false, ()) = (true, ()) else List.length (mGone v.2.fst (Int.tmod (IntKind.wrap IntKind.i64 (Int.tdiv c0 (4 : Int))) x.1.snd.snd.snd.fst)).fst.fst ≤ (9223372036854775807 : Nat) →
  bif (↑(List.length (mGone v.2.fst (Int.tmod (IntKind.wrap IntKind.i64 (Int.tdiv c0 (4 : Int))) x.1.snd.snd.snd.fst)).fst.fst) : Int) != x.1.snd.snd.snd.fst then (false, ()) = (true, ()) else List.length (mGone v.2.fst (Int.tmod (IntKind.wrap IntKind.i64 (Int.tdiv c0 (4 : Int))) x.1.snd.snd.snd.fst)).fst.snd.fst ≤ (9223372036854775807 : Nat) →
  bif (↑(List.length (mGone v.2.fst (Int.tmod (IntKind.wrap IntKind.i64 (Int.tdiv c0 (4 : Int))) x.1.snd.snd.snd.fst)).fst.snd.fst) : Int) != x.1.snd.snd.snd.fst then (false, ()) = (true, ()) else List.length (mGone v.2.fst (Int.tmod (IntKind.wrap IntKind.i64 (Int.tdiv c0 (4 : Int))) x.1.snd.snd.snd.fst)).fst.snd.snd.fst ≤ (9223372036854775807 : Nat) →
  nn (0 : Int) ∧ ∀ (v_1 : Int × Unit), nn v_1.fst →
  bif decide (v_1.1 < (↑(List.length (mGone v.2.fst (Int.tmod (IntKind.wrap IntKind.i64 (Int.tdiv c0 (4 : Int))) x.1.snd.snd.snd.fst)).fst.snd.snd.fst) : Int)) then (0 : Int) ≤ v_1.1 ∧ v_1.1 < (↑(List.length (mGone v.2.fst (Int.tmod (IntKind.wrap IntKind.i64 (Int.tdiv c0 (4 : Int))) x.1.snd.snd.snd.fst)).fst.snd.snd.fst) : Int) ∧ ∀ (c0_1 : List (Bool × Int × Int × Int × List Int × Unit)), (mGone v.2.fst (Int.tmod (IntKind.wrap IntKind.i64 (Int.tdiv c0 (4 : Int))) x.1.snd.snd.snd.fst)).fst.snd.snd.fst[Int.toNat v_1.1]? = some c0_1 →
  nn (0 : Int) ∧ ∀ (v_2 : Int × Unit), nn v_2.fst →
  bif decide (v_2.1 < x.1.snd.snd.snd.fst) then List.length v.2.snd.snd.fst ≤ (100000 : Nat) ∧ List.length c0_1 ≤ (100000 : Nat) ∧ (List.length (btw v.2.snd.snd.fst v_2.1 v_1.1) + List.length (btw c0_1 v_2.1 v_1.1)) * nat_lit 56 ≤ (140737488351232 : Nat) ∧ List.length v.2.snd.fst ≤ (100000 : Nat) ∧ bif decide ((↑(List.length (btw v.2.snd.fst v_2.1 v_1.1)) : Int) < (↑(List.length (btw v.2.snd.snd.fst v_2.1 v_1.1 ++ btw c0_1 v_2.1 v_1.1)) : Int)) then (false, ()) = (true, ()) else nn (0 : Int) ∧ ∀ (v_3 : Int × Unit), nn v_3.fst →
  bif decide (v_3.1 < (↑(List.length (btw v.2.snd.snd.fst v_2.1 v_1.1 ++ btw c0_1 v_2.1 v_1.1)) : Int)) then (0 : Int) ≤ v_3.1 ∧ v_3.1 < (↑(List.length (btw v.2.snd.snd.fst v_2.1 v_1.1 ++ btw c0_1 v_2.1 v_1.1)) : Int) ∧ Int.toNat v_3.1 < List.length (btw v.2.snd.snd.fst v_2.1 v_1.1 ++ btw c0_1 v_2.1 v_1.1) ∧ ∀ (x : Bool × Int × Int × Int × List Int × Unit), (btw v.2.snd.snd.fst v_2.1 v_1.1 ++ btw c0_1 v_2.1 v_1.1)[Int.toNat v_3.1]? = some x →
  (0 : Int) ≤ v_3.1 ∧ v_3.1 < (↑(List.length (btw v.2.snd.fst v_2.1 v_1.1)) : Int) ∧ Int.toNat v_3.1 < List.length (btw v.2.snd.fst v_2.1 v_1.1) ∧ ∀ (x_1 : Bool × Int × Int × Int × List Int × Unit), (btw v.2.snd.fst v_2.1 v_1.1)[Int.toNat v_3.1]? = some x_1 →
  (byt x.2.snd.snd.snd.fst ∧ byt x_1.2.snd.snd.snd.fst) ∧ bif !x.2.snd.snd.snd.fst == x_1.2.snd.snd.snd.fst then (false, ()) = (true, ()) else nn (IntKind.wrap IntKind.i64 (v_3.1 + (1 : Int))) ∧ Int.toNat ((1000000 : Int) - IntKind.wrap IntKind.i64 (v_3.1 + (1 : Int))) < Int.toNat ((1000000 : Int) - v_3.fst) else nn (IntKind.wrap IntKind.i64 (v_2.1 + (1 : Int))) ∧ Int.toNat (x.1.snd.snd.snd.fst - IntKind.wrap IntKind.i64 (v_2.1 + (1 : Int))) < Int.toNat (x.1.snd.snd.snd.fst - v_2.fst) else (0 : Int) ≤ v_1.1 ∧ v_1.1 < (↑(List.length (mGone v.2.fst (Int.tmod (IntKind.wrap IntKind.i64 (Int.tdiv c0 (4 : Int))) x.1.snd.snd.snd.fst)).fst.snd.fst) : Int) ∧ ∀ (c0_2 : Int), (mGone v.2.fst (Int.tmod (IntKind.wrap IntKind.i64 (Int.tdiv c0 (4 : Int))) x.1.snd.snd.snd.fst)).fst.snd.fst[Int.toNat v_1.1]? = some c0_2 →
  bif decide (c0_2 < (0 : Int)) then (false, ()) = (true, ()) else (0 : Int) ≤ v_1.1 ∧ v_1.1 < (↑(List.length (mGone v.2.fst (Int.tmod (IntKind.wrap IntKind.i64 (Int.tdiv c0 (4 : Int))) x.1.snd.snd.snd.fst)).fst.snd.fst) : Int) ∧ ∀ (c0_3 : Int), (mGone v.2.fst (Int.tmod (IntKind.wrap IntKind.i64 (Int.tdiv c0 (4 : Int))) x.1.snd.snd.snd.fst)).fst.snd.fst[Int.toNat v_1.1]? = some c0_3 →
  (0 : Int) ≤ v_1.1 ∧ v_1.1 < (↑(List.length (mGone v.2.fst (Int.tmod (IntKind.wrap IntKind.i64 (Int.tdiv c0 (4 : Int))) x.1.snd.snd.snd.fst)).fst.fst) : Int) ∧ ∀ (c0_4 : Int × List (Bool × Int × Int × Int × List Int × Unit) × Unit), (mGone v.2.fst (Int.tmod (IntKind.wrap IntKind.i64 (Int.tdiv c0 (4 : Int))) x.1.snd.snd.snd.fst)).fst.fst[Int.toNat v_1.1]? = some c0_4 →
  bif decide ((↑(List.length c0_4.2.fst) : Int) < c0_3) then (false, ()) = (true, ()) else nn (IntKind.wrap IntKind.i64 (v_1.1 + (1 : Int))) ∧ Int.toNat (x.1.snd.snd.snd.fst - IntKind.wrap IntKind.i64 (v_1.1 + (1 : Int))) < Int.toNat (x.1.snd.snd.snd.fst - v_1.fst) else (MI x.1 (IntKind.wrap IntKind.i64 (v.1 + (1 : Int))) (mGone v.2.fst (Int.tmod (IntKind.wrap IntKind.i64 (Int.tdiv c0 (4 : Int))) x.1.snd.snd.snd.fst)).fst v.2.snd.fst v.2.snd.snd.fst ∧ le (List.length x.2.fst) (IntKind.wrap IntKind.i64 (v.1 + (1 : Int)))) ∧ Int.toNat ((↑(List.length x.2.fst) : Int) - IntKind.wrap IntKind.i64 (v.1 + (1 : Int))) < Int.toNat ((↑(List.length x.2.fst) : Int) - v.fst)) else smM v.2.fst ∧ bif (mTake v.2.fst (Int.tmod (IntKind.wrap IntKind.i64 (Int.tdiv c0 (4 : Int))) x.1.snd.snd.snd.fst)).snd.snd then (List.length v.2.snd.snd.fst + List.length ((mTake v.2.fst (Int.tmod (IntKind.wrap IntKind.i64 (Int.tdiv c0 (4 : Int))) x.1.snd.snd.snd.fst)).snd.fst :: nilT (Bool × Int × Int × Int × List Int × Unit))) * nat_lit 56 ≤ (140737488351232 : Nat) ∧ (List.length (mTake v.2.fst (Int.tmod (IntKind.wrap IntKind.i64 (Int.tdiv c0 (4 : Int))) x.1.snd.snd.snd.fst)).fst.snd.snd.fst ≤ (9223372036854775807 : Nat) →
  bif (↑(List.length (mTake v.2.fst (Int.tmod (IntKind.wrap IntKind.i64 (Int.tdiv c0 (4 : Int))) x.1.snd.snd.snd.fst)).fst.snd.snd.fst) : Int) != x.1.snd.snd.snd.fst then (false, ()) = (true, ()) else List.length (mTake v.2.fst (Int.tmod (IntKind.wrap IntKind.i64 (Int.tdiv c0 (4 : Int))) x.1.snd.snd.snd.fst)).fst.fst ≤ (9223372036854775807 : Nat) →
  bif (↑(List.length (mTake v.2.fst (Int.tmod (IntKind.wrap IntKind.i64 (Int.tdiv c0 (4 : Int))) x.1.snd.snd.snd.fst)).fst.fst) : Int) != x.1.snd.snd.snd.fst then (false, ()) = (true, ()) else List.length (mTake v.2.fst (Int.tmod (IntKind.wrap IntKind.i64 (Int.tdiv c0 (4 : Int))) x.1.snd.snd.snd.fst)).fst.snd.fst ≤ (9223372036854775807 : Nat) →
  bif (↑(List.length (mTake v.2.fst (Int.tmod (IntKind.wrap IntKind.i64 (Int.tdiv c0 (4 : Int))) x.1.snd.snd.snd.fst)).fst.snd.fst) : Int) != x.1.snd.snd.snd.fst then (false, ()) = (true, ()) else List.length (mTake v.2.fst (Int.tmod (IntKind.wrap IntKind.i64 (Int.tdiv c0 (4 : Int))) x.1.snd.snd.snd.fst)).fst.snd.snd.fst ≤ (9223372036854775807 : Nat) →
  nn (0 : Int) ∧ ∀ (v_1 : Int × Unit), nn v_1.fst →
  bif decide (v_1.1 < (↑(List.length (mTake v.2.fst (Int.tmod (IntKind.wrap IntKind.i64 (Int.tdiv c0 (4 : Int))) x.1.snd.snd.snd.fst)).fst.snd.snd.fst) : Int)) then (0 : Int) ≤ v_1.1 ∧ v_1.1 < (↑(List.length (mTake v.2.fst (Int.tmod (IntKind.wrap IntKind.i64 (Int.tdiv c0 (4 : Int))) x.1.snd.snd.snd.fst)).fst.snd.snd.fst) : Int) ∧ ∀ (c0_1 : List (Bool × Int × Int × Int × List Int × Unit)), (mTake v.2.fst (Int.tmod (IntKind.wrap IntKind.i64 (Int.tdiv c0 (4 : Int))) x.1.snd.snd.snd.fst)).fst.snd.snd.fst[Int.toNat v_1.1]? = some c0_1 →
  nn (0 : Int) ∧ ∀ (v_2 : Int × Unit), nn v_2.fst →
  bif decide (v_2.1 < x.1.snd.snd.snd.fst) then List.length (v.2.snd.snd.fst ++ (mTake v.2.fst (Int.tmod (IntKind.wrap IntKind.i64 (Int.tdiv c0 (4 : Int))) x.1.snd.snd.snd.fst)).snd.fst :: nilT (Bool × Int × Int × Int × List Int × Unit)) ≤ (100000 : Nat) ∧ List.length c0_1 ≤ (100000 : Nat) ∧ (List.length (btw (v.2.snd.snd.fst ++ (mTake v.2.fst (Int.tmod (IntKind.wrap IntKind.i64 (Int.tdiv c0 (4 : Int))) x.1.snd.snd.snd.fst)).snd.fst :: nilT (Bool × Int × Int × Int × List Int × Unit)) v_2.1 v_1.1) + List.length (btw c0_1 v_2.1 v_1.1)) * nat_lit 56 ≤ (140737488351232 : Nat) ∧ List.length v.2.snd.fst ≤ (100000 : Nat) ∧ bif decide ((↑(List.length (btw v.2.snd.fst v_2.1 v_1.1)) : Int) < (↑(List.length (btw (v.2.snd.snd.fst ++ (mTake v.2.fst (Int.tmod (IntKind.wrap IntKind.i64 (Int.tdiv c0 (4 : Int))) x.1.snd.snd.snd.fst)).snd.fst :: nilT (Bool × Int × Int × Int × List Int × Unit)) v_2.1 v_1.1 ++ btw c0_1 v_2.1 v_1.1)) : Int)) then (false, ()) = (true, ()) else nn (0 : Int) ∧ ∀ (v_3 : Int × Unit), nn v_3.fst →
  bif decide (v_3.1 < (↑(List.length (btw (v.2.snd.snd.fst ++ (mTake v.2.fst (Int.tmod (IntKind.wrap IntKind.i64 (Int.tdiv c0 (4 : Int))) x.1.snd.snd.snd.fst)).snd.fst :: nilT (Bool × Int × Int × Int × List Int × Unit)) v_2.1 v_1.1 ++ btw c0_1 v_2.1 v_1.1)) : Int)) then (0 : Int) ≤ v_3.1 ∧ v_3.1 < (↑(List.length (btw (v.2.snd.snd.fst ++ (mTake v.2.fst (Int.tmod (IntKind.wrap IntKind.i64 (Int.tdiv c0 (4 : Int))) x.1.snd.snd.snd.fst)).snd.fst :: nilT (Bool × Int × Int × Int × List Int × Unit)) v_2.1 v_1.1 ++ btw c0_1 v_2.1 v_1.1)) : Int) ∧ Int.toNat v_3.1 < List.length (btw (v.2.snd.snd.fst ++ (mTake v.2.fst (Int.tmod (IntKind.wrap IntKind.i64 (Int.tdiv c0 (4 : Int))) x.1.snd.snd.snd.fst)).snd.fst :: nilT (Bool × Int × Int × Int × List Int × Unit)) v_2.1 v_1.1 ++ btw c0_1 v_2.1 v_1.1) ∧ ∀ (x_1 : Bool × Int × Int × Int × List Int × Unit), (btw (v.2.snd.snd.fst ++ (mTake v.2.fst (Int.tmod (IntKind.wrap IntKind.i64 (Int.tdiv c0 (4 : Int))) x.1.snd.snd.snd.fst)).snd.fst :: nilT (Bool × Int × Int × Int × List Int × Unit)) v_2.1 v_1.1 ++ btw c0_1 v_2.1 v_1.1)[Int.toNat v_3.1]? = some x_1 →
  (0 : Int) ≤ v_3.1 ∧ v_3.1 < (↑(List.length (btw v.2.snd.fst v_2.1 v_1.1)) : Int) ∧ Int.toNat v_3.1 < List.length (btw v.2.snd.fst v_2.1 v_1.1) ∧ ∀ (x : Bool × Int × Int × Int × List Int × Unit), (btw v.2.snd.fst v_2.1 v_1.1)[Int.toNat v_3.1]? = some x →
  (byt x_1.2.snd.snd.snd.fst ∧ byt x.2.snd.snd.snd.fst) ∧ bif !x_1.2.snd.snd.snd.fst == x.2.snd.snd.snd.fst then (false, ()) = (true, ()) else nn (IntKind.wrap IntKind.i64 (v_3.1 + (1 : Int))) ∧ Int.toNat ((1000000 : Int) - IntKind.wrap IntKind.i64 (v_3.1 + (1 : Int))) < Int.toNat ((1000000 : Int) - v_3.fst) else nn (IntKind.wrap IntKind.i64 (v_2.1 + (1 : Int))) ∧ Int.toNat (x.1.snd.snd.snd.fst - IntKind.wrap IntKind.i64 (v_2.1 + (1 : Int))) < Int.toNat (x.1.snd.snd.snd.fst - v_2.fst) else (0 : Int) ≤ v_1.1 ∧ v_1.1 < (↑(List.length (mTake v.2.fst (Int.tmod (IntKind.wrap IntKind.i64 (Int.tdiv c0 (4 : Int))) x.1.snd.snd.snd.fst)).fst.snd.fst) : Int) ∧ ∀ (c0_2 : Int), (mTake v.2.fst (Int.tmod (IntKind.wrap IntKind.i64 (Int.tdiv c0 (4 : Int))) x.1.snd.snd.snd.fst)).fst.snd.fst[Int.toNat v_1.1]? = some c0_2 →
  bif decide (c0_2 < (0 : Int)) then (false, ()) = (true, ()) else (0 : Int) ≤ v_1.1 ∧ v_1.1 < (↑(List.length (mTake v.2.fst (Int.tmod (IntKind.wrap IntKind.i64 (Int.tdiv c0 (4 : Int))) x.1.snd.snd.snd.fst)).fst.snd.fst) : Int) ∧ ∀ (c0_3 : Int), (mTake v.2.fst (Int.tmod (IntKind.wrap IntKind.i64 (Int.tdiv c0 (4 : Int))) x.1.snd.snd.snd.fst)).fst.snd.fst[Int.toNat v_1.1]? = some c0_3 →
  (0 : Int) ≤ v_1.1 ∧ v_1.1 < (↑(List.length (mTake v.2.fst (Int.tmod (IntKind.wrap IntKind.i64 (Int.tdiv c0 (4 : Int))) x.1.snd.snd.snd.fst)).fst.fst) : Int) ∧ ∀ (c0_4 : Int × List (Bool × Int × Int × Int × List Int × Unit) × Unit), (mTake v.2.fst (Int.tmod (IntKind.wrap IntKind.i64 (Int.tdiv c0 (4 : Int))) x.1.snd.snd.snd.fst)).fst.fst[Int.toNat v_1.1]? = some c0_4 →
  bif decide ((↑(List.length c0_4.2.fst) : Int) < c0_3) then (false, ()) = (true, ()) else nn (IntKind.wrap IntKind.i64 (v_1.1 + (1 : Int))) ∧ Int.toNat (x.1.snd.snd.snd.fst - IntKind.wrap IntKind.i64 (v_1.1 + (1 : Int))) < Int.toNat (x.1.snd.snd.snd.fst - v_1.fst) else (MI x.1 (IntKind.wrap IntKind.i64 (v.1 + (1 : Int))) (mTake v.2.fst (Int.tmod (IntKind.wrap IntKind.i64 (Int.tdiv c0 (4 : Int))) x.1.snd.snd.snd.fst)).fst v.2.snd.fst (v.2.snd.snd.fst ++ (mTake v.2.fst (Int.tmod (IntKind.wrap IntKind.i64 (Int.tdiv c0 (4 : Int))) x.1.snd.snd.snd.fst)).snd.fst :: nilT (Bool × Int × Int × Int × List Int × Unit)) ∧ le (List.length x.2.fst) (IntKind.wrap IntKind.i64 (v.1 + (1 : Int)))) ∧ Int.toNat ((↑(List.length x.2.fst) : Int) - IntKind.wrap IntKind.i64 (v.1 + (1 : Int))) < Int.toNat ((↑(List.length x.2.fst) : Int) - v.fst)) else List.length (mTake v.2.fst (Int.tmod (IntKind.wrap IntKind.i64 (Int.tdiv c0 (4 : Int))) x.1.snd.snd.snd.fst)).fst.snd.snd.fst ≤ (9223372036854775807 : Nat) →
  bif (↑(List.length (mTake v.2.fst (Int.tmod (IntKind.wrap IntKind.i64 (Int.tdiv c0 (4 : Int))) x.1.snd.snd.snd.fst)).fst.snd.snd.fst) : Int) != x.1.snd.snd.snd.fst then (false, ()) = (true, ()) else List.length (mTake v.2.fst (Int.tmod (IntKind.wrap IntKind.i64 (Int.tdiv c0 (4 : Int))) x.1.snd.snd.snd.fst)).fst.fst ≤ (9223372036854775807 : Nat) →
  bif (↑(List.length (mTake v.2.fst (Int.tmod (IntKind.wrap IntKind.i64 (Int.tdiv c0 (4 : Int))) x.1.snd.snd.snd.fst)).fst.fst) : Int) != x.1.snd.snd.snd.fst then (false, ()) = (true, ()) else List.length (mTake v.2.fst (Int.tmod (IntKind.wrap IntKind.i64 (Int.tdiv c0 (4 : Int))) x.1.snd.snd.snd.fst)).fst.snd.fst ≤ (9223372036854775807 : Nat) →
  bif (↑(List.length (mTake v.2.fst (Int.tmod (IntKind.wrap IntKind.i64 (Int.tdiv c0 (4 : Int))) x.1.snd.snd.snd.fst)).fst.snd.fst) : Int) != x.1.snd.snd.snd.fst then (false, ()) = (true, ()) else List.length (mTake v.2.fst (Int.tmod (IntKind.wrap IntKind.i64 (Int.tdiv c0 (4 : Int))) x.1.snd.snd.snd.fst)).fst.snd.snd.fst ≤ (9223372036854775807 : Nat) →
  nn (0 : Int) ∧ ∀ (v_1 : Int × Unit), nn v_1.fst →
  bif decide (v_1.1 < (↑(List.length (mTake v.2.fst (Int.tmod (IntKind.wrap IntKind.i64 (Int.tdiv c0 (4 : Int))) x.1.snd.snd.snd.fst)).fst.snd.snd.fst) : Int)) then (0 : Int) ≤ v_1.1 ∧ v_1.1 < (↑(List.length (mTake v.2.fst (Int.tmod (IntKind.wrap IntKind.i64 (Int.tdiv c0 (4 : Int))) x.1.snd.snd.snd.fst)).fst.snd.snd.fst) : Int) ∧ ∀ (c0_1 : List (Bool × Int × Int × Int × List Int × Unit)), (mTake v.2.fst (Int.tmod (IntKind.wrap IntKind.i64 (Int.tdiv c0 (4 : Int))) x.1.snd.snd.snd.fst)).fst.snd.snd.fst[Int.toNat v_1.1]? = some c0_1 →
  nn (0 : Int) ∧ ∀ (v_2 : Int × Unit), nn v_2.fst →
  bif decide (v_2.1 < x.1.snd.snd.snd.fst) then List.length v.2.snd.snd.fst ≤ (100000 : Nat) ∧ List.length c0_1 ≤ (100000 : Nat) ∧ (List.length (btw v.2.snd.snd.fst v_2.1 v_1.1) + List.length (btw c0_1 v_2.1 v_1.1)) * nat_lit 56 ≤ (140737488351232 : Nat) ∧ List.length v.2.snd.fst ≤ (100000 : Nat) ∧ bif decide ((↑(List.length (btw v.2.snd.fst v_2.1 v_1.1)) : Int) < (↑(List.length (btw v.2.snd.snd.fst v_2.1 v_1.1 ++ btw c0_1 v_2.1 v_1.1)) : Int)) then (false, ()) = (true, ()) else nn (0 : Int) ∧ ∀ (v_3 : Int × Unit), nn v_3.fst →
  bif decide (v_3.1 < (↑(List.length (btw v.2.snd.snd.fst v_2.1 v_1.1 ++ btw c0_1 v_2.1 v_1.1)) : Int)) then (0 : Int) ≤ v_3.1 ∧ v_3.1 < (↑(List.length (btw v.2.snd.snd.fst v_2.1 v_1.1 ++ btw c0_1 v_2.1 v_1.1)) : Int) ∧ Int.toNat v_3.1 < List.length (btw v.2.snd.snd.fst v_2.1 v_1.1 ++ btw c0_1 v_2.1 v_1.1) ∧ ∀ (x : Bool × Int × Int × Int × List Int × Unit), (btw v.2.snd.snd.fst v_2.1 v_1.1 ++ btw c0_1 v_2.1 v_1.1)[Int.toNat v_3.1]? = some x →
  (0 : Int) ≤ v_3.1 ∧ v_3.1 < (↑(List.length (btw v.2.snd.fst v_2.1 v_1.1)) : Int) ∧ Int.toNat v_3.1 < List.length (btw v.2.snd.fst v_2.1 v_1.1) ∧ ∀ (x_1 : Bool × Int × Int × Int × List Int × Unit), (btw v.2.snd.fst v_2.1 v_1.1)[Int.toNat v_3.1]? = some x_1 →
  (byt x.2.snd.snd.snd.fst ∧ byt x_1.2.snd.snd.snd.fst) ∧ bif !x.2.snd.snd.snd.fst == x_1.2.snd.snd.snd.fst then (false, ()) = (true, ()) else nn (IntKind.wrap IntKind.i64 (v_3.1 + (1 : Int))) ∧ Int.toNat ((1000000 : Int) - IntKind.wrap IntKind.i64 (v_3.1 + (1 : Int))) < Int.toNat ((1000000 : Int) - v_3.fst) else nn (IntKind.wrap IntKind.i64 (v_2.1 + (1 : Int))) ∧ Int.toNat (x.1.snd.snd.snd.fst - IntKind.wrap IntKind.i64 (v_2.1 + (1 : Int))) < Int.toNat (x.1.snd.snd.snd.fst - v_2.fst) else (0 : Int) ≤ v_1.1 ∧ v_1.1 < (↑(List.length (mTake v.2.fst (Int.tmod (IntKind.wrap IntKind.i64 (Int.tdiv c0 (4 : Int))) x.1.snd.snd.snd.fst)).fst.snd.fst) : Int) ∧ ∀ (c0_2 : Int), (mTake v.2.fst (Int.tmod (IntKind.wrap IntKind.i64 (Int.tdiv c0 (4 : Int))) x.1.snd.snd.snd.fst)).fst.snd.fst[Int.toNat v_1.1]? = some c0_2 →
  bif decide (c0_2 < (0 : Int)) then (false, ()) = (true, ()) else (0 : Int) ≤ v_1.1 ∧ v_1.1 < (↑(List.length (mTake v.2.fst (Int.tmod (IntKind.wrap IntKind.i64 (Int.tdiv c0 (4 : Int))) x.1.snd.snd.snd.fst)).fst.snd.fst) : Int) ∧ ∀ (c0_3 : Int), (mTake v.2.fst (Int.tmod (IntKind.wrap IntKind.i64 (Int.tdiv c0 (4 : Int))) x.1.snd.snd.snd.fst)).fst.snd.fst[Int.toNat v_1.1]? = some c0_3 →
  (0 : Int) ≤ v_1.1 ∧ v_1.1 < (↑(List.length (mTake v.2.fst (Int.tmod (IntKind.wrap IntKind.i64 (Int.tdiv c0 (4 : Int))) x.1.snd.snd.snd.fst)).fst.fst) : Int) ∧ ∀ (c0_4 : Int × List (Bool × Int × Int × Int × List Int × Unit) × Unit), (mTake v.2.fst (Int.tmod (IntKind.wrap IntKind.i64 (Int.tdiv c0 (4 : Int))) x.1.snd.snd.snd.fst)).fst.fst[Int.toNat v_1.1]? = some c0_4 →
  bif decide ((↑(List.length c0_4.2.fst) : Int) < c0_3) then (false, ()) = (true, ()) else nn (IntKind.wrap IntKind.i64 (v_1.1 + (1 : Int))) ∧ Int.toNat (x.1.snd.snd.snd.fst - IntKind.wrap IntKind.i64 (v_1.1 + (1 : Int))) < Int.toNat (x.1.snd.snd.snd.fst - v_1.fst) else (MI x.1 (IntKind.wrap IntKind.i64 (v.1 + (1 : Int))) (mTake v.2.fst (Int.tmod (IntKind.wrap IntKind.i64 (Int.tdiv c0 (4 : Int))) x.1.snd.snd.snd.fst)).fst v.2.snd.fst v.2.snd.snd.fst ∧ le (List.length x.2.fst) (IntKind.wrap IntKind.i64 (v.1 + (1 : Int)))) ∧ Int.toNat ((↑(List.length x.2.fst) : Int) - IntKind.wrap IntKind.i64 (v.1 + (1 : Int))) < Int.toNat ((↑(List.length x.2.fst) : Int) - v.fst) else (true, ()) = (true, ())) := by kernel_rfl
theorem en_order (us : Array Value) (u : World) : (callFunc 17 us).run Try.prog u = .ok (.enter 17 us) u := by kernel_rfl
theorem sc_order : SC Try.prog 17 S_order := by
  refine SC.of Try.func17 (c := bodyOf Try.f17) (by kernel_rfl) (by kernel_rfl) (fun x => (by decide : (2:Nat) ≤ Try.f17.ntmps)) (DOk.cons sc_live en_live (DOk.cons sc_rchk en_rchk (DOk.cons sc_btw en_btw (DOk.cons sc_plain en_plain (DOk.cons sc_mNew en_mNew (DOk.cons sc_mSay en_mSay (DOk.cons sc_mCome en_mCome (DOk.cons sc_mGone en_mGone (DOk.cons sc_mTake en_mTake (DOk.cons sc_mWait en_mWait (DOk.cons sc_same en_same DOk.nil))))))))))) (Eq.mpr vc_order ?_)
  rintro ⟨c, steps, ⟨⟩⟩ - _ _
  dsimp only [nilT]
  refine ⟨trivial, trivial, ?_⟩
  rw [chk_ne]
  cases hk : okC c
  · rfl
  rw [Bool.not_true, cond_false]
  intro _
  by_cases h80 : (80 : Int) < (steps.length : Int)
  · rw [decide_eq_true h80, cond_true]
  rw [decide_eq_false h80, cond_false]
  cases decide ((4611686018427387904 : Int) < c.2.2.2.2.2.2.2.2.2.2.1)
  case true => rfl
  rw [cond_false]
  refine ⟨trivial, ?_⟩
  have h := MI.new hk
  have e1 : (mNew c).2 = 0 := by unfold mNew; rw [hk]; rfl
  have b1 : ((List.length (mNew c).1.1 : Int) != c.2.2.2.1) = false := by rw [h.lq]; exact bne_self_eq_false _
  have b2 : ((List.length (mNew c).1.2.2.1 : Int) != c.2.2.2.1) = false := by rw [h.lb]; exact bne_self_eq_false _
  rw [e1, show ((0 : Int) != 0) = false from rfl, cond_false]
  intro _
  rw [b1, cond_false]
  intro _
  rw [b2, cond_false]
  intro _
  have hN := h.n
  refine ⟨⟨h, by unfold DoorU.le; omega⟩, ?_⟩
  clear h e1 b1 b2
  rintro ⟨i, m, sent, taken, ⟨⟩⟩ ⟨h, hle⟩
  dsimp only at h hle ⊢
  by_cases hi : i < (steps.length : Int)
  case neg => rw [decide_eq_false hi, cond_false]
  rw [decide_eq_true hi, cond_true]
  have hI := h.hi
  have hls := h.ls
  have hlt := h.lt
  have hsm := h.sm
  have h81 : i + 1 ≤ 80 := by omega
  refine ⟨hI.1, hi, fun s hs => ?_⟩
  by_cases hs0 : s < 0
  · rw [decide_eq_true hs0, cond_true]
  rw [decide_eq_false hs0, cond_false]
  refine ⟨by decide, by omega, by decide, ?_⟩
  have hu : IntKind.u8.wrap i = i := IntWalk.u8_in _ (by omega)
  have hbt : byt [IntKind.u8.wrap i] := fun x hx => by rw [List.mem_singleton.1 hx, hu]; omega
  generalize (Int.tmod (IntKind.i64.wrap (s.tdiv 4)) c.2.2.2.1) = who
  generalize (Int.tmod (IntKind.i64.wrap (s.tdiv 32)) c.2.2.2.1) = to
  cases q0 : s.tmod 4 == 0
  case true =>
    rw [cond_true]
    refine ⟨by decide, by omega, ⟨hsm, by simp⟩, ?_⟩
    have k := h.say h81 (who := who) (to := to) hbt (by simp)
    cases q1 : (mSay c m who to [IntKind.u8.wrap i]).2 == 1
    · rw [cond_false]
      exact rest_ok (k.2 (by simpa using q1)) hI.1 hi (by omega)
    · rw [cond_true]
      exact ⟨by decide, by omega, by simp only [List.length_cons, List.length_nil]; omega, rest_ok (k.1 (by simpa using q1)) hI.1 hi (by omega)⟩
  rw [cond_false]
  cases q1 : s.tmod 4 == 1
  case true =>
    rw [cond_true]
    exact ⟨hsm, rest_ok (h.come h81 who) hI.1 hi (by omega)⟩
  rw [cond_false]
  cases q2 : s.tmod 4 == 2
  case true =>
    rw [cond_true]
    exact ⟨hsm, rest_ok (h.gone h81 who) hI.1 hi (by omega)⟩
  rw [cond_false]
  refine ⟨hsm, ?_⟩
  have k := h.take h81 who
  cases q3 : (mTake m who).2.2
  · rw [cond_false]
    exact rest_ok (k.2 q3) hI.1 hi (by omega)
  · rw [cond_true]
    exact ⟨by simp only [List.length_cons, List.length_nil]; omega, rest_ok (k.1 q3) hI.1 hi (by omega)⟩
end Go.Proofs.Ytmkfpfnjimmmaaa
