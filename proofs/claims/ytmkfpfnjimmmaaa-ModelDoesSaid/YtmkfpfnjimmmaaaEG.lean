/- The word of the law ModelDoes. Printed by gen.py. -/
import Derived.Test.YtmkfpfnjimmmaaaDE
namespace Go.Proofs.Ytmkfpfnjimmmaaa
open Go.RowKit DoorU
set_option linter.unusedVariables false
set_option linter.unusedSimpArgs false
set_option maxRecDepth 100000
set_option maxHeartbeats 1000000

theorem bytL_of {l : List Let} {x : Let} (h : bytL l) (hx : x ∈ l) : byt x.2.2.2.2.1 := h x hx
theorem set_mem {α : Type} {l : List α} {i : Nat} {y x : α} (h : x ∈ l.set i y) : x ∈ l ∨ x = y := List.mem_or_eq_of_mem_set h
theorem bytM_new (c : Cfg) : bytM (mNew c).1 := by
  unfold mNew
  cases okC c
  · exact ⟨fun q hq => by simp at hq, fun b hb => by simp at hb⟩
  · refine ⟨fun q hq => ?_, fun b hb => ?_⟩
    · rw [(List.mem_replicate.1 hq).2]
      intro x hx
      simp at hx
    · rw [(List.mem_replicate.1 hb).2]
      intro x hx
      simp at hx
theorem bytQ_put {c : Cfg} {q : Que} {fr t : Int} {text : List Int} (h : bytL q.2.1) (ht : byt text) : bytL (qPut c q fr t text).1.2.1 := by
  unfold qPut
  cases !(cli c fr && cli c t) || decide (64 < text.length)
  · cases decide (q.1 = 18446744073709551615)
    · cases decide (c.2.2.2.2.1 ≤ q.2.1.length)
      · intro x hx
        rcases List.mem_append.1 hx with hx | hx
        · exact h x hx
        · obtain rfl := List.mem_singleton.1 hx
          exact ht
      · exact h
    · exact h
  · exact h
theorem bytM_say {c : Cfg} {m : Mod} {who t : Int} {text : List Int} (h : bytM m) (ht : byt text) : bytM (mSay c m who t text).1 := by
  unfold mSay
  cases mCl m who
  · exact h
  · rw [cond_true]
    split
    · rename_i q hq
      refine ⟨fun q' hq' => ?_, h.2⟩
      rcases set_mem hq' with hq' | rfl
      · exact h.1 q' hq'
      · exact bytQ_put (h.1 q (List.mem_of_getElem? hq)) ht
    · exact h
theorem bytM_come {m : Mod} {who : Int} (h : bytM m) : bytM (mCome m who).1 := by
  unfold mCome
  cases mCl m who
  · exact h
  · rw [cond_true]
    split
    · rename_i p q hp hq
      cases decide (p < 0) || decide ((q.2.1.length : Int) ≤ p)
      · rw [cond_false]
        split
        · rename_i l hl
          cases mCl m l.2.2.1
          · exact h
          · rw [cond_true]
            split
            · rename_i b hb
              refine ⟨h.1, fun b' hb' => ?_⟩
              rcases set_mem hb' with hb' | rfl
              · exact h.2 b' hb'
              · intro x hx
                rcases List.mem_append.1 hx with hx | hx
                · exact h.2 b (List.mem_of_getElem? hb) x hx
                · obtain rfl := List.mem_singleton.1 hx
                  exact h.1 q (List.mem_of_getElem? hq) _ (List.mem_of_getElem? hl)
            · exact h
        · exact h
      · exact h
    · exact h
theorem bytM_gone {m : Mod} {who : Int} (h : bytM m) : bytM (mGone m who).1 := by
  unfold mGone
  cases mCl m who
  · exact h
  · rw [cond_true]
    split
    · rename_i p q hp hq
      cases decide (p ≤ 0)
      · rw [cond_false]
        split
        · rename_i l r hr
          refine ⟨fun q' hq' => ?_, h.2⟩
          rcases set_mem hq' with hq' | rfl
          · exact h.1 q' hq'
          · intro x hx
            exact h.1 q (List.mem_of_getElem? hq) x (by rw [hr]; exact List.mem_cons_of_mem _ hx)
        · exact h
      · exact h
    · exact h
theorem bytM_take {m : Mod} {who : Int} (h : bytM m) : bytM (mTake m who).1 ∧ byt (mTake m who).2.1.2.2.2.2.1 := by
  have hn : byt ([] : List Int) := fun x hx => by simp at hx
  unfold mTake
  cases mCl m who
  · exact ⟨h, hn⟩
  · rw [cond_true]
    split
    · rename_i l r hb
      have hm := h.2 _ (List.mem_of_getElem? hb)
      refine ⟨⟨h.1, fun b' hb' => ?_⟩, hm l (List.mem_cons_self ..)⟩
      rcases set_mem hb' with hb' | rfl
      · exact h.2 b' hb'
      · exact fun x hx => hm x (List.mem_cons_of_mem _ hx)
    · exact ⟨h, hn⟩
def S_does : Spec := ⟨.pair aC (.pair aM (.pair nI (.pair nI (.pair (.view true tY) .unit)))), .pair .bool .unit, fun (x : Cfg × Mod × Int × Int × List Int × Unit) => smM x.2.1 ∧ bytM x.2.1 ∧ x.2.2.2.2.1.length ≤ 140737488351232 ∧ byt x.2.2.2.2.1, fun _ => ((true, ()) : Bool × Unit)⟩

theorem vc_does : VC Try.prog Try.f16 (bodyOf Try.f16) S_does [(47, S_live), (48, S_mFew), (49, S_mNew), (50, S_mNew), (51, S_mSay), (52, S_mSay), (53, S_mSame), (54, S_mWait), (55, S_mWait), (56, S_mCome), (57, S_mCome), (58, S_mGone), (59, S_mGone), (60, S_mTake), (61, S_mTake), (62, S_lSame)] (fun _ _ => none) = (∀ (x : (List Int × Int × Int × Int × Int × Int × Int × Int × Int × Int × Int × Unit) × (List (Int × List (Bool × Int × Int × Int × List Int × Unit) × Unit) × List Int × List (List (Bool × Int × Int × Int × List Int × Unit)) × Unit) × Int × Int × List Int × Unit), smM x.snd.fst ∧ bytM x.snd.fst ∧ List.length x.snd.snd.snd.snd.fst ≤ (140737488351232 : Nat) ∧ byt x.snd.snd.snd.snd.fst →
  List.length x.fst.fst ≤ (9223372036854775807 : Nat) →
  List.length x.snd.fst.fst ≤ (9223372036854775807 : Nat) →
  List.length x.snd.fst.snd.fst ≤ (9223372036854775807 : Nat) →
  List.length x.snd.fst.snd.snd.fst ≤ (9223372036854775807 : Nat) →
  List.length x.snd.snd.snd.snd.fst ≤ (9223372036854775807 : Nat) →
  True ∧ True ∧ bif !fewM x.snd.fst then (true, ()) = (true, ()) else List.length x.snd.snd.snd.snd.fst ≤ (9223372036854775807 : Nat) →
  bif decide ((300 : Int) < (↑(List.length x.snd.snd.snd.snd.fst) : Int)) then (true, ()) = (true, ()) else True ∧ True ∧ List.length x.snd.fst.snd.fst * (8 : Nat) ≤ (140737488355328 : Nat) ∧ List.length x.snd.fst.fst * (32 : Nat) ≤ (140737488355328 : Nat) ∧ List.length x.snd.fst.snd.snd.fst * (24 : Nat) ≤ (140737488355328 : Nat) ∧ (smM x.snd.fst ∧ List.length x.snd.snd.snd.snd.fst ≤ (1000 : Nat)) ∧ (smM x.snd.fst ∧ List.length x.snd.snd.snd.snd.fst ≤ (1000 : Nat)) ∧ ((mNew x.fst).fst = (mNew x.fst).fst ∧ bytM (mNew x.fst).fst) ∧ bif (mNew x.fst).snd != (mNew x.fst).snd then (false, ()) = (true, ()) else ((mSay x.fst x.snd.fst x.snd.snd.fst x.snd.snd.snd.fst x.snd.snd.snd.snd.fst).fst = (mSay x.fst x.snd.fst x.snd.snd.fst x.snd.snd.snd.fst x.snd.snd.snd.snd.fst).fst ∧ bytM (mSay x.fst x.snd.fst x.snd.snd.fst x.snd.snd.snd.fst x.snd.snd.snd.snd.fst).fst) ∧ bif (mSay x.fst x.snd.fst x.snd.snd.fst x.snd.snd.snd.fst x.snd.snd.snd.snd.fst).snd != (mSay x.fst x.snd.fst x.snd.snd.fst x.snd.snd.snd.fst x.snd.snd.snd.snd.fst).snd then (false, ()) = (true, ()) else True ∧ True ∧ bif mWait x.snd.fst x.snd.snd.fst != mWait x.snd.fst x.snd.snd.fst then (false, ()) = (true, ()) else smM x.snd.fst ∧ smM x.snd.fst ∧ ((mCome x.snd.fst x.snd.snd.fst).fst = (mCome x.snd.fst x.snd.snd.fst).fst ∧ bytM (mCome x.snd.fst x.snd.snd.fst).fst) ∧ bif (mCome x.snd.fst x.snd.snd.fst).snd != (mCome x.snd.fst x.snd.snd.fst).snd then (false, ()) = (true, ()) else smM x.snd.fst ∧ smM x.snd.fst ∧ ((mGone x.snd.fst x.snd.snd.fst).fst = (mGone x.snd.fst x.snd.snd.fst).fst ∧ bytM (mGone x.snd.fst x.snd.snd.fst).fst) ∧ bif (mGone x.snd.fst x.snd.snd.fst).snd != (mGone x.snd.fst x.snd.snd.fst).snd then (false, ()) = (true, ()) else smM x.snd.fst ∧ smM x.snd.fst ∧ ((mTake x.snd.fst x.snd.snd.fst).fst = (mTake x.snd.fst x.snd.snd.fst).fst ∧ bytM (mTake x.snd.fst x.snd.snd.fst).fst) ∧ ((mTake x.snd.fst x.snd.snd.fst).snd.fst = (mTake x.snd.fst x.snd.snd.fst).snd.fst ∧ byt (mTake x.snd.fst x.snd.snd.fst).snd.fst.snd.snd.snd.snd.fst) ∧ bif (mTake x.snd.fst x.snd.snd.fst).snd.snd == (mTake x.snd.fst x.snd.snd.fst).snd.snd then (x.snd.fst = x.snd.fst ∧ bytM x.snd.fst) ∧ (true, ()) = (true, ()) else (false, ()) = (true, ())) := by kernel_rfl
theorem en_does (us : Array Value) (u : World) : (callFunc 16 us).run Try.prog u = .ok (.enter 16 us) u := by kernel_rfl
theorem sc_does : SC Try.prog 16 S_does := by
  refine SC.of Try.func16 (c := bodyOf Try.f16) (by kernel_rfl) (by kernel_rfl) (fun x => (by decide : (5:Nat) ≤ Try.f16.ntmps)) (DOk.cons sc_live en_live (DOk.cons sc_mFew en_mFew (DOk.cons sc_mNew en_mNew (DOk.cons sc_rNew en_rNew (DOk.cons sc_mSay en_mSay (DOk.cons sc_rSay en_rSay (DOk.cons sc_mSame en_mSame (DOk.cons sc_mWait en_mWait (DOk.cons sc_rWait en_rWait (DOk.cons sc_mCome en_mCome (DOk.cons sc_rCome en_rCome (DOk.cons sc_mGone en_mGone (DOk.cons sc_rGone en_rGone (DOk.cons sc_mTake en_mTake (DOk.cons sc_rTake en_rTake (DOk.cons sc_lSame en_lSame DOk.nil)))))))))))))))) (Eq.mpr vc_does ?_)
  rintro ⟨c, m, who, dst, text, ⟨⟩⟩ ⟨hs, hb, hl, ht⟩ _ _ _ _ _
  dsimp only at hs hb hl ht ⊢
  refine ⟨trivial, trivial, ?_⟩
  cases fewM m
  · rfl
  rw [Bool.not_true, cond_false]
  intro _
  by_cases h3 : (300 : Int) < (text.length : Int)
  · rw [decide_eq_true h3, cond_true]
  rw [decide_eq_false h3, cond_false]
  obtain ⟨w1, w2, w3, _⟩ := (id hs : _ ∧ _ ∧ _ ∧ _)
  refine ⟨trivial, trivial, by omega, by omega, by omega, ⟨hs, by omega⟩, ⟨hs, by omega⟩, ⟨rfl, bytM_new c⟩, ?_⟩
  rw [bne_self_eq_false, cond_false]
  refine ⟨⟨rfl, bytM_say hb ht⟩, ?_⟩
  rw [bne_self_eq_false, cond_false]
  refine ⟨trivial, trivial, ?_⟩
  rw [bne_self_eq_false, cond_false]
  refine ⟨hs, hs, ⟨rfl, bytM_come hb⟩, ?_⟩
  rw [bne_self_eq_false, cond_false]
  refine ⟨hs, hs, ⟨rfl, bytM_gone hb⟩, ?_⟩
  rw [bne_self_eq_false, cond_false]
  refine ⟨hs, hs, ⟨rfl, (bytM_take hb).1⟩, ⟨rfl, (bytM_take hb).2⟩, ?_⟩
  rw [beq_self_eq_true, cond_true]
  exact ⟨⟨rfl, hb⟩, rfl⟩
end Go.Proofs.Ytmkfpfnjimmmaaa
