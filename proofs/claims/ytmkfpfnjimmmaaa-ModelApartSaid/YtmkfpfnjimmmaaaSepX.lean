/- The law of what stays apart. Printed by sep.py. -/
import Derived.Test.YtmkfpfnjimmmaaaSepT
namespace Go.Proofs.Ytmkfpfnjimmmaaa
open Go.RowKit
set_option linter.unusedVariables false
set_option linter.unusedSimpArgs false

theorem el_Lapi_Model : elOf Try.prog 79 = some (60, 3) := by kernel_rfl
theorem el_Lbool : elOf Try.prog 80 = some (4, 1) := by kernel_rfl
theorem en_shallot_shallotref23_Same (us : Array Value) (u : World) : (callFunc 53 us).run Try.prog u = .ok (.enter 53 us) u := by kernel_rfl
theorem zr_bool : zeroAV Try.prog 4 = some [.d (.bool false)] := by kernel_rfl


/-- What one client may change. -/
structure Ap (m : ModelV) (who : Int) (X : ModelV) (is mb : Bool) : Prop where
  ql : X.Queues.length = m.Queues.length
  cl : X.Come.length = m.Come.length
  bl : X.Boxes.length = m.Boxes.length
  no : is = false → X = m
  q : ∀ i : Nat, (i : Int) ≠ who → X.Queues[i]? = m.Queues[i]?
  c : ∀ i : Nat, (i : Int) ≠ who → X.Come[i]? = m.Come[i]?
  b : ∃ p : Nat, (∀ i : Nat, i ≠ p → X.Boxes[i]? = m.Boxes[i]?)
  nb : mb = false → X.Boxes = m.Boxes
theorem Ap.refl (m : ModelV) (who : Int) (is mb : Bool) : Ap m who m is mb := ⟨rfl, rfl, rfl, fun _ => rfl, fun _ _ => rfl, fun _ _ => rfl, ⟨0, fun _ _ => rfl⟩, fun _ => rfl⟩
theorem Ap.sets {m : ModelV} {who : Int} (h0 : mClient m who = true) {Q : List QueueV} {C : List Int} {B : List (List LetterV)} {mb : Bool} (hQ : Q = m.Queues ∨ ∃ x, Q = m.Queues.set who.toNat x) (hC : C = m.Come ∨ ∃ x, C = m.Come.set who.toNat x) (hB : B = m.Boxes ∨ (mb = true ∧ ∃ p x, B = m.Boxes.set p x)) : Ap m who ⟨Q, C, B⟩ true mb := by
  obtain ⟨k, rfl, _⟩ := mClient_at h0
  have hne : ∀ i : Nat, (i : Int) ≠ k → (k : Int).toNat ≠ i := fun i hi => by omega
  refine ⟨?_, ?_, ?_, fun h => (by cases h), fun i hi => ?_, fun i hi => ?_, ?_, fun hm => ?_⟩
  · rcases hQ with rfl | ⟨x, rfl⟩ <;> simp
  · rcases hC with rfl | ⟨x, rfl⟩ <;> simp
  · rcases hB with rfl | ⟨_, p, x, rfl⟩ <;> simp
  · rcases hQ with rfl | ⟨x, rfl⟩
    · rfl
    · exact List.getElem?_set_ne (hne i hi)
  · rcases hC with rfl | ⟨x, rfl⟩
    · rfl
    · exact List.getElem?_set_ne (hne i hi)
  · rcases hB with rfl | ⟨_, p, x, rfl⟩
    · exact ⟨0, fun _ _ => rfl⟩
    · exact ⟨p, fun i hi => List.getElem?_set_ne (Ne.symm hi)⟩
  · rcases hB with rfl | ⟨h, p, x, rfl⟩
    · rfl
    · rw [hm] at h; cases h
theorem ap_say (c : CfgV) (m : ModelV) (who to : Int) (text : List UInt8) : Ap m who (mSay c m who to text).1 true false := by
  unfold mSay
  split
  · rename_i h; exact .sets h (.inr ⟨_, rfl⟩) (.inl rfl) (.inl rfl)
  · exact .refl ..
theorem ap_come (m : ModelV) (who : Int) : Ap m who (mCome m who).1 (mCome m who).2 true := by
  unfold mCome
  split
  · rename_i h
    split
    · split
      · exact .refl ..
      · split
        · exact .refl ..
        · split
          · exact .sets h (.inl rfl) (.inr ⟨_, rfl⟩) (.inr ⟨rfl, _, _, rfl⟩)
          · exact .refl ..
    · exact .refl ..
  · exact .refl ..
theorem ap_gone (m : ModelV) (who : Int) : Ap m who (mGone m who).1 (mGone m who).2 false := by
  unfold mGone
  split
  · rename_i h
    split
    · split
      · exact .refl ..
      · split
        · exact .refl ..
        · exact .sets h (.inr ⟨_, rfl⟩) (.inr ⟨_, rfl⟩) (.inl rfl)
    · exact .refl ..
  · exact .refl ..
theorem ap_take (m : ModelV) (who : Int) : Ap m who (mTake m who).1 (mTake m who).2.2 true := by
  unfold mTake
  split
  · rename_i h
    split
    · exact .sets h (.inl rfl) (.inl rfl) (.inr ⟨rfl, _, _, rfl⟩)
    · exact .refl ..
  · exact .refl ..
theorem Ap.qset {m X : ModelV} {is mb : Bool} {i : Nat} {q : QueueV} (h : Ap m (i : Int) X is mb) (hq : m.Queues[i]? = some q) : (X.Queues.map eQueue).set i (eQueue q) = m.Queues.map eQueue := by
  rw [← List.map_set]
  congr 1
  apply List.ext_getElem?
  intro j
  by_cases hj : i = j
  · subst hj
    rw [List.getElem?_set_self (by rw [h.ql]; exact (List.getElem?_eq_some_iff.1 hq).1), hq]
  · rw [List.getElem?_set_ne hj, h.q j (by omega)]
theorem Ap.cset {m X : ModelV} {is mb : Bool} {i : Nat} {a : Int} (h : Ap m (i : Int) X is mb) (hq : m.Come[i]? = some a) : (X.Come.map eInt).set i (eInt a) = m.Come.map eInt := by
  rw [← List.map_set]
  congr 1
  apply List.ext_getElem?
  intro j
  by_cases hj : i = j
  · subst hj
    rw [List.getElem?_set_self (by rw [h.cl]; exact (List.getElem?_eq_some_iff.1 hq).1), hq]
  · rw [List.getElem?_set_ne hj, h.c j (by omega)]
theorem Ap.qid {m X : ModelV} {is mb : Bool} {who : Int} (h : Ap m who X is mb) (ho : ¬ (0 ≤ who ∧ who < m.Queues.length)) : X.Queues.map eQueue = m.Queues.map eQueue := by
  congr 1
  apply List.ext_getElem?
  intro j
  by_cases hj : (j : Int) = who
  · rw [List.getElem?_eq_none (by rw [h.ql]; omega), List.getElem?_eq_none (by omega)]
  · exact h.q j hj
theorem Ap.cid {m X : ModelV} {is mb : Bool} {who : Int} (h : Ap m who X is mb) (ho : ¬ (0 ≤ who ∧ who < m.Come.length)) : X.Come.map eInt = m.Come.map eInt := by
  congr 1
  apply List.ext_getElem?
  intro j
  by_cases hj : (j : Int) = who
  · rw [List.getElem?_eq_none (by rw [h.cl]; omega), List.getElem?_eq_none (by omega)]
  · exact h.c j hj
theorem all2_self {α : Type} {f : α → α → Bool} (h : ∀ x, f x x = true) (l : List α) : all2 f l l = true := all2_iff.2 ⟨rfl, fun i x y h1 h2 => by rw [h1] at h2; cases h2; exact h x⟩
theorem sameLs_self (l : List LetterV) : sameLs l l = true := all2_self sameL_self l
theorem sameQ_self (q : QueueV) : sameQ q q = true := by simp [sameQ, sameLs_self]
theorem sameM_self (m : ModelV) : sameM m m = true := by simp [sameM, all2_self (f := fun x y : Int => x == y) (by simp), all2_self sameQ_self, all2_self sameLs_self]
theorem r23_self (m : ModelV) (hm : okM m) : ACalls Try.prog 53 [aModel m, aModel m] (fun r bs => r = .d (.bool true) ∧ bs = []) := by
  have h := r23_same m m hm.qs hm.bs
  rw [sameM_self] at h
  exact h

set_option maxHeartbeats 1000000 in
set_option maxRecDepth 100000 in
theorem law_apart (c : CfgV) (m : ModelV) (hm : okM m) (who to : Int) (text : List UInt8) (ht : text.length ≤ 140737488355328) :
    ACalls Try.prog 18 [aCfg c, aModel m, .d (.int .i64 who), .d (.int .i64 to), .d (.view 1 (text.map eByte))] (fun r bs => r = .d (.bool true) ∧ bs = []) := by
  have hAp : ∀ (j : Nat) (X : ModelV) (is : Bool), [(mSay c m who to text).1, (mCome m who).1, (mGone m who).1, (mTake m who).1][j]? = some X → [true, (mCome m who).2, (mGone m who).2, (mTake m who).2.2][j]? = some is → Ap m who X is (j == 1 || j == 3) := fun j X is h1 h2 => by
    match j, h1, h2 with
    | 0, h1, h2 => simp at h1 h2; subst h1 h2; exact ap_say ..
    | 1, h1, h2 => simp at h1 h2; subst h1 h2; exact ap_come ..
    | 2, h1, h2 => simp at h1 h2; subst h1 h2; exact ap_gone ..
    | 3, h1, h2 => simp at h1 h2; subst h1 h2; exact ap_take ..
    | j + 4, h1, _ => simp at h1
  have hmq := hm.qs
  have hmb := hm.bs
  refine ACalls.of Try.func18 rfl (Nat.le_of_ble_eq_true rfl) ?_
  show Aw _ _ _ _ ⟨_, _⟩
  refine Aw.seq (Aw.region ?_)
  refine AL.u rfl rfl (B.bA (g := 0)) ?_
  refine AL.u rfl rfl (B.bA (g := 1)) ?_
  refine AL.v rfl rfl (B.mA) ?_
  refine AL.nil (AThen.n (Aw.seq (Aw.seq (Aw.region ?_))))
  refine AL.v rfl rfl (B.call0 (k := 2) rfl en_shallot_shallotlaw23_live (llive) .nil) ?_
  refine AL.v rfl rfl (B.not rfl rfl rfl) ?_
  refine AL.nil (AThen.n ?_)
  refine Aw.cases (t := 27) rfl (fun hc0 => ?_) (fun hc0 => ?_)
  · refine Aw.condT rfl rfl (Aw.seq (Aw.region ?_))
    refine AL.v rfl rfl (B.mA) ?_
    refine AL.nil (AThen.n (Aw.ret (AThen.r (APost.r ?_))))
    refine Ret.all [] rfl (.cons (.t (.d _)) .nil) gs_nil (.refl _) (.d _) ⟨congrArg (fun b => AV.d (.bool b)) ?_, rfl⟩
    first
      | rfl
      | (exfalso; simp at hc0; done)
      | (exfalso; simp at hg82; omega)
      | (exfalso; simp at hg91; omega)
      | (exfalso; simp at hc3; omega)
      | (exfalso; have h := hap.no (by simpa using hg109); rw [h, sameM_self] at hc4; simp at hc4; done)
      | (exfalso; simp at hc7; done)
      | (exfalso; simp at hg190; omega)
      | (exfalso; rcases hxj with h | ⟨_, _, h⟩ <;> simp_all <;> omega)
      | (trace_state; sorry)
  refine Aw.condF rfl rfl (Aw.skip (AThen.n (Aw.seq (Aw.seq (Aw.region ?_)))))
  refine AL.v rfl rfl (B.lN ty_api_Model) ?_
  refine AL.v rfl rfl (B.call0 (k := 2) rfl en_shallot_shallotref23_Few (r23_few m hm) (.c .nil)) ?_
  refine AL.v rfl rfl (B.not rfl rfl rfl) ?_
  refine AL.v rfl rfl (B.mA) ?_
  refine AL.cases (t := 31) rfl (fun hg31 => ?_) (fun hg31 => ?_)
  · refine AL.off rfl rfl rfl rfl rfl (by decide) ?_
    refine AL.off rfl rfl rfl rfl rfl (by decide) ?_
    refine AL.off rfl rfl rfl rfl rfl (by decide) ?_
    refine AL.v rfl rfl (B.pT) ?_
    refine AL.nil (AThen.n ?_)
    refine Aw.condT rfl (rfl) ?_
    refine Aw.seq (Aw.region ?_)
    refine AL.v rfl rfl (B.mA) ?_
    refine AL.nil (AThen.n (Aw.ret (AThen.r (APost.r ?_))))
    refine Ret.all [] rfl (.cons (.t (.d _)) .nil) gs_nil (.refl _) (.d _) ⟨congrArg (fun b => AV.d (.bool b)) ?_, rfl⟩
    first
      | rfl
      | (exfalso; simp at hc0; done)
      | (exfalso; simp at hg82; omega)
      | (exfalso; simp at hg91; omega)
      | (exfalso; simp at hc3; omega)
      | (exfalso; have h := hap.no (by simpa using hg109); rw [h, sameM_self] at hc4; simp at hc4; done)
      | (exfalso; simp at hc7; done)
      | (exfalso; simp at hg190; omega)
      | (exfalso; rcases hxj with h | ⟨_, _, h⟩ <;> simp_all <;> omega)
      | (trace_state; sorry)
  refine AL.gv rfl rfl rfl rfl (B.mA) ?_
  refine AL.gv rfl rfl rfl rfl (B.nA Try.underlying24) ?_
  refine AL.gv rfl rfl rfl rfl (B.cmp rfl rfl rfl rfl rfl) ?_
  refine AL.v rfl rfl (B.pF) ?_
  refine AL.nil (AThen.n ?_)
  refine Aw.cases (t := 35) rfl (fun hc1 => ?_) (fun hc1 => ?_)
  · refine Aw.condT rfl rfl (Aw.seq (Aw.region ?_))
    refine AL.v rfl rfl (B.mA) ?_
    refine AL.nil (AThen.n (Aw.ret (AThen.r (APost.r ?_))))
    refine Ret.all [] rfl (.cons (.t (.d _)) .nil) gs_nil (.refl _) (.d _) ⟨congrArg (fun b => AV.d (.bool b)) ?_, rfl⟩
    first
      | rfl
      | (exfalso; simp at hc0; done)
      | (exfalso; simp at hg82; omega)
      | (exfalso; simp at hg91; omega)
      | (exfalso; simp at hc3; omega)
      | (exfalso; have h := hap.no (by simpa using hg109); rw [h, sameM_self] at hc4; simp at hc4; done)
      | (exfalso; simp at hc7; done)
      | (exfalso; simp at hg190; omega)
      | (exfalso; rcases hxj with h | ⟨_, _, h⟩ <;> simp_all <;> omega)
      | (trace_state; sorry)
  refine Aw.condF rfl rfl (Aw.skip (AThen.n (Aw.seq (Aw.region ?_))))
  refine AL.v rfl rfl (B.lN ty_api_Cfg) ?_
  refine AL.v rfl rfl (B.lN ty_api_Model) ?_
  refine AL.v rfl rfl (B.mA) ?_
  refine AL.v rfl rfl (B.mA) ?_
  refine AL.v rfl rfl (B.mA) ?_
  refine AL.v rfl rfl (B.call0 (k := 2) rfl en_shallot_model_Say (smodel_say c m hm who to text ht) (.c (.c (.c (.c (.c .nil)))))) ?_
  refine AL.v rfl rfl (B.mA) ?_
  refine AL.v rfl rfl (B.xA) ?_
  refine AL.v rfl rfl (B.xA) ?_
  refine AL.u rfl rfl (B.aA (g := 2) zr_api_Model) ?_
  refine AL.s rfl rfl (B.sA ty_api_Model) ?_
  refine AL.v rfl rfl (B.mA) ?_
  refine AL.nil (AThen.n (Aw.seq (Aw.region ?_)))
  refine AL.v rfl rfl (B.lN ty_api_Model) ?_
  refine AL.v rfl rfl (B.mA) ?_
  refine AL.v rfl rfl (B.call0 (k := 3) rfl en_shallot_model_Come (smodel_come m hm who) (.c (.c .nil))) ?_
  refine AL.v rfl rfl (B.mA) ?_
  refine AL.v rfl rfl (B.xA) ?_
  refine AL.v rfl rfl (B.xA) ?_
  refine AL.u rfl rfl (B.aA (g := 3) zr_api_Model) ?_
  refine AL.s rfl rfl (B.sA ty_api_Model) ?_
  refine AL.v rfl rfl (B.mA) ?_
  refine AL.nil (AThen.n (Aw.seq (Aw.region ?_)))
  refine AL.v rfl rfl (B.lN ty_api_Model) ?_
  refine AL.v rfl rfl (B.mA) ?_
  refine AL.v rfl rfl (B.call0 (k := 4) rfl en_shallot_model_Gone (smodel_gone m hm who) (.c (.c .nil))) ?_
  refine AL.v rfl rfl (B.mA) ?_
  refine AL.v rfl rfl (B.xA) ?_
  refine AL.v rfl rfl (B.xA) ?_
  refine AL.u rfl rfl (B.aA (g := 4) zr_api_Model) ?_
  refine AL.s rfl rfl (B.sA ty_api_Model) ?_
  refine AL.v rfl rfl (B.mA) ?_
  refine AL.nil (AThen.n (Aw.seq (Aw.region ?_)))
  refine AL.v rfl rfl (B.lN ty_api_Model) ?_
  refine AL.v rfl rfl (B.mA) ?_
  refine AL.v rfl rfl (B.call0 (k := 5) rfl en_shallot_model_Take (smodel_take m hm who) (.c (.c .nil))) ?_
  refine AL.v rfl rfl (B.mA) ?_
  refine AL.v rfl rfl (B.xA) ?_
  refine AL.v rfl rfl (B.xA) ?_
  refine AL.v rfl rfl (B.xA) ?_
  refine AL.u rfl rfl (B.aA (g := 5) zr_api_Model) ?_
  refine AL.u rfl rfl (B.aA (g := 6) zr_api_Letter) ?_
  refine AL.s rfl rfl (B.sA ty_api_Model) ?_
  refine AL.s rfl rfl (B.sA ty_api_Letter) ?_
  refine AL.v rfl rfl (B.mA) ?_
  refine AL.nil (AThen.n (Aw.seq (Aw.seq (Aw.region ?_))))
  refine AL.v rfl rfl (B.lN ty_api_Model) ?_
  refine AL.v rfl rfl (B.lN ty_api_Model) ?_
  refine AL.v rfl rfl (B.lN ty_api_Model) ?_
  refine AL.v rfl rfl (B.lN ty_api_Model) ?_
  refine AL.u rfl rfl (B.bslice (g := 7) rfl el_Lapi_Model (by rw [zr_api_Model]; rfl) (by decide) rfl (by decide) (by decide) rfl rfl rfl rfl) ?_
  refine AL.v rfl rfl (B.nA Try.underlying79) ?_
  refine AL.v rfl rfl (B.mA) ?_
  refine AL.nil (AThen.n (Aw.block ?_))
  refine Aw.move (σ' := ⟨(upd (upd (upd (upd (upd (upd (upd (upd (fun _ => AV.und) 70 (.d (.int .i64 (0 : Nat)))) 69 (.d (.int .i64 ((4 : Nat) : Int)))) 68 (.own 1 0 4)) 19 (.d (.bool (mTake m who).2.2))) 16 (.d (.bool (mGone m who).2))) 14 (.d (.bool (mCome m who).2))) 6 (.ptr 0 0 0)) 2 (.d (.int .i64 who))), blksOf [.var 60 [.d (.view 2 (m.Queues.map eQueue)), .d (.view 1 (m.Come.map eInt)), .d (.view 1 (m.Boxes.map eL_Letter))], .row 3 60 (List.map eModel [(mSay c m who to text).1, (mCome m who).1, (mGone m who).1, (mTake m who).1])]⟩) (Moved.mk' [] [1, 7] _ (fun g h => by simp at h) (loc_u (loc_u (loc_u (loc_u (loc_u (loc_u (loc_u (loc_u loc_und)))))))) rfl (by decide) (by simp) (at_cons (.va) (at_cons (.row' (by rfl)) at_nil))) ?_
  refine Aw.loop (fun n σ => ∃ k, k ≤ 4 ∧ n = 4 - k ∧ σ = ⟨(upd (upd (upd (upd (upd (upd (upd (upd (fun _ => AV.und) 70 (.d (.int .i64 (k : Nat)))) 69 (.d (.int .i64 ((4 : Nat) : Int)))) 68 (.own 1 0 4)) 19 (.d (.bool (mTake m who).2.2))) 16 (.d (.bool (mGone m who).2))) 14 (.d (.bool (mCome m who).2))) 6 (.ptr 0 0 0)) 2 (.d (.int .i64 who))), blksOf [.var 60 [.d (.view 2 (m.Queues.map eQueue)), .d (.view 1 (m.Come.map eInt)), .d (.view 1 (m.Boxes.map eL_Letter))], .row 3 60 (List.map eModel [(mSay c m who to text).1, (mCome m who).1, (mGone m who).1, (mTake m who).1])]⟩) (4) ⟨0, Nat.zero_le _, rfl, rfl⟩ ?_
  rintro n σ ⟨k, hk, rfl, rfl⟩
  refine Aw.seq (Aw.region ?_)
  refine AL.v rfl rfl (B.cmp rfl rfl rfl rfl rfl) ?_
  refine AL.nil (AThen.n (Aw.seq ?_))
  refine Aw.cases (t := 71) rfl (fun hc2 => ?_) (fun hc2 => ?_)
  · refine Aw.condT rfl rfl (Aw.skip (AThen.n (Aw.seq (Aw.block (Aw.seq ?_)))))
    have hlt : k < 4 := by simp at hc2; omega
    obtain ⟨X, hX⟩ : ∃ X, [(mSay c m who to text).1, (mCome m who).1, (mGone m who).1, (mTake m who).1][k]? = some X := ⟨_, List.getElem?_eq_getElem (by simpa using hlt)⟩
    obtain ⟨is, hI⟩ : ∃ is, [true, (mCome m who).2, (mGone m who).2, (mTake m who).2.2][k]? = some is := ⟨_, List.getElem?_eq_getElem (by simpa using hlt)⟩
    have hap := hAp k X is hX hI
    have hql := hap.ql
    have hcl := hap.cl
    have hbl := hap.bl
    refine Aw.region ?_
    refine AL.v rfl rfl (B.mA) ?_
    refine AL.v rfl rfl (B.idxOwn0 rfl el_Lapi_Model rfl rfl rfl rfl hlt rfl) ?_
    refine AL.v rfl rfl (B.loadN rfl ty_api_Model (.r rfl rfl (map_at hX) rfl) (by rfl) rfl) ?_
    refine AL.u rfl rfl (B.aA (g := 2) zr_api_Model) ?_
    refine AL.v rfl rfl (B.mA) ?_
    refine AL.s rfl rfl (B.sA ty_api_Model) ?_
    refine AL.nil (AThen.n (Aw.seq (Aw.seq (Aw.region ?_))))
    refine AL.v rfl rfl (B.fA fl_api_Model_0) ?_
    refine AL.v rfl rfl (B.l1 ty_Lapi_Queue) ?_
    refine AL.v rfl rfl (B.nA Try.underlying56) ?_
    refine AL.v rfl rfl (B.fA fl_api_Model_0) ?_
    refine AL.v rfl rfl (B.l1 ty_Lapi_Queue) ?_
    refine AL.v rfl rfl (B.nA Try.underlying56) ?_
    refine AL.v rfl rfl (B.cmp rfl rfl rfl rfl rfl) ?_
    refine AL.v rfl rfl (B.mA) ?_
    refine AL.cases (t := 82) rfl (fun hg82 => ?_) (fun hg82 => ?_)
    · refine AL.off rfl rfl rfl rfl rfl (by decide) ?_
      refine AL.off rfl rfl rfl rfl rfl (by decide) ?_
      refine AL.off rfl rfl rfl rfl rfl (by decide) ?_
      refine AL.off rfl rfl rfl rfl rfl (by decide) ?_
      refine AL.off rfl rfl rfl rfl rfl (by decide) ?_
      refine AL.off rfl rfl rfl rfl rfl (by decide) ?_
      refine AL.off rfl rfl rfl rfl rfl (by decide) ?_
      refine AL.v rfl rfl (B.pT) ?_
      refine AL.v rfl rfl (B.mA) ?_
      refine AL.off rfl rfl rfl rfl rfl (by decide) ?_
      refine AL.off rfl rfl rfl rfl rfl (by decide) ?_
      refine AL.off rfl rfl rfl rfl rfl (by decide) ?_
      refine AL.off rfl rfl rfl rfl rfl (by decide) ?_
      refine AL.off rfl rfl rfl rfl rfl (by decide) ?_
      refine AL.off rfl rfl rfl rfl rfl (by decide) ?_
      refine AL.off rfl rfl rfl rfl rfl (by decide) ?_
      refine AL.v rfl rfl (B.pT) ?_
      refine AL.nil (AThen.n ?_)
      refine Aw.condT rfl (rfl) ?_
      refine Aw.seq (Aw.region ?_)
      refine AL.v rfl rfl (B.mA) ?_
      refine AL.nil (AThen.n (Aw.ret (AThen.r (AIn.r (AThen.r (AThen.r (AIn.r (AThen.r (APost.r ?_)))))))))
      refine Ret.all [] rfl (.cons (.t (.d _)) .nil) gs_nil (.refl _) (.d _) ⟨congrArg (fun b => AV.d (.bool b)) ?_, rfl⟩
      first
        | rfl
        | (exfalso; simp at hc0; done)
        | (exfalso; simp at hg82; omega)
        | (exfalso; simp at hg91; omega)
        | (exfalso; simp at hc3; omega)
        | (exfalso; have h := hap.no (by simpa using hg109); rw [h, sameM_self] at hc4; simp at hc4; done)
        | (exfalso; simp at hc7; done)
        | (exfalso; simp at hg190; omega)
        | (exfalso; rcases hxj with h | ⟨_, _, h⟩ <;> simp_all <;> omega)
        | (trace_state; sorry)
    refine AL.gv rfl rfl rfl rfl (B.fA fl_api_Model_2) ?_
    refine AL.gv rfl rfl rfl rfl (B.l1 ty_LLapi_Letter) ?_
    refine AL.gv rfl rfl rfl rfl (B.nA Try.underlying58) ?_
    refine AL.gv rfl rfl rfl rfl (B.fA fl_api_Model_2) ?_
    refine AL.gv rfl rfl rfl rfl (B.l1 ty_LLapi_Letter) ?_
    refine AL.gv rfl rfl rfl rfl (B.nA Try.underlying58) ?_
    refine AL.gv rfl rfl rfl rfl (B.cmp rfl rfl rfl rfl rfl) ?_
    refine AL.v rfl rfl (B.pF) ?_
    refine AL.v rfl rfl (B.mA) ?_
    refine AL.cases (t := 91) rfl (fun hg91 => ?_) (fun hg91 => ?_)
    · refine AL.off rfl rfl rfl rfl rfl (by decide) ?_
      refine AL.off rfl rfl rfl rfl rfl (by decide) ?_
      refine AL.off rfl rfl rfl rfl rfl (by decide) ?_
      refine AL.off rfl rfl rfl rfl rfl (by decide) ?_
      refine AL.off rfl rfl rfl rfl rfl (by decide) ?_
      refine AL.off rfl rfl rfl rfl rfl (by decide) ?_
      refine AL.off rfl rfl rfl rfl rfl (by decide) ?_
      refine AL.v rfl rfl (B.pT) ?_
      refine AL.nil (AThen.n ?_)
      refine Aw.condT rfl (rfl) ?_
      refine Aw.seq (Aw.region ?_)
      refine AL.v rfl rfl (B.mA) ?_
      refine AL.nil (AThen.n (Aw.ret (AThen.r (AIn.r (AThen.r (AThen.r (AIn.r (AThen.r (APost.r ?_)))))))))
      refine Ret.all [] rfl (.cons (.t (.d _)) .nil) gs_nil (.refl _) (.d _) ⟨congrArg (fun b => AV.d (.bool b)) ?_, rfl⟩
      first
        | rfl
        | (exfalso; simp at hc0; done)
        | (exfalso; simp at hg82; omega)
        | (exfalso; simp at hg91; omega)
        | (exfalso; simp at hc3; omega)
        | (exfalso; have h := hap.no (by simpa using hg109); rw [h, sameM_self] at hc4; simp at hc4; done)
        | (exfalso; simp at hc7; done)
        | (exfalso; simp at hg190; omega)
        | (exfalso; rcases hxj with h | ⟨_, _, h⟩ <;> simp_all <;> omega)
        | (trace_state; sorry)
    refine AL.gv rfl rfl rfl rfl (B.fA fl_api_Model_1) ?_
    refine AL.gv rfl rfl rfl rfl (B.l1 ty_Lint) ?_
    refine AL.gv rfl rfl rfl rfl (B.nA Try.underlying57) ?_
    refine AL.gv rfl rfl rfl rfl (B.fA fl_api_Model_1) ?_
    refine AL.gv rfl rfl rfl rfl (B.l1 ty_Lint) ?_
    refine AL.gv rfl rfl rfl rfl (B.nA Try.underlying57) ?_
    refine AL.gv rfl rfl rfl rfl (B.cmp rfl rfl rfl rfl rfl) ?_
    refine AL.v rfl rfl (B.pF) ?_
    refine AL.nil (AThen.n ?_)
    refine Aw.cases (t := 99) rfl (fun hc3 => ?_) (fun hc3 => ?_)
    · refine Aw.condT rfl rfl (Aw.seq (Aw.region ?_))
      refine AL.v rfl rfl (B.mA) ?_
      refine AL.nil (AThen.n (Aw.ret (AThen.r (AIn.r (AThen.r (AThen.r (AIn.r (AThen.r (APost.r ?_)))))))))
      refine Ret.all [] rfl (.cons (.t (.d _)) .nil) gs_nil (.refl _) (.d _) ⟨congrArg (fun b => AV.d (.bool b)) ?_, rfl⟩
      first
        | rfl
        | (exfalso; simp at hc0; done)
        | (exfalso; simp at hg82; omega)
        | (exfalso; simp at hg91; omega)
        | (exfalso; simp at hc3; omega)
        | (exfalso; have h := hap.no (by simpa using hg109); rw [h, sameM_self] at hc4; simp at hc4; done)
        | (exfalso; simp at hc7; done)
        | (exfalso; simp at hg190; omega)
        | (exfalso; rcases hxj with h | ⟨_, _, h⟩ <;> simp_all <;> omega)
        | (trace_state; sorry)
    refine Aw.condF rfl rfl (Aw.skip (AThen.n (Aw.seq (Aw.seq (Aw.region ?_)))))
    refine AL.v rfl rfl (B.mA) ?_
    refine AL.v rfl rfl (B.mA) ?_
    refine AL.v rfl rfl (B.mA) ?_
    refine AL.u rfl rfl (B.bslice (g := 3) rfl el_Lbool (by rw [zr_bool]; rfl) (by decide) rfl (by decide) (by decide) rfl rfl rfl rfl) ?_
    refine AL.v rfl rfl (B.mA) ?_
    refine AL.v rfl rfl (B.idxOwn0 rfl el_Lbool rfl rfl rfl rfl hlt rfl) ?_
    refine AL.v rfl rfl (B.load1 rfl ty_bool (.r rfl rfl (map_at (f := eBool) (l := [true, (mCome m who).2, (mGone m who).2, (mTake m who).2.2]) hI) rfl) rfl) ?_
    refine AL.v rfl rfl (B.mA) ?_
    refine AL.nil (AThen.n (Aw.seq (Aw.region ?_)))
    refine AL.v rfl rfl (B.mA) ?_
    refine AL.v rfl rfl (B.not rfl rfl rfl) ?_
    refine AL.v rfl rfl (B.mA) ?_
    refine AL.cases (t := 109) rfl (fun hg109 => ?_) (fun hg109 => ?_)
    · refine AL.gv rfl rfl rfl rfl (B.lN ty_api_Model) ?_
      refine AL.gv rfl rfl rfl rfl (B.lN ty_api_Model) ?_
      refine AL.gv rfl rfl rfl rfl (B.call0 (k := 4) rfl en_shallot_shallotref23_Same (r23_same X m (by rw [hap.ql]; exact hmq) (by rw [hap.bl]; exact hmb)) (.c (.c .nil))) ?_
      refine AL.gv rfl rfl rfl rfl (B.not rfl rfl rfl) ?_
      refine AL.v rfl rfl (B.pT) ?_
      refine AL.nil (AThen.n ?_)
      refine Aw.cases (t := 114) rfl (fun hc4 => ?_) (fun hc4 => ?_)
      · refine Aw.condT rfl rfl (Aw.seq (Aw.region ?_))
        refine AL.v rfl rfl (B.mA) ?_
        refine AL.nil (AThen.n (Aw.ret (AThen.r (AIn.r (AThen.r (AThen.r (AIn.r (AThen.r (APost.r ?_)))))))))
        refine Ret.all [] rfl (.cons (.t (.d _)) .nil) gs_nil (.refl _) (.d _) ⟨congrArg (fun b => AV.d (.bool b)) ?_, rfl⟩
        first
          | rfl
          | (exfalso; simp at hc0; done)
          | (exfalso; simp at hg82; omega)
          | (exfalso; simp at hg91; omega)
          | (exfalso; simp at hc3; omega)
          | (exfalso; have h := hap.no (by simpa using hg109); rw [h, sameM_self] at hc4; simp at hc4; done)
          | (exfalso; simp at hc7; done)
          | (exfalso; simp at hg190; omega)
          | (exfalso; rcases hxj with h | ⟨_, _, h⟩ <;> simp_all <;> omega)
          | (trace_state; sorry)
      refine Aw.condF rfl rfl (Aw.skip (AThen.n (Aw.seq (Aw.region ?_))))
      refine AL.v rfl rfl (B.lN ty_api_Model) ?_
      refine AL.u rfl rfl (B.aA (g := 4) zr_api_Model) ?_
      refine AL.s rfl rfl (B.sA ty_api_Model) ?_
      refine AL.nil (AThen.n (Aw.seq (Aw.region ?_)))
      refine AL.v rfl rfl (B.fA fl_api_Model_0) ?_
      refine AL.v rfl rfl (B.l1 ty_Lapi_Queue) ?_
      refine AL.u rfl rfl (B.append0 (g' := 5) rfl el_Lapi_Queue (by rw [zr_api_Queue]; rfl) by_api_Queue (by decide) rfl (by first | exact .own rfl rfl rfl | exact .view (by first | exact .view _ _ | exact .lent _ _) | exact .nil rfl) (by unfold maxLen; simp; have := hap.ql; omega) (by simp; have := hap.ql; omega) rfl rfl) ?_
      refine AL.v rfl rfl (B.fA fl_api_Model_0) ?_
      refine AL.s rfl rfl (B.sA ty_Lapi_Queue) ?_
      refine AL.nil (AThen.n (Aw.seq (Aw.region ?_)))
      refine AL.v rfl rfl (B.fA fl_api_Model_1) ?_
      refine AL.v rfl rfl (B.l1 ty_Lint) ?_
      refine AL.u rfl rfl (B.append0 (g' := 6) rfl el_Lint (by rw [zr_int]; rfl) by_int (by decide) rfl (by first | exact .own rfl rfl rfl | exact .view (by first | exact .view _ _ | exact .lent _ _) | exact .nil rfl) (by unfold maxLen; simp; have := hap.cl; have := hm.cs; omega) (by simp; have := hap.cl; have := hm.cs; omega) rfl rfl) ?_
      refine AL.v rfl rfl (B.fA fl_api_Model_1) ?_
      refine AL.s rfl rfl (B.sA ty_Lint) ?_
      refine AL.nil (AThen.n (Aw.seq (Aw.seq (Aw.region ?_))))
      refine AL.v rfl rfl (B.mA) ?_
      refine AL.v rfl rfl (B.cmp rfl rfl rfl rfl rfl) ?_
      refine AL.v rfl rfl (B.mA) ?_
      refine AL.cases (t := 126) rfl (fun hg126 => ?_) (fun hg126 => ?_)
      · 
        refine AL.gv rfl rfl rfl rfl (B.mA) ?_
        refine AL.gv rfl rfl rfl rfl (B.fA fl_api_Model_0) ?_
        refine AL.gv rfl rfl rfl rfl (B.l1 ty_Lapi_Queue) ?_
        refine AL.gv rfl rfl rfl rfl (B.nA Try.underlying56) ?_
        refine AL.gv rfl rfl rfl rfl (B.cmp rfl rfl rfl rfl rfl) ?_
        refine AL.v rfl rfl (B.pT) ?_
        refine AL.nil (AThen.n ?_)
        refine Aw.meet (fun σ => Moved σ ⟨(upd (upd (upd (upd (upd (upd (upd (upd (upd (upd (upd (fun _ => AV.und) 23 (.ptr 3 0 0)) 21 (.ptr 2 0 0)) 20 (.d (.int .i64 (k : Nat)))) 70 (.d (.int .i64 (k : Nat)))) 69 (.d (.int .i64 ((4 : Nat) : Int)))) 68 (.own 1 0 4)) 19 (.d (.bool (mTake m who).2.2))) 16 (.d (.bool (mGone m who).2))) 14 (.d (.bool (mCome m who).2))) 6 (.ptr 0 0 0)) 2 (.d (.int .i64 who))), blksOf [.var 60 [.d (.view 2 (m.Queues.map eQueue)), .d (.view 1 (m.Come.map eInt)), .d (.view 1 (m.Boxes.map eL_Letter))], .row 3 60 (List.map eModel [(mSay c m who to text).1, (mCome m who).1, (mGone m who).1, (mTake m who).1]), .var 60 [.d (.view 2 (X.Queues.map eQueue)), .d (.view 1 (X.Come.map eInt)), .d (.view 1 (X.Boxes.map eL_Letter))], .var 60 [.own 4 0 (X.Queues.map eQueue).length, .own 5 0 (X.Come.map eInt).length, .d (.view 1 (X.Boxes.map eL_Letter))], .row 2 77 (m.Queues.map eQueue), .row 1 3 (X.Come.map eInt)]⟩) ?_ (fun σ hM => ?_)
        · refine Aw.cases (t := 132) rfl (fun hc5 => ?_) (fun hc5 => ?_)
          · obtain ⟨i, hwi⟩ : ∃ i : Nat, who = i := ⟨who.toNat, by simp at hg126; omega⟩
            have hi : i < m.Queues.length := by simp at hc5; omega
            obtain ⟨q, hq⟩ : ∃ q, m.Queues[i]? = some q := ⟨_, List.getElem?_eq_getElem hi⟩
            have hi2 : i < X.Queues.length := by rw [hap.ql]; exact hi
            obtain ⟨q2, hXq⟩ : ∃ q, X.Queues[i]? = some q := ⟨_, List.getElem?_eq_getElem hi2⟩
            have hQE := (show Ap m (i : Int) X is _ from hwi ▸ hap).qset hq
            refine Aw.condT rfl rfl (Aw.drawn' mixed ?_)
            refine CD.v rfl rfl (B.fA fl_api_Model_0) ?_
            refine CD.v rfl rfl (B.l1 ty_Lapi_Queue) ?_
            refine CD.v rfl rfl (B.mA) ?_
            refine CD.v rfl rfl (B.fA fl_api_Model_0) ?_
            refine CD.v rfl rfl (B.l1 ty_Lapi_Queue) ?_
            refine CD.v rfl rfl (B.mA) ?_
            refine CD.v rfl rfl (B.idxView (i := i) rfl el_Lapi_Queue (by first | exact .view _ _ | exact .lent _ _) rfl hwi (map_at hq) rfl) ?_
            refine CD.v rfl rfl (B.lN ty_api_Queue) ?_
            refine CD.v rfl rfl (B.idxOwn0 rfl el_Lapi_Queue rfl rfl rfl hwi (by simp; omega) rfl) ?_
            refine CD.s rfl rfl (B.storeRow (ds := (eQueue q)) rfl ty_api_Queue rfl rfl (map_at hXq) rfl rfl rfl rfl) ?_
            refine CD.nil (by kernel_rfl) ?_
            refine AThen.n ?_
            exact (Moved.mk' [] [0, 1, 2, 4, 5, 6] _ (fun g h => by simp at h) (loc_u (loc_u (loc_u (loc_u (loc_u (loc_u (loc_u (loc_u (loc_u (loc_u (loc_u loc_und))))))))))) rfl (by decide) (by simp) (at_cons (.va) (at_cons (.row _ _ _) (at_cons (.va) (at_cons (.va) (at_cons (.row' (hQE)) (at_cons (.row _ _ _) at_nil)))))))
          have hQE := hap.qid (fun h => by simp at hg126 hc5; omega)
          refine Aw.condF rfl rfl (Aw.skip (AThen.n ?_))
          exact (Moved.mk' [] [0, 1, 2, 4, 5, 6] _ (fun g h => by simp at h) (loc_u (loc_u (loc_u (loc_u (loc_u (loc_u (loc_u (loc_u (loc_u (loc_u (loc_u loc_und))))))))))) rfl (by decide) (by simp) (at_cons (.va) (at_cons (.row _ _ _) (at_cons (.va) (at_cons (.va) (at_cons (.row' (hQE)) (at_cons (.row _ _ _) at_nil)))))))
        refine Aw.move hM ?_
        clear hM
        clear σ
        refine Aw.seq (Aw.seq (Aw.region ?_))
        refine AL.v rfl rfl (B.mA) ?_
        refine AL.v rfl rfl (B.cmp rfl rfl rfl rfl rfl) ?_
        refine AL.v rfl rfl (B.mA) ?_
        refine AL.cases (t := 144) rfl (fun hg144 => ?_) (fun hg144 => ?_)
        · 
          refine AL.gv rfl rfl rfl rfl (B.mA) ?_
          refine AL.gv rfl rfl rfl rfl (B.fA fl_api_Model_1) ?_
          refine AL.gv rfl rfl rfl rfl (B.l1 ty_Lint) ?_
          refine AL.gv rfl rfl rfl rfl (B.nA Try.underlying57) ?_
          refine AL.gv rfl rfl rfl rfl (B.cmp rfl rfl rfl rfl rfl) ?_
          refine AL.v rfl rfl (B.pT) ?_
          refine AL.nil (AThen.n ?_)
          refine Aw.meet (fun σ => Moved σ ⟨(upd (upd (upd (upd (upd (upd (upd (upd (upd (upd (upd (fun _ => AV.und) 23 (.ptr 3 0 0)) 21 (.ptr 2 0 0)) 20 (.d (.int .i64 (k : Nat)))) 70 (.d (.int .i64 (k : Nat)))) 69 (.d (.int .i64 ((4 : Nat) : Int)))) 68 (.own 1 0 4)) 19 (.d (.bool (mTake m who).2.2))) 16 (.d (.bool (mGone m who).2))) 14 (.d (.bool (mCome m who).2))) 6 (.ptr 0 0 0)) 2 (.d (.int .i64 who))), blksOf [.var 60 [.d (.view 2 (m.Queues.map eQueue)), .d (.view 1 (m.Come.map eInt)), .d (.view 1 (m.Boxes.map eL_Letter))], .row 3 60 (List.map eModel [(mSay c m who to text).1, (mCome m who).1, (mGone m who).1, (mTake m who).1]), .var 60 [.d (.view 2 (X.Queues.map eQueue)), .d (.view 1 (X.Come.map eInt)), .d (.view 1 (X.Boxes.map eL_Letter))], .var 60 [.own 4 0 (X.Queues.map eQueue).length, .own 5 0 (X.Come.map eInt).length, .d (.view 1 (X.Boxes.map eL_Letter))], .row 2 77 (m.Queues.map eQueue), .row 1 3 (m.Come.map eInt)]⟩) ?_ (fun σ hM => ?_)
          · refine Aw.cases (t := 150) rfl (fun hc6 => ?_) (fun hc6 => ?_)
            · obtain ⟨i2, hwi2⟩ : ∃ i : Nat, who = i := ⟨who.toNat, by simp at hg144; omega⟩
              have hi : i2 < m.Come.length := by simp at hc6; omega
              obtain ⟨a, ha⟩ : ∃ a, m.Come[i2]? = some a := ⟨_, List.getElem?_eq_getElem hi⟩
              have hi2 : i2 < X.Come.length := by rw [hap.cl]; exact hi
              obtain ⟨a2, hXa⟩ : ∃ q, X.Come[i2]? = some q := ⟨_, List.getElem?_eq_getElem hi2⟩
              have hCE := (show Ap m (i2 : Int) X is _ from hwi2 ▸ hap).cset ha
              refine Aw.condT rfl rfl (Aw.drawn' mixed ?_)
              refine CD.v rfl rfl (B.fA fl_api_Model_1) ?_
              refine CD.v rfl rfl (B.l1 ty_Lint) ?_
              refine CD.v rfl rfl (B.mA) ?_
              refine CD.v rfl rfl (B.fA fl_api_Model_1) ?_
              refine CD.v rfl rfl (B.l1 ty_Lint) ?_
              refine CD.v rfl rfl (B.mA) ?_
              refine CD.v rfl rfl (B.idxView (i := i2) rfl el_Lint (by first | exact .view _ _ | exact .lent _ _) rfl hwi2 (map_at ha) rfl) ?_
              refine CD.v rfl rfl (B.l1 ty_int) ?_
              refine CD.v rfl rfl (B.idxOwn0 rfl el_Lint rfl rfl rfl hwi2 (by simp; omega) rfl) ?_
              refine CD.s rfl rfl (B.storeRow (ds := (eInt a)) rfl ty_int rfl rfl (map_at hXa) rfl rfl rfl rfl) ?_
              refine CD.nil (by kernel_rfl) ?_
              refine AThen.n ?_
              exact (Moved.mk' [] [0, 1, 2, 3, 4, 5] _ (fun g h => by simp at h) (loc_u (loc_u (loc_u (loc_u (loc_u (loc_u (loc_u (loc_u (loc_u (loc_u (loc_u loc_und))))))))))) rfl (by decide) (by simp) (at_cons (.va) (at_cons (.row _ _ _) (at_cons (.va) (at_cons (.va) (at_cons (.row _ _ _) (at_cons (.row' (hCE)) at_nil)))))))
            have hCE := hap.cid (fun h => by simp at hg144 hc6; omega)
            refine Aw.condF rfl rfl (Aw.skip (AThen.n ?_))
            exact (Moved.mk' [] [0, 1, 2, 3, 4, 5] _ (fun g h => by simp at h) (loc_u (loc_u (loc_u (loc_u (loc_u (loc_u (loc_u (loc_u (loc_u (loc_u (loc_u loc_und))))))))))) rfl (by decide) (by simp) (at_cons (.va) (at_cons (.row _ _ _) (at_cons (.va) (at_cons (.va) (at_cons (.row _ _ _) (at_cons (.row' (hCE)) at_nil)))))))
          refine Aw.move hM ?_
          clear hM
          clear σ
          refine Aw.seq ?_
          
          refine Aw.region ?_
          refine AL.v rfl rfl (B.fA fl_api_Model_2) ?_
          refine AL.v rfl rfl (B.l1 ty_LLapi_Letter) ?_
          refine AL.v rfl rfl (B.fA fl_api_Model_2) ?_
          refine AL.s rfl rfl (B.sA ty_LLapi_Letter) ?_
          refine AL.nil (AThen.n (Aw.seq (Aw.seq ?_)))
          refine Aw.move (σ' := ⟨(upd (upd (upd (upd (upd (upd (upd (upd (upd (upd (upd (fun _ => AV.und) 23 (.ptr 3 0 0)) 21 (.ptr 2 0 0)) 20 (.d (.int .i64 (k : Nat)))) 70 (.d (.int .i64 (k : Nat)))) 69 (.d (.int .i64 ((4 : Nat) : Int)))) 68 (.own 1 0 4)) 19 (.d (.bool (mTake m who).2.2))) 16 (.d (.bool (mGone m who).2))) 14 (.d (.bool (mCome m who).2))) 6 (.ptr 0 0 0)) 2 (.d (.int .i64 who))), blksOf [.var 60 [.d (.view 2 (m.Queues.map eQueue)), .d (.view 1 (m.Come.map eInt)), .d (.view 1 (m.Boxes.map eL_Letter))], .row 3 60 (List.map eModel [(mSay c m who to text).1, (mCome m who).1, (mGone m who).1, (mTake m who).1]), .var 60 [.d (.view 2 (X.Queues.map eQueue)), .d (.view 1 (X.Come.map eInt)), .d (.view 1 (X.Boxes.map eL_Letter))], .var 60 [.d (.view 2 (m.Queues.map eQueue)), .d (.view 1 (m.Come.map eInt)), .d (.view 1 (m.Boxes.map eL_Letter))]]⟩) (Moved.mk' [4, 5] [0, 1, 2, 3] _ (gs_cons (σ := ⟨fun _ => .und, _⟩) rfl (gs_cons (σ := ⟨fun _ => .und, _⟩) rfl gs_nil)) (loc_u (loc_u (loc_u (loc_u (loc_u (loc_u (loc_u (loc_u (loc_u (loc_u (loc_u loc_und))))))))))) rfl (by decide) (by simp) (at_cons (.va) (at_cons (.row _ _ _) (at_cons (.va) (at_cons (.va) at_nil))))) ?_
          refine Aw.region ?_
          refine AL.v rfl rfl (B.lN ty_api_Model) ?_
          refine AL.v rfl rfl (B.lN ty_api_Model) ?_
          refine AL.v rfl rfl (B.call0 (k := 6) rfl en_shallot_shallotref23_Same (r23_self m hm) (.c (.c .nil))) ?_
          refine AL.v rfl rfl (B.not rfl rfl rfl) ?_
          refine AL.nil (AThen.n ?_)
          refine Aw.cases (t := 166) rfl (fun hc7 => ?_) (fun hc7 => ?_)
          · refine Aw.condT rfl rfl (Aw.seq (Aw.region ?_))
            refine AL.v rfl rfl (B.mA) ?_
            refine AL.nil (AThen.n (Aw.ret (AThen.r (AIn.r (AThen.r (AThen.r (AIn.r (AThen.r (APost.r ?_)))))))))
            refine Ret.all [] rfl (.cons (.t (.d _)) .nil) gs_nil (.refl _) (.d _) ⟨congrArg (fun b => AV.d (.bool b)) ?_, rfl⟩
            first
              | rfl
              | (exfalso; simp at hc0; done)
              | (exfalso; simp at hg82; omega)
              | (exfalso; simp at hg91; omega)
              | (exfalso; simp at hc3; omega)
              | (exfalso; have h := hap.no (by simpa using hg109); rw [h, sameM_self] at hc4; simp at hc4; done)
              | (exfalso; simp at hc7; done)
              | (exfalso; simp at hg190; omega)
              | (exfalso; rcases hxj with h | ⟨_, _, h⟩ <;> simp_all <;> omega)
              | (trace_state; sorry)
          refine Aw.condF rfl rfl (Aw.skip (AThen.n (Aw.seq ?_)))
          obtain ⟨p, hp⟩ := hap.b
          refine Aw.region ?_
          refine AL.v rfl rfl (B.mA) ?_
          refine AL.nil (AThen.n (Aw.seq (Aw.seq (Aw.region ?_))))
          refine AL.v rfl rfl (B.fA fl_api_Model_2) ?_
          refine AL.v rfl rfl (B.l1 ty_LLapi_Letter) ?_
          refine AL.v rfl rfl (B.nA Try.underlying58) ?_
          refine AL.v rfl rfl (B.mA) ?_
          refine AL.nil (AThen.n (Aw.block ?_))
          refine Aw.move (σ' := ⟨(upd (upd (upd (upd (upd (upd (upd (upd (upd (upd (upd (upd (upd (fun _ => AV.und) 170 (.d (.int .i64 (0 : Nat)))) 169 (.d (.int .i64 ((m.Boxes.map eL_Letter).length : Nat)))) 24 (.d (.int .i64 (0)))) 21 (.ptr 2 0 0)) 20 (.d (.int .i64 (k : Nat)))) 70 (.d (.int .i64 (k : Nat)))) 69 (.d (.int .i64 ((4 : Nat) : Int)))) 68 (.own 1 0 4)) 19 (.d (.bool (mTake m who).2.2))) 16 (.d (.bool (mGone m who).2))) 14 (.d (.bool (mCome m who).2))) 6 (.ptr 0 0 0)) 2 (.d (.int .i64 who))), blksOf [.var 60 [.d (.view 2 (m.Queues.map eQueue)), .d (.view 1 (m.Come.map eInt)), .d (.view 1 (m.Boxes.map eL_Letter))], .row 3 60 (List.map eModel [(mSay c m who to text).1, (mCome m who).1, (mGone m who).1, (mTake m who).1]), .var 60 [.d (.view 2 (X.Queues.map eQueue)), .d (.view 1 (X.Come.map eInt)), .d (.view 1 (X.Boxes.map eL_Letter))]]⟩) (Moved.mk' [] [0, 1, 2] _ (fun g h => by simp at h) (loc_u (loc_u (loc_u (loc_u (loc_u (loc_u (loc_u (loc_u (loc_u (loc_u (loc_u (loc_u (loc_u loc_und))))))))))))) rfl (by decide) (by simp) (at_cons (.va) (at_cons (.row _ _ _) (at_cons (.va) at_nil)))) ?_
          refine Aw.loop (fun n σ => ∃ (j : Nat) (s : Int), j ≤ m.Boxes.length ∧ n = m.Boxes.length - j ∧ σ = ⟨(upd (upd (upd (upd (upd (upd (upd (upd (upd (upd (upd (upd (upd (fun _ => AV.und) 170 (.d (.int .i64 (j : Nat)))) 169 (.d (.int .i64 ((m.Boxes.map eL_Letter).length : Nat)))) 24 (.d (.int .i64 (s)))) 21 (.ptr 2 0 0)) 20 (.d (.int .i64 (k : Nat)))) 70 (.d (.int .i64 (k : Nat)))) 69 (.d (.int .i64 ((4 : Nat) : Int)))) 68 (.own 1 0 4)) 19 (.d (.bool (mTake m who).2.2))) 16 (.d (.bool (mGone m who).2))) 14 (.d (.bool (mCome m who).2))) 6 (.ptr 0 0 0)) 2 (.d (.int .i64 who))), blksOf [.var 60 [.d (.view 2 (m.Queues.map eQueue)), .d (.view 1 (m.Come.map eInt)), .d (.view 1 (m.Boxes.map eL_Letter))], .row 3 60 (List.map eModel [(mSay c m who to text).1, (mCome m who).1, (mGone m who).1, (mTake m who).1]), .var 60 [.d (.view 2 (X.Queues.map eQueue)), .d (.view 1 (X.Come.map eInt)), .d (.view 1 (X.Boxes.map eL_Letter))]]⟩ ∧ (s = 0 ∨ (s = 1 ∧ p < j ∧ (k == 1 || k == 3) = true))) (m.Boxes.length) ⟨0, 0, Nat.zero_le _, rfl, rfl, .inl rfl⟩ ?_
          rintro n σ ⟨j, s, hj, rfl, rfl, hxj⟩
          refine Aw.seq (Aw.region ?_)
          refine AL.v rfl rfl (B.cmp rfl rfl rfl rfl rfl) ?_
          refine AL.nil (AThen.n (Aw.seq ?_))
          refine Aw.cases (t := 171) rfl (fun hc8 => ?_) (fun hc8 => ?_)
          · refine Aw.condT rfl rfl (Aw.skip (AThen.n (Aw.seq (Aw.block (Aw.seq (Aw.region ?_))))))
            refine AL.v rfl rfl (B.mA) ?_
            refine AL.v rfl rfl (B.mA) ?_
            refine AL.nil (AThen.n (Aw.seq ?_))
            have hlt2 : j < m.Boxes.length := by simpa using hc8
            obtain ⟨x, hx⟩ : ∃ x, X.Boxes[j]? = some x := ⟨_, List.getElem?_eq_getElem (by rw [hap.bl]; exact hlt2)⟩
            obtain ⟨y, hy⟩ : ∃ y, m.Boxes[j]? = some y := ⟨_, List.getElem?_eq_getElem hlt2⟩
            refine Aw.drawn' mixed ?_
            refine CD.v rfl rfl (B.fA fl_api_Model_2) ?_
            refine CD.v rfl rfl (B.l1 ty_LLapi_Letter) ?_
            refine CD.v rfl rfl (B.mA) ?_
            refine CD.v rfl rfl (B.idxView (i := j) rfl el_LLapi_Letter (by first | exact .view _ _ | exact .lent _ _) rfl rfl (map_at hx) rfl) ?_
            refine CD.v rfl rfl (B.l1 ty_Lapi_Letter) ?_
            refine CD.v rfl rfl (B.fA fl_api_Model_2) ?_
            refine CD.v rfl rfl (B.l1 ty_LLapi_Letter) ?_
            refine CD.v rfl rfl (B.mA) ?_
            refine CD.v rfl rfl (B.idxView (i := j) rfl el_LLapi_Letter (by first | exact .view _ _ | exact .lent _ _) rfl rfl (map_at hy) rfl) ?_
            refine CD.v rfl rfl (B.l1 ty_Lapi_Letter) ?_
            refine CD.v rfl rfl (B.call0 (k := 3) rfl en_shallot_shallotref10_SameAll (r10_sameAll x y) (.c (.c .nil))) ?_
            refine CD.v rfl rfl (B.not rfl rfl rfl) ?_
            refine CD.nil (by kernel_rfl) ?_
            refine AThen.n ?_
            refine Aw.cases (t := 184) rfl (fun hc9 => ?_) (fun hc9 => ?_)
            · have hne : x ≠ y := fun h => by
                rw [← h] at hc9
                have h2 : all2 sameL x x = true := sameLs_self x
                rw [h2] at hc9
                simp at hc9
              have hj : j = p := by
                by_cases hjp : j = p
                · exact hjp
                · have h1 := hp j hjp
                  rw [hx, hy] at h1
                  exact absurd (Option.some.inj h1) hne
              have hmb2 : (k == 1 || k == 3) = true := by
                cases h0 : (k == 1 || k == 3) with
                | true => rfl
                | false =>
                  have h1 := hap.nb h0
                  rw [h1, hy] at hx
                  exact absurd (Option.some.inj hx).symm hne
              obtain ⟨s', hs', hE⟩ : ∃ s' : Int, s' = s + 1 ∧ (s' = 0 ∨ (s' = 1 ∧ p < j + 1 ∧ (k == 1 || k == 3) = true)) := ⟨_, rfl, .inr ⟨by omega, by omega, hmb2⟩⟩
              refine Aw.condT rfl rfl (Aw.region ?_)
              refine AL.v rfl rfl (B.mA) ?_
              refine AL.v rfl rfl (B.arith rfl rfl rfl (arith_add64 (by omega)) rfl) ?_
              refine AL.v rfl rfl (B.mA) ?_
              refine AL.nil (AIn.n (AThen.n (Aw.region ?_)))
              refine AL.v rfl rfl (B.arith rfl rfl rfl (arith_add64 (by omega)) rfl) ?_
              refine AL.v rfl rfl (B.mA) ?_
              refine AL.move (σ' := ⟨(upd (upd (upd (upd (upd (upd (upd (upd (upd (upd (upd (upd (upd (fun _ => AV.und) 170 (.d (.int .i64 ((j + 1) : Nat)))) 169 (.d (.int .i64 ((m.Boxes.map eL_Letter).length : Nat)))) 24 (.d (.int .i64 (s')))) 21 (.ptr 2 0 0)) 20 (.d (.int .i64 (k : Nat)))) 70 (.d (.int .i64 (k : Nat)))) 69 (.d (.int .i64 ((4 : Nat) : Int)))) 68 (.own 1 0 4)) 19 (.d (.bool (mTake m who).2.2))) 16 (.d (.bool (mGone m who).2))) 14 (.d (.bool (mCome m who).2))) 6 (.ptr 0 0 0)) 2 (.d (.int .i64 who))), blksOf [.var 60 [.d (.view 2 (m.Queues.map eQueue)), .d (.view 1 (m.Come.map eInt)), .d (.view 1 (m.Boxes.map eL_Letter))], .row 3 60 (List.map eModel [(mSay c m who to text).1, (mCome m who).1, (mGone m who).1, (mTake m who).1]), .var 60 [.d (.view 2 (X.Queues.map eQueue)), .d (.view 1 (X.Come.map eInt)), .d (.view 1 (X.Boxes.map eL_Letter))]]⟩) (Moved.mk' [] [0, 1, 2] _ (fun g h => by simp at h) (loc_u (loc_u (loc_u (loc_u (loc_u (loc_u (loc_u (loc_u (loc_u (loc_u (loc_upd (Loc.d' (congrArg (D.int .i64) hs'.symm)) (loc_u (loc_u loc_und))))))))))))) rfl (by decide) (by simp) (at_cons (.va) (at_cons (.row _ _ _) (at_cons (.va) at_nil)))) ?_
              refine AL.nil (AThen.n ?_)
              exact ⟨m.Boxes.length - (j + 1), by omega, j + 1, s', by omega, rfl, rfl, hE⟩
            obtain ⟨s', hs', hE⟩ : ∃ s' : Int, s' = s ∧ (s' = 0 ∨ (s' = 1 ∧ p < j + 1 ∧ (k == 1 || k == 3) = true)) := ⟨s, rfl, by
              rcases hxj with h | ⟨h1, h2, h3⟩
              · exact .inl h
              · exact .inr ⟨h1, by omega, h3⟩⟩
            refine Aw.condF rfl rfl (Aw.skip (AIn.n (AThen.n (Aw.region ?_))))
            refine AL.v rfl rfl (B.arith rfl rfl rfl (arith_add64 (by omega)) rfl) ?_
            refine AL.v rfl rfl (B.mA) ?_
            refine AL.move (σ' := ⟨(upd (upd (upd (upd (upd (upd (upd (upd (upd (upd (upd (upd (upd (fun _ => AV.und) 170 (.d (.int .i64 ((j + 1) : Nat)))) 169 (.d (.int .i64 ((m.Boxes.map eL_Letter).length : Nat)))) 24 (.d (.int .i64 (s')))) 21 (.ptr 2 0 0)) 20 (.d (.int .i64 (k : Nat)))) 70 (.d (.int .i64 (k : Nat)))) 69 (.d (.int .i64 ((4 : Nat) : Int)))) 68 (.own 1 0 4)) 19 (.d (.bool (mTake m who).2.2))) 16 (.d (.bool (mGone m who).2))) 14 (.d (.bool (mCome m who).2))) 6 (.ptr 0 0 0)) 2 (.d (.int .i64 who))), blksOf [.var 60 [.d (.view 2 (m.Queues.map eQueue)), .d (.view 1 (m.Come.map eInt)), .d (.view 1 (m.Boxes.map eL_Letter))], .row 3 60 (List.map eModel [(mSay c m who to text).1, (mCome m who).1, (mGone m who).1, (mTake m who).1]), .var 60 [.d (.view 2 (X.Queues.map eQueue)), .d (.view 1 (X.Come.map eInt)), .d (.view 1 (X.Boxes.map eL_Letter))]]⟩) (Moved.mk' [] [0, 1, 2] _ (fun g h => by simp at h) (loc_u (loc_u (loc_u (loc_u (loc_u (loc_u (loc_u (loc_u (loc_u (loc_u (loc_upd (Loc.d' (congrArg (D.int .i64) hs'.symm)) (loc_u (loc_u loc_und))))))))))))) rfl (by decide) (by simp) (at_cons (.va) (at_cons (.row _ _ _) (at_cons (.va) at_nil)))) ?_
            refine AL.nil (AThen.n ?_)
            exact ⟨m.Boxes.length - (j + 1), by omega, j + 1, s', by omega, rfl, rfl, hE⟩
          refine Aw.condF rfl rfl (Aw.exit (AThen.e (AThen.e (AIn.e (AThen.n (Aw.seq (Aw.region ?_)))))))
          refine AL.v rfl rfl (B.mA) ?_
          refine AL.v rfl rfl (B.cmp rfl rfl rfl rfl rfl) ?_
          refine AL.v rfl rfl (B.mA) ?_
          refine AL.cases (t := 190) rfl (fun hg190 => ?_) (fun hg190 => ?_)
          · refine AL.off rfl rfl rfl rfl rfl (by decide) ?_
            refine AL.off rfl rfl rfl rfl rfl (by decide) ?_
            refine AL.off rfl rfl rfl rfl rfl (by decide) ?_
            refine AL.offU rfl rfl rfl rfl (by decide) ?_
            refine AL.offU rfl rfl rfl rfl (by decide) ?_
            refine AL.off rfl rfl rfl rfl rfl (by decide) ?_
            refine AL.off rfl rfl rfl rfl rfl (by decide) ?_
            refine AL.offU rfl rfl rfl rfl (by decide) ?_
            refine AL.offU rfl rfl rfl rfl (by decide) ?_
            refine AL.off rfl rfl rfl rfl rfl (by decide) ?_
            refine AL.v rfl rfl (B.pT) ?_
            refine AL.nil (AThen.n ?_)
            refine Aw.condT rfl (rfl) ?_
            refine Aw.seq (Aw.region ?_)
            refine AL.v rfl rfl (B.mA) ?_
            refine AL.nil (AThen.n (Aw.ret (AIn.r (AThen.r (AThen.r (AIn.r (AThen.r (APost.r ?_))))))))
            refine Ret.all [] rfl (.cons (.t (.d _)) .nil) gs_nil (.refl _) (.d _) ⟨congrArg (fun b => AV.d (.bool b)) ?_, rfl⟩
            first
              | rfl
              | (exfalso; simp at hc0; done)
              | (exfalso; simp at hg82; omega)
              | (exfalso; simp at hg91; omega)
              | (exfalso; simp at hc3; omega)
              | (exfalso; have h := hap.no (by simpa using hg109); rw [h, sameM_self] at hc4; simp at hc4; done)
              | (exfalso; simp at hc7; done)
              | (exfalso; simp at hg190; omega)
              | (exfalso; rcases hxj with h | ⟨_, _, h⟩ <;> simp_all <;> omega)
              | (trace_state; sorry)
          refine AL.gv rfl rfl rfl rfl (B.mA) ?_
          refine AL.gv rfl rfl rfl rfl (B.cmp rfl rfl rfl rfl rfl) ?_
          refine AL.gv rfl rfl rfl rfl (B.mA) ?_
          refine AL.cases (t := 193) rfl (fun hg193 => ?_) (fun hg193 => ?_)
          · refine AL.gv rfl rfl rfl rfl (B.mA) ?_
            refine AL.gv rfl rfl rfl rfl (B.cmp rfl rfl rfl rfl rfl) ?_
            refine AL.gv rfl rfl rfl rfl (B.pT) ?_
            refine AL.gv rfl rfl rfl rfl (B.mA) ?_
            refine AL.cases (t := 197) rfl (fun hg197 => ?_) (fun hg197 => ?_)
            · refine AL.gv rfl rfl rfl rfl (B.mA) ?_
              refine AL.gv rfl rfl rfl rfl (B.cmp rfl rfl rfl rfl rfl) ?_
              refine AL.gv rfl rfl rfl rfl (B.pT) ?_
              refine AL.v rfl rfl (B.pF) ?_
              refine AL.nil (AThen.n ?_)
              refine Aw.cases (t := 201) rfl (fun hc10 => ?_) (fun hc10 => ?_)
              · refine Aw.condT rfl rfl (Aw.seq (Aw.region ?_))
                refine AL.v rfl rfl (B.mA) ?_
                refine AL.nil (AThen.n (Aw.ret (AIn.r (AThen.r (AThen.r (AIn.r (AThen.r (APost.r ?_))))))))
                refine Ret.all [] rfl (.cons (.t (.d _)) .nil) gs_nil (.refl _) (.d _) ⟨congrArg (fun b => AV.d (.bool b)) ?_, rfl⟩
                first
                  | rfl
                  | (exfalso; simp at hc0; done)
                  | (exfalso; simp at hg82; omega)
                  | (exfalso; simp at hg91; omega)
                  | (exfalso; simp at hc3; omega)
                  | (exfalso; have h := hap.no (by simpa using hg109); rw [h, sameM_self] at hc4; simp at hc4; done)
                  | (exfalso; simp at hc7; done)
                  | (exfalso; simp at hg190; omega)
                  | (exfalso; rcases hxj with h | ⟨_, _, h⟩ <;> simp_all <;> omega)
                  | (trace_state; sorry)
              refine Aw.condF rfl rfl (Aw.skip (AIn.n (AThen.n (Aw.region ?_))))
              refine AL.v rfl rfl (B.arith rfl rfl rfl (arith_add64 (by omega)) rfl) ?_
              refine AL.v rfl rfl (B.mA) ?_
              refine AL.move (σ' := ⟨(upd (upd (upd (upd (upd (upd (upd (upd (fun _ => AV.und) 70 (.d (.int .i64 ((k + 1) : Nat)))) 69 (.d (.int .i64 ((4 : Nat) : Int)))) 68 (.own 1 0 4)) 19 (.d (.bool (mTake m who).2.2))) 16 (.d (.bool (mGone m who).2))) 14 (.d (.bool (mCome m who).2))) 6 (.ptr 0 0 0)) 2 (.d (.int .i64 who))), blksOf [.var 60 [.d (.view 2 (m.Queues.map eQueue)), .d (.view 1 (m.Come.map eInt)), .d (.view 1 (m.Boxes.map eL_Letter))], .row 3 60 (List.map eModel [(mSay c m who to text).1, (mCome m who).1, (mGone m who).1, (mTake m who).1])]⟩) (Moved.mk' [] [0, 1] _ (fun g h => by simp at h) (loc_u (loc_u (loc_u (loc_u (loc_u (loc_u (loc_u (loc_u loc_und)))))))) rfl (by decide) (by simp) (at_cons (.va) (at_cons (.row _ _ _) at_nil))) ?_
              refine AL.nil (AThen.n ?_)
              exact ⟨4 - (k + 1), by omega, k + 1, by omega, rfl, rfl⟩
            refine AL.off rfl rfl rfl rfl rfl (by decide) ?_
            refine AL.off rfl rfl rfl rfl rfl (by decide) ?_
            refine AL.gv rfl rfl rfl rfl (B.pF) ?_
            refine AL.v rfl rfl (B.pF) ?_
            refine AL.nil (AThen.n ?_)
            refine Aw.condF rfl (rfl) ?_
            refine Aw.skip (AIn.n (AThen.n (Aw.region ?_)))
            refine AL.v rfl rfl (B.arith rfl rfl rfl (arith_add64 (by omega)) rfl) ?_
            refine AL.v rfl rfl (B.mA) ?_
            refine AL.move (σ' := ⟨(upd (upd (upd (upd (upd (upd (upd (upd (fun _ => AV.und) 70 (.d (.int .i64 ((k + 1) : Nat)))) 69 (.d (.int .i64 ((4 : Nat) : Int)))) 68 (.own 1 0 4)) 19 (.d (.bool (mTake m who).2.2))) 16 (.d (.bool (mGone m who).2))) 14 (.d (.bool (mCome m who).2))) 6 (.ptr 0 0 0)) 2 (.d (.int .i64 who))), blksOf [.var 60 [.d (.view 2 (m.Queues.map eQueue)), .d (.view 1 (m.Come.map eInt)), .d (.view 1 (m.Boxes.map eL_Letter))], .row 3 60 (List.map eModel [(mSay c m who to text).1, (mCome m who).1, (mGone m who).1, (mTake m who).1])]⟩) (Moved.mk' [] [0, 1] _ (fun g h => by simp at h) (loc_u (loc_u (loc_u (loc_u (loc_u (loc_u (loc_u (loc_u loc_und)))))))) rfl (by decide) (by simp) (at_cons (.va) (at_cons (.row _ _ _) at_nil))) ?_
            refine AL.nil (AThen.n ?_)
            exact ⟨4 - (k + 1), by omega, k + 1, by omega, rfl, rfl⟩
          refine AL.off rfl rfl rfl rfl rfl (by decide) ?_
          refine AL.off rfl rfl rfl rfl rfl (by decide) ?_
          refine AL.gv rfl rfl rfl rfl (B.pF) ?_
          refine AL.gv rfl rfl rfl rfl (B.mA) ?_
          refine AL.off rfl rfl rfl rfl rfl (by decide) ?_
          refine AL.off rfl rfl rfl rfl rfl (by decide) ?_
          refine AL.gv rfl rfl rfl rfl (B.pF) ?_
          refine AL.v rfl rfl (B.pF) ?_
          refine AL.nil (AThen.n ?_)
          refine Aw.condF rfl (rfl) ?_
          refine Aw.skip (AIn.n (AThen.n (Aw.region ?_)))
          refine AL.v rfl rfl (B.arith rfl rfl rfl (arith_add64 (by omega)) rfl) ?_
          refine AL.v rfl rfl (B.mA) ?_
          refine AL.move (σ' := ⟨(upd (upd (upd (upd (upd (upd (upd (upd (fun _ => AV.und) 70 (.d (.int .i64 ((k + 1) : Nat)))) 69 (.d (.int .i64 ((4 : Nat) : Int)))) 68 (.own 1 0 4)) 19 (.d (.bool (mTake m who).2.2))) 16 (.d (.bool (mGone m who).2))) 14 (.d (.bool (mCome m who).2))) 6 (.ptr 0 0 0)) 2 (.d (.int .i64 who))), blksOf [.var 60 [.d (.view 2 (m.Queues.map eQueue)), .d (.view 1 (m.Come.map eInt)), .d (.view 1 (m.Boxes.map eL_Letter))], .row 3 60 (List.map eModel [(mSay c m who to text).1, (mCome m who).1, (mGone m who).1, (mTake m who).1])]⟩) (Moved.mk' [] [0, 1] _ (fun g h => by simp at h) (loc_u (loc_u (loc_u (loc_u (loc_u (loc_u (loc_u (loc_u loc_und)))))))) rfl (by decide) (by simp) (at_cons (.va) (at_cons (.row _ _ _) at_nil))) ?_
          refine AL.nil (AThen.n ?_)
          exact ⟨4 - (k + 1), by omega, k + 1, by omega, rfl, rfl⟩
        have hCE := hap.cid (fun h => by simp at hg144; omega)
        refine AL.off rfl rfl rfl rfl rfl (by decide) ?_
        refine AL.off rfl rfl rfl rfl rfl (by decide) ?_
        refine AL.off rfl rfl rfl rfl rfl (by decide) ?_
        refine AL.off rfl rfl rfl rfl rfl (by decide) ?_
        refine AL.off rfl rfl rfl rfl rfl (by decide) ?_
        refine AL.v rfl rfl (B.pF) ?_
        refine AL.nil (AThen.n ?_)
        refine Aw.meet (fun σ => Moved σ ⟨(upd (upd (upd (upd (upd (upd (upd (upd (upd (upd (upd (fun _ => AV.und) 23 (.ptr 3 0 0)) 21 (.ptr 2 0 0)) 20 (.d (.int .i64 (k : Nat)))) 70 (.d (.int .i64 (k : Nat)))) 69 (.d (.int .i64 ((4 : Nat) : Int)))) 68 (.own 1 0 4)) 19 (.d (.bool (mTake m who).2.2))) 16 (.d (.bool (mGone m who).2))) 14 (.d (.bool (mCome m who).2))) 6 (.ptr 0 0 0)) 2 (.d (.int .i64 who))), blksOf [.var 60 [.d (.view 2 (m.Queues.map eQueue)), .d (.view 1 (m.Come.map eInt)), .d (.view 1 (m.Boxes.map eL_Letter))], .row 3 60 (List.map eModel [(mSay c m who to text).1, (mCome m who).1, (mGone m who).1, (mTake m who).1]), .var 60 [.d (.view 2 (X.Queues.map eQueue)), .d (.view 1 (X.Come.map eInt)), .d (.view 1 (X.Boxes.map eL_Letter))], .var 60 [.own 4 0 (X.Queues.map eQueue).length, .own 5 0 (X.Come.map eInt).length, .d (.view 1 (X.Boxes.map eL_Letter))], .row 2 77 (m.Queues.map eQueue), .row 1 3 (m.Come.map eInt)]⟩) ?_ (fun σ hM => ?_)
        · refine Aw.condF rfl (rfl) ?_
          refine Aw.skip (AThen.n ?_)
          exact (Moved.mk' [] [0, 1, 2, 3, 4, 5] _ (fun g h => by simp at h) (loc_u (loc_u (loc_u (loc_u (loc_u (loc_u (loc_u (loc_u (loc_u (loc_u (loc_u loc_und))))))))))) rfl (by decide) (by simp) (at_cons (.va) (at_cons (.row _ _ _) (at_cons (.va) (at_cons (.va) (at_cons (.row _ _ _) (at_cons (.row' (hCE)) at_nil)))))))
        refine Aw.move hM ?_
        clear hM
        clear σ
        refine Aw.seq ?_
        
        refine Aw.region ?_
        refine AL.v rfl rfl (B.fA fl_api_Model_2) ?_
        refine AL.v rfl rfl (B.l1 ty_LLapi_Letter) ?_
        refine AL.v rfl rfl (B.fA fl_api_Model_2) ?_
        refine AL.s rfl rfl (B.sA ty_LLapi_Letter) ?_
        refine AL.nil (AThen.n (Aw.seq (Aw.seq ?_)))
        refine Aw.move (σ' := ⟨(upd (upd (upd (upd (upd (upd (upd (upd (upd (upd (upd (fun _ => AV.und) 23 (.ptr 3 0 0)) 21 (.ptr 2 0 0)) 20 (.d (.int .i64 (k : Nat)))) 70 (.d (.int .i64 (k : Nat)))) 69 (.d (.int .i64 ((4 : Nat) : Int)))) 68 (.own 1 0 4)) 19 (.d (.bool (mTake m who).2.2))) 16 (.d (.bool (mGone m who).2))) 14 (.d (.bool (mCome m who).2))) 6 (.ptr 0 0 0)) 2 (.d (.int .i64 who))), blksOf [.var 60 [.d (.view 2 (m.Queues.map eQueue)), .d (.view 1 (m.Come.map eInt)), .d (.view 1 (m.Boxes.map eL_Letter))], .row 3 60 (List.map eModel [(mSay c m who to text).1, (mCome m who).1, (mGone m who).1, (mTake m who).1]), .var 60 [.d (.view 2 (X.Queues.map eQueue)), .d (.view 1 (X.Come.map eInt)), .d (.view 1 (X.Boxes.map eL_Letter))], .var 60 [.d (.view 2 (m.Queues.map eQueue)), .d (.view 1 (m.Come.map eInt)), .d (.view 1 (m.Boxes.map eL_Letter))]]⟩) (Moved.mk' [4, 5] [0, 1, 2, 3] _ (gs_cons (σ := ⟨fun _ => .und, _⟩) rfl (gs_cons (σ := ⟨fun _ => .und, _⟩) rfl gs_nil)) (loc_u (loc_u (loc_u (loc_u (loc_u (loc_u (loc_u (loc_u (loc_u (loc_u (loc_u loc_und))))))))))) rfl (by decide) (by simp) (at_cons (.va) (at_cons (.row _ _ _) (at_cons (.va) (at_cons (.va) at_nil))))) ?_
        refine Aw.region ?_
        refine AL.v rfl rfl (B.lN ty_api_Model) ?_
        refine AL.v rfl rfl (B.lN ty_api_Model) ?_
        refine AL.v rfl rfl (B.call0 (k := 6) rfl en_shallot_shallotref23_Same (r23_self m hm) (.c (.c .nil))) ?_
        refine AL.v rfl rfl (B.not rfl rfl rfl) ?_
        refine AL.nil (AThen.n ?_)
        refine Aw.cases (t := 166) rfl (fun hc7 => ?_) (fun hc7 => ?_)
        · refine Aw.condT rfl rfl (Aw.seq (Aw.region ?_))
          refine AL.v rfl rfl (B.mA) ?_
          refine AL.nil (AThen.n (Aw.ret (AThen.r (AIn.r (AThen.r (AThen.r (AIn.r (AThen.r (APost.r ?_)))))))))
          refine Ret.all [] rfl (.cons (.t (.d _)) .nil) gs_nil (.refl _) (.d _) ⟨congrArg (fun b => AV.d (.bool b)) ?_, rfl⟩
          first
            | rfl
            | (exfalso; simp at hc0; done)
            | (exfalso; simp at hg82; omega)
            | (exfalso; simp at hg91; omega)
            | (exfalso; simp at hc3; omega)
            | (exfalso; have h := hap.no (by simpa using hg109); rw [h, sameM_self] at hc4; simp at hc4; done)
            | (exfalso; simp at hc7; done)
            | (exfalso; simp at hg190; omega)
            | (exfalso; rcases hxj with h | ⟨_, _, h⟩ <;> simp_all <;> omega)
            | (trace_state; sorry)
        refine Aw.condF rfl rfl (Aw.skip (AThen.n (Aw.seq ?_)))
        obtain ⟨p, hp⟩ := hap.b
        refine Aw.region ?_
        refine AL.v rfl rfl (B.mA) ?_
        refine AL.nil (AThen.n (Aw.seq (Aw.seq (Aw.region ?_))))
        refine AL.v rfl rfl (B.fA fl_api_Model_2) ?_
        refine AL.v rfl rfl (B.l1 ty_LLapi_Letter) ?_
        refine AL.v rfl rfl (B.nA Try.underlying58) ?_
        refine AL.v rfl rfl (B.mA) ?_
        refine AL.nil (AThen.n (Aw.block ?_))
        refine Aw.move (σ' := ⟨(upd (upd (upd (upd (upd (upd (upd (upd (upd (upd (upd (upd (upd (fun _ => AV.und) 170 (.d (.int .i64 (0 : Nat)))) 169 (.d (.int .i64 ((m.Boxes.map eL_Letter).length : Nat)))) 24 (.d (.int .i64 (0)))) 21 (.ptr 2 0 0)) 20 (.d (.int .i64 (k : Nat)))) 70 (.d (.int .i64 (k : Nat)))) 69 (.d (.int .i64 ((4 : Nat) : Int)))) 68 (.own 1 0 4)) 19 (.d (.bool (mTake m who).2.2))) 16 (.d (.bool (mGone m who).2))) 14 (.d (.bool (mCome m who).2))) 6 (.ptr 0 0 0)) 2 (.d (.int .i64 who))), blksOf [.var 60 [.d (.view 2 (m.Queues.map eQueue)), .d (.view 1 (m.Come.map eInt)), .d (.view 1 (m.Boxes.map eL_Letter))], .row 3 60 (List.map eModel [(mSay c m who to text).1, (mCome m who).1, (mGone m who).1, (mTake m who).1]), .var 60 [.d (.view 2 (X.Queues.map eQueue)), .d (.view 1 (X.Come.map eInt)), .d (.view 1 (X.Boxes.map eL_Letter))]]⟩) (Moved.mk' [] [0, 1, 2] _ (fun g h => by simp at h) (loc_u (loc_u (loc_u (loc_u (loc_u (loc_u (loc_u (loc_u (loc_u (loc_u (loc_u (loc_u (loc_u loc_und))))))))))))) rfl (by decide) (by simp) (at_cons (.va) (at_cons (.row _ _ _) (at_cons (.va) at_nil)))) ?_
        refine Aw.loop (fun n σ => ∃ (j : Nat) (s : Int), j ≤ m.Boxes.length ∧ n = m.Boxes.length - j ∧ σ = ⟨(upd (upd (upd (upd (upd (upd (upd (upd (upd (upd (upd (upd (upd (fun _ => AV.und) 170 (.d (.int .i64 (j : Nat)))) 169 (.d (.int .i64 ((m.Boxes.map eL_Letter).length : Nat)))) 24 (.d (.int .i64 (s)))) 21 (.ptr 2 0 0)) 20 (.d (.int .i64 (k : Nat)))) 70 (.d (.int .i64 (k : Nat)))) 69 (.d (.int .i64 ((4 : Nat) : Int)))) 68 (.own 1 0 4)) 19 (.d (.bool (mTake m who).2.2))) 16 (.d (.bool (mGone m who).2))) 14 (.d (.bool (mCome m who).2))) 6 (.ptr 0 0 0)) 2 (.d (.int .i64 who))), blksOf [.var 60 [.d (.view 2 (m.Queues.map eQueue)), .d (.view 1 (m.Come.map eInt)), .d (.view 1 (m.Boxes.map eL_Letter))], .row 3 60 (List.map eModel [(mSay c m who to text).1, (mCome m who).1, (mGone m who).1, (mTake m who).1]), .var 60 [.d (.view 2 (X.Queues.map eQueue)), .d (.view 1 (X.Come.map eInt)), .d (.view 1 (X.Boxes.map eL_Letter))]]⟩ ∧ (s = 0 ∨ (s = 1 ∧ p < j ∧ (k == 1 || k == 3) = true))) (m.Boxes.length) ⟨0, 0, Nat.zero_le _, rfl, rfl, .inl rfl⟩ ?_
        rintro n σ ⟨j, s, hj, rfl, rfl, hxj⟩
        refine Aw.seq (Aw.region ?_)
        refine AL.v rfl rfl (B.cmp rfl rfl rfl rfl rfl) ?_
        refine AL.nil (AThen.n (Aw.seq ?_))
        refine Aw.cases (t := 171) rfl (fun hc8 => ?_) (fun hc8 => ?_)
        · refine Aw.condT rfl rfl (Aw.skip (AThen.n (Aw.seq (Aw.block (Aw.seq (Aw.region ?_))))))
          refine AL.v rfl rfl (B.mA) ?_
          refine AL.v rfl rfl (B.mA) ?_
          refine AL.nil (AThen.n (Aw.seq ?_))
          have hlt2 : j < m.Boxes.length := by simpa using hc8
          obtain ⟨x, hx⟩ : ∃ x, X.Boxes[j]? = some x := ⟨_, List.getElem?_eq_getElem (by rw [hap.bl]; exact hlt2)⟩
          obtain ⟨y, hy⟩ : ∃ y, m.Boxes[j]? = some y := ⟨_, List.getElem?_eq_getElem hlt2⟩
          refine Aw.drawn' mixed ?_
          refine CD.v rfl rfl (B.fA fl_api_Model_2) ?_
          refine CD.v rfl rfl (B.l1 ty_LLapi_Letter) ?_
          refine CD.v rfl rfl (B.mA) ?_
          refine CD.v rfl rfl (B.idxView (i := j) rfl el_LLapi_Letter (by first | exact .view _ _ | exact .lent _ _) rfl rfl (map_at hx) rfl) ?_
          refine CD.v rfl rfl (B.l1 ty_Lapi_Letter) ?_
          refine CD.v rfl rfl (B.fA fl_api_Model_2) ?_
          refine CD.v rfl rfl (B.l1 ty_LLapi_Letter) ?_
          refine CD.v rfl rfl (B.mA) ?_
          refine CD.v rfl rfl (B.idxView (i := j) rfl el_LLapi_Letter (by first | exact .view _ _ | exact .lent _ _) rfl rfl (map_at hy) rfl) ?_
          refine CD.v rfl rfl (B.l1 ty_Lapi_Letter) ?_
          refine CD.v rfl rfl (B.call0 (k := 3) rfl en_shallot_shallotref10_SameAll (r10_sameAll x y) (.c (.c .nil))) ?_
          refine CD.v rfl rfl (B.not rfl rfl rfl) ?_
          refine CD.nil (by kernel_rfl) ?_
          refine AThen.n ?_
          refine Aw.cases (t := 184) rfl (fun hc9 => ?_) (fun hc9 => ?_)
          · have hne : x ≠ y := fun h => by
              rw [← h] at hc9
              have h2 : all2 sameL x x = true := sameLs_self x
              rw [h2] at hc9
              simp at hc9
            have hj : j = p := by
              by_cases hjp : j = p
              · exact hjp
              · have h1 := hp j hjp
                rw [hx, hy] at h1
                exact absurd (Option.some.inj h1) hne
            have hmb2 : (k == 1 || k == 3) = true := by
              cases h0 : (k == 1 || k == 3) with
              | true => rfl
              | false =>
                have h1 := hap.nb h0
                rw [h1, hy] at hx
                exact absurd (Option.some.inj hx).symm hne
            obtain ⟨s', hs', hE⟩ : ∃ s' : Int, s' = s + 1 ∧ (s' = 0 ∨ (s' = 1 ∧ p < j + 1 ∧ (k == 1 || k == 3) = true)) := ⟨_, rfl, .inr ⟨by omega, by omega, hmb2⟩⟩
            refine Aw.condT rfl rfl (Aw.region ?_)
            refine AL.v rfl rfl (B.mA) ?_
            refine AL.v rfl rfl (B.arith rfl rfl rfl (arith_add64 (by omega)) rfl) ?_
            refine AL.v rfl rfl (B.mA) ?_
            refine AL.nil (AIn.n (AThen.n (Aw.region ?_)))
            refine AL.v rfl rfl (B.arith rfl rfl rfl (arith_add64 (by omega)) rfl) ?_
            refine AL.v rfl rfl (B.mA) ?_
            refine AL.move (σ' := ⟨(upd (upd (upd (upd (upd (upd (upd (upd (upd (upd (upd (upd (upd (fun _ => AV.und) 170 (.d (.int .i64 ((j + 1) : Nat)))) 169 (.d (.int .i64 ((m.Boxes.map eL_Letter).length : Nat)))) 24 (.d (.int .i64 (s')))) 21 (.ptr 2 0 0)) 20 (.d (.int .i64 (k : Nat)))) 70 (.d (.int .i64 (k : Nat)))) 69 (.d (.int .i64 ((4 : Nat) : Int)))) 68 (.own 1 0 4)) 19 (.d (.bool (mTake m who).2.2))) 16 (.d (.bool (mGone m who).2))) 14 (.d (.bool (mCome m who).2))) 6 (.ptr 0 0 0)) 2 (.d (.int .i64 who))), blksOf [.var 60 [.d (.view 2 (m.Queues.map eQueue)), .d (.view 1 (m.Come.map eInt)), .d (.view 1 (m.Boxes.map eL_Letter))], .row 3 60 (List.map eModel [(mSay c m who to text).1, (mCome m who).1, (mGone m who).1, (mTake m who).1]), .var 60 [.d (.view 2 (X.Queues.map eQueue)), .d (.view 1 (X.Come.map eInt)), .d (.view 1 (X.Boxes.map eL_Letter))]]⟩) (Moved.mk' [] [0, 1, 2] _ (fun g h => by simp at h) (loc_u (loc_u (loc_u (loc_u (loc_u (loc_u (loc_u (loc_u (loc_u (loc_u (loc_upd (Loc.d' (congrArg (D.int .i64) hs'.symm)) (loc_u (loc_u loc_und))))))))))))) rfl (by decide) (by simp) (at_cons (.va) (at_cons (.row _ _ _) (at_cons (.va) at_nil)))) ?_
            refine AL.nil (AThen.n ?_)
            exact ⟨m.Boxes.length - (j + 1), by omega, j + 1, s', by omega, rfl, rfl, hE⟩
          obtain ⟨s', hs', hE⟩ : ∃ s' : Int, s' = s ∧ (s' = 0 ∨ (s' = 1 ∧ p < j + 1 ∧ (k == 1 || k == 3) = true)) := ⟨s, rfl, by
            rcases hxj with h | ⟨h1, h2, h3⟩
            · exact .inl h
            · exact .inr ⟨h1, by omega, h3⟩⟩
          refine Aw.condF rfl rfl (Aw.skip (AIn.n (AThen.n (Aw.region ?_))))
          refine AL.v rfl rfl (B.arith rfl rfl rfl (arith_add64 (by omega)) rfl) ?_
          refine AL.v rfl rfl (B.mA) ?_
          refine AL.move (σ' := ⟨(upd (upd (upd (upd (upd (upd (upd (upd (upd (upd (upd (upd (upd (fun _ => AV.und) 170 (.d (.int .i64 ((j + 1) : Nat)))) 169 (.d (.int .i64 ((m.Boxes.map eL_Letter).length : Nat)))) 24 (.d (.int .i64 (s')))) 21 (.ptr 2 0 0)) 20 (.d (.int .i64 (k : Nat)))) 70 (.d (.int .i64 (k : Nat)))) 69 (.d (.int .i64 ((4 : Nat) : Int)))) 68 (.own 1 0 4)) 19 (.d (.bool (mTake m who).2.2))) 16 (.d (.bool (mGone m who).2))) 14 (.d (.bool (mCome m who).2))) 6 (.ptr 0 0 0)) 2 (.d (.int .i64 who))), blksOf [.var 60 [.d (.view 2 (m.Queues.map eQueue)), .d (.view 1 (m.Come.map eInt)), .d (.view 1 (m.Boxes.map eL_Letter))], .row 3 60 (List.map eModel [(mSay c m who to text).1, (mCome m who).1, (mGone m who).1, (mTake m who).1]), .var 60 [.d (.view 2 (X.Queues.map eQueue)), .d (.view 1 (X.Come.map eInt)), .d (.view 1 (X.Boxes.map eL_Letter))]]⟩) (Moved.mk' [] [0, 1, 2] _ (fun g h => by simp at h) (loc_u (loc_u (loc_u (loc_u (loc_u (loc_u (loc_u (loc_u (loc_u (loc_u (loc_upd (Loc.d' (congrArg (D.int .i64) hs'.symm)) (loc_u (loc_u loc_und))))))))))))) rfl (by decide) (by simp) (at_cons (.va) (at_cons (.row _ _ _) (at_cons (.va) at_nil)))) ?_
          refine AL.nil (AThen.n ?_)
          exact ⟨m.Boxes.length - (j + 1), by omega, j + 1, s', by omega, rfl, rfl, hE⟩
        refine Aw.condF rfl rfl (Aw.exit (AThen.e (AThen.e (AIn.e (AThen.n (Aw.seq (Aw.region ?_)))))))
        refine AL.v rfl rfl (B.mA) ?_
        refine AL.v rfl rfl (B.cmp rfl rfl rfl rfl rfl) ?_
        refine AL.v rfl rfl (B.mA) ?_
        refine AL.cases (t := 190) rfl (fun hg190 => ?_) (fun hg190 => ?_)
        · refine AL.off rfl rfl rfl rfl rfl (by decide) ?_
          refine AL.off rfl rfl rfl rfl rfl (by decide) ?_
          refine AL.off rfl rfl rfl rfl rfl (by decide) ?_
          refine AL.offU rfl rfl rfl rfl (by decide) ?_
          refine AL.offU rfl rfl rfl rfl (by decide) ?_
          refine AL.off rfl rfl rfl rfl rfl (by decide) ?_
          refine AL.off rfl rfl rfl rfl rfl (by decide) ?_
          refine AL.offU rfl rfl rfl rfl (by decide) ?_
          refine AL.offU rfl rfl rfl rfl (by decide) ?_
          refine AL.off rfl rfl rfl rfl rfl (by decide) ?_
          refine AL.v rfl rfl (B.pT) ?_
          refine AL.nil (AThen.n ?_)
          refine Aw.condT rfl (rfl) ?_
          refine Aw.seq (Aw.region ?_)
          refine AL.v rfl rfl (B.mA) ?_
          refine AL.nil (AThen.n (Aw.ret (AIn.r (AThen.r (AThen.r (AIn.r (AThen.r (APost.r ?_))))))))
          refine Ret.all [] rfl (.cons (.t (.d _)) .nil) gs_nil (.refl _) (.d _) ⟨congrArg (fun b => AV.d (.bool b)) ?_, rfl⟩
          first
            | rfl
            | (exfalso; simp at hc0; done)
            | (exfalso; simp at hg82; omega)
            | (exfalso; simp at hg91; omega)
            | (exfalso; simp at hc3; omega)
            | (exfalso; have h := hap.no (by simpa using hg109); rw [h, sameM_self] at hc4; simp at hc4; done)
            | (exfalso; simp at hc7; done)
            | (exfalso; simp at hg190; omega)
            | (exfalso; rcases hxj with h | ⟨_, _, h⟩ <;> simp_all <;> omega)
            | (trace_state; sorry)
        refine AL.gv rfl rfl rfl rfl (B.mA) ?_
        refine AL.gv rfl rfl rfl rfl (B.cmp rfl rfl rfl rfl rfl) ?_
        refine AL.gv rfl rfl rfl rfl (B.mA) ?_
        refine AL.cases (t := 193) rfl (fun hg193 => ?_) (fun hg193 => ?_)
        · refine AL.gv rfl rfl rfl rfl (B.mA) ?_
          refine AL.gv rfl rfl rfl rfl (B.cmp rfl rfl rfl rfl rfl) ?_
          refine AL.gv rfl rfl rfl rfl (B.pT) ?_
          refine AL.gv rfl rfl rfl rfl (B.mA) ?_
          refine AL.cases (t := 197) rfl (fun hg197 => ?_) (fun hg197 => ?_)
          · refine AL.gv rfl rfl rfl rfl (B.mA) ?_
            refine AL.gv rfl rfl rfl rfl (B.cmp rfl rfl rfl rfl rfl) ?_
            refine AL.gv rfl rfl rfl rfl (B.pT) ?_
            refine AL.v rfl rfl (B.pF) ?_
            refine AL.nil (AThen.n ?_)
            refine Aw.cases (t := 201) rfl (fun hc10 => ?_) (fun hc10 => ?_)
            · refine Aw.condT rfl rfl (Aw.seq (Aw.region ?_))
              refine AL.v rfl rfl (B.mA) ?_
              refine AL.nil (AThen.n (Aw.ret (AIn.r (AThen.r (AThen.r (AIn.r (AThen.r (APost.r ?_))))))))
              refine Ret.all [] rfl (.cons (.t (.d _)) .nil) gs_nil (.refl _) (.d _) ⟨congrArg (fun b => AV.d (.bool b)) ?_, rfl⟩
              first
                | rfl
                | (exfalso; simp at hc0; done)
                | (exfalso; simp at hg82; omega)
                | (exfalso; simp at hg91; omega)
                | (exfalso; simp at hc3; omega)
                | (exfalso; have h := hap.no (by simpa using hg109); rw [h, sameM_self] at hc4; simp at hc4; done)
                | (exfalso; simp at hc7; done)
                | (exfalso; simp at hg190; omega)
                | (exfalso; rcases hxj with h | ⟨_, _, h⟩ <;> simp_all <;> omega)
                | (trace_state; sorry)
            refine Aw.condF rfl rfl (Aw.skip (AIn.n (AThen.n (Aw.region ?_))))
            refine AL.v rfl rfl (B.arith rfl rfl rfl (arith_add64 (by omega)) rfl) ?_
            refine AL.v rfl rfl (B.mA) ?_
            refine AL.move (σ' := ⟨(upd (upd (upd (upd (upd (upd (upd (upd (fun _ => AV.und) 70 (.d (.int .i64 ((k + 1) : Nat)))) 69 (.d (.int .i64 ((4 : Nat) : Int)))) 68 (.own 1 0 4)) 19 (.d (.bool (mTake m who).2.2))) 16 (.d (.bool (mGone m who).2))) 14 (.d (.bool (mCome m who).2))) 6 (.ptr 0 0 0)) 2 (.d (.int .i64 who))), blksOf [.var 60 [.d (.view 2 (m.Queues.map eQueue)), .d (.view 1 (m.Come.map eInt)), .d (.view 1 (m.Boxes.map eL_Letter))], .row 3 60 (List.map eModel [(mSay c m who to text).1, (mCome m who).1, (mGone m who).1, (mTake m who).1])]⟩) (Moved.mk' [] [0, 1] _ (fun g h => by simp at h) (loc_u (loc_u (loc_u (loc_u (loc_u (loc_u (loc_u (loc_u loc_und)))))))) rfl (by decide) (by simp) (at_cons (.va) (at_cons (.row _ _ _) at_nil))) ?_
            refine AL.nil (AThen.n ?_)
            exact ⟨4 - (k + 1), by omega, k + 1, by omega, rfl, rfl⟩
          refine AL.off rfl rfl rfl rfl rfl (by decide) ?_
          refine AL.off rfl rfl rfl rfl rfl (by decide) ?_
          refine AL.gv rfl rfl rfl rfl (B.pF) ?_
          refine AL.v rfl rfl (B.pF) ?_
          refine AL.nil (AThen.n ?_)
          refine Aw.condF rfl (rfl) ?_
          refine Aw.skip (AIn.n (AThen.n (Aw.region ?_)))
          refine AL.v rfl rfl (B.arith rfl rfl rfl (arith_add64 (by omega)) rfl) ?_
          refine AL.v rfl rfl (B.mA) ?_
          refine AL.move (σ' := ⟨(upd (upd (upd (upd (upd (upd (upd (upd (fun _ => AV.und) 70 (.d (.int .i64 ((k + 1) : Nat)))) 69 (.d (.int .i64 ((4 : Nat) : Int)))) 68 (.own 1 0 4)) 19 (.d (.bool (mTake m who).2.2))) 16 (.d (.bool (mGone m who).2))) 14 (.d (.bool (mCome m who).2))) 6 (.ptr 0 0 0)) 2 (.d (.int .i64 who))), blksOf [.var 60 [.d (.view 2 (m.Queues.map eQueue)), .d (.view 1 (m.Come.map eInt)), .d (.view 1 (m.Boxes.map eL_Letter))], .row 3 60 (List.map eModel [(mSay c m who to text).1, (mCome m who).1, (mGone m who).1, (mTake m who).1])]⟩) (Moved.mk' [] [0, 1] _ (fun g h => by simp at h) (loc_u (loc_u (loc_u (loc_u (loc_u (loc_u (loc_u (loc_u loc_und)))))))) rfl (by decide) (by simp) (at_cons (.va) (at_cons (.row _ _ _) at_nil))) ?_
          refine AL.nil (AThen.n ?_)
          exact ⟨4 - (k + 1), by omega, k + 1, by omega, rfl, rfl⟩
        refine AL.off rfl rfl rfl rfl rfl (by decide) ?_
        refine AL.off rfl rfl rfl rfl rfl (by decide) ?_
        refine AL.gv rfl rfl rfl rfl (B.pF) ?_
        refine AL.gv rfl rfl rfl rfl (B.mA) ?_
        refine AL.off rfl rfl rfl rfl rfl (by decide) ?_
        refine AL.off rfl rfl rfl rfl rfl (by decide) ?_
        refine AL.gv rfl rfl rfl rfl (B.pF) ?_
        refine AL.v rfl rfl (B.pF) ?_
        refine AL.nil (AThen.n ?_)
        refine Aw.condF rfl (rfl) ?_
        refine Aw.skip (AIn.n (AThen.n (Aw.region ?_)))
        refine AL.v rfl rfl (B.arith rfl rfl rfl (arith_add64 (by omega)) rfl) ?_
        refine AL.v rfl rfl (B.mA) ?_
        refine AL.move (σ' := ⟨(upd (upd (upd (upd (upd (upd (upd (upd (fun _ => AV.und) 70 (.d (.int .i64 ((k + 1) : Nat)))) 69 (.d (.int .i64 ((4 : Nat) : Int)))) 68 (.own 1 0 4)) 19 (.d (.bool (mTake m who).2.2))) 16 (.d (.bool (mGone m who).2))) 14 (.d (.bool (mCome m who).2))) 6 (.ptr 0 0 0)) 2 (.d (.int .i64 who))), blksOf [.var 60 [.d (.view 2 (m.Queues.map eQueue)), .d (.view 1 (m.Come.map eInt)), .d (.view 1 (m.Boxes.map eL_Letter))], .row 3 60 (List.map eModel [(mSay c m who to text).1, (mCome m who).1, (mGone m who).1, (mTake m who).1])]⟩) (Moved.mk' [] [0, 1] _ (fun g h => by simp at h) (loc_u (loc_u (loc_u (loc_u (loc_u (loc_u (loc_u (loc_u loc_und)))))))) rfl (by decide) (by simp) (at_cons (.va) (at_cons (.row _ _ _) at_nil))) ?_
        refine AL.nil (AThen.n ?_)
        exact ⟨4 - (k + 1), by omega, k + 1, by omega, rfl, rfl⟩
      have hQE := hap.qid (fun h => by simp at hg126; omega)
      refine AL.off rfl rfl rfl rfl rfl (by decide) ?_
      refine AL.off rfl rfl rfl rfl rfl (by decide) ?_
      refine AL.off rfl rfl rfl rfl rfl (by decide) ?_
      refine AL.off rfl rfl rfl rfl rfl (by decide) ?_
      refine AL.off rfl rfl rfl rfl rfl (by decide) ?_
      refine AL.v rfl rfl (B.pF) ?_
      refine AL.nil (AThen.n ?_)
      refine Aw.meet (fun σ => Moved σ ⟨(upd (upd (upd (upd (upd (upd (upd (upd (upd (upd (upd (fun _ => AV.und) 23 (.ptr 3 0 0)) 21 (.ptr 2 0 0)) 20 (.d (.int .i64 (k : Nat)))) 70 (.d (.int .i64 (k : Nat)))) 69 (.d (.int .i64 ((4 : Nat) : Int)))) 68 (.own 1 0 4)) 19 (.d (.bool (mTake m who).2.2))) 16 (.d (.bool (mGone m who).2))) 14 (.d (.bool (mCome m who).2))) 6 (.ptr 0 0 0)) 2 (.d (.int .i64 who))), blksOf [.var 60 [.d (.view 2 (m.Queues.map eQueue)), .d (.view 1 (m.Come.map eInt)), .d (.view 1 (m.Boxes.map eL_Letter))], .row 3 60 (List.map eModel [(mSay c m who to text).1, (mCome m who).1, (mGone m who).1, (mTake m who).1]), .var 60 [.d (.view 2 (X.Queues.map eQueue)), .d (.view 1 (X.Come.map eInt)), .d (.view 1 (X.Boxes.map eL_Letter))], .var 60 [.own 4 0 (X.Queues.map eQueue).length, .own 5 0 (X.Come.map eInt).length, .d (.view 1 (X.Boxes.map eL_Letter))], .row 2 77 (m.Queues.map eQueue), .row 1 3 (X.Come.map eInt)]⟩) ?_ (fun σ hM => ?_)
      · refine Aw.condF rfl (rfl) ?_
        refine Aw.skip (AThen.n ?_)
        exact (Moved.mk' [] [0, 1, 2, 4, 5, 6] _ (fun g h => by simp at h) (loc_u (loc_u (loc_u (loc_u (loc_u (loc_u (loc_u (loc_u (loc_u (loc_u (loc_u loc_und))))))))))) rfl (by decide) (by simp) (at_cons (.va) (at_cons (.row _ _ _) (at_cons (.va) (at_cons (.va) (at_cons (.row' (hQE)) (at_cons (.row _ _ _) at_nil)))))))
      refine Aw.move hM ?_
      clear hM
      clear σ
      refine Aw.seq (Aw.seq (Aw.region ?_))
      refine AL.v rfl rfl (B.mA) ?_
      refine AL.v rfl rfl (B.cmp rfl rfl rfl rfl rfl) ?_
      refine AL.v rfl rfl (B.mA) ?_
      refine AL.cases (t := 144) rfl (fun hg144 => ?_) (fun hg144 => ?_)
      · 
        refine AL.gv rfl rfl rfl rfl (B.mA) ?_
        refine AL.gv rfl rfl rfl rfl (B.fA fl_api_Model_1) ?_
        refine AL.gv rfl rfl rfl rfl (B.l1 ty_Lint) ?_
        refine AL.gv rfl rfl rfl rfl (B.nA Try.underlying57) ?_
        refine AL.gv rfl rfl rfl rfl (B.cmp rfl rfl rfl rfl rfl) ?_
        refine AL.v rfl rfl (B.pT) ?_
        refine AL.nil (AThen.n ?_)
        refine Aw.meet (fun σ => Moved σ ⟨(upd (upd (upd (upd (upd (upd (upd (upd (upd (upd (upd (fun _ => AV.und) 23 (.ptr 3 0 0)) 21 (.ptr 2 0 0)) 20 (.d (.int .i64 (k : Nat)))) 70 (.d (.int .i64 (k : Nat)))) 69 (.d (.int .i64 ((4 : Nat) : Int)))) 68 (.own 1 0 4)) 19 (.d (.bool (mTake m who).2.2))) 16 (.d (.bool (mGone m who).2))) 14 (.d (.bool (mCome m who).2))) 6 (.ptr 0 0 0)) 2 (.d (.int .i64 who))), blksOf [.var 60 [.d (.view 2 (m.Queues.map eQueue)), .d (.view 1 (m.Come.map eInt)), .d (.view 1 (m.Boxes.map eL_Letter))], .row 3 60 (List.map eModel [(mSay c m who to text).1, (mCome m who).1, (mGone m who).1, (mTake m who).1]), .var 60 [.d (.view 2 (X.Queues.map eQueue)), .d (.view 1 (X.Come.map eInt)), .d (.view 1 (X.Boxes.map eL_Letter))], .var 60 [.own 4 0 (X.Queues.map eQueue).length, .own 5 0 (X.Come.map eInt).length, .d (.view 1 (X.Boxes.map eL_Letter))], .row 2 77 (m.Queues.map eQueue), .row 1 3 (m.Come.map eInt)]⟩) ?_ (fun σ hM => ?_)
        · refine Aw.cases (t := 150) rfl (fun hc6 => ?_) (fun hc6 => ?_)
          · obtain ⟨i2, hwi2⟩ : ∃ i : Nat, who = i := ⟨who.toNat, by simp at hg144; omega⟩
            have hi : i2 < m.Come.length := by simp at hc6; omega
            obtain ⟨a, ha⟩ : ∃ a, m.Come[i2]? = some a := ⟨_, List.getElem?_eq_getElem hi⟩
            have hi2 : i2 < X.Come.length := by rw [hap.cl]; exact hi
            obtain ⟨a2, hXa⟩ : ∃ q, X.Come[i2]? = some q := ⟨_, List.getElem?_eq_getElem hi2⟩
            have hCE := (show Ap m (i2 : Int) X is _ from hwi2 ▸ hap).cset ha
            refine Aw.condT rfl rfl (Aw.drawn' mixed ?_)
            refine CD.v rfl rfl (B.fA fl_api_Model_1) ?_
            refine CD.v rfl rfl (B.l1 ty_Lint) ?_
            refine CD.v rfl rfl (B.mA) ?_
            refine CD.v rfl rfl (B.fA fl_api_Model_1) ?_
            refine CD.v rfl rfl (B.l1 ty_Lint) ?_
            refine CD.v rfl rfl (B.mA) ?_
            refine CD.v rfl rfl (B.idxView (i := i2) rfl el_Lint (by first | exact .view _ _ | exact .lent _ _) rfl hwi2 (map_at ha) rfl) ?_
            refine CD.v rfl rfl (B.l1 ty_int) ?_
            refine CD.v rfl rfl (B.idxOwn0 rfl el_Lint rfl rfl rfl hwi2 (by simp; omega) rfl) ?_
            refine CD.s rfl rfl (B.storeRow (ds := (eInt a)) rfl ty_int rfl rfl (map_at hXa) rfl rfl rfl rfl) ?_
            refine CD.nil (by kernel_rfl) ?_
            refine AThen.n ?_
            exact (Moved.mk' [] [0, 1, 2, 3, 4, 5] _ (fun g h => by simp at h) (loc_u (loc_u (loc_u (loc_u (loc_u (loc_u (loc_u (loc_u (loc_u (loc_u (loc_u loc_und))))))))))) rfl (by decide) (by simp) (at_cons (.va) (at_cons (.row _ _ _) (at_cons (.va) (at_cons (.va) (at_cons (.row _ _ _) (at_cons (.row' (hCE)) at_nil)))))))
          have hCE := hap.cid (fun h => by simp at hg144 hc6; omega)
          refine Aw.condF rfl rfl (Aw.skip (AThen.n ?_))
          exact (Moved.mk' [] [0, 1, 2, 3, 4, 5] _ (fun g h => by simp at h) (loc_u (loc_u (loc_u (loc_u (loc_u (loc_u (loc_u (loc_u (loc_u (loc_u (loc_u loc_und))))))))))) rfl (by decide) (by simp) (at_cons (.va) (at_cons (.row _ _ _) (at_cons (.va) (at_cons (.va) (at_cons (.row _ _ _) (at_cons (.row' (hCE)) at_nil)))))))
        refine Aw.move hM ?_
        clear hM
        clear σ
        refine Aw.seq ?_
        
        refine Aw.region ?_
        refine AL.v rfl rfl (B.fA fl_api_Model_2) ?_
        refine AL.v rfl rfl (B.l1 ty_LLapi_Letter) ?_
        refine AL.v rfl rfl (B.fA fl_api_Model_2) ?_
        refine AL.s rfl rfl (B.sA ty_LLapi_Letter) ?_
        refine AL.nil (AThen.n (Aw.seq (Aw.seq ?_)))
        refine Aw.move (σ' := ⟨(upd (upd (upd (upd (upd (upd (upd (upd (upd (upd (upd (fun _ => AV.und) 23 (.ptr 3 0 0)) 21 (.ptr 2 0 0)) 20 (.d (.int .i64 (k : Nat)))) 70 (.d (.int .i64 (k : Nat)))) 69 (.d (.int .i64 ((4 : Nat) : Int)))) 68 (.own 1 0 4)) 19 (.d (.bool (mTake m who).2.2))) 16 (.d (.bool (mGone m who).2))) 14 (.d (.bool (mCome m who).2))) 6 (.ptr 0 0 0)) 2 (.d (.int .i64 who))), blksOf [.var 60 [.d (.view 2 (m.Queues.map eQueue)), .d (.view 1 (m.Come.map eInt)), .d (.view 1 (m.Boxes.map eL_Letter))], .row 3 60 (List.map eModel [(mSay c m who to text).1, (mCome m who).1, (mGone m who).1, (mTake m who).1]), .var 60 [.d (.view 2 (X.Queues.map eQueue)), .d (.view 1 (X.Come.map eInt)), .d (.view 1 (X.Boxes.map eL_Letter))], .var 60 [.d (.view 2 (m.Queues.map eQueue)), .d (.view 1 (m.Come.map eInt)), .d (.view 1 (m.Boxes.map eL_Letter))]]⟩) (Moved.mk' [4, 5] [0, 1, 2, 3] _ (gs_cons (σ := ⟨fun _ => .und, _⟩) rfl (gs_cons (σ := ⟨fun _ => .und, _⟩) rfl gs_nil)) (loc_u (loc_u (loc_u (loc_u (loc_u (loc_u (loc_u (loc_u (loc_u (loc_u (loc_u loc_und))))))))))) rfl (by decide) (by simp) (at_cons (.va) (at_cons (.row _ _ _) (at_cons (.va) (at_cons (.va) at_nil))))) ?_
        refine Aw.region ?_
        refine AL.v rfl rfl (B.lN ty_api_Model) ?_
        refine AL.v rfl rfl (B.lN ty_api_Model) ?_
        refine AL.v rfl rfl (B.call0 (k := 6) rfl en_shallot_shallotref23_Same (r23_self m hm) (.c (.c .nil))) ?_
        refine AL.v rfl rfl (B.not rfl rfl rfl) ?_
        refine AL.nil (AThen.n ?_)
        refine Aw.cases (t := 166) rfl (fun hc7 => ?_) (fun hc7 => ?_)
        · refine Aw.condT rfl rfl (Aw.seq (Aw.region ?_))
          refine AL.v rfl rfl (B.mA) ?_
          refine AL.nil (AThen.n (Aw.ret (AThen.r (AIn.r (AThen.r (AThen.r (AIn.r (AThen.r (APost.r ?_)))))))))
          refine Ret.all [] rfl (.cons (.t (.d _)) .nil) gs_nil (.refl _) (.d _) ⟨congrArg (fun b => AV.d (.bool b)) ?_, rfl⟩
          first
            | rfl
            | (exfalso; simp at hc0; done)
            | (exfalso; simp at hg82; omega)
            | (exfalso; simp at hg91; omega)
            | (exfalso; simp at hc3; omega)
            | (exfalso; have h := hap.no (by simpa using hg109); rw [h, sameM_self] at hc4; simp at hc4; done)
            | (exfalso; simp at hc7; done)
            | (exfalso; simp at hg190; omega)
            | (exfalso; rcases hxj with h | ⟨_, _, h⟩ <;> simp_all <;> omega)
            | (trace_state; sorry)
        refine Aw.condF rfl rfl (Aw.skip (AThen.n (Aw.seq ?_)))
        obtain ⟨p, hp⟩ := hap.b
        refine Aw.region ?_
        refine AL.v rfl rfl (B.mA) ?_
        refine AL.nil (AThen.n (Aw.seq (Aw.seq (Aw.region ?_))))
        refine AL.v rfl rfl (B.fA fl_api_Model_2) ?_
        refine AL.v rfl rfl (B.l1 ty_LLapi_Letter) ?_
        refine AL.v rfl rfl (B.nA Try.underlying58) ?_
        refine AL.v rfl rfl (B.mA) ?_
        refine AL.nil (AThen.n (Aw.block ?_))
        refine Aw.move (σ' := ⟨(upd (upd (upd (upd (upd (upd (upd (upd (upd (upd (upd (upd (upd (fun _ => AV.und) 170 (.d (.int .i64 (0 : Nat)))) 169 (.d (.int .i64 ((m.Boxes.map eL_Letter).length : Nat)))) 24 (.d (.int .i64 (0)))) 21 (.ptr 2 0 0)) 20 (.d (.int .i64 (k : Nat)))) 70 (.d (.int .i64 (k : Nat)))) 69 (.d (.int .i64 ((4 : Nat) : Int)))) 68 (.own 1 0 4)) 19 (.d (.bool (mTake m who).2.2))) 16 (.d (.bool (mGone m who).2))) 14 (.d (.bool (mCome m who).2))) 6 (.ptr 0 0 0)) 2 (.d (.int .i64 who))), blksOf [.var 60 [.d (.view 2 (m.Queues.map eQueue)), .d (.view 1 (m.Come.map eInt)), .d (.view 1 (m.Boxes.map eL_Letter))], .row 3 60 (List.map eModel [(mSay c m who to text).1, (mCome m who).1, (mGone m who).1, (mTake m who).1]), .var 60 [.d (.view 2 (X.Queues.map eQueue)), .d (.view 1 (X.Come.map eInt)), .d (.view 1 (X.Boxes.map eL_Letter))]]⟩) (Moved.mk' [] [0, 1, 2] _ (fun g h => by simp at h) (loc_u (loc_u (loc_u (loc_u (loc_u (loc_u (loc_u (loc_u (loc_u (loc_u (loc_u (loc_u (loc_u loc_und))))))))))))) rfl (by decide) (by simp) (at_cons (.va) (at_cons (.row _ _ _) (at_cons (.va) at_nil)))) ?_
        refine Aw.loop (fun n σ => ∃ (j : Nat) (s : Int), j ≤ m.Boxes.length ∧ n = m.Boxes.length - j ∧ σ = ⟨(upd (upd (upd (upd (upd (upd (upd (upd (upd (upd (upd (upd (upd (fun _ => AV.und) 170 (.d (.int .i64 (j : Nat)))) 169 (.d (.int .i64 ((m.Boxes.map eL_Letter).length : Nat)))) 24 (.d (.int .i64 (s)))) 21 (.ptr 2 0 0)) 20 (.d (.int .i64 (k : Nat)))) 70 (.d (.int .i64 (k : Nat)))) 69 (.d (.int .i64 ((4 : Nat) : Int)))) 68 (.own 1 0 4)) 19 (.d (.bool (mTake m who).2.2))) 16 (.d (.bool (mGone m who).2))) 14 (.d (.bool (mCome m who).2))) 6 (.ptr 0 0 0)) 2 (.d (.int .i64 who))), blksOf [.var 60 [.d (.view 2 (m.Queues.map eQueue)), .d (.view 1 (m.Come.map eInt)), .d (.view 1 (m.Boxes.map eL_Letter))], .row 3 60 (List.map eModel [(mSay c m who to text).1, (mCome m who).1, (mGone m who).1, (mTake m who).1]), .var 60 [.d (.view 2 (X.Queues.map eQueue)), .d (.view 1 (X.Come.map eInt)), .d (.view 1 (X.Boxes.map eL_Letter))]]⟩ ∧ (s = 0 ∨ (s = 1 ∧ p < j ∧ (k == 1 || k == 3) = true))) (m.Boxes.length) ⟨0, 0, Nat.zero_le _, rfl, rfl, .inl rfl⟩ ?_
        rintro n σ ⟨j, s, hj, rfl, rfl, hxj⟩
        refine Aw.seq (Aw.region ?_)
        refine AL.v rfl rfl (B.cmp rfl rfl rfl rfl rfl) ?_
        refine AL.nil (AThen.n (Aw.seq ?_))
        refine Aw.cases (t := 171) rfl (fun hc8 => ?_) (fun hc8 => ?_)
        · refine Aw.condT rfl rfl (Aw.skip (AThen.n (Aw.seq (Aw.block (Aw.seq (Aw.region ?_))))))
          refine AL.v rfl rfl (B.mA) ?_
          refine AL.v rfl rfl (B.mA) ?_
          refine AL.nil (AThen.n (Aw.seq ?_))
          have hlt2 : j < m.Boxes.length := by simpa using hc8
          obtain ⟨x, hx⟩ : ∃ x, X.Boxes[j]? = some x := ⟨_, List.getElem?_eq_getElem (by rw [hap.bl]; exact hlt2)⟩
          obtain ⟨y, hy⟩ : ∃ y, m.Boxes[j]? = some y := ⟨_, List.getElem?_eq_getElem hlt2⟩
          refine Aw.drawn' mixed ?_
          refine CD.v rfl rfl (B.fA fl_api_Model_2) ?_
          refine CD.v rfl rfl (B.l1 ty_LLapi_Letter) ?_
          refine CD.v rfl rfl (B.mA) ?_
          refine CD.v rfl rfl (B.idxView (i := j) rfl el_LLapi_Letter (by first | exact .view _ _ | exact .lent _ _) rfl rfl (map_at hx) rfl) ?_
          refine CD.v rfl rfl (B.l1 ty_Lapi_Letter) ?_
          refine CD.v rfl rfl (B.fA fl_api_Model_2) ?_
          refine CD.v rfl rfl (B.l1 ty_LLapi_Letter) ?_
          refine CD.v rfl rfl (B.mA) ?_
          refine CD.v rfl rfl (B.idxView (i := j) rfl el_LLapi_Letter (by first | exact .view _ _ | exact .lent _ _) rfl rfl (map_at hy) rfl) ?_
          refine CD.v rfl rfl (B.l1 ty_Lapi_Letter) ?_
          refine CD.v rfl rfl (B.call0 (k := 3) rfl en_shallot_shallotref10_SameAll (r10_sameAll x y) (.c (.c .nil))) ?_
          refine CD.v rfl rfl (B.not rfl rfl rfl) ?_
          refine CD.nil (by kernel_rfl) ?_
          refine AThen.n ?_
          refine Aw.cases (t := 184) rfl (fun hc9 => ?_) (fun hc9 => ?_)
          · have hne : x ≠ y := fun h => by
              rw [← h] at hc9
              have h2 : all2 sameL x x = true := sameLs_self x
              rw [h2] at hc9
              simp at hc9
            have hj : j = p := by
              by_cases hjp : j = p
              · exact hjp
              · have h1 := hp j hjp
                rw [hx, hy] at h1
                exact absurd (Option.some.inj h1) hne
            have hmb2 : (k == 1 || k == 3) = true := by
              cases h0 : (k == 1 || k == 3) with
              | true => rfl
              | false =>
                have h1 := hap.nb h0
                rw [h1, hy] at hx
                exact absurd (Option.some.inj hx).symm hne
            obtain ⟨s', hs', hE⟩ : ∃ s' : Int, s' = s + 1 ∧ (s' = 0 ∨ (s' = 1 ∧ p < j + 1 ∧ (k == 1 || k == 3) = true)) := ⟨_, rfl, .inr ⟨by omega, by omega, hmb2⟩⟩
            refine Aw.condT rfl rfl (Aw.region ?_)
            refine AL.v rfl rfl (B.mA) ?_
            refine AL.v rfl rfl (B.arith rfl rfl rfl (arith_add64 (by omega)) rfl) ?_
            refine AL.v rfl rfl (B.mA) ?_
            refine AL.nil (AIn.n (AThen.n (Aw.region ?_)))
            refine AL.v rfl rfl (B.arith rfl rfl rfl (arith_add64 (by omega)) rfl) ?_
            refine AL.v rfl rfl (B.mA) ?_
            refine AL.move (σ' := ⟨(upd (upd (upd (upd (upd (upd (upd (upd (upd (upd (upd (upd (upd (fun _ => AV.und) 170 (.d (.int .i64 ((j + 1) : Nat)))) 169 (.d (.int .i64 ((m.Boxes.map eL_Letter).length : Nat)))) 24 (.d (.int .i64 (s')))) 21 (.ptr 2 0 0)) 20 (.d (.int .i64 (k : Nat)))) 70 (.d (.int .i64 (k : Nat)))) 69 (.d (.int .i64 ((4 : Nat) : Int)))) 68 (.own 1 0 4)) 19 (.d (.bool (mTake m who).2.2))) 16 (.d (.bool (mGone m who).2))) 14 (.d (.bool (mCome m who).2))) 6 (.ptr 0 0 0)) 2 (.d (.int .i64 who))), blksOf [.var 60 [.d (.view 2 (m.Queues.map eQueue)), .d (.view 1 (m.Come.map eInt)), .d (.view 1 (m.Boxes.map eL_Letter))], .row 3 60 (List.map eModel [(mSay c m who to text).1, (mCome m who).1, (mGone m who).1, (mTake m who).1]), .var 60 [.d (.view 2 (X.Queues.map eQueue)), .d (.view 1 (X.Come.map eInt)), .d (.view 1 (X.Boxes.map eL_Letter))]]⟩) (Moved.mk' [] [0, 1, 2] _ (fun g h => by simp at h) (loc_u (loc_u (loc_u (loc_u (loc_u (loc_u (loc_u (loc_u (loc_u (loc_u (loc_upd (Loc.d' (congrArg (D.int .i64) hs'.symm)) (loc_u (loc_u loc_und))))))))))))) rfl (by decide) (by simp) (at_cons (.va) (at_cons (.row _ _ _) (at_cons (.va) at_nil)))) ?_
            refine AL.nil (AThen.n ?_)
            exact ⟨m.Boxes.length - (j + 1), by omega, j + 1, s', by omega, rfl, rfl, hE⟩
          obtain ⟨s', hs', hE⟩ : ∃ s' : Int, s' = s ∧ (s' = 0 ∨ (s' = 1 ∧ p < j + 1 ∧ (k == 1 || k == 3) = true)) := ⟨s, rfl, by
            rcases hxj with h | ⟨h1, h2, h3⟩
            · exact .inl h
            · exact .inr ⟨h1, by omega, h3⟩⟩
          refine Aw.condF rfl rfl (Aw.skip (AIn.n (AThen.n (Aw.region ?_))))
          refine AL.v rfl rfl (B.arith rfl rfl rfl (arith_add64 (by omega)) rfl) ?_
          refine AL.v rfl rfl (B.mA) ?_
          refine AL.move (σ' := ⟨(upd (upd (upd (upd (upd (upd (upd (upd (upd (upd (upd (upd (upd (fun _ => AV.und) 170 (.d (.int .i64 ((j + 1) : Nat)))) 169 (.d (.int .i64 ((m.Boxes.map eL_Letter).length : Nat)))) 24 (.d (.int .i64 (s')))) 21 (.ptr 2 0 0)) 20 (.d (.int .i64 (k : Nat)))) 70 (.d (.int .i64 (k : Nat)))) 69 (.d (.int .i64 ((4 : Nat) : Int)))) 68 (.own 1 0 4)) 19 (.d (.bool (mTake m who).2.2))) 16 (.d (.bool (mGone m who).2))) 14 (.d (.bool (mCome m who).2))) 6 (.ptr 0 0 0)) 2 (.d (.int .i64 who))), blksOf [.var 60 [.d (.view 2 (m.Queues.map eQueue)), .d (.view 1 (m.Come.map eInt)), .d (.view 1 (m.Boxes.map eL_Letter))], .row 3 60 (List.map eModel [(mSay c m who to text).1, (mCome m who).1, (mGone m who).1, (mTake m who).1]), .var 60 [.d (.view 2 (X.Queues.map eQueue)), .d (.view 1 (X.Come.map eInt)), .d (.view 1 (X.Boxes.map eL_Letter))]]⟩) (Moved.mk' [] [0, 1, 2] _ (fun g h => by simp at h) (loc_u (loc_u (loc_u (loc_u (loc_u (loc_u (loc_u (loc_u (loc_u (loc_u (loc_upd (Loc.d' (congrArg (D.int .i64) hs'.symm)) (loc_u (loc_u loc_und))))))))))))) rfl (by decide) (by simp) (at_cons (.va) (at_cons (.row _ _ _) (at_cons (.va) at_nil)))) ?_
          refine AL.nil (AThen.n ?_)
          exact ⟨m.Boxes.length - (j + 1), by omega, j + 1, s', by omega, rfl, rfl, hE⟩
        refine Aw.condF rfl rfl (Aw.exit (AThen.e (AThen.e (AIn.e (AThen.n (Aw.seq (Aw.region ?_)))))))
        refine AL.v rfl rfl (B.mA) ?_
        refine AL.v rfl rfl (B.cmp rfl rfl rfl rfl rfl) ?_
        refine AL.v rfl rfl (B.mA) ?_
        refine AL.cases (t := 190) rfl (fun hg190 => ?_) (fun hg190 => ?_)
        · refine AL.off rfl rfl rfl rfl rfl (by decide) ?_
          refine AL.off rfl rfl rfl rfl rfl (by decide) ?_
          refine AL.off rfl rfl rfl rfl rfl (by decide) ?_
          refine AL.offU rfl rfl rfl rfl (by decide) ?_
          refine AL.offU rfl rfl rfl rfl (by decide) ?_
          refine AL.off rfl rfl rfl rfl rfl (by decide) ?_
          refine AL.off rfl rfl rfl rfl rfl (by decide) ?_
          refine AL.offU rfl rfl rfl rfl (by decide) ?_
          refine AL.offU rfl rfl rfl rfl (by decide) ?_
          refine AL.off rfl rfl rfl rfl rfl (by decide) ?_
          refine AL.v rfl rfl (B.pT) ?_
          refine AL.nil (AThen.n ?_)
          refine Aw.condT rfl (rfl) ?_
          refine Aw.seq (Aw.region ?_)
          refine AL.v rfl rfl (B.mA) ?_
          refine AL.nil (AThen.n (Aw.ret (AIn.r (AThen.r (AThen.r (AIn.r (AThen.r (APost.r ?_))))))))
          refine Ret.all [] rfl (.cons (.t (.d _)) .nil) gs_nil (.refl _) (.d _) ⟨congrArg (fun b => AV.d (.bool b)) ?_, rfl⟩
          first
            | rfl
            | (exfalso; simp at hc0; done)
            | (exfalso; simp at hg82; omega)
            | (exfalso; simp at hg91; omega)
            | (exfalso; simp at hc3; omega)
            | (exfalso; have h := hap.no (by simpa using hg109); rw [h, sameM_self] at hc4; simp at hc4; done)
            | (exfalso; simp at hc7; done)
            | (exfalso; simp at hg190; omega)
            | (exfalso; rcases hxj with h | ⟨_, _, h⟩ <;> simp_all <;> omega)
            | (trace_state; sorry)
        refine AL.gv rfl rfl rfl rfl (B.mA) ?_
        refine AL.gv rfl rfl rfl rfl (B.cmp rfl rfl rfl rfl rfl) ?_
        refine AL.gv rfl rfl rfl rfl (B.mA) ?_
        refine AL.cases (t := 193) rfl (fun hg193 => ?_) (fun hg193 => ?_)
        · refine AL.gv rfl rfl rfl rfl (B.mA) ?_
          refine AL.gv rfl rfl rfl rfl (B.cmp rfl rfl rfl rfl rfl) ?_
          refine AL.gv rfl rfl rfl rfl (B.pT) ?_
          refine AL.gv rfl rfl rfl rfl (B.mA) ?_
          refine AL.cases (t := 197) rfl (fun hg197 => ?_) (fun hg197 => ?_)
          · refine AL.gv rfl rfl rfl rfl (B.mA) ?_
            refine AL.gv rfl rfl rfl rfl (B.cmp rfl rfl rfl rfl rfl) ?_
            refine AL.gv rfl rfl rfl rfl (B.pT) ?_
            refine AL.v rfl rfl (B.pF) ?_
            refine AL.nil (AThen.n ?_)
            refine Aw.cases (t := 201) rfl (fun hc10 => ?_) (fun hc10 => ?_)
            · refine Aw.condT rfl rfl (Aw.seq (Aw.region ?_))
              refine AL.v rfl rfl (B.mA) ?_
              refine AL.nil (AThen.n (Aw.ret (AIn.r (AThen.r (AThen.r (AIn.r (AThen.r (APost.r ?_))))))))
              refine Ret.all [] rfl (.cons (.t (.d _)) .nil) gs_nil (.refl _) (.d _) ⟨congrArg (fun b => AV.d (.bool b)) ?_, rfl⟩
              first
                | rfl
                | (exfalso; simp at hc0; done)
                | (exfalso; simp at hg82; omega)
                | (exfalso; simp at hg91; omega)
                | (exfalso; simp at hc3; omega)
                | (exfalso; have h := hap.no (by simpa using hg109); rw [h, sameM_self] at hc4; simp at hc4; done)
                | (exfalso; simp at hc7; done)
                | (exfalso; simp at hg190; omega)
                | (exfalso; rcases hxj with h | ⟨_, _, h⟩ <;> simp_all <;> omega)
                | (trace_state; sorry)
            refine Aw.condF rfl rfl (Aw.skip (AIn.n (AThen.n (Aw.region ?_))))
            refine AL.v rfl rfl (B.arith rfl rfl rfl (arith_add64 (by omega)) rfl) ?_
            refine AL.v rfl rfl (B.mA) ?_
            refine AL.move (σ' := ⟨(upd (upd (upd (upd (upd (upd (upd (upd (fun _ => AV.und) 70 (.d (.int .i64 ((k + 1) : Nat)))) 69 (.d (.int .i64 ((4 : Nat) : Int)))) 68 (.own 1 0 4)) 19 (.d (.bool (mTake m who).2.2))) 16 (.d (.bool (mGone m who).2))) 14 (.d (.bool (mCome m who).2))) 6 (.ptr 0 0 0)) 2 (.d (.int .i64 who))), blksOf [.var 60 [.d (.view 2 (m.Queues.map eQueue)), .d (.view 1 (m.Come.map eInt)), .d (.view 1 (m.Boxes.map eL_Letter))], .row 3 60 (List.map eModel [(mSay c m who to text).1, (mCome m who).1, (mGone m who).1, (mTake m who).1])]⟩) (Moved.mk' [] [0, 1] _ (fun g h => by simp at h) (loc_u (loc_u (loc_u (loc_u (loc_u (loc_u (loc_u (loc_u loc_und)))))))) rfl (by decide) (by simp) (at_cons (.va) (at_cons (.row _ _ _) at_nil))) ?_
            refine AL.nil (AThen.n ?_)
            exact ⟨4 - (k + 1), by omega, k + 1, by omega, rfl, rfl⟩
          refine AL.off rfl rfl rfl rfl rfl (by decide) ?_
          refine AL.off rfl rfl rfl rfl rfl (by decide) ?_
          refine AL.gv rfl rfl rfl rfl (B.pF) ?_
          refine AL.v rfl rfl (B.pF) ?_
          refine AL.nil (AThen.n ?_)
          refine Aw.condF rfl (rfl) ?_
          refine Aw.skip (AIn.n (AThen.n (Aw.region ?_)))
          refine AL.v rfl rfl (B.arith rfl rfl rfl (arith_add64 (by omega)) rfl) ?_
          refine AL.v rfl rfl (B.mA) ?_
          refine AL.move (σ' := ⟨(upd (upd (upd (upd (upd (upd (upd (upd (fun _ => AV.und) 70 (.d (.int .i64 ((k + 1) : Nat)))) 69 (.d (.int .i64 ((4 : Nat) : Int)))) 68 (.own 1 0 4)) 19 (.d (.bool (mTake m who).2.2))) 16 (.d (.bool (mGone m who).2))) 14 (.d (.bool (mCome m who).2))) 6 (.ptr 0 0 0)) 2 (.d (.int .i64 who))), blksOf [.var 60 [.d (.view 2 (m.Queues.map eQueue)), .d (.view 1 (m.Come.map eInt)), .d (.view 1 (m.Boxes.map eL_Letter))], .row 3 60 (List.map eModel [(mSay c m who to text).1, (mCome m who).1, (mGone m who).1, (mTake m who).1])]⟩) (Moved.mk' [] [0, 1] _ (fun g h => by simp at h) (loc_u (loc_u (loc_u (loc_u (loc_u (loc_u (loc_u (loc_u loc_und)))))))) rfl (by decide) (by simp) (at_cons (.va) (at_cons (.row _ _ _) at_nil))) ?_
          refine AL.nil (AThen.n ?_)
          exact ⟨4 - (k + 1), by omega, k + 1, by omega, rfl, rfl⟩
        refine AL.off rfl rfl rfl rfl rfl (by decide) ?_
        refine AL.off rfl rfl rfl rfl rfl (by decide) ?_
        refine AL.gv rfl rfl rfl rfl (B.pF) ?_
        refine AL.gv rfl rfl rfl rfl (B.mA) ?_
        refine AL.off rfl rfl rfl rfl rfl (by decide) ?_
        refine AL.off rfl rfl rfl rfl rfl (by decide) ?_
        refine AL.gv rfl rfl rfl rfl (B.pF) ?_
        refine AL.v rfl rfl (B.pF) ?_
        refine AL.nil (AThen.n ?_)
        refine Aw.condF rfl (rfl) ?_
        refine Aw.skip (AIn.n (AThen.n (Aw.region ?_)))
        refine AL.v rfl rfl (B.arith rfl rfl rfl (arith_add64 (by omega)) rfl) ?_
        refine AL.v rfl rfl (B.mA) ?_
        refine AL.move (σ' := ⟨(upd (upd (upd (upd (upd (upd (upd (upd (fun _ => AV.und) 70 (.d (.int .i64 ((k + 1) : Nat)))) 69 (.d (.int .i64 ((4 : Nat) : Int)))) 68 (.own 1 0 4)) 19 (.d (.bool (mTake m who).2.2))) 16 (.d (.bool (mGone m who).2))) 14 (.d (.bool (mCome m who).2))) 6 (.ptr 0 0 0)) 2 (.d (.int .i64 who))), blksOf [.var 60 [.d (.view 2 (m.Queues.map eQueue)), .d (.view 1 (m.Come.map eInt)), .d (.view 1 (m.Boxes.map eL_Letter))], .row 3 60 (List.map eModel [(mSay c m who to text).1, (mCome m who).1, (mGone m who).1, (mTake m who).1])]⟩) (Moved.mk' [] [0, 1] _ (fun g h => by simp at h) (loc_u (loc_u (loc_u (loc_u (loc_u (loc_u (loc_u (loc_u loc_und)))))))) rfl (by decide) (by simp) (at_cons (.va) (at_cons (.row _ _ _) at_nil))) ?_
        refine AL.nil (AThen.n ?_)
        exact ⟨4 - (k + 1), by omega, k + 1, by omega, rfl, rfl⟩
      have hCE := hap.cid (fun h => by simp at hg144; omega)
      refine AL.off rfl rfl rfl rfl rfl (by decide) ?_
      refine AL.off rfl rfl rfl rfl rfl (by decide) ?_
      refine AL.off rfl rfl rfl rfl rfl (by decide) ?_
      refine AL.off rfl rfl rfl rfl rfl (by decide) ?_
      refine AL.off rfl rfl rfl rfl rfl (by decide) ?_
      refine AL.v rfl rfl (B.pF) ?_
      refine AL.nil (AThen.n ?_)
      refine Aw.meet (fun σ => Moved σ ⟨(upd (upd (upd (upd (upd (upd (upd (upd (upd (upd (upd (fun _ => AV.und) 23 (.ptr 3 0 0)) 21 (.ptr 2 0 0)) 20 (.d (.int .i64 (k : Nat)))) 70 (.d (.int .i64 (k : Nat)))) 69 (.d (.int .i64 ((4 : Nat) : Int)))) 68 (.own 1 0 4)) 19 (.d (.bool (mTake m who).2.2))) 16 (.d (.bool (mGone m who).2))) 14 (.d (.bool (mCome m who).2))) 6 (.ptr 0 0 0)) 2 (.d (.int .i64 who))), blksOf [.var 60 [.d (.view 2 (m.Queues.map eQueue)), .d (.view 1 (m.Come.map eInt)), .d (.view 1 (m.Boxes.map eL_Letter))], .row 3 60 (List.map eModel [(mSay c m who to text).1, (mCome m who).1, (mGone m who).1, (mTake m who).1]), .var 60 [.d (.view 2 (X.Queues.map eQueue)), .d (.view 1 (X.Come.map eInt)), .d (.view 1 (X.Boxes.map eL_Letter))], .var 60 [.own 4 0 (X.Queues.map eQueue).length, .own 5 0 (X.Come.map eInt).length, .d (.view 1 (X.Boxes.map eL_Letter))], .row 2 77 (m.Queues.map eQueue), .row 1 3 (m.Come.map eInt)]⟩) ?_ (fun σ hM => ?_)
      · refine Aw.condF rfl (rfl) ?_
        refine Aw.skip (AThen.n ?_)
        exact (Moved.mk' [] [0, 1, 2, 3, 4, 5] _ (fun g h => by simp at h) (loc_u (loc_u (loc_u (loc_u (loc_u (loc_u (loc_u (loc_u (loc_u (loc_u (loc_u loc_und))))))))))) rfl (by decide) (by simp) (at_cons (.va) (at_cons (.row _ _ _) (at_cons (.va) (at_cons (.va) (at_cons (.row _ _ _) (at_cons (.row' (hCE)) at_nil)))))))
      refine Aw.move hM ?_
      clear hM
      clear σ
      refine Aw.seq ?_
      
      refine Aw.region ?_
      refine AL.v rfl rfl (B.fA fl_api_Model_2) ?_
      refine AL.v rfl rfl (B.l1 ty_LLapi_Letter) ?_
      refine AL.v rfl rfl (B.fA fl_api_Model_2) ?_
      refine AL.s rfl rfl (B.sA ty_LLapi_Letter) ?_
      refine AL.nil (AThen.n (Aw.seq (Aw.seq ?_)))
      refine Aw.move (σ' := ⟨(upd (upd (upd (upd (upd (upd (upd (upd (upd (upd (upd (fun _ => AV.und) 23 (.ptr 3 0 0)) 21 (.ptr 2 0 0)) 20 (.d (.int .i64 (k : Nat)))) 70 (.d (.int .i64 (k : Nat)))) 69 (.d (.int .i64 ((4 : Nat) : Int)))) 68 (.own 1 0 4)) 19 (.d (.bool (mTake m who).2.2))) 16 (.d (.bool (mGone m who).2))) 14 (.d (.bool (mCome m who).2))) 6 (.ptr 0 0 0)) 2 (.d (.int .i64 who))), blksOf [.var 60 [.d (.view 2 (m.Queues.map eQueue)), .d (.view 1 (m.Come.map eInt)), .d (.view 1 (m.Boxes.map eL_Letter))], .row 3 60 (List.map eModel [(mSay c m who to text).1, (mCome m who).1, (mGone m who).1, (mTake m who).1]), .var 60 [.d (.view 2 (X.Queues.map eQueue)), .d (.view 1 (X.Come.map eInt)), .d (.view 1 (X.Boxes.map eL_Letter))], .var 60 [.d (.view 2 (m.Queues.map eQueue)), .d (.view 1 (m.Come.map eInt)), .d (.view 1 (m.Boxes.map eL_Letter))]]⟩) (Moved.mk' [4, 5] [0, 1, 2, 3] _ (gs_cons (σ := ⟨fun _ => .und, _⟩) rfl (gs_cons (σ := ⟨fun _ => .und, _⟩) rfl gs_nil)) (loc_u (loc_u (loc_u (loc_u (loc_u (loc_u (loc_u (loc_u (loc_u (loc_u (loc_u loc_und))))))))))) rfl (by decide) (by simp) (at_cons (.va) (at_cons (.row _ _ _) (at_cons (.va) (at_cons (.va) at_nil))))) ?_
      refine Aw.region ?_
      refine AL.v rfl rfl (B.lN ty_api_Model) ?_
      refine AL.v rfl rfl (B.lN ty_api_Model) ?_
      refine AL.v rfl rfl (B.call0 (k := 6) rfl en_shallot_shallotref23_Same (r23_self m hm) (.c (.c .nil))) ?_
      refine AL.v rfl rfl (B.not rfl rfl rfl) ?_
      refine AL.nil (AThen.n ?_)
      refine Aw.cases (t := 166) rfl (fun hc7 => ?_) (fun hc7 => ?_)
      · refine Aw.condT rfl rfl (Aw.seq (Aw.region ?_))
        refine AL.v rfl rfl (B.mA) ?_
        refine AL.nil (AThen.n (Aw.ret (AThen.r (AIn.r (AThen.r (AThen.r (AIn.r (AThen.r (APost.r ?_)))))))))
        refine Ret.all [] rfl (.cons (.t (.d _)) .nil) gs_nil (.refl _) (.d _) ⟨congrArg (fun b => AV.d (.bool b)) ?_, rfl⟩
        first
          | rfl
          | (exfalso; simp at hc0; done)
          | (exfalso; simp at hg82; omega)
          | (exfalso; simp at hg91; omega)
          | (exfalso; simp at hc3; omega)
          | (exfalso; have h := hap.no (by simpa using hg109); rw [h, sameM_self] at hc4; simp at hc4; done)
          | (exfalso; simp at hc7; done)
          | (exfalso; simp at hg190; omega)
          | (exfalso; rcases hxj with h | ⟨_, _, h⟩ <;> simp_all <;> omega)
          | (trace_state; sorry)
      refine Aw.condF rfl rfl (Aw.skip (AThen.n (Aw.seq ?_)))
      obtain ⟨p, hp⟩ := hap.b
      refine Aw.region ?_
      refine AL.v rfl rfl (B.mA) ?_
      refine AL.nil (AThen.n (Aw.seq (Aw.seq (Aw.region ?_))))
      refine AL.v rfl rfl (B.fA fl_api_Model_2) ?_
      refine AL.v rfl rfl (B.l1 ty_LLapi_Letter) ?_
      refine AL.v rfl rfl (B.nA Try.underlying58) ?_
      refine AL.v rfl rfl (B.mA) ?_
      refine AL.nil (AThen.n (Aw.block ?_))
      refine Aw.move (σ' := ⟨(upd (upd (upd (upd (upd (upd (upd (upd (upd (upd (upd (upd (upd (fun _ => AV.und) 170 (.d (.int .i64 (0 : Nat)))) 169 (.d (.int .i64 ((m.Boxes.map eL_Letter).length : Nat)))) 24 (.d (.int .i64 (0)))) 21 (.ptr 2 0 0)) 20 (.d (.int .i64 (k : Nat)))) 70 (.d (.int .i64 (k : Nat)))) 69 (.d (.int .i64 ((4 : Nat) : Int)))) 68 (.own 1 0 4)) 19 (.d (.bool (mTake m who).2.2))) 16 (.d (.bool (mGone m who).2))) 14 (.d (.bool (mCome m who).2))) 6 (.ptr 0 0 0)) 2 (.d (.int .i64 who))), blksOf [.var 60 [.d (.view 2 (m.Queues.map eQueue)), .d (.view 1 (m.Come.map eInt)), .d (.view 1 (m.Boxes.map eL_Letter))], .row 3 60 (List.map eModel [(mSay c m who to text).1, (mCome m who).1, (mGone m who).1, (mTake m who).1]), .var 60 [.d (.view 2 (X.Queues.map eQueue)), .d (.view 1 (X.Come.map eInt)), .d (.view 1 (X.Boxes.map eL_Letter))]]⟩) (Moved.mk' [] [0, 1, 2] _ (fun g h => by simp at h) (loc_u (loc_u (loc_u (loc_u (loc_u (loc_u (loc_u (loc_u (loc_u (loc_u (loc_u (loc_u (loc_u loc_und))))))))))))) rfl (by decide) (by simp) (at_cons (.va) (at_cons (.row _ _ _) (at_cons (.va) at_nil)))) ?_
      refine Aw.loop (fun n σ => ∃ (j : Nat) (s : Int), j ≤ m.Boxes.length ∧ n = m.Boxes.length - j ∧ σ = ⟨(upd (upd (upd (upd (upd (upd (upd (upd (upd (upd (upd (upd (upd (fun _ => AV.und) 170 (.d (.int .i64 (j : Nat)))) 169 (.d (.int .i64 ((m.Boxes.map eL_Letter).length : Nat)))) 24 (.d (.int .i64 (s)))) 21 (.ptr 2 0 0)) 20 (.d (.int .i64 (k : Nat)))) 70 (.d (.int .i64 (k : Nat)))) 69 (.d (.int .i64 ((4 : Nat) : Int)))) 68 (.own 1 0 4)) 19 (.d (.bool (mTake m who).2.2))) 16 (.d (.bool (mGone m who).2))) 14 (.d (.bool (mCome m who).2))) 6 (.ptr 0 0 0)) 2 (.d (.int .i64 who))), blksOf [.var 60 [.d (.view 2 (m.Queues.map eQueue)), .d (.view 1 (m.Come.map eInt)), .d (.view 1 (m.Boxes.map eL_Letter))], .row 3 60 (List.map eModel [(mSay c m who to text).1, (mCome m who).1, (mGone m who).1, (mTake m who).1]), .var 60 [.d (.view 2 (X.Queues.map eQueue)), .d (.view 1 (X.Come.map eInt)), .d (.view 1 (X.Boxes.map eL_Letter))]]⟩ ∧ (s = 0 ∨ (s = 1 ∧ p < j ∧ (k == 1 || k == 3) = true))) (m.Boxes.length) ⟨0, 0, Nat.zero_le _, rfl, rfl, .inl rfl⟩ ?_
      rintro n σ ⟨j, s, hj, rfl, rfl, hxj⟩
      refine Aw.seq (Aw.region ?_)
      refine AL.v rfl rfl (B.cmp rfl rfl rfl rfl rfl) ?_
      refine AL.nil (AThen.n (Aw.seq ?_))
      refine Aw.cases (t := 171) rfl (fun hc8 => ?_) (fun hc8 => ?_)
      · refine Aw.condT rfl rfl (Aw.skip (AThen.n (Aw.seq (Aw.block (Aw.seq (Aw.region ?_))))))
        refine AL.v rfl rfl (B.mA) ?_
        refine AL.v rfl rfl (B.mA) ?_
        refine AL.nil (AThen.n (Aw.seq ?_))
        have hlt2 : j < m.Boxes.length := by simpa using hc8
        obtain ⟨x, hx⟩ : ∃ x, X.Boxes[j]? = some x := ⟨_, List.getElem?_eq_getElem (by rw [hap.bl]; exact hlt2)⟩
        obtain ⟨y, hy⟩ : ∃ y, m.Boxes[j]? = some y := ⟨_, List.getElem?_eq_getElem hlt2⟩
        refine Aw.drawn' mixed ?_
        refine CD.v rfl rfl (B.fA fl_api_Model_2) ?_
        refine CD.v rfl rfl (B.l1 ty_LLapi_Letter) ?_
        refine CD.v rfl rfl (B.mA) ?_
        refine CD.v rfl rfl (B.idxView (i := j) rfl el_LLapi_Letter (by first | exact .view _ _ | exact .lent _ _) rfl rfl (map_at hx) rfl) ?_
        refine CD.v rfl rfl (B.l1 ty_Lapi_Letter) ?_
        refine CD.v rfl rfl (B.fA fl_api_Model_2) ?_
        refine CD.v rfl rfl (B.l1 ty_LLapi_Letter) ?_
        refine CD.v rfl rfl (B.mA) ?_
        refine CD.v rfl rfl (B.idxView (i := j) rfl el_LLapi_Letter (by first | exact .view _ _ | exact .lent _ _) rfl rfl (map_at hy) rfl) ?_
        refine CD.v rfl rfl (B.l1 ty_Lapi_Letter) ?_
        refine CD.v rfl rfl (B.call0 (k := 3) rfl en_shallot_shallotref10_SameAll (r10_sameAll x y) (.c (.c .nil))) ?_
        refine CD.v rfl rfl (B.not rfl rfl rfl) ?_
        refine CD.nil (by kernel_rfl) ?_
        refine AThen.n ?_
        refine Aw.cases (t := 184) rfl (fun hc9 => ?_) (fun hc9 => ?_)
        · have hne : x ≠ y := fun h => by
            rw [← h] at hc9
            have h2 : all2 sameL x x = true := sameLs_self x
            rw [h2] at hc9
            simp at hc9
          have hj : j = p := by
            by_cases hjp : j = p
            · exact hjp
            · have h1 := hp j hjp
              rw [hx, hy] at h1
              exact absurd (Option.some.inj h1) hne
          have hmb2 : (k == 1 || k == 3) = true := by
            cases h0 : (k == 1 || k == 3) with
            | true => rfl
            | false =>
              have h1 := hap.nb h0
              rw [h1, hy] at hx
              exact absurd (Option.some.inj hx).symm hne
          obtain ⟨s', hs', hE⟩ : ∃ s' : Int, s' = s + 1 ∧ (s' = 0 ∨ (s' = 1 ∧ p < j + 1 ∧ (k == 1 || k == 3) = true)) := ⟨_, rfl, .inr ⟨by omega, by omega, hmb2⟩⟩
          refine Aw.condT rfl rfl (Aw.region ?_)
          refine AL.v rfl rfl (B.mA) ?_
          refine AL.v rfl rfl (B.arith rfl rfl rfl (arith_add64 (by omega)) rfl) ?_
          refine AL.v rfl rfl (B.mA) ?_
          refine AL.nil (AIn.n (AThen.n (Aw.region ?_)))
          refine AL.v rfl rfl (B.arith rfl rfl rfl (arith_add64 (by omega)) rfl) ?_
          refine AL.v rfl rfl (B.mA) ?_
          refine AL.move (σ' := ⟨(upd (upd (upd (upd (upd (upd (upd (upd (upd (upd (upd (upd (upd (fun _ => AV.und) 170 (.d (.int .i64 ((j + 1) : Nat)))) 169 (.d (.int .i64 ((m.Boxes.map eL_Letter).length : Nat)))) 24 (.d (.int .i64 (s')))) 21 (.ptr 2 0 0)) 20 (.d (.int .i64 (k : Nat)))) 70 (.d (.int .i64 (k : Nat)))) 69 (.d (.int .i64 ((4 : Nat) : Int)))) 68 (.own 1 0 4)) 19 (.d (.bool (mTake m who).2.2))) 16 (.d (.bool (mGone m who).2))) 14 (.d (.bool (mCome m who).2))) 6 (.ptr 0 0 0)) 2 (.d (.int .i64 who))), blksOf [.var 60 [.d (.view 2 (m.Queues.map eQueue)), .d (.view 1 (m.Come.map eInt)), .d (.view 1 (m.Boxes.map eL_Letter))], .row 3 60 (List.map eModel [(mSay c m who to text).1, (mCome m who).1, (mGone m who).1, (mTake m who).1]), .var 60 [.d (.view 2 (X.Queues.map eQueue)), .d (.view 1 (X.Come.map eInt)), .d (.view 1 (X.Boxes.map eL_Letter))]]⟩) (Moved.mk' [] [0, 1, 2] _ (fun g h => by simp at h) (loc_u (loc_u (loc_u (loc_u (loc_u (loc_u (loc_u (loc_u (loc_u (loc_u (loc_upd (Loc.d' (congrArg (D.int .i64) hs'.symm)) (loc_u (loc_u loc_und))))))))))))) rfl (by decide) (by simp) (at_cons (.va) (at_cons (.row _ _ _) (at_cons (.va) at_nil)))) ?_
          refine AL.nil (AThen.n ?_)
          exact ⟨m.Boxes.length - (j + 1), by omega, j + 1, s', by omega, rfl, rfl, hE⟩
        obtain ⟨s', hs', hE⟩ : ∃ s' : Int, s' = s ∧ (s' = 0 ∨ (s' = 1 ∧ p < j + 1 ∧ (k == 1 || k == 3) = true)) := ⟨s, rfl, by
          rcases hxj with h | ⟨h1, h2, h3⟩
          · exact .inl h
          · exact .inr ⟨h1, by omega, h3⟩⟩
        refine Aw.condF rfl rfl (Aw.skip (AIn.n (AThen.n (Aw.region ?_))))
        refine AL.v rfl rfl (B.arith rfl rfl rfl (arith_add64 (by omega)) rfl) ?_
        refine AL.v rfl rfl (B.mA) ?_
        refine AL.move (σ' := ⟨(upd (upd (upd (upd (upd (upd (upd (upd (upd (upd (upd (upd (upd (fun _ => AV.und) 170 (.d (.int .i64 ((j + 1) : Nat)))) 169 (.d (.int .i64 ((m.Boxes.map eL_Letter).length : Nat)))) 24 (.d (.int .i64 (s')))) 21 (.ptr 2 0 0)) 20 (.d (.int .i64 (k : Nat)))) 70 (.d (.int .i64 (k : Nat)))) 69 (.d (.int .i64 ((4 : Nat) : Int)))) 68 (.own 1 0 4)) 19 (.d (.bool (mTake m who).2.2))) 16 (.d (.bool (mGone m who).2))) 14 (.d (.bool (mCome m who).2))) 6 (.ptr 0 0 0)) 2 (.d (.int .i64 who))), blksOf [.var 60 [.d (.view 2 (m.Queues.map eQueue)), .d (.view 1 (m.Come.map eInt)), .d (.view 1 (m.Boxes.map eL_Letter))], .row 3 60 (List.map eModel [(mSay c m who to text).1, (mCome m who).1, (mGone m who).1, (mTake m who).1]), .var 60 [.d (.view 2 (X.Queues.map eQueue)), .d (.view 1 (X.Come.map eInt)), .d (.view 1 (X.Boxes.map eL_Letter))]]⟩) (Moved.mk' [] [0, 1, 2] _ (fun g h => by simp at h) (loc_u (loc_u (loc_u (loc_u (loc_u (loc_u (loc_u (loc_u (loc_u (loc_u (loc_upd (Loc.d' (congrArg (D.int .i64) hs'.symm)) (loc_u (loc_u loc_und))))))))))))) rfl (by decide) (by simp) (at_cons (.va) (at_cons (.row _ _ _) (at_cons (.va) at_nil)))) ?_
        refine AL.nil (AThen.n ?_)
        exact ⟨m.Boxes.length - (j + 1), by omega, j + 1, s', by omega, rfl, rfl, hE⟩
      refine Aw.condF rfl rfl (Aw.exit (AThen.e (AThen.e (AIn.e (AThen.n (Aw.seq (Aw.region ?_)))))))
      refine AL.v rfl rfl (B.mA) ?_
      refine AL.v rfl rfl (B.cmp rfl rfl rfl rfl rfl) ?_
      refine AL.v rfl rfl (B.mA) ?_
      refine AL.cases (t := 190) rfl (fun hg190 => ?_) (fun hg190 => ?_)
      · refine AL.off rfl rfl rfl rfl rfl (by decide) ?_
        refine AL.off rfl rfl rfl rfl rfl (by decide) ?_
        refine AL.off rfl rfl rfl rfl rfl (by decide) ?_
        refine AL.offU rfl rfl rfl rfl (by decide) ?_
        refine AL.offU rfl rfl rfl rfl (by decide) ?_
        refine AL.off rfl rfl rfl rfl rfl (by decide) ?_
        refine AL.off rfl rfl rfl rfl rfl (by decide) ?_
        refine AL.offU rfl rfl rfl rfl (by decide) ?_
        refine AL.offU rfl rfl rfl rfl (by decide) ?_
        refine AL.off rfl rfl rfl rfl rfl (by decide) ?_
        refine AL.v rfl rfl (B.pT) ?_
        refine AL.nil (AThen.n ?_)
        refine Aw.condT rfl (rfl) ?_
        refine Aw.seq (Aw.region ?_)
        refine AL.v rfl rfl (B.mA) ?_
        refine AL.nil (AThen.n (Aw.ret (AIn.r (AThen.r (AThen.r (AIn.r (AThen.r (APost.r ?_))))))))
        refine Ret.all [] rfl (.cons (.t (.d _)) .nil) gs_nil (.refl _) (.d _) ⟨congrArg (fun b => AV.d (.bool b)) ?_, rfl⟩
        first
          | rfl
          | (exfalso; simp at hc0; done)
          | (exfalso; simp at hg82; omega)
          | (exfalso; simp at hg91; omega)
          | (exfalso; simp at hc3; omega)
          | (exfalso; have h := hap.no (by simpa using hg109); rw [h, sameM_self] at hc4; simp at hc4; done)
          | (exfalso; simp at hc7; done)
          | (exfalso; simp at hg190; omega)
          | (exfalso; rcases hxj with h | ⟨_, _, h⟩ <;> simp_all <;> omega)
          | (trace_state; sorry)
      refine AL.gv rfl rfl rfl rfl (B.mA) ?_
      refine AL.gv rfl rfl rfl rfl (B.cmp rfl rfl rfl rfl rfl) ?_
      refine AL.gv rfl rfl rfl rfl (B.mA) ?_
      refine AL.cases (t := 193) rfl (fun hg193 => ?_) (fun hg193 => ?_)
      · refine AL.gv rfl rfl rfl rfl (B.mA) ?_
        refine AL.gv rfl rfl rfl rfl (B.cmp rfl rfl rfl rfl rfl) ?_
        refine AL.gv rfl rfl rfl rfl (B.pT) ?_
        refine AL.gv rfl rfl rfl rfl (B.mA) ?_
        refine AL.cases (t := 197) rfl (fun hg197 => ?_) (fun hg197 => ?_)
        · refine AL.gv rfl rfl rfl rfl (B.mA) ?_
          refine AL.gv rfl rfl rfl rfl (B.cmp rfl rfl rfl rfl rfl) ?_
          refine AL.gv rfl rfl rfl rfl (B.pT) ?_
          refine AL.v rfl rfl (B.pF) ?_
          refine AL.nil (AThen.n ?_)
          refine Aw.cases (t := 201) rfl (fun hc10 => ?_) (fun hc10 => ?_)
          · refine Aw.condT rfl rfl (Aw.seq (Aw.region ?_))
            refine AL.v rfl rfl (B.mA) ?_
            refine AL.nil (AThen.n (Aw.ret (AIn.r (AThen.r (AThen.r (AIn.r (AThen.r (APost.r ?_))))))))
            refine Ret.all [] rfl (.cons (.t (.d _)) .nil) gs_nil (.refl _) (.d _) ⟨congrArg (fun b => AV.d (.bool b)) ?_, rfl⟩
            first
              | rfl
              | (exfalso; simp at hc0; done)
              | (exfalso; simp at hg82; omega)
              | (exfalso; simp at hg91; omega)
              | (exfalso; simp at hc3; omega)
              | (exfalso; have h := hap.no (by simpa using hg109); rw [h, sameM_self] at hc4; simp at hc4; done)
              | (exfalso; simp at hc7; done)
              | (exfalso; simp at hg190; omega)
              | (exfalso; rcases hxj with h | ⟨_, _, h⟩ <;> simp_all <;> omega)
              | (trace_state; sorry)
          refine Aw.condF rfl rfl (Aw.skip (AIn.n (AThen.n (Aw.region ?_))))
          refine AL.v rfl rfl (B.arith rfl rfl rfl (arith_add64 (by omega)) rfl) ?_
          refine AL.v rfl rfl (B.mA) ?_
          refine AL.move (σ' := ⟨(upd (upd (upd (upd (upd (upd (upd (upd (fun _ => AV.und) 70 (.d (.int .i64 ((k + 1) : Nat)))) 69 (.d (.int .i64 ((4 : Nat) : Int)))) 68 (.own 1 0 4)) 19 (.d (.bool (mTake m who).2.2))) 16 (.d (.bool (mGone m who).2))) 14 (.d (.bool (mCome m who).2))) 6 (.ptr 0 0 0)) 2 (.d (.int .i64 who))), blksOf [.var 60 [.d (.view 2 (m.Queues.map eQueue)), .d (.view 1 (m.Come.map eInt)), .d (.view 1 (m.Boxes.map eL_Letter))], .row 3 60 (List.map eModel [(mSay c m who to text).1, (mCome m who).1, (mGone m who).1, (mTake m who).1])]⟩) (Moved.mk' [] [0, 1] _ (fun g h => by simp at h) (loc_u (loc_u (loc_u (loc_u (loc_u (loc_u (loc_u (loc_u loc_und)))))))) rfl (by decide) (by simp) (at_cons (.va) (at_cons (.row _ _ _) at_nil))) ?_
          refine AL.nil (AThen.n ?_)
          exact ⟨4 - (k + 1), by omega, k + 1, by omega, rfl, rfl⟩
        refine AL.off rfl rfl rfl rfl rfl (by decide) ?_
        refine AL.off rfl rfl rfl rfl rfl (by decide) ?_
        refine AL.gv rfl rfl rfl rfl (B.pF) ?_
        refine AL.v rfl rfl (B.pF) ?_
        refine AL.nil (AThen.n ?_)
        refine Aw.condF rfl (rfl) ?_
        refine Aw.skip (AIn.n (AThen.n (Aw.region ?_)))
        refine AL.v rfl rfl (B.arith rfl rfl rfl (arith_add64 (by omega)) rfl) ?_
        refine AL.v rfl rfl (B.mA) ?_
        refine AL.move (σ' := ⟨(upd (upd (upd (upd (upd (upd (upd (upd (fun _ => AV.und) 70 (.d (.int .i64 ((k + 1) : Nat)))) 69 (.d (.int .i64 ((4 : Nat) : Int)))) 68 (.own 1 0 4)) 19 (.d (.bool (mTake m who).2.2))) 16 (.d (.bool (mGone m who).2))) 14 (.d (.bool (mCome m who).2))) 6 (.ptr 0 0 0)) 2 (.d (.int .i64 who))), blksOf [.var 60 [.d (.view 2 (m.Queues.map eQueue)), .d (.view 1 (m.Come.map eInt)), .d (.view 1 (m.Boxes.map eL_Letter))], .row 3 60 (List.map eModel [(mSay c m who to text).1, (mCome m who).1, (mGone m who).1, (mTake m who).1])]⟩) (Moved.mk' [] [0, 1] _ (fun g h => by simp at h) (loc_u (loc_u (loc_u (loc_u (loc_u (loc_u (loc_u (loc_u loc_und)))))))) rfl (by decide) (by simp) (at_cons (.va) (at_cons (.row _ _ _) at_nil))) ?_
        refine AL.nil (AThen.n ?_)
        exact ⟨4 - (k + 1), by omega, k + 1, by omega, rfl, rfl⟩
      refine AL.off rfl rfl rfl rfl rfl (by decide) ?_
      refine AL.off rfl rfl rfl rfl rfl (by decide) ?_
      refine AL.gv rfl rfl rfl rfl (B.pF) ?_
      refine AL.gv rfl rfl rfl rfl (B.mA) ?_
      refine AL.off rfl rfl rfl rfl rfl (by decide) ?_
      refine AL.off rfl rfl rfl rfl rfl (by decide) ?_
      refine AL.gv rfl rfl rfl rfl (B.pF) ?_
      refine AL.v rfl rfl (B.pF) ?_
      refine AL.nil (AThen.n ?_)
      refine Aw.condF rfl (rfl) ?_
      refine Aw.skip (AIn.n (AThen.n (Aw.region ?_)))
      refine AL.v rfl rfl (B.arith rfl rfl rfl (arith_add64 (by omega)) rfl) ?_
      refine AL.v rfl rfl (B.mA) ?_
      refine AL.move (σ' := ⟨(upd (upd (upd (upd (upd (upd (upd (upd (fun _ => AV.und) 70 (.d (.int .i64 ((k + 1) : Nat)))) 69 (.d (.int .i64 ((4 : Nat) : Int)))) 68 (.own 1 0 4)) 19 (.d (.bool (mTake m who).2.2))) 16 (.d (.bool (mGone m who).2))) 14 (.d (.bool (mCome m who).2))) 6 (.ptr 0 0 0)) 2 (.d (.int .i64 who))), blksOf [.var 60 [.d (.view 2 (m.Queues.map eQueue)), .d (.view 1 (m.Come.map eInt)), .d (.view 1 (m.Boxes.map eL_Letter))], .row 3 60 (List.map eModel [(mSay c m who to text).1, (mCome m who).1, (mGone m who).1, (mTake m who).1])]⟩) (Moved.mk' [] [0, 1] _ (fun g h => by simp at h) (loc_u (loc_u (loc_u (loc_u (loc_u (loc_u (loc_u (loc_u loc_und)))))))) rfl (by decide) (by simp) (at_cons (.va) (at_cons (.row _ _ _) at_nil))) ?_
      refine AL.nil (AThen.n ?_)
      exact ⟨4 - (k + 1), by omega, k + 1, by omega, rfl, rfl⟩
    refine AL.off rfl rfl rfl rfl rfl (by decide) ?_
    refine AL.off rfl rfl rfl rfl rfl (by decide) ?_
    refine AL.off rfl rfl rfl rfl rfl (by decide) ?_
    refine AL.off rfl rfl rfl rfl rfl (by decide) ?_
    refine AL.v rfl rfl (B.pF) ?_
    refine AL.nil (AThen.n ?_)
    refine Aw.condF rfl (rfl) ?_
    refine Aw.skip (AThen.n (Aw.seq (Aw.region ?_)))
    refine AL.v rfl rfl (B.lN ty_api_Model) ?_
    refine AL.u rfl rfl (B.aA (g := 4) zr_api_Model) ?_
    refine AL.s rfl rfl (B.sA ty_api_Model) ?_
    refine AL.nil (AThen.n (Aw.seq (Aw.region ?_)))
    refine AL.v rfl rfl (B.fA fl_api_Model_0) ?_
    refine AL.v rfl rfl (B.l1 ty_Lapi_Queue) ?_
    refine AL.u rfl rfl (B.append0 (g' := 5) rfl el_Lapi_Queue (by rw [zr_api_Queue]; rfl) by_api_Queue (by decide) rfl (by first | exact .own rfl rfl rfl | exact .view (by first | exact .view _ _ | exact .lent _ _) | exact .nil rfl) (by unfold maxLen; simp; have := hap.ql; omega) (by simp; have := hap.ql; omega) rfl rfl) ?_
    refine AL.v rfl rfl (B.fA fl_api_Model_0) ?_
    refine AL.s rfl rfl (B.sA ty_Lapi_Queue) ?_
    refine AL.nil (AThen.n (Aw.seq (Aw.region ?_)))
    refine AL.v rfl rfl (B.fA fl_api_Model_1) ?_
    refine AL.v rfl rfl (B.l1 ty_Lint) ?_
    refine AL.u rfl rfl (B.append0 (g' := 6) rfl el_Lint (by rw [zr_int]; rfl) by_int (by decide) rfl (by first | exact .own rfl rfl rfl | exact .view (by first | exact .view _ _ | exact .lent _ _) | exact .nil rfl) (by unfold maxLen; simp; have := hap.cl; have := hm.cs; omega) (by simp; have := hap.cl; have := hm.cs; omega) rfl rfl) ?_
    refine AL.v rfl rfl (B.fA fl_api_Model_1) ?_
    refine AL.s rfl rfl (B.sA ty_Lint) ?_
    refine AL.nil (AThen.n (Aw.seq (Aw.seq (Aw.region ?_))))
    refine AL.v rfl rfl (B.mA) ?_
    refine AL.v rfl rfl (B.cmp rfl rfl rfl rfl rfl) ?_
    refine AL.v rfl rfl (B.mA) ?_
    refine AL.cases (t := 126) rfl (fun hg126 => ?_) (fun hg126 => ?_)
    · 
      refine AL.gv rfl rfl rfl rfl (B.mA) ?_
      refine AL.gv rfl rfl rfl rfl (B.fA fl_api_Model_0) ?_
      refine AL.gv rfl rfl rfl rfl (B.l1 ty_Lapi_Queue) ?_
      refine AL.gv rfl rfl rfl rfl (B.nA Try.underlying56) ?_
      refine AL.gv rfl rfl rfl rfl (B.cmp rfl rfl rfl rfl rfl) ?_
      refine AL.v rfl rfl (B.pT) ?_
      refine AL.nil (AThen.n ?_)
      refine Aw.meet (fun σ => Moved σ ⟨(upd (upd (upd (upd (upd (upd (upd (upd (upd (upd (upd (fun _ => AV.und) 23 (.ptr 3 0 0)) 21 (.ptr 2 0 0)) 20 (.d (.int .i64 (k : Nat)))) 70 (.d (.int .i64 (k : Nat)))) 69 (.d (.int .i64 ((4 : Nat) : Int)))) 68 (.own 1 0 4)) 19 (.d (.bool (mTake m who).2.2))) 16 (.d (.bool (mGone m who).2))) 14 (.d (.bool (mCome m who).2))) 6 (.ptr 0 0 0)) 2 (.d (.int .i64 who))), blksOf [.var 60 [.d (.view 2 (m.Queues.map eQueue)), .d (.view 1 (m.Come.map eInt)), .d (.view 1 (m.Boxes.map eL_Letter))], .row 3 60 (List.map eModel [(mSay c m who to text).1, (mCome m who).1, (mGone m who).1, (mTake m who).1]), .var 60 [.d (.view 2 (X.Queues.map eQueue)), .d (.view 1 (X.Come.map eInt)), .d (.view 1 (X.Boxes.map eL_Letter))], .var 60 [.own 4 0 (X.Queues.map eQueue).length, .own 5 0 (X.Come.map eInt).length, .d (.view 1 (X.Boxes.map eL_Letter))], .row 2 77 (m.Queues.map eQueue), .row 1 3 (X.Come.map eInt)]⟩) ?_ (fun σ hM => ?_)
      · refine Aw.cases (t := 132) rfl (fun hc5 => ?_) (fun hc5 => ?_)
        · obtain ⟨i, hwi⟩ : ∃ i : Nat, who = i := ⟨who.toNat, by simp at hg126; omega⟩
          have hi : i < m.Queues.length := by simp at hc5; omega
          obtain ⟨q, hq⟩ : ∃ q, m.Queues[i]? = some q := ⟨_, List.getElem?_eq_getElem hi⟩
          have hi2 : i < X.Queues.length := by rw [hap.ql]; exact hi
          obtain ⟨q2, hXq⟩ : ∃ q, X.Queues[i]? = some q := ⟨_, List.getElem?_eq_getElem hi2⟩
          have hQE := (show Ap m (i : Int) X is _ from hwi ▸ hap).qset hq
          refine Aw.condT rfl rfl (Aw.drawn' mixed ?_)
          refine CD.v rfl rfl (B.fA fl_api_Model_0) ?_
          refine CD.v rfl rfl (B.l1 ty_Lapi_Queue) ?_
          refine CD.v rfl rfl (B.mA) ?_
          refine CD.v rfl rfl (B.fA fl_api_Model_0) ?_
          refine CD.v rfl rfl (B.l1 ty_Lapi_Queue) ?_
          refine CD.v rfl rfl (B.mA) ?_
          refine CD.v rfl rfl (B.idxView (i := i) rfl el_Lapi_Queue (by first | exact .view _ _ | exact .lent _ _) rfl hwi (map_at hq) rfl) ?_
          refine CD.v rfl rfl (B.lN ty_api_Queue) ?_
          refine CD.v rfl rfl (B.idxOwn0 rfl el_Lapi_Queue rfl rfl rfl hwi (by simp; omega) rfl) ?_
          refine CD.s rfl rfl (B.storeRow (ds := (eQueue q)) rfl ty_api_Queue rfl rfl (map_at hXq) rfl rfl rfl rfl) ?_
          refine CD.nil (by kernel_rfl) ?_
          refine AThen.n ?_
          exact (Moved.mk' [] [0, 1, 2, 4, 5, 6] _ (fun g h => by simp at h) (loc_u (loc_u (loc_u (loc_u (loc_u (loc_u (loc_u (loc_u (loc_u (loc_u (loc_u loc_und))))))))))) rfl (by decide) (by simp) (at_cons (.va) (at_cons (.row _ _ _) (at_cons (.va) (at_cons (.va) (at_cons (.row' (hQE)) (at_cons (.row _ _ _) at_nil)))))))
        have hQE := hap.qid (fun h => by simp at hg126 hc5; omega)
        refine Aw.condF rfl rfl (Aw.skip (AThen.n ?_))
        exact (Moved.mk' [] [0, 1, 2, 4, 5, 6] _ (fun g h => by simp at h) (loc_u (loc_u (loc_u (loc_u (loc_u (loc_u (loc_u (loc_u (loc_u (loc_u (loc_u loc_und))))))))))) rfl (by decide) (by simp) (at_cons (.va) (at_cons (.row _ _ _) (at_cons (.va) (at_cons (.va) (at_cons (.row' (hQE)) (at_cons (.row _ _ _) at_nil)))))))
      refine Aw.move hM ?_
      clear hM
      clear σ
      refine Aw.seq (Aw.seq (Aw.region ?_))
      refine AL.v rfl rfl (B.mA) ?_
      refine AL.v rfl rfl (B.cmp rfl rfl rfl rfl rfl) ?_
      refine AL.v rfl rfl (B.mA) ?_
      refine AL.cases (t := 144) rfl (fun hg144 => ?_) (fun hg144 => ?_)
      · 
        refine AL.gv rfl rfl rfl rfl (B.mA) ?_
        refine AL.gv rfl rfl rfl rfl (B.fA fl_api_Model_1) ?_
        refine AL.gv rfl rfl rfl rfl (B.l1 ty_Lint) ?_
        refine AL.gv rfl rfl rfl rfl (B.nA Try.underlying57) ?_
        refine AL.gv rfl rfl rfl rfl (B.cmp rfl rfl rfl rfl rfl) ?_
        refine AL.v rfl rfl (B.pT) ?_
        refine AL.nil (AThen.n ?_)
        refine Aw.meet (fun σ => Moved σ ⟨(upd (upd (upd (upd (upd (upd (upd (upd (upd (upd (upd (fun _ => AV.und) 23 (.ptr 3 0 0)) 21 (.ptr 2 0 0)) 20 (.d (.int .i64 (k : Nat)))) 70 (.d (.int .i64 (k : Nat)))) 69 (.d (.int .i64 ((4 : Nat) : Int)))) 68 (.own 1 0 4)) 19 (.d (.bool (mTake m who).2.2))) 16 (.d (.bool (mGone m who).2))) 14 (.d (.bool (mCome m who).2))) 6 (.ptr 0 0 0)) 2 (.d (.int .i64 who))), blksOf [.var 60 [.d (.view 2 (m.Queues.map eQueue)), .d (.view 1 (m.Come.map eInt)), .d (.view 1 (m.Boxes.map eL_Letter))], .row 3 60 (List.map eModel [(mSay c m who to text).1, (mCome m who).1, (mGone m who).1, (mTake m who).1]), .var 60 [.d (.view 2 (X.Queues.map eQueue)), .d (.view 1 (X.Come.map eInt)), .d (.view 1 (X.Boxes.map eL_Letter))], .var 60 [.own 4 0 (X.Queues.map eQueue).length, .own 5 0 (X.Come.map eInt).length, .d (.view 1 (X.Boxes.map eL_Letter))], .row 2 77 (m.Queues.map eQueue), .row 1 3 (m.Come.map eInt)]⟩) ?_ (fun σ hM => ?_)
        · refine Aw.cases (t := 150) rfl (fun hc6 => ?_) (fun hc6 => ?_)
          · obtain ⟨i2, hwi2⟩ : ∃ i : Nat, who = i := ⟨who.toNat, by simp at hg144; omega⟩
            have hi : i2 < m.Come.length := by simp at hc6; omega
            obtain ⟨a, ha⟩ : ∃ a, m.Come[i2]? = some a := ⟨_, List.getElem?_eq_getElem hi⟩
            have hi2 : i2 < X.Come.length := by rw [hap.cl]; exact hi
            obtain ⟨a2, hXa⟩ : ∃ q, X.Come[i2]? = some q := ⟨_, List.getElem?_eq_getElem hi2⟩
            have hCE := (show Ap m (i2 : Int) X is _ from hwi2 ▸ hap).cset ha
            refine Aw.condT rfl rfl (Aw.drawn' mixed ?_)
            refine CD.v rfl rfl (B.fA fl_api_Model_1) ?_
            refine CD.v rfl rfl (B.l1 ty_Lint) ?_
            refine CD.v rfl rfl (B.mA) ?_
            refine CD.v rfl rfl (B.fA fl_api_Model_1) ?_
            refine CD.v rfl rfl (B.l1 ty_Lint) ?_
            refine CD.v rfl rfl (B.mA) ?_
            refine CD.v rfl rfl (B.idxView (i := i2) rfl el_Lint (by first | exact .view _ _ | exact .lent _ _) rfl hwi2 (map_at ha) rfl) ?_
            refine CD.v rfl rfl (B.l1 ty_int) ?_
            refine CD.v rfl rfl (B.idxOwn0 rfl el_Lint rfl rfl rfl hwi2 (by simp; omega) rfl) ?_
            refine CD.s rfl rfl (B.storeRow (ds := (eInt a)) rfl ty_int rfl rfl (map_at hXa) rfl rfl rfl rfl) ?_
            refine CD.nil (by kernel_rfl) ?_
            refine AThen.n ?_
            exact (Moved.mk' [] [0, 1, 2, 3, 4, 5] _ (fun g h => by simp at h) (loc_u (loc_u (loc_u (loc_u (loc_u (loc_u (loc_u (loc_u (loc_u (loc_u (loc_u loc_und))))))))))) rfl (by decide) (by simp) (at_cons (.va) (at_cons (.row _ _ _) (at_cons (.va) (at_cons (.va) (at_cons (.row _ _ _) (at_cons (.row' (hCE)) at_nil)))))))
          have hCE := hap.cid (fun h => by simp at hg144 hc6; omega)
          refine Aw.condF rfl rfl (Aw.skip (AThen.n ?_))
          exact (Moved.mk' [] [0, 1, 2, 3, 4, 5] _ (fun g h => by simp at h) (loc_u (loc_u (loc_u (loc_u (loc_u (loc_u (loc_u (loc_u (loc_u (loc_u (loc_u loc_und))))))))))) rfl (by decide) (by simp) (at_cons (.va) (at_cons (.row _ _ _) (at_cons (.va) (at_cons (.va) (at_cons (.row _ _ _) (at_cons (.row' (hCE)) at_nil)))))))
        refine Aw.move hM ?_
        clear hM
        clear σ
        refine Aw.seq ?_
        
        refine Aw.region ?_
        refine AL.v rfl rfl (B.fA fl_api_Model_2) ?_
        refine AL.v rfl rfl (B.l1 ty_LLapi_Letter) ?_
        refine AL.v rfl rfl (B.fA fl_api_Model_2) ?_
        refine AL.s rfl rfl (B.sA ty_LLapi_Letter) ?_
        refine AL.nil (AThen.n (Aw.seq (Aw.seq ?_)))
        refine Aw.move (σ' := ⟨(upd (upd (upd (upd (upd (upd (upd (upd (upd (upd (upd (fun _ => AV.und) 23 (.ptr 3 0 0)) 21 (.ptr 2 0 0)) 20 (.d (.int .i64 (k : Nat)))) 70 (.d (.int .i64 (k : Nat)))) 69 (.d (.int .i64 ((4 : Nat) : Int)))) 68 (.own 1 0 4)) 19 (.d (.bool (mTake m who).2.2))) 16 (.d (.bool (mGone m who).2))) 14 (.d (.bool (mCome m who).2))) 6 (.ptr 0 0 0)) 2 (.d (.int .i64 who))), blksOf [.var 60 [.d (.view 2 (m.Queues.map eQueue)), .d (.view 1 (m.Come.map eInt)), .d (.view 1 (m.Boxes.map eL_Letter))], .row 3 60 (List.map eModel [(mSay c m who to text).1, (mCome m who).1, (mGone m who).1, (mTake m who).1]), .var 60 [.d (.view 2 (X.Queues.map eQueue)), .d (.view 1 (X.Come.map eInt)), .d (.view 1 (X.Boxes.map eL_Letter))], .var 60 [.d (.view 2 (m.Queues.map eQueue)), .d (.view 1 (m.Come.map eInt)), .d (.view 1 (m.Boxes.map eL_Letter))]]⟩) (Moved.mk' [4, 5] [0, 1, 2, 3] _ (gs_cons (σ := ⟨fun _ => .und, _⟩) rfl (gs_cons (σ := ⟨fun _ => .und, _⟩) rfl gs_nil)) (loc_u (loc_u (loc_u (loc_u (loc_u (loc_u (loc_u (loc_u (loc_u (loc_u (loc_u loc_und))))))))))) rfl (by decide) (by simp) (at_cons (.va) (at_cons (.row _ _ _) (at_cons (.va) (at_cons (.va) at_nil))))) ?_
        refine Aw.region ?_
        refine AL.v rfl rfl (B.lN ty_api_Model) ?_
        refine AL.v rfl rfl (B.lN ty_api_Model) ?_
        refine AL.v rfl rfl (B.call0 (k := 6) rfl en_shallot_shallotref23_Same (r23_self m hm) (.c (.c .nil))) ?_
        refine AL.v rfl rfl (B.not rfl rfl rfl) ?_
        refine AL.nil (AThen.n ?_)
        refine Aw.cases (t := 166) rfl (fun hc7 => ?_) (fun hc7 => ?_)
        · refine Aw.condT rfl rfl (Aw.seq (Aw.region ?_))
          refine AL.v rfl rfl (B.mA) ?_
          refine AL.nil (AThen.n (Aw.ret (AThen.r (AIn.r (AThen.r (AThen.r (AIn.r (AThen.r (APost.r ?_)))))))))
          refine Ret.all [] rfl (.cons (.t (.d _)) .nil) gs_nil (.refl _) (.d _) ⟨congrArg (fun b => AV.d (.bool b)) ?_, rfl⟩
          first
            | rfl
            | (exfalso; simp at hc0; done)
            | (exfalso; simp at hg82; omega)
            | (exfalso; simp at hg91; omega)
            | (exfalso; simp at hc3; omega)
            | (exfalso; have h := hap.no (by simpa using hg109); rw [h, sameM_self] at hc4; simp at hc4; done)
            | (exfalso; simp at hc7; done)
            | (exfalso; simp at hg190; omega)
            | (exfalso; rcases hxj with h | ⟨_, _, h⟩ <;> simp_all <;> omega)
            | (trace_state; sorry)
        refine Aw.condF rfl rfl (Aw.skip (AThen.n (Aw.seq ?_)))
        obtain ⟨p, hp⟩ := hap.b
        refine Aw.region ?_
        refine AL.v rfl rfl (B.mA) ?_
        refine AL.nil (AThen.n (Aw.seq (Aw.seq (Aw.region ?_))))
        refine AL.v rfl rfl (B.fA fl_api_Model_2) ?_
        refine AL.v rfl rfl (B.l1 ty_LLapi_Letter) ?_
        refine AL.v rfl rfl (B.nA Try.underlying58) ?_
        refine AL.v rfl rfl (B.mA) ?_
        refine AL.nil (AThen.n (Aw.block ?_))
        refine Aw.move (σ' := ⟨(upd (upd (upd (upd (upd (upd (upd (upd (upd (upd (upd (upd (upd (fun _ => AV.und) 170 (.d (.int .i64 (0 : Nat)))) 169 (.d (.int .i64 ((m.Boxes.map eL_Letter).length : Nat)))) 24 (.d (.int .i64 (0)))) 21 (.ptr 2 0 0)) 20 (.d (.int .i64 (k : Nat)))) 70 (.d (.int .i64 (k : Nat)))) 69 (.d (.int .i64 ((4 : Nat) : Int)))) 68 (.own 1 0 4)) 19 (.d (.bool (mTake m who).2.2))) 16 (.d (.bool (mGone m who).2))) 14 (.d (.bool (mCome m who).2))) 6 (.ptr 0 0 0)) 2 (.d (.int .i64 who))), blksOf [.var 60 [.d (.view 2 (m.Queues.map eQueue)), .d (.view 1 (m.Come.map eInt)), .d (.view 1 (m.Boxes.map eL_Letter))], .row 3 60 (List.map eModel [(mSay c m who to text).1, (mCome m who).1, (mGone m who).1, (mTake m who).1]), .var 60 [.d (.view 2 (X.Queues.map eQueue)), .d (.view 1 (X.Come.map eInt)), .d (.view 1 (X.Boxes.map eL_Letter))]]⟩) (Moved.mk' [] [0, 1, 2] _ (fun g h => by simp at h) (loc_u (loc_u (loc_u (loc_u (loc_u (loc_u (loc_u (loc_u (loc_u (loc_u (loc_u (loc_u (loc_u loc_und))))))))))))) rfl (by decide) (by simp) (at_cons (.va) (at_cons (.row _ _ _) (at_cons (.va) at_nil)))) ?_
        refine Aw.loop (fun n σ => ∃ (j : Nat) (s : Int), j ≤ m.Boxes.length ∧ n = m.Boxes.length - j ∧ σ = ⟨(upd (upd (upd (upd (upd (upd (upd (upd (upd (upd (upd (upd (upd (fun _ => AV.und) 170 (.d (.int .i64 (j : Nat)))) 169 (.d (.int .i64 ((m.Boxes.map eL_Letter).length : Nat)))) 24 (.d (.int .i64 (s)))) 21 (.ptr 2 0 0)) 20 (.d (.int .i64 (k : Nat)))) 70 (.d (.int .i64 (k : Nat)))) 69 (.d (.int .i64 ((4 : Nat) : Int)))) 68 (.own 1 0 4)) 19 (.d (.bool (mTake m who).2.2))) 16 (.d (.bool (mGone m who).2))) 14 (.d (.bool (mCome m who).2))) 6 (.ptr 0 0 0)) 2 (.d (.int .i64 who))), blksOf [.var 60 [.d (.view 2 (m.Queues.map eQueue)), .d (.view 1 (m.Come.map eInt)), .d (.view 1 (m.Boxes.map eL_Letter))], .row 3 60 (List.map eModel [(mSay c m who to text).1, (mCome m who).1, (mGone m who).1, (mTake m who).1]), .var 60 [.d (.view 2 (X.Queues.map eQueue)), .d (.view 1 (X.Come.map eInt)), .d (.view 1 (X.Boxes.map eL_Letter))]]⟩ ∧ (s = 0 ∨ (s = 1 ∧ p < j ∧ (k == 1 || k == 3) = true))) (m.Boxes.length) ⟨0, 0, Nat.zero_le _, rfl, rfl, .inl rfl⟩ ?_
        rintro n σ ⟨j, s, hj, rfl, rfl, hxj⟩
        refine Aw.seq (Aw.region ?_)
        refine AL.v rfl rfl (B.cmp rfl rfl rfl rfl rfl) ?_
        refine AL.nil (AThen.n (Aw.seq ?_))
        refine Aw.cases (t := 171) rfl (fun hc8 => ?_) (fun hc8 => ?_)
        · refine Aw.condT rfl rfl (Aw.skip (AThen.n (Aw.seq (Aw.block (Aw.seq (Aw.region ?_))))))
          refine AL.v rfl rfl (B.mA) ?_
          refine AL.v rfl rfl (B.mA) ?_
          refine AL.nil (AThen.n (Aw.seq ?_))
          have hlt2 : j < m.Boxes.length := by simpa using hc8
          obtain ⟨x, hx⟩ : ∃ x, X.Boxes[j]? = some x := ⟨_, List.getElem?_eq_getElem (by rw [hap.bl]; exact hlt2)⟩
          obtain ⟨y, hy⟩ : ∃ y, m.Boxes[j]? = some y := ⟨_, List.getElem?_eq_getElem hlt2⟩
          refine Aw.drawn' mixed ?_
          refine CD.v rfl rfl (B.fA fl_api_Model_2) ?_
          refine CD.v rfl rfl (B.l1 ty_LLapi_Letter) ?_
          refine CD.v rfl rfl (B.mA) ?_
          refine CD.v rfl rfl (B.idxView (i := j) rfl el_LLapi_Letter (by first | exact .view _ _ | exact .lent _ _) rfl rfl (map_at hx) rfl) ?_
          refine CD.v rfl rfl (B.l1 ty_Lapi_Letter) ?_
          refine CD.v rfl rfl (B.fA fl_api_Model_2) ?_
          refine CD.v rfl rfl (B.l1 ty_LLapi_Letter) ?_
          refine CD.v rfl rfl (B.mA) ?_
          refine CD.v rfl rfl (B.idxView (i := j) rfl el_LLapi_Letter (by first | exact .view _ _ | exact .lent _ _) rfl rfl (map_at hy) rfl) ?_
          refine CD.v rfl rfl (B.l1 ty_Lapi_Letter) ?_
          refine CD.v rfl rfl (B.call0 (k := 3) rfl en_shallot_shallotref10_SameAll (r10_sameAll x y) (.c (.c .nil))) ?_
          refine CD.v rfl rfl (B.not rfl rfl rfl) ?_
          refine CD.nil (by kernel_rfl) ?_
          refine AThen.n ?_
          refine Aw.cases (t := 184) rfl (fun hc9 => ?_) (fun hc9 => ?_)
          · have hne : x ≠ y := fun h => by
              rw [← h] at hc9
              have h2 : all2 sameL x x = true := sameLs_self x
              rw [h2] at hc9
              simp at hc9
            have hj : j = p := by
              by_cases hjp : j = p
              · exact hjp
              · have h1 := hp j hjp
                rw [hx, hy] at h1
                exact absurd (Option.some.inj h1) hne
            have hmb2 : (k == 1 || k == 3) = true := by
              cases h0 : (k == 1 || k == 3) with
              | true => rfl
              | false =>
                have h1 := hap.nb h0
                rw [h1, hy] at hx
                exact absurd (Option.some.inj hx).symm hne
            obtain ⟨s', hs', hE⟩ : ∃ s' : Int, s' = s + 1 ∧ (s' = 0 ∨ (s' = 1 ∧ p < j + 1 ∧ (k == 1 || k == 3) = true)) := ⟨_, rfl, .inr ⟨by omega, by omega, hmb2⟩⟩
            refine Aw.condT rfl rfl (Aw.region ?_)
            refine AL.v rfl rfl (B.mA) ?_
            refine AL.v rfl rfl (B.arith rfl rfl rfl (arith_add64 (by omega)) rfl) ?_
            refine AL.v rfl rfl (B.mA) ?_
            refine AL.nil (AIn.n (AThen.n (Aw.region ?_)))
            refine AL.v rfl rfl (B.arith rfl rfl rfl (arith_add64 (by omega)) rfl) ?_
            refine AL.v rfl rfl (B.mA) ?_
            refine AL.move (σ' := ⟨(upd (upd (upd (upd (upd (upd (upd (upd (upd (upd (upd (upd (upd (fun _ => AV.und) 170 (.d (.int .i64 ((j + 1) : Nat)))) 169 (.d (.int .i64 ((m.Boxes.map eL_Letter).length : Nat)))) 24 (.d (.int .i64 (s')))) 21 (.ptr 2 0 0)) 20 (.d (.int .i64 (k : Nat)))) 70 (.d (.int .i64 (k : Nat)))) 69 (.d (.int .i64 ((4 : Nat) : Int)))) 68 (.own 1 0 4)) 19 (.d (.bool (mTake m who).2.2))) 16 (.d (.bool (mGone m who).2))) 14 (.d (.bool (mCome m who).2))) 6 (.ptr 0 0 0)) 2 (.d (.int .i64 who))), blksOf [.var 60 [.d (.view 2 (m.Queues.map eQueue)), .d (.view 1 (m.Come.map eInt)), .d (.view 1 (m.Boxes.map eL_Letter))], .row 3 60 (List.map eModel [(mSay c m who to text).1, (mCome m who).1, (mGone m who).1, (mTake m who).1]), .var 60 [.d (.view 2 (X.Queues.map eQueue)), .d (.view 1 (X.Come.map eInt)), .d (.view 1 (X.Boxes.map eL_Letter))]]⟩) (Moved.mk' [] [0, 1, 2] _ (fun g h => by simp at h) (loc_u (loc_u (loc_u (loc_u (loc_u (loc_u (loc_u (loc_u (loc_u (loc_u (loc_upd (Loc.d' (congrArg (D.int .i64) hs'.symm)) (loc_u (loc_u loc_und))))))))))))) rfl (by decide) (by simp) (at_cons (.va) (at_cons (.row _ _ _) (at_cons (.va) at_nil)))) ?_
            refine AL.nil (AThen.n ?_)
            exact ⟨m.Boxes.length - (j + 1), by omega, j + 1, s', by omega, rfl, rfl, hE⟩
          obtain ⟨s', hs', hE⟩ : ∃ s' : Int, s' = s ∧ (s' = 0 ∨ (s' = 1 ∧ p < j + 1 ∧ (k == 1 || k == 3) = true)) := ⟨s, rfl, by
            rcases hxj with h | ⟨h1, h2, h3⟩
            · exact .inl h
            · exact .inr ⟨h1, by omega, h3⟩⟩
          refine Aw.condF rfl rfl (Aw.skip (AIn.n (AThen.n (Aw.region ?_))))
          refine AL.v rfl rfl (B.arith rfl rfl rfl (arith_add64 (by omega)) rfl) ?_
          refine AL.v rfl rfl (B.mA) ?_
          refine AL.move (σ' := ⟨(upd (upd (upd (upd (upd (upd (upd (upd (upd (upd (upd (upd (upd (fun _ => AV.und) 170 (.d (.int .i64 ((j + 1) : Nat)))) 169 (.d (.int .i64 ((m.Boxes.map eL_Letter).length : Nat)))) 24 (.d (.int .i64 (s')))) 21 (.ptr 2 0 0)) 20 (.d (.int .i64 (k : Nat)))) 70 (.d (.int .i64 (k : Nat)))) 69 (.d (.int .i64 ((4 : Nat) : Int)))) 68 (.own 1 0 4)) 19 (.d (.bool (mTake m who).2.2))) 16 (.d (.bool (mGone m who).2))) 14 (.d (.bool (mCome m who).2))) 6 (.ptr 0 0 0)) 2 (.d (.int .i64 who))), blksOf [.var 60 [.d (.view 2 (m.Queues.map eQueue)), .d (.view 1 (m.Come.map eInt)), .d (.view 1 (m.Boxes.map eL_Letter))], .row 3 60 (List.map eModel [(mSay c m who to text).1, (mCome m who).1, (mGone m who).1, (mTake m who).1]), .var 60 [.d (.view 2 (X.Queues.map eQueue)), .d (.view 1 (X.Come.map eInt)), .d (.view 1 (X.Boxes.map eL_Letter))]]⟩) (Moved.mk' [] [0, 1, 2] _ (fun g h => by simp at h) (loc_u (loc_u (loc_u (loc_u (loc_u (loc_u (loc_u (loc_u (loc_u (loc_u (loc_upd (Loc.d' (congrArg (D.int .i64) hs'.symm)) (loc_u (loc_u loc_und))))))))))))) rfl (by decide) (by simp) (at_cons (.va) (at_cons (.row _ _ _) (at_cons (.va) at_nil)))) ?_
          refine AL.nil (AThen.n ?_)
          exact ⟨m.Boxes.length - (j + 1), by omega, j + 1, s', by omega, rfl, rfl, hE⟩
        refine Aw.condF rfl rfl (Aw.exit (AThen.e (AThen.e (AIn.e (AThen.n (Aw.seq (Aw.region ?_)))))))
        refine AL.v rfl rfl (B.mA) ?_
        refine AL.v rfl rfl (B.cmp rfl rfl rfl rfl rfl) ?_
        refine AL.v rfl rfl (B.mA) ?_
        refine AL.cases (t := 190) rfl (fun hg190 => ?_) (fun hg190 => ?_)
        · refine AL.off rfl rfl rfl rfl rfl (by decide) ?_
          refine AL.off rfl rfl rfl rfl rfl (by decide) ?_
          refine AL.off rfl rfl rfl rfl rfl (by decide) ?_
          refine AL.offU rfl rfl rfl rfl (by decide) ?_
          refine AL.offU rfl rfl rfl rfl (by decide) ?_
          refine AL.off rfl rfl rfl rfl rfl (by decide) ?_
          refine AL.off rfl rfl rfl rfl rfl (by decide) ?_
          refine AL.offU rfl rfl rfl rfl (by decide) ?_
          refine AL.offU rfl rfl rfl rfl (by decide) ?_
          refine AL.off rfl rfl rfl rfl rfl (by decide) ?_
          refine AL.v rfl rfl (B.pT) ?_
          refine AL.nil (AThen.n ?_)
          refine Aw.condT rfl (rfl) ?_
          refine Aw.seq (Aw.region ?_)
          refine AL.v rfl rfl (B.mA) ?_
          refine AL.nil (AThen.n (Aw.ret (AIn.r (AThen.r (AThen.r (AIn.r (AThen.r (APost.r ?_))))))))
          refine Ret.all [] rfl (.cons (.t (.d _)) .nil) gs_nil (.refl _) (.d _) ⟨congrArg (fun b => AV.d (.bool b)) ?_, rfl⟩
          first
            | rfl
            | (exfalso; simp at hc0; done)
            | (exfalso; simp at hg82; omega)
            | (exfalso; simp at hg91; omega)
            | (exfalso; simp at hc3; omega)
            | (exfalso; have h := hap.no (by simpa using hg109); rw [h, sameM_self] at hc4; simp at hc4; done)
            | (exfalso; simp at hc7; done)
            | (exfalso; simp at hg190; omega)
            | (exfalso; rcases hxj with h | ⟨_, _, h⟩ <;> simp_all <;> omega)
            | (trace_state; sorry)
        refine AL.gv rfl rfl rfl rfl (B.mA) ?_
        refine AL.gv rfl rfl rfl rfl (B.cmp rfl rfl rfl rfl rfl) ?_
        refine AL.gv rfl rfl rfl rfl (B.mA) ?_
        refine AL.cases (t := 193) rfl (fun hg193 => ?_) (fun hg193 => ?_)
        · refine AL.gv rfl rfl rfl rfl (B.mA) ?_
          refine AL.gv rfl rfl rfl rfl (B.cmp rfl rfl rfl rfl rfl) ?_
          refine AL.gv rfl rfl rfl rfl (B.pT) ?_
          refine AL.gv rfl rfl rfl rfl (B.mA) ?_
          refine AL.cases (t := 197) rfl (fun hg197 => ?_) (fun hg197 => ?_)
          · refine AL.gv rfl rfl rfl rfl (B.mA) ?_
            refine AL.gv rfl rfl rfl rfl (B.cmp rfl rfl rfl rfl rfl) ?_
            refine AL.gv rfl rfl rfl rfl (B.pT) ?_
            refine AL.v rfl rfl (B.pF) ?_
            refine AL.nil (AThen.n ?_)
            refine Aw.cases (t := 201) rfl (fun hc10 => ?_) (fun hc10 => ?_)
            · refine Aw.condT rfl rfl (Aw.seq (Aw.region ?_))
              refine AL.v rfl rfl (B.mA) ?_
              refine AL.nil (AThen.n (Aw.ret (AIn.r (AThen.r (AThen.r (AIn.r (AThen.r (APost.r ?_))))))))
              refine Ret.all [] rfl (.cons (.t (.d _)) .nil) gs_nil (.refl _) (.d _) ⟨congrArg (fun b => AV.d (.bool b)) ?_, rfl⟩
              first
                | rfl
                | (exfalso; simp at hc0; done)
                | (exfalso; simp at hg82; omega)
                | (exfalso; simp at hg91; omega)
                | (exfalso; simp at hc3; omega)
                | (exfalso; have h := hap.no (by simpa using hg109); rw [h, sameM_self] at hc4; simp at hc4; done)
                | (exfalso; simp at hc7; done)
                | (exfalso; simp at hg190; omega)
                | (exfalso; rcases hxj with h | ⟨_, _, h⟩ <;> simp_all <;> omega)
                | (trace_state; sorry)
            refine Aw.condF rfl rfl (Aw.skip (AIn.n (AThen.n (Aw.region ?_))))
            refine AL.v rfl rfl (B.arith rfl rfl rfl (arith_add64 (by omega)) rfl) ?_
            refine AL.v rfl rfl (B.mA) ?_
            refine AL.move (σ' := ⟨(upd (upd (upd (upd (upd (upd (upd (upd (fun _ => AV.und) 70 (.d (.int .i64 ((k + 1) : Nat)))) 69 (.d (.int .i64 ((4 : Nat) : Int)))) 68 (.own 1 0 4)) 19 (.d (.bool (mTake m who).2.2))) 16 (.d (.bool (mGone m who).2))) 14 (.d (.bool (mCome m who).2))) 6 (.ptr 0 0 0)) 2 (.d (.int .i64 who))), blksOf [.var 60 [.d (.view 2 (m.Queues.map eQueue)), .d (.view 1 (m.Come.map eInt)), .d (.view 1 (m.Boxes.map eL_Letter))], .row 3 60 (List.map eModel [(mSay c m who to text).1, (mCome m who).1, (mGone m who).1, (mTake m who).1])]⟩) (Moved.mk' [] [0, 1] _ (fun g h => by simp at h) (loc_u (loc_u (loc_u (loc_u (loc_u (loc_u (loc_u (loc_u loc_und)))))))) rfl (by decide) (by simp) (at_cons (.va) (at_cons (.row _ _ _) at_nil))) ?_
            refine AL.nil (AThen.n ?_)
            exact ⟨4 - (k + 1), by omega, k + 1, by omega, rfl, rfl⟩
          refine AL.off rfl rfl rfl rfl rfl (by decide) ?_
          refine AL.off rfl rfl rfl rfl rfl (by decide) ?_
          refine AL.gv rfl rfl rfl rfl (B.pF) ?_
          refine AL.v rfl rfl (B.pF) ?_
          refine AL.nil (AThen.n ?_)
          refine Aw.condF rfl (rfl) ?_
          refine Aw.skip (AIn.n (AThen.n (Aw.region ?_)))
          refine AL.v rfl rfl (B.arith rfl rfl rfl (arith_add64 (by omega)) rfl) ?_
          refine AL.v rfl rfl (B.mA) ?_
          refine AL.move (σ' := ⟨(upd (upd (upd (upd (upd (upd (upd (upd (fun _ => AV.und) 70 (.d (.int .i64 ((k + 1) : Nat)))) 69 (.d (.int .i64 ((4 : Nat) : Int)))) 68 (.own 1 0 4)) 19 (.d (.bool (mTake m who).2.2))) 16 (.d (.bool (mGone m who).2))) 14 (.d (.bool (mCome m who).2))) 6 (.ptr 0 0 0)) 2 (.d (.int .i64 who))), blksOf [.var 60 [.d (.view 2 (m.Queues.map eQueue)), .d (.view 1 (m.Come.map eInt)), .d (.view 1 (m.Boxes.map eL_Letter))], .row 3 60 (List.map eModel [(mSay c m who to text).1, (mCome m who).1, (mGone m who).1, (mTake m who).1])]⟩) (Moved.mk' [] [0, 1] _ (fun g h => by simp at h) (loc_u (loc_u (loc_u (loc_u (loc_u (loc_u (loc_u (loc_u loc_und)))))))) rfl (by decide) (by simp) (at_cons (.va) (at_cons (.row _ _ _) at_nil))) ?_
          refine AL.nil (AThen.n ?_)
          exact ⟨4 - (k + 1), by omega, k + 1, by omega, rfl, rfl⟩
        refine AL.off rfl rfl rfl rfl rfl (by decide) ?_
        refine AL.off rfl rfl rfl rfl rfl (by decide) ?_
        refine AL.gv rfl rfl rfl rfl (B.pF) ?_
        refine AL.gv rfl rfl rfl rfl (B.mA) ?_
        refine AL.off rfl rfl rfl rfl rfl (by decide) ?_
        refine AL.off rfl rfl rfl rfl rfl (by decide) ?_
        refine AL.gv rfl rfl rfl rfl (B.pF) ?_
        refine AL.v rfl rfl (B.pF) ?_
        refine AL.nil (AThen.n ?_)
        refine Aw.condF rfl (rfl) ?_
        refine Aw.skip (AIn.n (AThen.n (Aw.region ?_)))
        refine AL.v rfl rfl (B.arith rfl rfl rfl (arith_add64 (by omega)) rfl) ?_
        refine AL.v rfl rfl (B.mA) ?_
        refine AL.move (σ' := ⟨(upd (upd (upd (upd (upd (upd (upd (upd (fun _ => AV.und) 70 (.d (.int .i64 ((k + 1) : Nat)))) 69 (.d (.int .i64 ((4 : Nat) : Int)))) 68 (.own 1 0 4)) 19 (.d (.bool (mTake m who).2.2))) 16 (.d (.bool (mGone m who).2))) 14 (.d (.bool (mCome m who).2))) 6 (.ptr 0 0 0)) 2 (.d (.int .i64 who))), blksOf [.var 60 [.d (.view 2 (m.Queues.map eQueue)), .d (.view 1 (m.Come.map eInt)), .d (.view 1 (m.Boxes.map eL_Letter))], .row 3 60 (List.map eModel [(mSay c m who to text).1, (mCome m who).1, (mGone m who).1, (mTake m who).1])]⟩) (Moved.mk' [] [0, 1] _ (fun g h => by simp at h) (loc_u (loc_u (loc_u (loc_u (loc_u (loc_u (loc_u (loc_u loc_und)))))))) rfl (by decide) (by simp) (at_cons (.va) (at_cons (.row _ _ _) at_nil))) ?_
        refine AL.nil (AThen.n ?_)
        exact ⟨4 - (k + 1), by omega, k + 1, by omega, rfl, rfl⟩
      have hCE := hap.cid (fun h => by simp at hg144; omega)
      refine AL.off rfl rfl rfl rfl rfl (by decide) ?_
      refine AL.off rfl rfl rfl rfl rfl (by decide) ?_
      refine AL.off rfl rfl rfl rfl rfl (by decide) ?_
      refine AL.off rfl rfl rfl rfl rfl (by decide) ?_
      refine AL.off rfl rfl rfl rfl rfl (by decide) ?_
      refine AL.v rfl rfl (B.pF) ?_
      refine AL.nil (AThen.n ?_)
      refine Aw.meet (fun σ => Moved σ ⟨(upd (upd (upd (upd (upd (upd (upd (upd (upd (upd (upd (fun _ => AV.und) 23 (.ptr 3 0 0)) 21 (.ptr 2 0 0)) 20 (.d (.int .i64 (k : Nat)))) 70 (.d (.int .i64 (k : Nat)))) 69 (.d (.int .i64 ((4 : Nat) : Int)))) 68 (.own 1 0 4)) 19 (.d (.bool (mTake m who).2.2))) 16 (.d (.bool (mGone m who).2))) 14 (.d (.bool (mCome m who).2))) 6 (.ptr 0 0 0)) 2 (.d (.int .i64 who))), blksOf [.var 60 [.d (.view 2 (m.Queues.map eQueue)), .d (.view 1 (m.Come.map eInt)), .d (.view 1 (m.Boxes.map eL_Letter))], .row 3 60 (List.map eModel [(mSay c m who to text).1, (mCome m who).1, (mGone m who).1, (mTake m who).1]), .var 60 [.d (.view 2 (X.Queues.map eQueue)), .d (.view 1 (X.Come.map eInt)), .d (.view 1 (X.Boxes.map eL_Letter))], .var 60 [.own 4 0 (X.Queues.map eQueue).length, .own 5 0 (X.Come.map eInt).length, .d (.view 1 (X.Boxes.map eL_Letter))], .row 2 77 (m.Queues.map eQueue), .row 1 3 (m.Come.map eInt)]⟩) ?_ (fun σ hM => ?_)
      · refine Aw.condF rfl (rfl) ?_
        refine Aw.skip (AThen.n ?_)
        exact (Moved.mk' [] [0, 1, 2, 3, 4, 5] _ (fun g h => by simp at h) (loc_u (loc_u (loc_u (loc_u (loc_u (loc_u (loc_u (loc_u (loc_u (loc_u (loc_u loc_und))))))))))) rfl (by decide) (by simp) (at_cons (.va) (at_cons (.row _ _ _) (at_cons (.va) (at_cons (.va) (at_cons (.row _ _ _) (at_cons (.row' (hCE)) at_nil)))))))
      refine Aw.move hM ?_
      clear hM
      clear σ
      refine Aw.seq ?_
      
      refine Aw.region ?_
      refine AL.v rfl rfl (B.fA fl_api_Model_2) ?_
      refine AL.v rfl rfl (B.l1 ty_LLapi_Letter) ?_
      refine AL.v rfl rfl (B.fA fl_api_Model_2) ?_
      refine AL.s rfl rfl (B.sA ty_LLapi_Letter) ?_
      refine AL.nil (AThen.n (Aw.seq (Aw.seq ?_)))
      refine Aw.move (σ' := ⟨(upd (upd (upd (upd (upd (upd (upd (upd (upd (upd (upd (fun _ => AV.und) 23 (.ptr 3 0 0)) 21 (.ptr 2 0 0)) 20 (.d (.int .i64 (k : Nat)))) 70 (.d (.int .i64 (k : Nat)))) 69 (.d (.int .i64 ((4 : Nat) : Int)))) 68 (.own 1 0 4)) 19 (.d (.bool (mTake m who).2.2))) 16 (.d (.bool (mGone m who).2))) 14 (.d (.bool (mCome m who).2))) 6 (.ptr 0 0 0)) 2 (.d (.int .i64 who))), blksOf [.var 60 [.d (.view 2 (m.Queues.map eQueue)), .d (.view 1 (m.Come.map eInt)), .d (.view 1 (m.Boxes.map eL_Letter))], .row 3 60 (List.map eModel [(mSay c m who to text).1, (mCome m who).1, (mGone m who).1, (mTake m who).1]), .var 60 [.d (.view 2 (X.Queues.map eQueue)), .d (.view 1 (X.Come.map eInt)), .d (.view 1 (X.Boxes.map eL_Letter))], .var 60 [.d (.view 2 (m.Queues.map eQueue)), .d (.view 1 (m.Come.map eInt)), .d (.view 1 (m.Boxes.map eL_Letter))]]⟩) (Moved.mk' [4, 5] [0, 1, 2, 3] _ (gs_cons (σ := ⟨fun _ => .und, _⟩) rfl (gs_cons (σ := ⟨fun _ => .und, _⟩) rfl gs_nil)) (loc_u (loc_u (loc_u (loc_u (loc_u (loc_u (loc_u (loc_u (loc_u (loc_u (loc_u loc_und))))))))))) rfl (by decide) (by simp) (at_cons (.va) (at_cons (.row _ _ _) (at_cons (.va) (at_cons (.va) at_nil))))) ?_
      refine Aw.region ?_
      refine AL.v rfl rfl (B.lN ty_api_Model) ?_
      refine AL.v rfl rfl (B.lN ty_api_Model) ?_
      refine AL.v rfl rfl (B.call0 (k := 6) rfl en_shallot_shallotref23_Same (r23_self m hm) (.c (.c .nil))) ?_
      refine AL.v rfl rfl (B.not rfl rfl rfl) ?_
      refine AL.nil (AThen.n ?_)
      refine Aw.cases (t := 166) rfl (fun hc7 => ?_) (fun hc7 => ?_)
      · refine Aw.condT rfl rfl (Aw.seq (Aw.region ?_))
        refine AL.v rfl rfl (B.mA) ?_
        refine AL.nil (AThen.n (Aw.ret (AThen.r (AIn.r (AThen.r (AThen.r (AIn.r (AThen.r (APost.r ?_)))))))))
        refine Ret.all [] rfl (.cons (.t (.d _)) .nil) gs_nil (.refl _) (.d _) ⟨congrArg (fun b => AV.d (.bool b)) ?_, rfl⟩
        first
          | rfl
          | (exfalso; simp at hc0; done)
          | (exfalso; simp at hg82; omega)
          | (exfalso; simp at hg91; omega)
          | (exfalso; simp at hc3; omega)
          | (exfalso; have h := hap.no (by simpa using hg109); rw [h, sameM_self] at hc4; simp at hc4; done)
          | (exfalso; simp at hc7; done)
          | (exfalso; simp at hg190; omega)
          | (exfalso; rcases hxj with h | ⟨_, _, h⟩ <;> simp_all <;> omega)
          | (trace_state; sorry)
      refine Aw.condF rfl rfl (Aw.skip (AThen.n (Aw.seq ?_)))
      obtain ⟨p, hp⟩ := hap.b
      refine Aw.region ?_
      refine AL.v rfl rfl (B.mA) ?_
      refine AL.nil (AThen.n (Aw.seq (Aw.seq (Aw.region ?_))))
      refine AL.v rfl rfl (B.fA fl_api_Model_2) ?_
      refine AL.v rfl rfl (B.l1 ty_LLapi_Letter) ?_
      refine AL.v rfl rfl (B.nA Try.underlying58) ?_
      refine AL.v rfl rfl (B.mA) ?_
      refine AL.nil (AThen.n (Aw.block ?_))
      refine Aw.move (σ' := ⟨(upd (upd (upd (upd (upd (upd (upd (upd (upd (upd (upd (upd (upd (fun _ => AV.und) 170 (.d (.int .i64 (0 : Nat)))) 169 (.d (.int .i64 ((m.Boxes.map eL_Letter).length : Nat)))) 24 (.d (.int .i64 (0)))) 21 (.ptr 2 0 0)) 20 (.d (.int .i64 (k : Nat)))) 70 (.d (.int .i64 (k : Nat)))) 69 (.d (.int .i64 ((4 : Nat) : Int)))) 68 (.own 1 0 4)) 19 (.d (.bool (mTake m who).2.2))) 16 (.d (.bool (mGone m who).2))) 14 (.d (.bool (mCome m who).2))) 6 (.ptr 0 0 0)) 2 (.d (.int .i64 who))), blksOf [.var 60 [.d (.view 2 (m.Queues.map eQueue)), .d (.view 1 (m.Come.map eInt)), .d (.view 1 (m.Boxes.map eL_Letter))], .row 3 60 (List.map eModel [(mSay c m who to text).1, (mCome m who).1, (mGone m who).1, (mTake m who).1]), .var 60 [.d (.view 2 (X.Queues.map eQueue)), .d (.view 1 (X.Come.map eInt)), .d (.view 1 (X.Boxes.map eL_Letter))]]⟩) (Moved.mk' [] [0, 1, 2] _ (fun g h => by simp at h) (loc_u (loc_u (loc_u (loc_u (loc_u (loc_u (loc_u (loc_u (loc_u (loc_u (loc_u (loc_u (loc_u loc_und))))))))))))) rfl (by decide) (by simp) (at_cons (.va) (at_cons (.row _ _ _) (at_cons (.va) at_nil)))) ?_
      refine Aw.loop (fun n σ => ∃ (j : Nat) (s : Int), j ≤ m.Boxes.length ∧ n = m.Boxes.length - j ∧ σ = ⟨(upd (upd (upd (upd (upd (upd (upd (upd (upd (upd (upd (upd (upd (fun _ => AV.und) 170 (.d (.int .i64 (j : Nat)))) 169 (.d (.int .i64 ((m.Boxes.map eL_Letter).length : Nat)))) 24 (.d (.int .i64 (s)))) 21 (.ptr 2 0 0)) 20 (.d (.int .i64 (k : Nat)))) 70 (.d (.int .i64 (k : Nat)))) 69 (.d (.int .i64 ((4 : Nat) : Int)))) 68 (.own 1 0 4)) 19 (.d (.bool (mTake m who).2.2))) 16 (.d (.bool (mGone m who).2))) 14 (.d (.bool (mCome m who).2))) 6 (.ptr 0 0 0)) 2 (.d (.int .i64 who))), blksOf [.var 60 [.d (.view 2 (m.Queues.map eQueue)), .d (.view 1 (m.Come.map eInt)), .d (.view 1 (m.Boxes.map eL_Letter))], .row 3 60 (List.map eModel [(mSay c m who to text).1, (mCome m who).1, (mGone m who).1, (mTake m who).1]), .var 60 [.d (.view 2 (X.Queues.map eQueue)), .d (.view 1 (X.Come.map eInt)), .d (.view 1 (X.Boxes.map eL_Letter))]]⟩ ∧ (s = 0 ∨ (s = 1 ∧ p < j ∧ (k == 1 || k == 3) = true))) (m.Boxes.length) ⟨0, 0, Nat.zero_le _, rfl, rfl, .inl rfl⟩ ?_
      rintro n σ ⟨j, s, hj, rfl, rfl, hxj⟩
      refine Aw.seq (Aw.region ?_)
      refine AL.v rfl rfl (B.cmp rfl rfl rfl rfl rfl) ?_
      refine AL.nil (AThen.n (Aw.seq ?_))
      refine Aw.cases (t := 171) rfl (fun hc8 => ?_) (fun hc8 => ?_)
      · refine Aw.condT rfl rfl (Aw.skip (AThen.n (Aw.seq (Aw.block (Aw.seq (Aw.region ?_))))))
        refine AL.v rfl rfl (B.mA) ?_
        refine AL.v rfl rfl (B.mA) ?_
        refine AL.nil (AThen.n (Aw.seq ?_))
        have hlt2 : j < m.Boxes.length := by simpa using hc8
        obtain ⟨x, hx⟩ : ∃ x, X.Boxes[j]? = some x := ⟨_, List.getElem?_eq_getElem (by rw [hap.bl]; exact hlt2)⟩
        obtain ⟨y, hy⟩ : ∃ y, m.Boxes[j]? = some y := ⟨_, List.getElem?_eq_getElem hlt2⟩
        refine Aw.drawn' mixed ?_
        refine CD.v rfl rfl (B.fA fl_api_Model_2) ?_
        refine CD.v rfl rfl (B.l1 ty_LLapi_Letter) ?_
        refine CD.v rfl rfl (B.mA) ?_
        refine CD.v rfl rfl (B.idxView (i := j) rfl el_LLapi_Letter (by first | exact .view _ _ | exact .lent _ _) rfl rfl (map_at hx) rfl) ?_
        refine CD.v rfl rfl (B.l1 ty_Lapi_Letter) ?_
        refine CD.v rfl rfl (B.fA fl_api_Model_2) ?_
        refine CD.v rfl rfl (B.l1 ty_LLapi_Letter) ?_
        refine CD.v rfl rfl (B.mA) ?_
        refine CD.v rfl rfl (B.idxView (i := j) rfl el_LLapi_Letter (by first | exact .view _ _ | exact .lent _ _) rfl rfl (map_at hy) rfl) ?_
        refine CD.v rfl rfl (B.l1 ty_Lapi_Letter) ?_
        refine CD.v rfl rfl (B.call0 (k := 3) rfl en_shallot_shallotref10_SameAll (r10_sameAll x y) (.c (.c .nil))) ?_
        refine CD.v rfl rfl (B.not rfl rfl rfl) ?_
        refine CD.nil (by kernel_rfl) ?_
        refine AThen.n ?_
        refine Aw.cases (t := 184) rfl (fun hc9 => ?_) (fun hc9 => ?_)
        · have hne : x ≠ y := fun h => by
            rw [← h] at hc9
            have h2 : all2 sameL x x = true := sameLs_self x
            rw [h2] at hc9
            simp at hc9
          have hj : j = p := by
            by_cases hjp : j = p
            · exact hjp
            · have h1 := hp j hjp
              rw [hx, hy] at h1
              exact absurd (Option.some.inj h1) hne
          have hmb2 : (k == 1 || k == 3) = true := by
            cases h0 : (k == 1 || k == 3) with
            | true => rfl
            | false =>
              have h1 := hap.nb h0
              rw [h1, hy] at hx
              exact absurd (Option.some.inj hx).symm hne
          obtain ⟨s', hs', hE⟩ : ∃ s' : Int, s' = s + 1 ∧ (s' = 0 ∨ (s' = 1 ∧ p < j + 1 ∧ (k == 1 || k == 3) = true)) := ⟨_, rfl, .inr ⟨by omega, by omega, hmb2⟩⟩
          refine Aw.condT rfl rfl (Aw.region ?_)
          refine AL.v rfl rfl (B.mA) ?_
          refine AL.v rfl rfl (B.arith rfl rfl rfl (arith_add64 (by omega)) rfl) ?_
          refine AL.v rfl rfl (B.mA) ?_
          refine AL.nil (AIn.n (AThen.n (Aw.region ?_)))
          refine AL.v rfl rfl (B.arith rfl rfl rfl (arith_add64 (by omega)) rfl) ?_
          refine AL.v rfl rfl (B.mA) ?_
          refine AL.move (σ' := ⟨(upd (upd (upd (upd (upd (upd (upd (upd (upd (upd (upd (upd (upd (fun _ => AV.und) 170 (.d (.int .i64 ((j + 1) : Nat)))) 169 (.d (.int .i64 ((m.Boxes.map eL_Letter).length : Nat)))) 24 (.d (.int .i64 (s')))) 21 (.ptr 2 0 0)) 20 (.d (.int .i64 (k : Nat)))) 70 (.d (.int .i64 (k : Nat)))) 69 (.d (.int .i64 ((4 : Nat) : Int)))) 68 (.own 1 0 4)) 19 (.d (.bool (mTake m who).2.2))) 16 (.d (.bool (mGone m who).2))) 14 (.d (.bool (mCome m who).2))) 6 (.ptr 0 0 0)) 2 (.d (.int .i64 who))), blksOf [.var 60 [.d (.view 2 (m.Queues.map eQueue)), .d (.view 1 (m.Come.map eInt)), .d (.view 1 (m.Boxes.map eL_Letter))], .row 3 60 (List.map eModel [(mSay c m who to text).1, (mCome m who).1, (mGone m who).1, (mTake m who).1]), .var 60 [.d (.view 2 (X.Queues.map eQueue)), .d (.view 1 (X.Come.map eInt)), .d (.view 1 (X.Boxes.map eL_Letter))]]⟩) (Moved.mk' [] [0, 1, 2] _ (fun g h => by simp at h) (loc_u (loc_u (loc_u (loc_u (loc_u (loc_u (loc_u (loc_u (loc_u (loc_u (loc_upd (Loc.d' (congrArg (D.int .i64) hs'.symm)) (loc_u (loc_u loc_und))))))))))))) rfl (by decide) (by simp) (at_cons (.va) (at_cons (.row _ _ _) (at_cons (.va) at_nil)))) ?_
          refine AL.nil (AThen.n ?_)
          exact ⟨m.Boxes.length - (j + 1), by omega, j + 1, s', by omega, rfl, rfl, hE⟩
        obtain ⟨s', hs', hE⟩ : ∃ s' : Int, s' = s ∧ (s' = 0 ∨ (s' = 1 ∧ p < j + 1 ∧ (k == 1 || k == 3) = true)) := ⟨s, rfl, by
          rcases hxj with h | ⟨h1, h2, h3⟩
          · exact .inl h
          · exact .inr ⟨h1, by omega, h3⟩⟩
        refine Aw.condF rfl rfl (Aw.skip (AIn.n (AThen.n (Aw.region ?_))))
        refine AL.v rfl rfl (B.arith rfl rfl rfl (arith_add64 (by omega)) rfl) ?_
        refine AL.v rfl rfl (B.mA) ?_
        refine AL.move (σ' := ⟨(upd (upd (upd (upd (upd (upd (upd (upd (upd (upd (upd (upd (upd (fun _ => AV.und) 170 (.d (.int .i64 ((j + 1) : Nat)))) 169 (.d (.int .i64 ((m.Boxes.map eL_Letter).length : Nat)))) 24 (.d (.int .i64 (s')))) 21 (.ptr 2 0 0)) 20 (.d (.int .i64 (k : Nat)))) 70 (.d (.int .i64 (k : Nat)))) 69 (.d (.int .i64 ((4 : Nat) : Int)))) 68 (.own 1 0 4)) 19 (.d (.bool (mTake m who).2.2))) 16 (.d (.bool (mGone m who).2))) 14 (.d (.bool (mCome m who).2))) 6 (.ptr 0 0 0)) 2 (.d (.int .i64 who))), blksOf [.var 60 [.d (.view 2 (m.Queues.map eQueue)), .d (.view 1 (m.Come.map eInt)), .d (.view 1 (m.Boxes.map eL_Letter))], .row 3 60 (List.map eModel [(mSay c m who to text).1, (mCome m who).1, (mGone m who).1, (mTake m who).1]), .var 60 [.d (.view 2 (X.Queues.map eQueue)), .d (.view 1 (X.Come.map eInt)), .d (.view 1 (X.Boxes.map eL_Letter))]]⟩) (Moved.mk' [] [0, 1, 2] _ (fun g h => by simp at h) (loc_u (loc_u (loc_u (loc_u (loc_u (loc_u (loc_u (loc_u (loc_u (loc_u (loc_upd (Loc.d' (congrArg (D.int .i64) hs'.symm)) (loc_u (loc_u loc_und))))))))))))) rfl (by decide) (by simp) (at_cons (.va) (at_cons (.row _ _ _) (at_cons (.va) at_nil)))) ?_
        refine AL.nil (AThen.n ?_)
        exact ⟨m.Boxes.length - (j + 1), by omega, j + 1, s', by omega, rfl, rfl, hE⟩
      refine Aw.condF rfl rfl (Aw.exit (AThen.e (AThen.e (AIn.e (AThen.n (Aw.seq (Aw.region ?_)))))))
      refine AL.v rfl rfl (B.mA) ?_
      refine AL.v rfl rfl (B.cmp rfl rfl rfl rfl rfl) ?_
      refine AL.v rfl rfl (B.mA) ?_
      refine AL.cases (t := 190) rfl (fun hg190 => ?_) (fun hg190 => ?_)
      · refine AL.off rfl rfl rfl rfl rfl (by decide) ?_
        refine AL.off rfl rfl rfl rfl rfl (by decide) ?_
        refine AL.off rfl rfl rfl rfl rfl (by decide) ?_
        refine AL.offU rfl rfl rfl rfl (by decide) ?_
        refine AL.offU rfl rfl rfl rfl (by decide) ?_
        refine AL.off rfl rfl rfl rfl rfl (by decide) ?_
        refine AL.off rfl rfl rfl rfl rfl (by decide) ?_
        refine AL.offU rfl rfl rfl rfl (by decide) ?_
        refine AL.offU rfl rfl rfl rfl (by decide) ?_
        refine AL.off rfl rfl rfl rfl rfl (by decide) ?_
        refine AL.v rfl rfl (B.pT) ?_
        refine AL.nil (AThen.n ?_)
        refine Aw.condT rfl (rfl) ?_
        refine Aw.seq (Aw.region ?_)
        refine AL.v rfl rfl (B.mA) ?_
        refine AL.nil (AThen.n (Aw.ret (AIn.r (AThen.r (AThen.r (AIn.r (AThen.r (APost.r ?_))))))))
        refine Ret.all [] rfl (.cons (.t (.d _)) .nil) gs_nil (.refl _) (.d _) ⟨congrArg (fun b => AV.d (.bool b)) ?_, rfl⟩
        first
          | rfl
          | (exfalso; simp at hc0; done)
          | (exfalso; simp at hg82; omega)
          | (exfalso; simp at hg91; omega)
          | (exfalso; simp at hc3; omega)
          | (exfalso; have h := hap.no (by simpa using hg109); rw [h, sameM_self] at hc4; simp at hc4; done)
          | (exfalso; simp at hc7; done)
          | (exfalso; simp at hg190; omega)
          | (exfalso; rcases hxj with h | ⟨_, _, h⟩ <;> simp_all <;> omega)
          | (trace_state; sorry)
      refine AL.gv rfl rfl rfl rfl (B.mA) ?_
      refine AL.gv rfl rfl rfl rfl (B.cmp rfl rfl rfl rfl rfl) ?_
      refine AL.gv rfl rfl rfl rfl (B.mA) ?_
      refine AL.cases (t := 193) rfl (fun hg193 => ?_) (fun hg193 => ?_)
      · refine AL.gv rfl rfl rfl rfl (B.mA) ?_
        refine AL.gv rfl rfl rfl rfl (B.cmp rfl rfl rfl rfl rfl) ?_
        refine AL.gv rfl rfl rfl rfl (B.pT) ?_
        refine AL.gv rfl rfl rfl rfl (B.mA) ?_
        refine AL.cases (t := 197) rfl (fun hg197 => ?_) (fun hg197 => ?_)
        · refine AL.gv rfl rfl rfl rfl (B.mA) ?_
          refine AL.gv rfl rfl rfl rfl (B.cmp rfl rfl rfl rfl rfl) ?_
          refine AL.gv rfl rfl rfl rfl (B.pT) ?_
          refine AL.v rfl rfl (B.pF) ?_
          refine AL.nil (AThen.n ?_)
          refine Aw.cases (t := 201) rfl (fun hc10 => ?_) (fun hc10 => ?_)
          · refine Aw.condT rfl rfl (Aw.seq (Aw.region ?_))
            refine AL.v rfl rfl (B.mA) ?_
            refine AL.nil (AThen.n (Aw.ret (AIn.r (AThen.r (AThen.r (AIn.r (AThen.r (APost.r ?_))))))))
            refine Ret.all [] rfl (.cons (.t (.d _)) .nil) gs_nil (.refl _) (.d _) ⟨congrArg (fun b => AV.d (.bool b)) ?_, rfl⟩
            first
              | rfl
              | (exfalso; simp at hc0; done)
              | (exfalso; simp at hg82; omega)
              | (exfalso; simp at hg91; omega)
              | (exfalso; simp at hc3; omega)
              | (exfalso; have h := hap.no (by simpa using hg109); rw [h, sameM_self] at hc4; simp at hc4; done)
              | (exfalso; simp at hc7; done)
              | (exfalso; simp at hg190; omega)
              | (exfalso; rcases hxj with h | ⟨_, _, h⟩ <;> simp_all <;> omega)
              | (trace_state; sorry)
          refine Aw.condF rfl rfl (Aw.skip (AIn.n (AThen.n (Aw.region ?_))))
          refine AL.v rfl rfl (B.arith rfl rfl rfl (arith_add64 (by omega)) rfl) ?_
          refine AL.v rfl rfl (B.mA) ?_
          refine AL.move (σ' := ⟨(upd (upd (upd (upd (upd (upd (upd (upd (fun _ => AV.und) 70 (.d (.int .i64 ((k + 1) : Nat)))) 69 (.d (.int .i64 ((4 : Nat) : Int)))) 68 (.own 1 0 4)) 19 (.d (.bool (mTake m who).2.2))) 16 (.d (.bool (mGone m who).2))) 14 (.d (.bool (mCome m who).2))) 6 (.ptr 0 0 0)) 2 (.d (.int .i64 who))), blksOf [.var 60 [.d (.view 2 (m.Queues.map eQueue)), .d (.view 1 (m.Come.map eInt)), .d (.view 1 (m.Boxes.map eL_Letter))], .row 3 60 (List.map eModel [(mSay c m who to text).1, (mCome m who).1, (mGone m who).1, (mTake m who).1])]⟩) (Moved.mk' [] [0, 1] _ (fun g h => by simp at h) (loc_u (loc_u (loc_u (loc_u (loc_u (loc_u (loc_u (loc_u loc_und)))))))) rfl (by decide) (by simp) (at_cons (.va) (at_cons (.row _ _ _) at_nil))) ?_
          refine AL.nil (AThen.n ?_)
          exact ⟨4 - (k + 1), by omega, k + 1, by omega, rfl, rfl⟩
        refine AL.off rfl rfl rfl rfl rfl (by decide) ?_
        refine AL.off rfl rfl rfl rfl rfl (by decide) ?_
        refine AL.gv rfl rfl rfl rfl (B.pF) ?_
        refine AL.v rfl rfl (B.pF) ?_
        refine AL.nil (AThen.n ?_)
        refine Aw.condF rfl (rfl) ?_
        refine Aw.skip (AIn.n (AThen.n (Aw.region ?_)))
        refine AL.v rfl rfl (B.arith rfl rfl rfl (arith_add64 (by omega)) rfl) ?_
        refine AL.v rfl rfl (B.mA) ?_
        refine AL.move (σ' := ⟨(upd (upd (upd (upd (upd (upd (upd (upd (fun _ => AV.und) 70 (.d (.int .i64 ((k + 1) : Nat)))) 69 (.d (.int .i64 ((4 : Nat) : Int)))) 68 (.own 1 0 4)) 19 (.d (.bool (mTake m who).2.2))) 16 (.d (.bool (mGone m who).2))) 14 (.d (.bool (mCome m who).2))) 6 (.ptr 0 0 0)) 2 (.d (.int .i64 who))), blksOf [.var 60 [.d (.view 2 (m.Queues.map eQueue)), .d (.view 1 (m.Come.map eInt)), .d (.view 1 (m.Boxes.map eL_Letter))], .row 3 60 (List.map eModel [(mSay c m who to text).1, (mCome m who).1, (mGone m who).1, (mTake m who).1])]⟩) (Moved.mk' [] [0, 1] _ (fun g h => by simp at h) (loc_u (loc_u (loc_u (loc_u (loc_u (loc_u (loc_u (loc_u loc_und)))))))) rfl (by decide) (by simp) (at_cons (.va) (at_cons (.row _ _ _) at_nil))) ?_
        refine AL.nil (AThen.n ?_)
        exact ⟨4 - (k + 1), by omega, k + 1, by omega, rfl, rfl⟩
      refine AL.off rfl rfl rfl rfl rfl (by decide) ?_
      refine AL.off rfl rfl rfl rfl rfl (by decide) ?_
      refine AL.gv rfl rfl rfl rfl (B.pF) ?_
      refine AL.gv rfl rfl rfl rfl (B.mA) ?_
      refine AL.off rfl rfl rfl rfl rfl (by decide) ?_
      refine AL.off rfl rfl rfl rfl rfl (by decide) ?_
      refine AL.gv rfl rfl rfl rfl (B.pF) ?_
      refine AL.v rfl rfl (B.pF) ?_
      refine AL.nil (AThen.n ?_)
      refine Aw.condF rfl (rfl) ?_
      refine Aw.skip (AIn.n (AThen.n (Aw.region ?_)))
      refine AL.v rfl rfl (B.arith rfl rfl rfl (arith_add64 (by omega)) rfl) ?_
      refine AL.v rfl rfl (B.mA) ?_
      refine AL.move (σ' := ⟨(upd (upd (upd (upd (upd (upd (upd (upd (fun _ => AV.und) 70 (.d (.int .i64 ((k + 1) : Nat)))) 69 (.d (.int .i64 ((4 : Nat) : Int)))) 68 (.own 1 0 4)) 19 (.d (.bool (mTake m who).2.2))) 16 (.d (.bool (mGone m who).2))) 14 (.d (.bool (mCome m who).2))) 6 (.ptr 0 0 0)) 2 (.d (.int .i64 who))), blksOf [.var 60 [.d (.view 2 (m.Queues.map eQueue)), .d (.view 1 (m.Come.map eInt)), .d (.view 1 (m.Boxes.map eL_Letter))], .row 3 60 (List.map eModel [(mSay c m who to text).1, (mCome m who).1, (mGone m who).1, (mTake m who).1])]⟩) (Moved.mk' [] [0, 1] _ (fun g h => by simp at h) (loc_u (loc_u (loc_u (loc_u (loc_u (loc_u (loc_u (loc_u loc_und)))))))) rfl (by decide) (by simp) (at_cons (.va) (at_cons (.row _ _ _) at_nil))) ?_
      refine AL.nil (AThen.n ?_)
      exact ⟨4 - (k + 1), by omega, k + 1, by omega, rfl, rfl⟩
    have hQE := hap.qid (fun h => by simp at hg126; omega)
    refine AL.off rfl rfl rfl rfl rfl (by decide) ?_
    refine AL.off rfl rfl rfl rfl rfl (by decide) ?_
    refine AL.off rfl rfl rfl rfl rfl (by decide) ?_
    refine AL.off rfl rfl rfl rfl rfl (by decide) ?_
    refine AL.off rfl rfl rfl rfl rfl (by decide) ?_
    refine AL.v rfl rfl (B.pF) ?_
    refine AL.nil (AThen.n ?_)
    refine Aw.meet (fun σ => Moved σ ⟨(upd (upd (upd (upd (upd (upd (upd (upd (upd (upd (upd (fun _ => AV.und) 23 (.ptr 3 0 0)) 21 (.ptr 2 0 0)) 20 (.d (.int .i64 (k : Nat)))) 70 (.d (.int .i64 (k : Nat)))) 69 (.d (.int .i64 ((4 : Nat) : Int)))) 68 (.own 1 0 4)) 19 (.d (.bool (mTake m who).2.2))) 16 (.d (.bool (mGone m who).2))) 14 (.d (.bool (mCome m who).2))) 6 (.ptr 0 0 0)) 2 (.d (.int .i64 who))), blksOf [.var 60 [.d (.view 2 (m.Queues.map eQueue)), .d (.view 1 (m.Come.map eInt)), .d (.view 1 (m.Boxes.map eL_Letter))], .row 3 60 (List.map eModel [(mSay c m who to text).1, (mCome m who).1, (mGone m who).1, (mTake m who).1]), .var 60 [.d (.view 2 (X.Queues.map eQueue)), .d (.view 1 (X.Come.map eInt)), .d (.view 1 (X.Boxes.map eL_Letter))], .var 60 [.own 4 0 (X.Queues.map eQueue).length, .own 5 0 (X.Come.map eInt).length, .d (.view 1 (X.Boxes.map eL_Letter))], .row 2 77 (m.Queues.map eQueue), .row 1 3 (X.Come.map eInt)]⟩) ?_ (fun σ hM => ?_)
    · refine Aw.condF rfl (rfl) ?_
      refine Aw.skip (AThen.n ?_)
      exact (Moved.mk' [] [0, 1, 2, 4, 5, 6] _ (fun g h => by simp at h) (loc_u (loc_u (loc_u (loc_u (loc_u (loc_u (loc_u (loc_u (loc_u (loc_u (loc_u loc_und))))))))))) rfl (by decide) (by simp) (at_cons (.va) (at_cons (.row _ _ _) (at_cons (.va) (at_cons (.va) (at_cons (.row' (hQE)) (at_cons (.row _ _ _) at_nil)))))))
    refine Aw.move hM ?_
    clear hM
    clear σ
    refine Aw.seq (Aw.seq (Aw.region ?_))
    refine AL.v rfl rfl (B.mA) ?_
    refine AL.v rfl rfl (B.cmp rfl rfl rfl rfl rfl) ?_
    refine AL.v rfl rfl (B.mA) ?_
    refine AL.cases (t := 144) rfl (fun hg144 => ?_) (fun hg144 => ?_)
    · 
      refine AL.gv rfl rfl rfl rfl (B.mA) ?_
      refine AL.gv rfl rfl rfl rfl (B.fA fl_api_Model_1) ?_
      refine AL.gv rfl rfl rfl rfl (B.l1 ty_Lint) ?_
      refine AL.gv rfl rfl rfl rfl (B.nA Try.underlying57) ?_
      refine AL.gv rfl rfl rfl rfl (B.cmp rfl rfl rfl rfl rfl) ?_
      refine AL.v rfl rfl (B.pT) ?_
      refine AL.nil (AThen.n ?_)
      refine Aw.meet (fun σ => Moved σ ⟨(upd (upd (upd (upd (upd (upd (upd (upd (upd (upd (upd (fun _ => AV.und) 23 (.ptr 3 0 0)) 21 (.ptr 2 0 0)) 20 (.d (.int .i64 (k : Nat)))) 70 (.d (.int .i64 (k : Nat)))) 69 (.d (.int .i64 ((4 : Nat) : Int)))) 68 (.own 1 0 4)) 19 (.d (.bool (mTake m who).2.2))) 16 (.d (.bool (mGone m who).2))) 14 (.d (.bool (mCome m who).2))) 6 (.ptr 0 0 0)) 2 (.d (.int .i64 who))), blksOf [.var 60 [.d (.view 2 (m.Queues.map eQueue)), .d (.view 1 (m.Come.map eInt)), .d (.view 1 (m.Boxes.map eL_Letter))], .row 3 60 (List.map eModel [(mSay c m who to text).1, (mCome m who).1, (mGone m who).1, (mTake m who).1]), .var 60 [.d (.view 2 (X.Queues.map eQueue)), .d (.view 1 (X.Come.map eInt)), .d (.view 1 (X.Boxes.map eL_Letter))], .var 60 [.own 4 0 (X.Queues.map eQueue).length, .own 5 0 (X.Come.map eInt).length, .d (.view 1 (X.Boxes.map eL_Letter))], .row 2 77 (m.Queues.map eQueue), .row 1 3 (m.Come.map eInt)]⟩) ?_ (fun σ hM => ?_)
      · refine Aw.cases (t := 150) rfl (fun hc6 => ?_) (fun hc6 => ?_)
        · obtain ⟨i2, hwi2⟩ : ∃ i : Nat, who = i := ⟨who.toNat, by simp at hg144; omega⟩
          have hi : i2 < m.Come.length := by simp at hc6; omega
          obtain ⟨a, ha⟩ : ∃ a, m.Come[i2]? = some a := ⟨_, List.getElem?_eq_getElem hi⟩
          have hi2 : i2 < X.Come.length := by rw [hap.cl]; exact hi
          obtain ⟨a2, hXa⟩ : ∃ q, X.Come[i2]? = some q := ⟨_, List.getElem?_eq_getElem hi2⟩
          have hCE := (show Ap m (i2 : Int) X is _ from hwi2 ▸ hap).cset ha
          refine Aw.condT rfl rfl (Aw.drawn' mixed ?_)
          refine CD.v rfl rfl (B.fA fl_api_Model_1) ?_
          refine CD.v rfl rfl (B.l1 ty_Lint) ?_
          refine CD.v rfl rfl (B.mA) ?_
          refine CD.v rfl rfl (B.fA fl_api_Model_1) ?_
          refine CD.v rfl rfl (B.l1 ty_Lint) ?_
          refine CD.v rfl rfl (B.mA) ?_
          refine CD.v rfl rfl (B.idxView (i := i2) rfl el_Lint (by first | exact .view _ _ | exact .lent _ _) rfl hwi2 (map_at ha) rfl) ?_
          refine CD.v rfl rfl (B.l1 ty_int) ?_
          refine CD.v rfl rfl (B.idxOwn0 rfl el_Lint rfl rfl rfl hwi2 (by simp; omega) rfl) ?_
          refine CD.s rfl rfl (B.storeRow (ds := (eInt a)) rfl ty_int rfl rfl (map_at hXa) rfl rfl rfl rfl) ?_
          refine CD.nil (by kernel_rfl) ?_
          refine AThen.n ?_
          exact (Moved.mk' [] [0, 1, 2, 3, 4, 5] _ (fun g h => by simp at h) (loc_u (loc_u (loc_u (loc_u (loc_u (loc_u (loc_u (loc_u (loc_u (loc_u (loc_u loc_und))))))))))) rfl (by decide) (by simp) (at_cons (.va) (at_cons (.row _ _ _) (at_cons (.va) (at_cons (.va) (at_cons (.row _ _ _) (at_cons (.row' (hCE)) at_nil)))))))
        have hCE := hap.cid (fun h => by simp at hg144 hc6; omega)
        refine Aw.condF rfl rfl (Aw.skip (AThen.n ?_))
        exact (Moved.mk' [] [0, 1, 2, 3, 4, 5] _ (fun g h => by simp at h) (loc_u (loc_u (loc_u (loc_u (loc_u (loc_u (loc_u (loc_u (loc_u (loc_u (loc_u loc_und))))))))))) rfl (by decide) (by simp) (at_cons (.va) (at_cons (.row _ _ _) (at_cons (.va) (at_cons (.va) (at_cons (.row _ _ _) (at_cons (.row' (hCE)) at_nil)))))))
      refine Aw.move hM ?_
      clear hM
      clear σ
      refine Aw.seq ?_
      
      refine Aw.region ?_
      refine AL.v rfl rfl (B.fA fl_api_Model_2) ?_
      refine AL.v rfl rfl (B.l1 ty_LLapi_Letter) ?_
      refine AL.v rfl rfl (B.fA fl_api_Model_2) ?_
      refine AL.s rfl rfl (B.sA ty_LLapi_Letter) ?_
      refine AL.nil (AThen.n (Aw.seq (Aw.seq ?_)))
      refine Aw.move (σ' := ⟨(upd (upd (upd (upd (upd (upd (upd (upd (upd (upd (upd (fun _ => AV.und) 23 (.ptr 3 0 0)) 21 (.ptr 2 0 0)) 20 (.d (.int .i64 (k : Nat)))) 70 (.d (.int .i64 (k : Nat)))) 69 (.d (.int .i64 ((4 : Nat) : Int)))) 68 (.own 1 0 4)) 19 (.d (.bool (mTake m who).2.2))) 16 (.d (.bool (mGone m who).2))) 14 (.d (.bool (mCome m who).2))) 6 (.ptr 0 0 0)) 2 (.d (.int .i64 who))), blksOf [.var 60 [.d (.view 2 (m.Queues.map eQueue)), .d (.view 1 (m.Come.map eInt)), .d (.view 1 (m.Boxes.map eL_Letter))], .row 3 60 (List.map eModel [(mSay c m who to text).1, (mCome m who).1, (mGone m who).1, (mTake m who).1]), .var 60 [.d (.view 2 (X.Queues.map eQueue)), .d (.view 1 (X.Come.map eInt)), .d (.view 1 (X.Boxes.map eL_Letter))], .var 60 [.d (.view 2 (m.Queues.map eQueue)), .d (.view 1 (m.Come.map eInt)), .d (.view 1 (m.Boxes.map eL_Letter))]]⟩) (Moved.mk' [4, 5] [0, 1, 2, 3] _ (gs_cons (σ := ⟨fun _ => .und, _⟩) rfl (gs_cons (σ := ⟨fun _ => .und, _⟩) rfl gs_nil)) (loc_u (loc_u (loc_u (loc_u (loc_u (loc_u (loc_u (loc_u (loc_u (loc_u (loc_u loc_und))))))))))) rfl (by decide) (by simp) (at_cons (.va) (at_cons (.row _ _ _) (at_cons (.va) (at_cons (.va) at_nil))))) ?_
      refine Aw.region ?_
      refine AL.v rfl rfl (B.lN ty_api_Model) ?_
      refine AL.v rfl rfl (B.lN ty_api_Model) ?_
      refine AL.v rfl rfl (B.call0 (k := 6) rfl en_shallot_shallotref23_Same (r23_self m hm) (.c (.c .nil))) ?_
      refine AL.v rfl rfl (B.not rfl rfl rfl) ?_
      refine AL.nil (AThen.n ?_)
      refine Aw.cases (t := 166) rfl (fun hc7 => ?_) (fun hc7 => ?_)
      · refine Aw.condT rfl rfl (Aw.seq (Aw.region ?_))
        refine AL.v rfl rfl (B.mA) ?_
        refine AL.nil (AThen.n (Aw.ret (AThen.r (AIn.r (AThen.r (AThen.r (AIn.r (AThen.r (APost.r ?_)))))))))
        refine Ret.all [] rfl (.cons (.t (.d _)) .nil) gs_nil (.refl _) (.d _) ⟨congrArg (fun b => AV.d (.bool b)) ?_, rfl⟩
        first
          | rfl
          | (exfalso; simp at hc0; done)
          | (exfalso; simp at hg82; omega)
          | (exfalso; simp at hg91; omega)
          | (exfalso; simp at hc3; omega)
          | (exfalso; have h := hap.no (by simpa using hg109); rw [h, sameM_self] at hc4; simp at hc4; done)
          | (exfalso; simp at hc7; done)
          | (exfalso; simp at hg190; omega)
          | (exfalso; rcases hxj with h | ⟨_, _, h⟩ <;> simp_all <;> omega)
          | (trace_state; sorry)
      refine Aw.condF rfl rfl (Aw.skip (AThen.n (Aw.seq ?_)))
      obtain ⟨p, hp⟩ := hap.b
      refine Aw.region ?_
      refine AL.v rfl rfl (B.mA) ?_
      refine AL.nil (AThen.n (Aw.seq (Aw.seq (Aw.region ?_))))
      refine AL.v rfl rfl (B.fA fl_api_Model_2) ?_
      refine AL.v rfl rfl (B.l1 ty_LLapi_Letter) ?_
      refine AL.v rfl rfl (B.nA Try.underlying58) ?_
      refine AL.v rfl rfl (B.mA) ?_
      refine AL.nil (AThen.n (Aw.block ?_))
      refine Aw.move (σ' := ⟨(upd (upd (upd (upd (upd (upd (upd (upd (upd (upd (upd (upd (upd (fun _ => AV.und) 170 (.d (.int .i64 (0 : Nat)))) 169 (.d (.int .i64 ((m.Boxes.map eL_Letter).length : Nat)))) 24 (.d (.int .i64 (0)))) 21 (.ptr 2 0 0)) 20 (.d (.int .i64 (k : Nat)))) 70 (.d (.int .i64 (k : Nat)))) 69 (.d (.int .i64 ((4 : Nat) : Int)))) 68 (.own 1 0 4)) 19 (.d (.bool (mTake m who).2.2))) 16 (.d (.bool (mGone m who).2))) 14 (.d (.bool (mCome m who).2))) 6 (.ptr 0 0 0)) 2 (.d (.int .i64 who))), blksOf [.var 60 [.d (.view 2 (m.Queues.map eQueue)), .d (.view 1 (m.Come.map eInt)), .d (.view 1 (m.Boxes.map eL_Letter))], .row 3 60 (List.map eModel [(mSay c m who to text).1, (mCome m who).1, (mGone m who).1, (mTake m who).1]), .var 60 [.d (.view 2 (X.Queues.map eQueue)), .d (.view 1 (X.Come.map eInt)), .d (.view 1 (X.Boxes.map eL_Letter))]]⟩) (Moved.mk' [] [0, 1, 2] _ (fun g h => by simp at h) (loc_u (loc_u (loc_u (loc_u (loc_u (loc_u (loc_u (loc_u (loc_u (loc_u (loc_u (loc_u (loc_u loc_und))))))))))))) rfl (by decide) (by simp) (at_cons (.va) (at_cons (.row _ _ _) (at_cons (.va) at_nil)))) ?_
      refine Aw.loop (fun n σ => ∃ (j : Nat) (s : Int), j ≤ m.Boxes.length ∧ n = m.Boxes.length - j ∧ σ = ⟨(upd (upd (upd (upd (upd (upd (upd (upd (upd (upd (upd (upd (upd (fun _ => AV.und) 170 (.d (.int .i64 (j : Nat)))) 169 (.d (.int .i64 ((m.Boxes.map eL_Letter).length : Nat)))) 24 (.d (.int .i64 (s)))) 21 (.ptr 2 0 0)) 20 (.d (.int .i64 (k : Nat)))) 70 (.d (.int .i64 (k : Nat)))) 69 (.d (.int .i64 ((4 : Nat) : Int)))) 68 (.own 1 0 4)) 19 (.d (.bool (mTake m who).2.2))) 16 (.d (.bool (mGone m who).2))) 14 (.d (.bool (mCome m who).2))) 6 (.ptr 0 0 0)) 2 (.d (.int .i64 who))), blksOf [.var 60 [.d (.view 2 (m.Queues.map eQueue)), .d (.view 1 (m.Come.map eInt)), .d (.view 1 (m.Boxes.map eL_Letter))], .row 3 60 (List.map eModel [(mSay c m who to text).1, (mCome m who).1, (mGone m who).1, (mTake m who).1]), .var 60 [.d (.view 2 (X.Queues.map eQueue)), .d (.view 1 (X.Come.map eInt)), .d (.view 1 (X.Boxes.map eL_Letter))]]⟩ ∧ (s = 0 ∨ (s = 1 ∧ p < j ∧ (k == 1 || k == 3) = true))) (m.Boxes.length) ⟨0, 0, Nat.zero_le _, rfl, rfl, .inl rfl⟩ ?_
      rintro n σ ⟨j, s, hj, rfl, rfl, hxj⟩
      refine Aw.seq (Aw.region ?_)
      refine AL.v rfl rfl (B.cmp rfl rfl rfl rfl rfl) ?_
      refine AL.nil (AThen.n (Aw.seq ?_))
      refine Aw.cases (t := 171) rfl (fun hc8 => ?_) (fun hc8 => ?_)
      · refine Aw.condT rfl rfl (Aw.skip (AThen.n (Aw.seq (Aw.block (Aw.seq (Aw.region ?_))))))
        refine AL.v rfl rfl (B.mA) ?_
        refine AL.v rfl rfl (B.mA) ?_
        refine AL.nil (AThen.n (Aw.seq ?_))
        have hlt2 : j < m.Boxes.length := by simpa using hc8
        obtain ⟨x, hx⟩ : ∃ x, X.Boxes[j]? = some x := ⟨_, List.getElem?_eq_getElem (by rw [hap.bl]; exact hlt2)⟩
        obtain ⟨y, hy⟩ : ∃ y, m.Boxes[j]? = some y := ⟨_, List.getElem?_eq_getElem hlt2⟩
        refine Aw.drawn' mixed ?_
        refine CD.v rfl rfl (B.fA fl_api_Model_2) ?_
        refine CD.v rfl rfl (B.l1 ty_LLapi_Letter) ?_
        refine CD.v rfl rfl (B.mA) ?_
        refine CD.v rfl rfl (B.idxView (i := j) rfl el_LLapi_Letter (by first | exact .view _ _ | exact .lent _ _) rfl rfl (map_at hx) rfl) ?_
        refine CD.v rfl rfl (B.l1 ty_Lapi_Letter) ?_
        refine CD.v rfl rfl (B.fA fl_api_Model_2) ?_
        refine CD.v rfl rfl (B.l1 ty_LLapi_Letter) ?_
        refine CD.v rfl rfl (B.mA) ?_
        refine CD.v rfl rfl (B.idxView (i := j) rfl el_LLapi_Letter (by first | exact .view _ _ | exact .lent _ _) rfl rfl (map_at hy) rfl) ?_
        refine CD.v rfl rfl (B.l1 ty_Lapi_Letter) ?_
        refine CD.v rfl rfl (B.call0 (k := 3) rfl en_shallot_shallotref10_SameAll (r10_sameAll x y) (.c (.c .nil))) ?_
        refine CD.v rfl rfl (B.not rfl rfl rfl) ?_
        refine CD.nil (by kernel_rfl) ?_
        refine AThen.n ?_
        refine Aw.cases (t := 184) rfl (fun hc9 => ?_) (fun hc9 => ?_)
        · have hne : x ≠ y := fun h => by
            rw [← h] at hc9
            have h2 : all2 sameL x x = true := sameLs_self x
            rw [h2] at hc9
            simp at hc9
          have hj : j = p := by
            by_cases hjp : j = p
            · exact hjp
            · have h1 := hp j hjp
              rw [hx, hy] at h1
              exact absurd (Option.some.inj h1) hne
          have hmb2 : (k == 1 || k == 3) = true := by
            cases h0 : (k == 1 || k == 3) with
            | true => rfl
            | false =>
              have h1 := hap.nb h0
              rw [h1, hy] at hx
              exact absurd (Option.some.inj hx).symm hne
          obtain ⟨s', hs', hE⟩ : ∃ s' : Int, s' = s + 1 ∧ (s' = 0 ∨ (s' = 1 ∧ p < j + 1 ∧ (k == 1 || k == 3) = true)) := ⟨_, rfl, .inr ⟨by omega, by omega, hmb2⟩⟩
          refine Aw.condT rfl rfl (Aw.region ?_)
          refine AL.v rfl rfl (B.mA) ?_
          refine AL.v rfl rfl (B.arith rfl rfl rfl (arith_add64 (by omega)) rfl) ?_
          refine AL.v rfl rfl (B.mA) ?_
          refine AL.nil (AIn.n (AThen.n (Aw.region ?_)))
          refine AL.v rfl rfl (B.arith rfl rfl rfl (arith_add64 (by omega)) rfl) ?_
          refine AL.v rfl rfl (B.mA) ?_
          refine AL.move (σ' := ⟨(upd (upd (upd (upd (upd (upd (upd (upd (upd (upd (upd (upd (upd (fun _ => AV.und) 170 (.d (.int .i64 ((j + 1) : Nat)))) 169 (.d (.int .i64 ((m.Boxes.map eL_Letter).length : Nat)))) 24 (.d (.int .i64 (s')))) 21 (.ptr 2 0 0)) 20 (.d (.int .i64 (k : Nat)))) 70 (.d (.int .i64 (k : Nat)))) 69 (.d (.int .i64 ((4 : Nat) : Int)))) 68 (.own 1 0 4)) 19 (.d (.bool (mTake m who).2.2))) 16 (.d (.bool (mGone m who).2))) 14 (.d (.bool (mCome m who).2))) 6 (.ptr 0 0 0)) 2 (.d (.int .i64 who))), blksOf [.var 60 [.d (.view 2 (m.Queues.map eQueue)), .d (.view 1 (m.Come.map eInt)), .d (.view 1 (m.Boxes.map eL_Letter))], .row 3 60 (List.map eModel [(mSay c m who to text).1, (mCome m who).1, (mGone m who).1, (mTake m who).1]), .var 60 [.d (.view 2 (X.Queues.map eQueue)), .d (.view 1 (X.Come.map eInt)), .d (.view 1 (X.Boxes.map eL_Letter))]]⟩) (Moved.mk' [] [0, 1, 2] _ (fun g h => by simp at h) (loc_u (loc_u (loc_u (loc_u (loc_u (loc_u (loc_u (loc_u (loc_u (loc_u (loc_upd (Loc.d' (congrArg (D.int .i64) hs'.symm)) (loc_u (loc_u loc_und))))))))))))) rfl (by decide) (by simp) (at_cons (.va) (at_cons (.row _ _ _) (at_cons (.va) at_nil)))) ?_
          refine AL.nil (AThen.n ?_)
          exact ⟨m.Boxes.length - (j + 1), by omega, j + 1, s', by omega, rfl, rfl, hE⟩
        obtain ⟨s', hs', hE⟩ : ∃ s' : Int, s' = s ∧ (s' = 0 ∨ (s' = 1 ∧ p < j + 1 ∧ (k == 1 || k == 3) = true)) := ⟨s, rfl, by
          rcases hxj with h | ⟨h1, h2, h3⟩
          · exact .inl h
          · exact .inr ⟨h1, by omega, h3⟩⟩
        refine Aw.condF rfl rfl (Aw.skip (AIn.n (AThen.n (Aw.region ?_))))
        refine AL.v rfl rfl (B.arith rfl rfl rfl (arith_add64 (by omega)) rfl) ?_
        refine AL.v rfl rfl (B.mA) ?_
        refine AL.move (σ' := ⟨(upd (upd (upd (upd (upd (upd (upd (upd (upd (upd (upd (upd (upd (fun _ => AV.und) 170 (.d (.int .i64 ((j + 1) : Nat)))) 169 (.d (.int .i64 ((m.Boxes.map eL_Letter).length : Nat)))) 24 (.d (.int .i64 (s')))) 21 (.ptr 2 0 0)) 20 (.d (.int .i64 (k : Nat)))) 70 (.d (.int .i64 (k : Nat)))) 69 (.d (.int .i64 ((4 : Nat) : Int)))) 68 (.own 1 0 4)) 19 (.d (.bool (mTake m who).2.2))) 16 (.d (.bool (mGone m who).2))) 14 (.d (.bool (mCome m who).2))) 6 (.ptr 0 0 0)) 2 (.d (.int .i64 who))), blksOf [.var 60 [.d (.view 2 (m.Queues.map eQueue)), .d (.view 1 (m.Come.map eInt)), .d (.view 1 (m.Boxes.map eL_Letter))], .row 3 60 (List.map eModel [(mSay c m who to text).1, (mCome m who).1, (mGone m who).1, (mTake m who).1]), .var 60 [.d (.view 2 (X.Queues.map eQueue)), .d (.view 1 (X.Come.map eInt)), .d (.view 1 (X.Boxes.map eL_Letter))]]⟩) (Moved.mk' [] [0, 1, 2] _ (fun g h => by simp at h) (loc_u (loc_u (loc_u (loc_u (loc_u (loc_u (loc_u (loc_u (loc_u (loc_u (loc_upd (Loc.d' (congrArg (D.int .i64) hs'.symm)) (loc_u (loc_u loc_und))))))))))))) rfl (by decide) (by simp) (at_cons (.va) (at_cons (.row _ _ _) (at_cons (.va) at_nil)))) ?_
        refine AL.nil (AThen.n ?_)
        exact ⟨m.Boxes.length - (j + 1), by omega, j + 1, s', by omega, rfl, rfl, hE⟩
      refine Aw.condF rfl rfl (Aw.exit (AThen.e (AThen.e (AIn.e (AThen.n (Aw.seq (Aw.region ?_)))))))
      refine AL.v rfl rfl (B.mA) ?_
      refine AL.v rfl rfl (B.cmp rfl rfl rfl rfl rfl) ?_
      refine AL.v rfl rfl (B.mA) ?_
      refine AL.cases (t := 190) rfl (fun hg190 => ?_) (fun hg190 => ?_)
      · refine AL.off rfl rfl rfl rfl rfl (by decide) ?_
        refine AL.off rfl rfl rfl rfl rfl (by decide) ?_
        refine AL.off rfl rfl rfl rfl rfl (by decide) ?_
        refine AL.offU rfl rfl rfl rfl (by decide) ?_
        refine AL.offU rfl rfl rfl rfl (by decide) ?_
        refine AL.off rfl rfl rfl rfl rfl (by decide) ?_
        refine AL.off rfl rfl rfl rfl rfl (by decide) ?_
        refine AL.offU rfl rfl rfl rfl (by decide) ?_
        refine AL.offU rfl rfl rfl rfl (by decide) ?_
        refine AL.off rfl rfl rfl rfl rfl (by decide) ?_
        refine AL.v rfl rfl (B.pT) ?_
        refine AL.nil (AThen.n ?_)
        refine Aw.condT rfl (rfl) ?_
        refine Aw.seq (Aw.region ?_)
        refine AL.v rfl rfl (B.mA) ?_
        refine AL.nil (AThen.n (Aw.ret (AIn.r (AThen.r (AThen.r (AIn.r (AThen.r (APost.r ?_))))))))
        refine Ret.all [] rfl (.cons (.t (.d _)) .nil) gs_nil (.refl _) (.d _) ⟨congrArg (fun b => AV.d (.bool b)) ?_, rfl⟩
        first
          | rfl
          | (exfalso; simp at hc0; done)
          | (exfalso; simp at hg82; omega)
          | (exfalso; simp at hg91; omega)
          | (exfalso; simp at hc3; omega)
          | (exfalso; have h := hap.no (by simpa using hg109); rw [h, sameM_self] at hc4; simp at hc4; done)
          | (exfalso; simp at hc7; done)
          | (exfalso; simp at hg190; omega)
          | (exfalso; rcases hxj with h | ⟨_, _, h⟩ <;> simp_all <;> omega)
          | (trace_state; sorry)
      refine AL.gv rfl rfl rfl rfl (B.mA) ?_
      refine AL.gv rfl rfl rfl rfl (B.cmp rfl rfl rfl rfl rfl) ?_
      refine AL.gv rfl rfl rfl rfl (B.mA) ?_
      refine AL.cases (t := 193) rfl (fun hg193 => ?_) (fun hg193 => ?_)
      · refine AL.gv rfl rfl rfl rfl (B.mA) ?_
        refine AL.gv rfl rfl rfl rfl (B.cmp rfl rfl rfl rfl rfl) ?_
        refine AL.gv rfl rfl rfl rfl (B.pT) ?_
        refine AL.gv rfl rfl rfl rfl (B.mA) ?_
        refine AL.cases (t := 197) rfl (fun hg197 => ?_) (fun hg197 => ?_)
        · refine AL.gv rfl rfl rfl rfl (B.mA) ?_
          refine AL.gv rfl rfl rfl rfl (B.cmp rfl rfl rfl rfl rfl) ?_
          refine AL.gv rfl rfl rfl rfl (B.pT) ?_
          refine AL.v rfl rfl (B.pF) ?_
          refine AL.nil (AThen.n ?_)
          refine Aw.cases (t := 201) rfl (fun hc10 => ?_) (fun hc10 => ?_)
          · refine Aw.condT rfl rfl (Aw.seq (Aw.region ?_))
            refine AL.v rfl rfl (B.mA) ?_
            refine AL.nil (AThen.n (Aw.ret (AIn.r (AThen.r (AThen.r (AIn.r (AThen.r (APost.r ?_))))))))
            refine Ret.all [] rfl (.cons (.t (.d _)) .nil) gs_nil (.refl _) (.d _) ⟨congrArg (fun b => AV.d (.bool b)) ?_, rfl⟩
            first
              | rfl
              | (exfalso; simp at hc0; done)
              | (exfalso; simp at hg82; omega)
              | (exfalso; simp at hg91; omega)
              | (exfalso; simp at hc3; omega)
              | (exfalso; have h := hap.no (by simpa using hg109); rw [h, sameM_self] at hc4; simp at hc4; done)
              | (exfalso; simp at hc7; done)
              | (exfalso; simp at hg190; omega)
              | (exfalso; rcases hxj with h | ⟨_, _, h⟩ <;> simp_all <;> omega)
              | (trace_state; sorry)
          refine Aw.condF rfl rfl (Aw.skip (AIn.n (AThen.n (Aw.region ?_))))
          refine AL.v rfl rfl (B.arith rfl rfl rfl (arith_add64 (by omega)) rfl) ?_
          refine AL.v rfl rfl (B.mA) ?_
          refine AL.move (σ' := ⟨(upd (upd (upd (upd (upd (upd (upd (upd (fun _ => AV.und) 70 (.d (.int .i64 ((k + 1) : Nat)))) 69 (.d (.int .i64 ((4 : Nat) : Int)))) 68 (.own 1 0 4)) 19 (.d (.bool (mTake m who).2.2))) 16 (.d (.bool (mGone m who).2))) 14 (.d (.bool (mCome m who).2))) 6 (.ptr 0 0 0)) 2 (.d (.int .i64 who))), blksOf [.var 60 [.d (.view 2 (m.Queues.map eQueue)), .d (.view 1 (m.Come.map eInt)), .d (.view 1 (m.Boxes.map eL_Letter))], .row 3 60 (List.map eModel [(mSay c m who to text).1, (mCome m who).1, (mGone m who).1, (mTake m who).1])]⟩) (Moved.mk' [] [0, 1] _ (fun g h => by simp at h) (loc_u (loc_u (loc_u (loc_u (loc_u (loc_u (loc_u (loc_u loc_und)))))))) rfl (by decide) (by simp) (at_cons (.va) (at_cons (.row _ _ _) at_nil))) ?_
          refine AL.nil (AThen.n ?_)
          exact ⟨4 - (k + 1), by omega, k + 1, by omega, rfl, rfl⟩
        refine AL.off rfl rfl rfl rfl rfl (by decide) ?_
        refine AL.off rfl rfl rfl rfl rfl (by decide) ?_
        refine AL.gv rfl rfl rfl rfl (B.pF) ?_
        refine AL.v rfl rfl (B.pF) ?_
        refine AL.nil (AThen.n ?_)
        refine Aw.condF rfl (rfl) ?_
        refine Aw.skip (AIn.n (AThen.n (Aw.region ?_)))
        refine AL.v rfl rfl (B.arith rfl rfl rfl (arith_add64 (by omega)) rfl) ?_
        refine AL.v rfl rfl (B.mA) ?_
        refine AL.move (σ' := ⟨(upd (upd (upd (upd (upd (upd (upd (upd (fun _ => AV.und) 70 (.d (.int .i64 ((k + 1) : Nat)))) 69 (.d (.int .i64 ((4 : Nat) : Int)))) 68 (.own 1 0 4)) 19 (.d (.bool (mTake m who).2.2))) 16 (.d (.bool (mGone m who).2))) 14 (.d (.bool (mCome m who).2))) 6 (.ptr 0 0 0)) 2 (.d (.int .i64 who))), blksOf [.var 60 [.d (.view 2 (m.Queues.map eQueue)), .d (.view 1 (m.Come.map eInt)), .d (.view 1 (m.Boxes.map eL_Letter))], .row 3 60 (List.map eModel [(mSay c m who to text).1, (mCome m who).1, (mGone m who).1, (mTake m who).1])]⟩) (Moved.mk' [] [0, 1] _ (fun g h => by simp at h) (loc_u (loc_u (loc_u (loc_u (loc_u (loc_u (loc_u (loc_u loc_und)))))))) rfl (by decide) (by simp) (at_cons (.va) (at_cons (.row _ _ _) at_nil))) ?_
        refine AL.nil (AThen.n ?_)
        exact ⟨4 - (k + 1), by omega, k + 1, by omega, rfl, rfl⟩
      refine AL.off rfl rfl rfl rfl rfl (by decide) ?_
      refine AL.off rfl rfl rfl rfl rfl (by decide) ?_
      refine AL.gv rfl rfl rfl rfl (B.pF) ?_
      refine AL.gv rfl rfl rfl rfl (B.mA) ?_
      refine AL.off rfl rfl rfl rfl rfl (by decide) ?_
      refine AL.off rfl rfl rfl rfl rfl (by decide) ?_
      refine AL.gv rfl rfl rfl rfl (B.pF) ?_
      refine AL.v rfl rfl (B.pF) ?_
      refine AL.nil (AThen.n ?_)
      refine Aw.condF rfl (rfl) ?_
      refine Aw.skip (AIn.n (AThen.n (Aw.region ?_)))
      refine AL.v rfl rfl (B.arith rfl rfl rfl (arith_add64 (by omega)) rfl) ?_
      refine AL.v rfl rfl (B.mA) ?_
      refine AL.move (σ' := ⟨(upd (upd (upd (upd (upd (upd (upd (upd (fun _ => AV.und) 70 (.d (.int .i64 ((k + 1) : Nat)))) 69 (.d (.int .i64 ((4 : Nat) : Int)))) 68 (.own 1 0 4)) 19 (.d (.bool (mTake m who).2.2))) 16 (.d (.bool (mGone m who).2))) 14 (.d (.bool (mCome m who).2))) 6 (.ptr 0 0 0)) 2 (.d (.int .i64 who))), blksOf [.var 60 [.d (.view 2 (m.Queues.map eQueue)), .d (.view 1 (m.Come.map eInt)), .d (.view 1 (m.Boxes.map eL_Letter))], .row 3 60 (List.map eModel [(mSay c m who to text).1, (mCome m who).1, (mGone m who).1, (mTake m who).1])]⟩) (Moved.mk' [] [0, 1] _ (fun g h => by simp at h) (loc_u (loc_u (loc_u (loc_u (loc_u (loc_u (loc_u (loc_u loc_und)))))))) rfl (by decide) (by simp) (at_cons (.va) (at_cons (.row _ _ _) at_nil))) ?_
      refine AL.nil (AThen.n ?_)
      exact ⟨4 - (k + 1), by omega, k + 1, by omega, rfl, rfl⟩
    have hCE := hap.cid (fun h => by simp at hg144; omega)
    refine AL.off rfl rfl rfl rfl rfl (by decide) ?_
    refine AL.off rfl rfl rfl rfl rfl (by decide) ?_
    refine AL.off rfl rfl rfl rfl rfl (by decide) ?_
    refine AL.off rfl rfl rfl rfl rfl (by decide) ?_
    refine AL.off rfl rfl rfl rfl rfl (by decide) ?_
    refine AL.v rfl rfl (B.pF) ?_
    refine AL.nil (AThen.n ?_)
    refine Aw.meet (fun σ => Moved σ ⟨(upd (upd (upd (upd (upd (upd (upd (upd (upd (upd (upd (fun _ => AV.und) 23 (.ptr 3 0 0)) 21 (.ptr 2 0 0)) 20 (.d (.int .i64 (k : Nat)))) 70 (.d (.int .i64 (k : Nat)))) 69 (.d (.int .i64 ((4 : Nat) : Int)))) 68 (.own 1 0 4)) 19 (.d (.bool (mTake m who).2.2))) 16 (.d (.bool (mGone m who).2))) 14 (.d (.bool (mCome m who).2))) 6 (.ptr 0 0 0)) 2 (.d (.int .i64 who))), blksOf [.var 60 [.d (.view 2 (m.Queues.map eQueue)), .d (.view 1 (m.Come.map eInt)), .d (.view 1 (m.Boxes.map eL_Letter))], .row 3 60 (List.map eModel [(mSay c m who to text).1, (mCome m who).1, (mGone m who).1, (mTake m who).1]), .var 60 [.d (.view 2 (X.Queues.map eQueue)), .d (.view 1 (X.Come.map eInt)), .d (.view 1 (X.Boxes.map eL_Letter))], .var 60 [.own 4 0 (X.Queues.map eQueue).length, .own 5 0 (X.Come.map eInt).length, .d (.view 1 (X.Boxes.map eL_Letter))], .row 2 77 (m.Queues.map eQueue), .row 1 3 (m.Come.map eInt)]⟩) ?_ (fun σ hM => ?_)
    · refine Aw.condF rfl (rfl) ?_
      refine Aw.skip (AThen.n ?_)
      exact (Moved.mk' [] [0, 1, 2, 3, 4, 5] _ (fun g h => by simp at h) (loc_u (loc_u (loc_u (loc_u (loc_u (loc_u (loc_u (loc_u (loc_u (loc_u (loc_u loc_und))))))))))) rfl (by decide) (by simp) (at_cons (.va) (at_cons (.row _ _ _) (at_cons (.va) (at_cons (.va) (at_cons (.row _ _ _) (at_cons (.row' (hCE)) at_nil)))))))
    refine Aw.move hM ?_
    clear hM
    clear σ
    refine Aw.seq ?_
    
    refine Aw.region ?_
    refine AL.v rfl rfl (B.fA fl_api_Model_2) ?_
    refine AL.v rfl rfl (B.l1 ty_LLapi_Letter) ?_
    refine AL.v rfl rfl (B.fA fl_api_Model_2) ?_
    refine AL.s rfl rfl (B.sA ty_LLapi_Letter) ?_
    refine AL.nil (AThen.n (Aw.seq (Aw.seq ?_)))
    refine Aw.move (σ' := ⟨(upd (upd (upd (upd (upd (upd (upd (upd (upd (upd (upd (fun _ => AV.und) 23 (.ptr 3 0 0)) 21 (.ptr 2 0 0)) 20 (.d (.int .i64 (k : Nat)))) 70 (.d (.int .i64 (k : Nat)))) 69 (.d (.int .i64 ((4 : Nat) : Int)))) 68 (.own 1 0 4)) 19 (.d (.bool (mTake m who).2.2))) 16 (.d (.bool (mGone m who).2))) 14 (.d (.bool (mCome m who).2))) 6 (.ptr 0 0 0)) 2 (.d (.int .i64 who))), blksOf [.var 60 [.d (.view 2 (m.Queues.map eQueue)), .d (.view 1 (m.Come.map eInt)), .d (.view 1 (m.Boxes.map eL_Letter))], .row 3 60 (List.map eModel [(mSay c m who to text).1, (mCome m who).1, (mGone m who).1, (mTake m who).1]), .var 60 [.d (.view 2 (X.Queues.map eQueue)), .d (.view 1 (X.Come.map eInt)), .d (.view 1 (X.Boxes.map eL_Letter))], .var 60 [.d (.view 2 (m.Queues.map eQueue)), .d (.view 1 (m.Come.map eInt)), .d (.view 1 (m.Boxes.map eL_Letter))]]⟩) (Moved.mk' [4, 5] [0, 1, 2, 3] _ (gs_cons (σ := ⟨fun _ => .und, _⟩) rfl (gs_cons (σ := ⟨fun _ => .und, _⟩) rfl gs_nil)) (loc_u (loc_u (loc_u (loc_u (loc_u (loc_u (loc_u (loc_u (loc_u (loc_u (loc_u loc_und))))))))))) rfl (by decide) (by simp) (at_cons (.va) (at_cons (.row _ _ _) (at_cons (.va) (at_cons (.va) at_nil))))) ?_
    refine Aw.region ?_
    refine AL.v rfl rfl (B.lN ty_api_Model) ?_
    refine AL.v rfl rfl (B.lN ty_api_Model) ?_
    refine AL.v rfl rfl (B.call0 (k := 6) rfl en_shallot_shallotref23_Same (r23_self m hm) (.c (.c .nil))) ?_
    refine AL.v rfl rfl (B.not rfl rfl rfl) ?_
    refine AL.nil (AThen.n ?_)
    refine Aw.cases (t := 166) rfl (fun hc7 => ?_) (fun hc7 => ?_)
    · refine Aw.condT rfl rfl (Aw.seq (Aw.region ?_))
      refine AL.v rfl rfl (B.mA) ?_
      refine AL.nil (AThen.n (Aw.ret (AThen.r (AIn.r (AThen.r (AThen.r (AIn.r (AThen.r (APost.r ?_)))))))))
      refine Ret.all [] rfl (.cons (.t (.d _)) .nil) gs_nil (.refl _) (.d _) ⟨congrArg (fun b => AV.d (.bool b)) ?_, rfl⟩
      first
        | rfl
        | (exfalso; simp at hc0; done)
        | (exfalso; simp at hg82; omega)
        | (exfalso; simp at hg91; omega)
        | (exfalso; simp at hc3; omega)
        | (exfalso; have h := hap.no (by simpa using hg109); rw [h, sameM_self] at hc4; simp at hc4; done)
        | (exfalso; simp at hc7; done)
        | (exfalso; simp at hg190; omega)
        | (exfalso; rcases hxj with h | ⟨_, _, h⟩ <;> simp_all <;> omega)
        | (trace_state; sorry)
    refine Aw.condF rfl rfl (Aw.skip (AThen.n (Aw.seq ?_)))
    obtain ⟨p, hp⟩ := hap.b
    refine Aw.region ?_
    refine AL.v rfl rfl (B.mA) ?_
    refine AL.nil (AThen.n (Aw.seq (Aw.seq (Aw.region ?_))))
    refine AL.v rfl rfl (B.fA fl_api_Model_2) ?_
    refine AL.v rfl rfl (B.l1 ty_LLapi_Letter) ?_
    refine AL.v rfl rfl (B.nA Try.underlying58) ?_
    refine AL.v rfl rfl (B.mA) ?_
    refine AL.nil (AThen.n (Aw.block ?_))
    refine Aw.move (σ' := ⟨(upd (upd (upd (upd (upd (upd (upd (upd (upd (upd (upd (upd (upd (fun _ => AV.und) 170 (.d (.int .i64 (0 : Nat)))) 169 (.d (.int .i64 ((m.Boxes.map eL_Letter).length : Nat)))) 24 (.d (.int .i64 (0)))) 21 (.ptr 2 0 0)) 20 (.d (.int .i64 (k : Nat)))) 70 (.d (.int .i64 (k : Nat)))) 69 (.d (.int .i64 ((4 : Nat) : Int)))) 68 (.own 1 0 4)) 19 (.d (.bool (mTake m who).2.2))) 16 (.d (.bool (mGone m who).2))) 14 (.d (.bool (mCome m who).2))) 6 (.ptr 0 0 0)) 2 (.d (.int .i64 who))), blksOf [.var 60 [.d (.view 2 (m.Queues.map eQueue)), .d (.view 1 (m.Come.map eInt)), .d (.view 1 (m.Boxes.map eL_Letter))], .row 3 60 (List.map eModel [(mSay c m who to text).1, (mCome m who).1, (mGone m who).1, (mTake m who).1]), .var 60 [.d (.view 2 (X.Queues.map eQueue)), .d (.view 1 (X.Come.map eInt)), .d (.view 1 (X.Boxes.map eL_Letter))]]⟩) (Moved.mk' [] [0, 1, 2] _ (fun g h => by simp at h) (loc_u (loc_u (loc_u (loc_u (loc_u (loc_u (loc_u (loc_u (loc_u (loc_u (loc_u (loc_u (loc_u loc_und))))))))))))) rfl (by decide) (by simp) (at_cons (.va) (at_cons (.row _ _ _) (at_cons (.va) at_nil)))) ?_
    refine Aw.loop (fun n σ => ∃ (j : Nat) (s : Int), j ≤ m.Boxes.length ∧ n = m.Boxes.length - j ∧ σ = ⟨(upd (upd (upd (upd (upd (upd (upd (upd (upd (upd (upd (upd (upd (fun _ => AV.und) 170 (.d (.int .i64 (j : Nat)))) 169 (.d (.int .i64 ((m.Boxes.map eL_Letter).length : Nat)))) 24 (.d (.int .i64 (s)))) 21 (.ptr 2 0 0)) 20 (.d (.int .i64 (k : Nat)))) 70 (.d (.int .i64 (k : Nat)))) 69 (.d (.int .i64 ((4 : Nat) : Int)))) 68 (.own 1 0 4)) 19 (.d (.bool (mTake m who).2.2))) 16 (.d (.bool (mGone m who).2))) 14 (.d (.bool (mCome m who).2))) 6 (.ptr 0 0 0)) 2 (.d (.int .i64 who))), blksOf [.var 60 [.d (.view 2 (m.Queues.map eQueue)), .d (.view 1 (m.Come.map eInt)), .d (.view 1 (m.Boxes.map eL_Letter))], .row 3 60 (List.map eModel [(mSay c m who to text).1, (mCome m who).1, (mGone m who).1, (mTake m who).1]), .var 60 [.d (.view 2 (X.Queues.map eQueue)), .d (.view 1 (X.Come.map eInt)), .d (.view 1 (X.Boxes.map eL_Letter))]]⟩ ∧ (s = 0 ∨ (s = 1 ∧ p < j ∧ (k == 1 || k == 3) = true))) (m.Boxes.length) ⟨0, 0, Nat.zero_le _, rfl, rfl, .inl rfl⟩ ?_
    rintro n σ ⟨j, s, hj, rfl, rfl, hxj⟩
    refine Aw.seq (Aw.region ?_)
    refine AL.v rfl rfl (B.cmp rfl rfl rfl rfl rfl) ?_
    refine AL.nil (AThen.n (Aw.seq ?_))
    refine Aw.cases (t := 171) rfl (fun hc8 => ?_) (fun hc8 => ?_)
    · refine Aw.condT rfl rfl (Aw.skip (AThen.n (Aw.seq (Aw.block (Aw.seq (Aw.region ?_))))))
      refine AL.v rfl rfl (B.mA) ?_
      refine AL.v rfl rfl (B.mA) ?_
      refine AL.nil (AThen.n (Aw.seq ?_))
      have hlt2 : j < m.Boxes.length := by simpa using hc8
      obtain ⟨x, hx⟩ : ∃ x, X.Boxes[j]? = some x := ⟨_, List.getElem?_eq_getElem (by rw [hap.bl]; exact hlt2)⟩
      obtain ⟨y, hy⟩ : ∃ y, m.Boxes[j]? = some y := ⟨_, List.getElem?_eq_getElem hlt2⟩
      refine Aw.drawn' mixed ?_
      refine CD.v rfl rfl (B.fA fl_api_Model_2) ?_
      refine CD.v rfl rfl (B.l1 ty_LLapi_Letter) ?_
      refine CD.v rfl rfl (B.mA) ?_
      refine CD.v rfl rfl (B.idxView (i := j) rfl el_LLapi_Letter (by first | exact .view _ _ | exact .lent _ _) rfl rfl (map_at hx) rfl) ?_
      refine CD.v rfl rfl (B.l1 ty_Lapi_Letter) ?_
      refine CD.v rfl rfl (B.fA fl_api_Model_2) ?_
      refine CD.v rfl rfl (B.l1 ty_LLapi_Letter) ?_
      refine CD.v rfl rfl (B.mA) ?_
      refine CD.v rfl rfl (B.idxView (i := j) rfl el_LLapi_Letter (by first | exact .view _ _ | exact .lent _ _) rfl rfl (map_at hy) rfl) ?_
      refine CD.v rfl rfl (B.l1 ty_Lapi_Letter) ?_
      refine CD.v rfl rfl (B.call0 (k := 3) rfl en_shallot_shallotref10_SameAll (r10_sameAll x y) (.c (.c .nil))) ?_
      refine CD.v rfl rfl (B.not rfl rfl rfl) ?_
      refine CD.nil (by kernel_rfl) ?_
      refine AThen.n ?_
      refine Aw.cases (t := 184) rfl (fun hc9 => ?_) (fun hc9 => ?_)
      · have hne : x ≠ y := fun h => by
          rw [← h] at hc9
          have h2 : all2 sameL x x = true := sameLs_self x
          rw [h2] at hc9
          simp at hc9
        have hj : j = p := by
          by_cases hjp : j = p
          · exact hjp
          · have h1 := hp j hjp
            rw [hx, hy] at h1
            exact absurd (Option.some.inj h1) hne
        have hmb2 : (k == 1 || k == 3) = true := by
          cases h0 : (k == 1 || k == 3) with
          | true => rfl
          | false =>
            have h1 := hap.nb h0
            rw [h1, hy] at hx
            exact absurd (Option.some.inj hx).symm hne
        obtain ⟨s', hs', hE⟩ : ∃ s' : Int, s' = s + 1 ∧ (s' = 0 ∨ (s' = 1 ∧ p < j + 1 ∧ (k == 1 || k == 3) = true)) := ⟨_, rfl, .inr ⟨by omega, by omega, hmb2⟩⟩
        refine Aw.condT rfl rfl (Aw.region ?_)
        refine AL.v rfl rfl (B.mA) ?_
        refine AL.v rfl rfl (B.arith rfl rfl rfl (arith_add64 (by omega)) rfl) ?_
        refine AL.v rfl rfl (B.mA) ?_
        refine AL.nil (AIn.n (AThen.n (Aw.region ?_)))
        refine AL.v rfl rfl (B.arith rfl rfl rfl (arith_add64 (by omega)) rfl) ?_
        refine AL.v rfl rfl (B.mA) ?_
        refine AL.move (σ' := ⟨(upd (upd (upd (upd (upd (upd (upd (upd (upd (upd (upd (upd (upd (fun _ => AV.und) 170 (.d (.int .i64 ((j + 1) : Nat)))) 169 (.d (.int .i64 ((m.Boxes.map eL_Letter).length : Nat)))) 24 (.d (.int .i64 (s')))) 21 (.ptr 2 0 0)) 20 (.d (.int .i64 (k : Nat)))) 70 (.d (.int .i64 (k : Nat)))) 69 (.d (.int .i64 ((4 : Nat) : Int)))) 68 (.own 1 0 4)) 19 (.d (.bool (mTake m who).2.2))) 16 (.d (.bool (mGone m who).2))) 14 (.d (.bool (mCome m who).2))) 6 (.ptr 0 0 0)) 2 (.d (.int .i64 who))), blksOf [.var 60 [.d (.view 2 (m.Queues.map eQueue)), .d (.view 1 (m.Come.map eInt)), .d (.view 1 (m.Boxes.map eL_Letter))], .row 3 60 (List.map eModel [(mSay c m who to text).1, (mCome m who).1, (mGone m who).1, (mTake m who).1]), .var 60 [.d (.view 2 (X.Queues.map eQueue)), .d (.view 1 (X.Come.map eInt)), .d (.view 1 (X.Boxes.map eL_Letter))]]⟩) (Moved.mk' [] [0, 1, 2] _ (fun g h => by simp at h) (loc_u (loc_u (loc_u (loc_u (loc_u (loc_u (loc_u (loc_u (loc_u (loc_u (loc_upd (Loc.d' (congrArg (D.int .i64) hs'.symm)) (loc_u (loc_u loc_und))))))))))))) rfl (by decide) (by simp) (at_cons (.va) (at_cons (.row _ _ _) (at_cons (.va) at_nil)))) ?_
        refine AL.nil (AThen.n ?_)
        exact ⟨m.Boxes.length - (j + 1), by omega, j + 1, s', by omega, rfl, rfl, hE⟩
      obtain ⟨s', hs', hE⟩ : ∃ s' : Int, s' = s ∧ (s' = 0 ∨ (s' = 1 ∧ p < j + 1 ∧ (k == 1 || k == 3) = true)) := ⟨s, rfl, by
        rcases hxj with h | ⟨h1, h2, h3⟩
        · exact .inl h
        · exact .inr ⟨h1, by omega, h3⟩⟩
      refine Aw.condF rfl rfl (Aw.skip (AIn.n (AThen.n (Aw.region ?_))))
      refine AL.v rfl rfl (B.arith rfl rfl rfl (arith_add64 (by omega)) rfl) ?_
      refine AL.v rfl rfl (B.mA) ?_
      refine AL.move (σ' := ⟨(upd (upd (upd (upd (upd (upd (upd (upd (upd (upd (upd (upd (upd (fun _ => AV.und) 170 (.d (.int .i64 ((j + 1) : Nat)))) 169 (.d (.int .i64 ((m.Boxes.map eL_Letter).length : Nat)))) 24 (.d (.int .i64 (s')))) 21 (.ptr 2 0 0)) 20 (.d (.int .i64 (k : Nat)))) 70 (.d (.int .i64 (k : Nat)))) 69 (.d (.int .i64 ((4 : Nat) : Int)))) 68 (.own 1 0 4)) 19 (.d (.bool (mTake m who).2.2))) 16 (.d (.bool (mGone m who).2))) 14 (.d (.bool (mCome m who).2))) 6 (.ptr 0 0 0)) 2 (.d (.int .i64 who))), blksOf [.var 60 [.d (.view 2 (m.Queues.map eQueue)), .d (.view 1 (m.Come.map eInt)), .d (.view 1 (m.Boxes.map eL_Letter))], .row 3 60 (List.map eModel [(mSay c m who to text).1, (mCome m who).1, (mGone m who).1, (mTake m who).1]), .var 60 [.d (.view 2 (X.Queues.map eQueue)), .d (.view 1 (X.Come.map eInt)), .d (.view 1 (X.Boxes.map eL_Letter))]]⟩) (Moved.mk' [] [0, 1, 2] _ (fun g h => by simp at h) (loc_u (loc_u (loc_u (loc_u (loc_u (loc_u (loc_u (loc_u (loc_u (loc_u (loc_upd (Loc.d' (congrArg (D.int .i64) hs'.symm)) (loc_u (loc_u loc_und))))))))))))) rfl (by decide) (by simp) (at_cons (.va) (at_cons (.row _ _ _) (at_cons (.va) at_nil)))) ?_
      refine AL.nil (AThen.n ?_)
      exact ⟨m.Boxes.length - (j + 1), by omega, j + 1, s', by omega, rfl, rfl, hE⟩
    refine Aw.condF rfl rfl (Aw.exit (AThen.e (AThen.e (AIn.e (AThen.n (Aw.seq (Aw.region ?_)))))))
    refine AL.v rfl rfl (B.mA) ?_
    refine AL.v rfl rfl (B.cmp rfl rfl rfl rfl rfl) ?_
    refine AL.v rfl rfl (B.mA) ?_
    refine AL.cases (t := 190) rfl (fun hg190 => ?_) (fun hg190 => ?_)
    · refine AL.off rfl rfl rfl rfl rfl (by decide) ?_
      refine AL.off rfl rfl rfl rfl rfl (by decide) ?_
      refine AL.off rfl rfl rfl rfl rfl (by decide) ?_
      refine AL.offU rfl rfl rfl rfl (by decide) ?_
      refine AL.offU rfl rfl rfl rfl (by decide) ?_
      refine AL.off rfl rfl rfl rfl rfl (by decide) ?_
      refine AL.off rfl rfl rfl rfl rfl (by decide) ?_
      refine AL.offU rfl rfl rfl rfl (by decide) ?_
      refine AL.offU rfl rfl rfl rfl (by decide) ?_
      refine AL.off rfl rfl rfl rfl rfl (by decide) ?_
      refine AL.v rfl rfl (B.pT) ?_
      refine AL.nil (AThen.n ?_)
      refine Aw.condT rfl (rfl) ?_
      refine Aw.seq (Aw.region ?_)
      refine AL.v rfl rfl (B.mA) ?_
      refine AL.nil (AThen.n (Aw.ret (AIn.r (AThen.r (AThen.r (AIn.r (AThen.r (APost.r ?_))))))))
      refine Ret.all [] rfl (.cons (.t (.d _)) .nil) gs_nil (.refl _) (.d _) ⟨congrArg (fun b => AV.d (.bool b)) ?_, rfl⟩
      first
        | rfl
        | (exfalso; simp at hc0; done)
        | (exfalso; simp at hg82; omega)
        | (exfalso; simp at hg91; omega)
        | (exfalso; simp at hc3; omega)
        | (exfalso; have h := hap.no (by simpa using hg109); rw [h, sameM_self] at hc4; simp at hc4; done)
        | (exfalso; simp at hc7; done)
        | (exfalso; simp at hg190; omega)
        | (exfalso; rcases hxj with h | ⟨_, _, h⟩ <;> simp_all <;> omega)
        | (trace_state; sorry)
    refine AL.gv rfl rfl rfl rfl (B.mA) ?_
    refine AL.gv rfl rfl rfl rfl (B.cmp rfl rfl rfl rfl rfl) ?_
    refine AL.gv rfl rfl rfl rfl (B.mA) ?_
    refine AL.cases (t := 193) rfl (fun hg193 => ?_) (fun hg193 => ?_)
    · refine AL.gv rfl rfl rfl rfl (B.mA) ?_
      refine AL.gv rfl rfl rfl rfl (B.cmp rfl rfl rfl rfl rfl) ?_
      refine AL.gv rfl rfl rfl rfl (B.pT) ?_
      refine AL.gv rfl rfl rfl rfl (B.mA) ?_
      refine AL.cases (t := 197) rfl (fun hg197 => ?_) (fun hg197 => ?_)
      · refine AL.gv rfl rfl rfl rfl (B.mA) ?_
        refine AL.gv rfl rfl rfl rfl (B.cmp rfl rfl rfl rfl rfl) ?_
        refine AL.gv rfl rfl rfl rfl (B.pT) ?_
        refine AL.v rfl rfl (B.pF) ?_
        refine AL.nil (AThen.n ?_)
        refine Aw.cases (t := 201) rfl (fun hc10 => ?_) (fun hc10 => ?_)
        · refine Aw.condT rfl rfl (Aw.seq (Aw.region ?_))
          refine AL.v rfl rfl (B.mA) ?_
          refine AL.nil (AThen.n (Aw.ret (AIn.r (AThen.r (AThen.r (AIn.r (AThen.r (APost.r ?_))))))))
          refine Ret.all [] rfl (.cons (.t (.d _)) .nil) gs_nil (.refl _) (.d _) ⟨congrArg (fun b => AV.d (.bool b)) ?_, rfl⟩
          first
            | rfl
            | (exfalso; simp at hc0; done)
            | (exfalso; simp at hg82; omega)
            | (exfalso; simp at hg91; omega)
            | (exfalso; simp at hc3; omega)
            | (exfalso; have h := hap.no (by simpa using hg109); rw [h, sameM_self] at hc4; simp at hc4; done)
            | (exfalso; simp at hc7; done)
            | (exfalso; simp at hg190; omega)
            | (exfalso; rcases hxj with h | ⟨_, _, h⟩ <;> simp_all <;> omega)
            | (trace_state; sorry)
        refine Aw.condF rfl rfl (Aw.skip (AIn.n (AThen.n (Aw.region ?_))))
        refine AL.v rfl rfl (B.arith rfl rfl rfl (arith_add64 (by omega)) rfl) ?_
        refine AL.v rfl rfl (B.mA) ?_
        refine AL.move (σ' := ⟨(upd (upd (upd (upd (upd (upd (upd (upd (fun _ => AV.und) 70 (.d (.int .i64 ((k + 1) : Nat)))) 69 (.d (.int .i64 ((4 : Nat) : Int)))) 68 (.own 1 0 4)) 19 (.d (.bool (mTake m who).2.2))) 16 (.d (.bool (mGone m who).2))) 14 (.d (.bool (mCome m who).2))) 6 (.ptr 0 0 0)) 2 (.d (.int .i64 who))), blksOf [.var 60 [.d (.view 2 (m.Queues.map eQueue)), .d (.view 1 (m.Come.map eInt)), .d (.view 1 (m.Boxes.map eL_Letter))], .row 3 60 (List.map eModel [(mSay c m who to text).1, (mCome m who).1, (mGone m who).1, (mTake m who).1])]⟩) (Moved.mk' [] [0, 1] _ (fun g h => by simp at h) (loc_u (loc_u (loc_u (loc_u (loc_u (loc_u (loc_u (loc_u loc_und)))))))) rfl (by decide) (by simp) (at_cons (.va) (at_cons (.row _ _ _) at_nil))) ?_
        refine AL.nil (AThen.n ?_)
        exact ⟨4 - (k + 1), by omega, k + 1, by omega, rfl, rfl⟩
      refine AL.off rfl rfl rfl rfl rfl (by decide) ?_
      refine AL.off rfl rfl rfl rfl rfl (by decide) ?_
      refine AL.gv rfl rfl rfl rfl (B.pF) ?_
      refine AL.v rfl rfl (B.pF) ?_
      refine AL.nil (AThen.n ?_)
      refine Aw.condF rfl (rfl) ?_
      refine Aw.skip (AIn.n (AThen.n (Aw.region ?_)))
      refine AL.v rfl rfl (B.arith rfl rfl rfl (arith_add64 (by omega)) rfl) ?_
      refine AL.v rfl rfl (B.mA) ?_
      refine AL.move (σ' := ⟨(upd (upd (upd (upd (upd (upd (upd (upd (fun _ => AV.und) 70 (.d (.int .i64 ((k + 1) : Nat)))) 69 (.d (.int .i64 ((4 : Nat) : Int)))) 68 (.own 1 0 4)) 19 (.d (.bool (mTake m who).2.2))) 16 (.d (.bool (mGone m who).2))) 14 (.d (.bool (mCome m who).2))) 6 (.ptr 0 0 0)) 2 (.d (.int .i64 who))), blksOf [.var 60 [.d (.view 2 (m.Queues.map eQueue)), .d (.view 1 (m.Come.map eInt)), .d (.view 1 (m.Boxes.map eL_Letter))], .row 3 60 (List.map eModel [(mSay c m who to text).1, (mCome m who).1, (mGone m who).1, (mTake m who).1])]⟩) (Moved.mk' [] [0, 1] _ (fun g h => by simp at h) (loc_u (loc_u (loc_u (loc_u (loc_u (loc_u (loc_u (loc_u loc_und)))))))) rfl (by decide) (by simp) (at_cons (.va) (at_cons (.row _ _ _) at_nil))) ?_
      refine AL.nil (AThen.n ?_)
      exact ⟨4 - (k + 1), by omega, k + 1, by omega, rfl, rfl⟩
    refine AL.off rfl rfl rfl rfl rfl (by decide) ?_
    refine AL.off rfl rfl rfl rfl rfl (by decide) ?_
    refine AL.gv rfl rfl rfl rfl (B.pF) ?_
    refine AL.gv rfl rfl rfl rfl (B.mA) ?_
    refine AL.off rfl rfl rfl rfl rfl (by decide) ?_
    refine AL.off rfl rfl rfl rfl rfl (by decide) ?_
    refine AL.gv rfl rfl rfl rfl (B.pF) ?_
    refine AL.v rfl rfl (B.pF) ?_
    refine AL.nil (AThen.n ?_)
    refine Aw.condF rfl (rfl) ?_
    refine Aw.skip (AIn.n (AThen.n (Aw.region ?_)))
    refine AL.v rfl rfl (B.arith rfl rfl rfl (arith_add64 (by omega)) rfl) ?_
    refine AL.v rfl rfl (B.mA) ?_
    refine AL.move (σ' := ⟨(upd (upd (upd (upd (upd (upd (upd (upd (fun _ => AV.und) 70 (.d (.int .i64 ((k + 1) : Nat)))) 69 (.d (.int .i64 ((4 : Nat) : Int)))) 68 (.own 1 0 4)) 19 (.d (.bool (mTake m who).2.2))) 16 (.d (.bool (mGone m who).2))) 14 (.d (.bool (mCome m who).2))) 6 (.ptr 0 0 0)) 2 (.d (.int .i64 who))), blksOf [.var 60 [.d (.view 2 (m.Queues.map eQueue)), .d (.view 1 (m.Come.map eInt)), .d (.view 1 (m.Boxes.map eL_Letter))], .row 3 60 (List.map eModel [(mSay c m who to text).1, (mCome m who).1, (mGone m who).1, (mTake m who).1])]⟩) (Moved.mk' [] [0, 1] _ (fun g h => by simp at h) (loc_u (loc_u (loc_u (loc_u (loc_u (loc_u (loc_u (loc_u loc_und)))))))) rfl (by decide) (by simp) (at_cons (.va) (at_cons (.row _ _ _) at_nil))) ?_
    refine AL.nil (AThen.n ?_)
    exact ⟨4 - (k + 1), by omega, k + 1, by omega, rfl, rfl⟩
  refine Aw.condF rfl rfl (Aw.exit (AThen.e (AThen.e (AIn.e (AThen.n (Aw.seq (Aw.region ?_)))))))
  refine AL.v rfl rfl (B.mA) ?_
  refine AL.nil (AThen.n (Aw.ret (APost.r ?_)))
  refine Ret.all [] rfl (.cons (.t (.d _)) .nil) gs_nil (.refl _) (.d _) ⟨congrArg (fun b => AV.d (.bool b)) ?_, rfl⟩
  first
    | rfl
    | (exfalso; simp at hc0; done)
    | (exfalso; simp at hg82; omega)
    | (exfalso; simp at hg91; omega)
    | (exfalso; simp at hc3; omega)
    | (exfalso; have h := hap.no (by simpa using hg109); rw [h, sameM_self] at hc4; simp at hc4; done)
    | (exfalso; simp at hc7; done)
    | (exfalso; simp at hg190; omega)
    | (exfalso; rcases hxj with h | ⟨_, _, h⟩ <;> simp_all <;> omega)
    | (trace_state; sorry)

end Go.Proofs.Ytmkfpfnjimmmaaa
