/- The walks of package model. Printed by sep.py. -/
import Derived.Test.YtmkfpfnjimmmaaaSepN
namespace Go.Proofs.Ytmkfpfnjimmmaaa
open Go.RowKit
set_option linter.unusedVariables false
set_option linter.unusedSimpArgs false

theorem en_shallot_model_client (us : Array Value) (u : World) : (callFunc 85 us).run Try.prog u = .ok (.enter 85 us) u := by kernel_rfl
theorem en_shallot_queue_Put (us : Array Value) (u : World) : (callFunc 86 us).run Try.prog u = .ok (.enter 86 us) u := by kernel_rfl
theorem en_shallot_model_put_shallot_api_Queue_ (us : Array Value) (u : World) : (callFunc 87 us).run Try.prog u = .ok (.enter 87 us) u := by kernel_rfl
theorem en_shallot_model_put___shallot_api_Letter_ (us : Array Value) (u : World) : (callFunc 94 us).run Try.prog u = .ok (.enter 94 us) u := by kernel_rfl
theorem en_slices_Clone___shallot_api_Letter_shallot_api_Letter_ (us : Array Value) (u : World) : (callFunc 95 us).run Try.prog u = .ok (.enter 95 us) u := by kernel_rfl
theorem en_shallot_model_put_int_ (us : Array Value) (u : World) : (callFunc 96 us).run Try.prog u = .ok (.enter 96 us) u := by kernel_rfl
theorem en_shallot_queue_Head (us : Array Value) (u : World) : (callFunc 97 us).run Try.prog u = .ok (.enter 97 us) u := by kernel_rfl
theorem en_shallot_queue_Pop (us : Array Value) (u : World) : (callFunc 98 us).run Try.prog u = .ok (.enter 98 us) u := by kernel_rfl
theorem fl_api_Letter_2 : fldOf Try.prog 46 2 = some (2, false, 1) := by kernel_rfl
theorem fl_api_Model_0 : fldOf Try.prog 60 0 = some (0, false, 1) := by kernel_rfl
theorem fl_api_Model_1 : fldOf Try.prog 60 1 = some (1, false, 1) := by kernel_rfl
theorem fl_api_Model_2 : fldOf Try.prog 60 2 = some (2, false, 1) := by kernel_rfl
theorem ty_Lapi_Queue : tyOf Try.prog 56 = some (false, 1) := by kernel_rfl
theorem ty_Lint : tyOf Try.prog 57 = some (false, 1) := by kernel_rfl
theorem ty_LLapi_Letter : tyOf Try.prog 58 = some (false, 1) := by kernel_rfl
theorem ty_api_Model : tyOf Try.prog 60 = some (true, 3) := by kernel_rfl
theorem zr_api_Model : zeroAV Try.prog 60 = some [.nsl, .nsl, .nsl] := by kernel_rfl


def mClient (m : ModelV) (k : Int) : Bool := decide (0 ≤ k) && decide (k < m.Queues.length) && decide (k < m.Come.length) && decide (k < m.Boxes.length)
theorem mClient_at {m : ModelV} {x : Int} (h : mClient m x = true) : ∃ k : Nat, x = k ∧ k < m.Queues.length ∧ k < m.Come.length ∧ k < m.Boxes.length := by
  simp [mClient] at h
  exact ⟨x.toNat, by omega, by omega, by omega, by omega⟩
/-- How many wait. -/
def mWaiting (m : ModelV) (k : Int) : Int := if mClient m k then ((m.Queues.getD k.toNat .zero).Items.length : Int) else 0
def mSay (c : CfgV) (m : ModelV) (k to : Int) (text : List UInt8) : ModelV × Int :=
  if mClient m k then (⟨m.Queues.set k.toNat (qPut c (m.Queues.getD k.toNat .zero) k to text).1, m.Come, m.Boxes⟩, (qPut c (m.Queues.getD k.toNat .zero) k to text).2) else (m, 3)
def mCome (m : ModelV) (k : Int) : ModelV × Bool :=
  if mClient m k then
    match m.Come[k.toNat]?, m.Queues[k.toNat]? with
    | some a, some q =>
      if a < 0 then (m, false) else
        match q.Items[a.toNat]? with
        | none => (m, false)
        | some l => if mClient m l.To then (⟨m.Queues, m.Come.set k.toNat (a + 1), m.Boxes.set l.To.toNat (m.Boxes.getD l.To.toNat [] ++ [l])⟩, true) else (m, false)
    | _, _ => (m, false)
  else (m, false)
def mGone (m : ModelV) (k : Int) : ModelV × Bool :=
  if mClient m k then
    match m.Come[k.toNat]?, m.Queues[k.toNat]? with
    | some a, some q =>
      if a ≤ 0 then (m, false) else
        match q.Items with
        | [] => (m, false)
        | _ :: t => (⟨m.Queues.set k.toNat ⟨q.Next, t⟩, m.Come.set k.toNat (a - 1), m.Boxes⟩, true)
    | _, _ => (m, false)
  else (m, false)
def mTake (m : ModelV) (k : Int) : ModelV × LetterV × Bool :=
  if mClient m k then
    match m.Boxes[k.toNat]? with
    | some (x :: t) => (⟨m.Queues, m.Come, m.Boxes.set k.toNat t⟩, x, true)
    | _ => (m, .zero, false)
  else (m, .zero, false)

/-- A list of letters that may be copied. -/
def okL (l : List LetterV) : Prop := (l.length + 1) * 56 ≤ 140737488355328 ∧ ∀ x ∈ l, x.Text.length ≤ 140737488355328
/-- A model that may be copied. -/
structure okM (m : ModelV) : Prop where
  qs : m.Queues.length * 32 ≤ 140737488355328
  cs : m.Come.length * 8 ≤ 140737488355328
  bs : m.Boxes.length * 24 ≤ 140737488355328
  q : ∀ q ∈ m.Queues, okL q.Items ∧ q.Next < 18446744073709551616
  b : ∀ b ∈ m.Boxes, okL b
  c : ∀ a ∈ m.Come, -9223372036854775808 ≤ a ∧ a ≤ 9223372036854775807
theorem okM.atQ {k : Nat} {m : ModelV} {q : QueueV} (h : okM m) (hk : m.Queues[k]? = some q) : okQ q ∧ q.Next < 18446744073709551616 ∧ (q.Items.length + 1) * 56 ≤ 140737488355328 := by
  obtain ⟨h1, h2⟩ := h.q q (List.mem_of_getElem? hk)
  exact ⟨h1, h2, h1.1⟩
theorem eqs_sz (l : List QueueV) : ∀ (i : Nat) (y : List D), (l.map eQueue)[i]? = some y → y.length = 2 := fun i y h => by
  obtain ⟨x, _, rfl⟩ := List.mem_map.1 (List.mem_of_getElem? h); rfl
theorem eis_sz (l : List Int) : ∀ (i : Nat) (y : List D), (l.map eInt)[i]? = some y → y.length = 1 := fun i y h => by
  obtain ⟨x, _, rfl⟩ := List.mem_map.1 (List.mem_of_getElem? h); rfl
theorem ebs_sz (l : List (List LetterV)) : ∀ (i : Nat) (y : List D), (l.map eL_Letter)[i]? = some y → y.length = 1 := fun i y h => by
  obtain ⟨x, _, rfl⟩ := List.mem_map.1 (List.mem_of_getElem? h); rfl

set_option maxRecDepth 100000 in
theorem smodel_client (m : ModelV) (k : Int) :
    ACalls Try.prog 85 [aModel m, .d (.int .i64 k)] (fun r bs => r = .d (.bool (mClient m k)) ∧ bs = []) := by
  refine ACalls.of Try.func85 rfl (Nat.le_of_ble_eq_true rfl) ?_
  show Aw _ _ _ _ ⟨_, _⟩
  refine Aw.seq (Aw.region ?_)
  refine AL.u rfl rfl (B.bA (g := 0)) ?_
  refine AL.v rfl rfl (B.mA) ?_
  refine AL.nil (AThen.n (Aw.seq (Aw.region ?_)))
  refine AL.v rfl rfl (B.mA) ?_
  refine AL.v rfl rfl (B.cmp rfl rfl rfl rfl rfl) ?_
  refine AL.v rfl rfl (B.mA) ?_
  refine AL.cases (t := 7) rfl (fun hg7 => ?_) (fun hg7 => ?_)
  · refine AL.gv rfl rfl rfl rfl (B.mA) ?_
    refine AL.gv rfl rfl rfl rfl (B.fA fl_api_Model_0) ?_
    refine AL.gv rfl rfl rfl rfl (B.l1 ty_Lapi_Queue) ?_
    refine AL.gv rfl rfl rfl rfl (B.nA Try.underlying56) ?_
    refine AL.gv rfl rfl rfl rfl (B.cmp rfl rfl rfl rfl rfl) ?_
    refine AL.v rfl rfl (B.pT) ?_
    refine AL.v rfl rfl (B.mA) ?_
    refine AL.cases (t := 14) rfl (fun hg14 => ?_) (fun hg14 => ?_)
    · refine AL.gv rfl rfl rfl rfl (B.mA) ?_
      refine AL.gv rfl rfl rfl rfl (B.fA fl_api_Model_1) ?_
      refine AL.gv rfl rfl rfl rfl (B.l1 ty_Lint) ?_
      refine AL.gv rfl rfl rfl rfl (B.nA Try.underlying57) ?_
      refine AL.gv rfl rfl rfl rfl (B.cmp rfl rfl rfl rfl rfl) ?_
      refine AL.v rfl rfl (B.pT) ?_
      refine AL.v rfl rfl (B.mA) ?_
      refine AL.cases (t := 21) rfl (fun hg21 => ?_) (fun hg21 => ?_)
      · refine AL.gv rfl rfl rfl rfl (B.mA) ?_
        refine AL.gv rfl rfl rfl rfl (B.fA fl_api_Model_2) ?_
        refine AL.gv rfl rfl rfl rfl (B.l1 ty_LLapi_Letter) ?_
        refine AL.gv rfl rfl rfl rfl (B.nA Try.underlying58) ?_
        refine AL.gv rfl rfl rfl rfl (B.cmp rfl rfl rfl rfl rfl) ?_
        refine AL.v rfl rfl (B.pT) ?_
        refine AL.v rfl rfl (B.mA) ?_
        refine AL.nil (AThen.n (Aw.ret (APost.r ?_)))
        refine Ret.all [] rfl (.cons (.t (.d _)) .nil) gs_nil (.refl _) (.d _) ⟨congrArg (fun b => AV.d (.bool b)) ?_, rfl⟩
        simp_all [mClient] <;> (intros; omega)
      refine AL.off rfl rfl rfl rfl rfl (by decide) ?_
      refine AL.off rfl rfl rfl rfl rfl (by decide) ?_
      refine AL.off rfl rfl rfl rfl rfl (by decide) ?_
      refine AL.off rfl rfl rfl rfl rfl (by decide) ?_
      refine AL.off rfl rfl rfl rfl rfl (by decide) ?_
      refine AL.v rfl rfl (B.pF) ?_
      refine AL.v rfl rfl (B.mA) ?_
      refine AL.nil (AThen.n (Aw.ret (APost.r ?_)))
      refine Ret.all [] rfl (.cons (.t (.d _)) .nil) gs_nil (.refl _) (.d _) ⟨congrArg (fun b => AV.d (.bool b)) ?_, rfl⟩
      simp_all [mClient] <;> (intros; omega)
    refine AL.off rfl rfl rfl rfl rfl (by decide) ?_
    refine AL.off rfl rfl rfl rfl rfl (by decide) ?_
    refine AL.off rfl rfl rfl rfl rfl (by decide) ?_
    refine AL.off rfl rfl rfl rfl rfl (by decide) ?_
    refine AL.off rfl rfl rfl rfl rfl (by decide) ?_
    refine AL.v rfl rfl (B.pF) ?_
    refine AL.v rfl rfl (B.mA) ?_
    refine AL.off rfl rfl rfl rfl rfl (by decide) ?_
    refine AL.off rfl rfl rfl rfl rfl (by decide) ?_
    refine AL.off rfl rfl rfl rfl rfl (by decide) ?_
    refine AL.off rfl rfl rfl rfl rfl (by decide) ?_
    refine AL.off rfl rfl rfl rfl rfl (by decide) ?_
    refine AL.v rfl rfl (B.pF) ?_
    refine AL.v rfl rfl (B.mA) ?_
    refine AL.nil (AThen.n (Aw.ret (APost.r ?_)))
    refine Ret.all [] rfl (.cons (.t (.d _)) .nil) gs_nil (.refl _) (.d _) ⟨congrArg (fun b => AV.d (.bool b)) ?_, rfl⟩
    simp_all [mClient] <;> (intros; omega)
  refine AL.off rfl rfl rfl rfl rfl (by decide) ?_
  refine AL.off rfl rfl rfl rfl rfl (by decide) ?_
  refine AL.off rfl rfl rfl rfl rfl (by decide) ?_
  refine AL.off rfl rfl rfl rfl rfl (by decide) ?_
  refine AL.off rfl rfl rfl rfl rfl (by decide) ?_
  refine AL.v rfl rfl (B.pF) ?_
  refine AL.v rfl rfl (B.mA) ?_
  refine AL.off rfl rfl rfl rfl rfl (by decide) ?_
  refine AL.off rfl rfl rfl rfl rfl (by decide) ?_
  refine AL.off rfl rfl rfl rfl rfl (by decide) ?_
  refine AL.off rfl rfl rfl rfl rfl (by decide) ?_
  refine AL.off rfl rfl rfl rfl rfl (by decide) ?_
  refine AL.v rfl rfl (B.pF) ?_
  refine AL.v rfl rfl (B.mA) ?_
  refine AL.off rfl rfl rfl rfl rfl (by decide) ?_
  refine AL.off rfl rfl rfl rfl rfl (by decide) ?_
  refine AL.off rfl rfl rfl rfl rfl (by decide) ?_
  refine AL.off rfl rfl rfl rfl rfl (by decide) ?_
  refine AL.off rfl rfl rfl rfl rfl (by decide) ?_
  refine AL.v rfl rfl (B.pF) ?_
  refine AL.v rfl rfl (B.mA) ?_
  refine AL.nil (AThen.n (Aw.ret (APost.r ?_)))
  refine Ret.all [] rfl (.cons (.t (.d _)) .nil) gs_nil (.refl _) (.d _) ⟨congrArg (fun b => AV.d (.bool b)) ?_, rfl⟩
  simp_all [mClient] <;> (intros; omega)

set_option maxRecDepth 100000 in
theorem smodel_waiting (m : ModelV) (k : Int) :
    ACalls Try.prog 54 [aModel m, .d (.int .i64 k)] (fun r bs => r = .d (.int .i64 (mWaiting m k)) ∧ bs = []) := by
  refine ACalls.of Try.func54 rfl (Nat.le_of_ble_eq_true rfl) ?_
  show Aw _ _ _ _ ⟨_, _⟩
  refine Aw.seq (Aw.region ?_)
  refine AL.u rfl rfl (B.bA (g := 0)) ?_
  refine AL.v rfl rfl (B.mA) ?_
  refine AL.nil (AThen.n (Aw.seq (Aw.seq (Aw.region ?_))))
  refine AL.v rfl rfl (B.lN ty_api_Model) ?_
  refine AL.v rfl rfl (B.mA) ?_
  refine AL.v rfl rfl (B.call0 (k := 1) rfl en_shallot_model_client (smodel_client m k) (.c (.c .nil))) ?_
  refine AL.v rfl rfl (B.not rfl rfl rfl) ?_
  refine AL.nil (AThen.n ?_)
  refine Aw.cases (t := 8) rfl (fun hc0 => ?_) (fun hc0 => ?_)
  · have hcl : mClient m k = false := by simpa using hc0
    refine Aw.condT rfl rfl (Aw.seq (Aw.region ?_))
    refine AL.v rfl rfl (B.mA) ?_
    refine AL.nil (AThen.n (Aw.ret (AThen.r (APost.r ?_))))
    refine Ret.all [] rfl (.cons (.t (.d _)) .nil) gs_nil (.refl _) (.d _) ⟨congrArg (fun x => AV.d (.int .i64 x)) ?_, rfl⟩
    simp [mWaiting, hcl]
  have hcl : mClient m k = true := by simpa using hc0
  obtain ⟨i, rfl, hi1, hi2, hi3⟩ := mClient_at hcl
  obtain ⟨q, hq⟩ : ∃ q, m.Queues[i]? = some q := ⟨_, List.getElem?_eq_getElem hi1⟩
  refine Aw.condF rfl rfl (Aw.skip (AThen.n (Aw.seq (Aw.region ?_))))
  refine AL.v rfl rfl (B.fA fl_api_Model_0) ?_
  refine AL.v rfl rfl (B.l1 ty_Lapi_Queue) ?_
  refine AL.v rfl rfl (B.mA) ?_
  refine AL.v rfl rfl (B.idxView (i := i) rfl el_Lapi_Queue (by first | exact .view _ _ | exact .lent _ _) rfl rfl (map_at hq) rfl) ?_
  refine AL.v rfl rfl (B.gA fl_api_Queue_1) ?_
  refine AL.v rfl rfl (B.l1 ty_Lapi_Letter) ?_
  refine AL.v rfl rfl (B.nA Try.underlying74) ?_
  refine AL.v rfl rfl (B.mA) ?_
  refine AL.nil (AThen.n (Aw.ret (APost.r ?_)))
  refine Ret.all [] rfl (.cons (.t (.d _)) .nil) gs_nil (.refl _) (.d _) ⟨congrArg (fun x => AV.d (.int .i64 x)) ?_, rfl⟩
  simp [mWaiting, hcl, hq]

set_option maxRecDepth 100000 in
theorem smodel_say (c : CfgV) (m : ModelV) (hm : okM m) (k to : Int) (text : List UInt8) (ht : text.length ≤ 140737488355328) :
    ACalls Try.prog 51 [aCfg c, aModel m, .d (.int .i64 k), .d (.int .i64 to), .d (.view 1 (text.map eByte))] (fun r bs => r = .tup [aModel (mSay c m k to text).1, .d (.int .i64 (mSay c m k to text).2)] ∧ bs = []) := by
  refine ACalls.of Try.func51 rfl (Nat.le_of_ble_eq_true rfl) ?_
  show Aw _ _ _ _ ⟨_, _⟩
  refine Aw.seq (Aw.region ?_)
  refine AL.u rfl rfl (B.bA (g := 0)) ?_
  refine AL.u rfl rfl (B.bA (g := 1)) ?_
  refine AL.u rfl rfl (B.aA (g := 2) zr_api_Model) ?_
  refine AL.v rfl rfl (B.mA) ?_
  refine AL.nil (AThen.n (Aw.seq (Aw.seq (Aw.region ?_))))
  refine AL.v rfl rfl (B.lN ty_api_Model) ?_
  refine AL.v rfl rfl (B.mA) ?_
  refine AL.v rfl rfl (B.call0 (k := 3) rfl en_shallot_model_client (smodel_client m k) (.c (.c .nil))) ?_
  refine AL.v rfl rfl (B.not rfl rfl rfl) ?_
  refine AL.nil (AThen.n ?_)
  refine Aw.cases (t := 17) rfl (fun hc0 => ?_) (fun hc0 => ?_)
  · have hcl : mClient m k = false := by simpa using hc0
    refine Aw.condT rfl rfl (Aw.seq (Aw.region ?_))
    refine AL.v rfl rfl (B.lN ty_api_Model) ?_
    refine AL.s rfl rfl (B.sA ty_api_Model) ?_
    refine AL.v rfl rfl (B.mA) ?_
    refine AL.nil (AThen.n (Aw.ret (AThen.r (APost.r ?_))))
    refine Ret.a1 [] rfl (.m ty_api_Model (.t .nil)) gs_nil ⟨?_, rfl⟩
    rw [show mSay c m k to text = (m, 3) from by simp [mSay, hcl]]
    rfl
  have hcl : mClient m k = true := by simpa using hc0
  obtain ⟨i, rfl, hi1, hi2, hi3⟩ := mClient_at hcl
  obtain ⟨q, hq⟩ : ∃ q, m.Queues[i]? = some q := ⟨_, List.getElem?_eq_getElem hi1⟩
  obtain ⟨hQ1, hQ2, hQ3⟩ := hm.atQ hq
  refine Aw.condF rfl rfl (Aw.skip (AThen.n (Aw.seq (Aw.drawn' mixed ?_))))
  refine CD.v rfl rfl (B.lN ty_api_Cfg) ?_
  refine CD.v rfl rfl (B.fA fl_api_Model_0) ?_
  refine CD.v rfl rfl (B.l1 ty_Lapi_Queue) ?_
  refine CD.v rfl rfl (B.mA) ?_
  refine CD.v rfl rfl (B.idxView (i := i) rfl el_Lapi_Queue (by first | exact .view _ _ | exact .lent _ _) rfl rfl (map_at hq) rfl) ?_
  refine CD.v rfl rfl (B.lN ty_api_Queue) ?_
  refine CD.v rfl rfl (B.mA) ?_
  refine CD.v rfl rfl (B.mA) ?_
  refine CD.v rfl rfl (B.mA) ?_
  refine CD.v rfl rfl (B.call0 (k := 3) rfl en_shallot_queue_Put (squeue_put c q hQ1 i to text ht hQ2) (.c (.c (.c (.c (.c .nil)))))) ?_
  refine CD.v rfl rfl (B.mA) ?_
  refine CD.v rfl rfl (B.xA) ?_
  refine CD.v rfl rfl (B.xA) ?_
  refine CD.u rfl rfl (B.aA (g := 3) zr_api_Queue) ?_
  refine CD.s rfl rfl (B.sA ty_api_Queue) ?_
  refine CD.v rfl rfl (B.mA) ?_
  refine CD.nil (by kernel_rfl) ?_
  refine AThen.n (Aw.seq (Aw.region ?_))
  refine AL.v rfl rfl (B.fA fl_api_Model_0) ?_
  refine AL.v rfl rfl (B.l1 ty_Lapi_Queue) ?_
  refine AL.v rfl rfl (B.mA) ?_
  refine AL.v rfl rfl (B.lN ty_api_Queue) ?_
  refine AL.v rfl rfl (B.call0 (k := 4) rfl en_shallot_model_put_shallot_api_Queue_ (ACalls.plain (sput_que (m.Queues.map eQueue) i _ _ (by rw [List.length_map]; exact hi1) (eqs_sz _) (by rw [List.length_map]; exact hm.qs)) (by simp)) (.c (.c (.c .nil)))) ?_
  refine AL.v rfl rfl (B.fA fl_api_Model_0) ?_
  refine AL.s rfl rfl (B.sA ty_Lapi_Queue) ?_
  refine AL.nil (AThen.n (Aw.seq (Aw.region ?_)))
  refine AL.v rfl rfl (B.lN ty_api_Model) ?_
  refine AL.v rfl rfl (B.mA) ?_
  refine AL.s rfl rfl (B.sA ty_api_Model) ?_
  refine AL.v rfl rfl (B.mA) ?_
  refine AL.nil (AThen.n (Aw.ret (APost.r ?_)))
  refine Ret.a1 [] rfl (.m ty_api_Model (.t .nil)) gs_nil ⟨?_, rfl⟩
  rw [show mSay c m i to text = (⟨m.Queues.set i (qPut c q i to text).1, m.Come, m.Boxes⟩, (qPut c q i to text).2) from by simp [mSay, hcl, hq]]
  simp only [aModel, List.map_set]
  rfl

set_option maxRecDepth 100000 in
theorem smodel_come (m : ModelV) (hm : okM m) (k : Int) :
    ACalls Try.prog 56 [aModel m, .d (.int .i64 k)] (fun r bs => r = .tup [aModel (mCome m k).1, .d (.bool (mCome m k).2)] ∧ bs = []) := by
  refine ACalls.of Try.func56 rfl (Nat.le_of_ble_eq_true rfl) ?_
  show Aw _ _ _ _ ⟨_, _⟩
  refine Aw.seq (Aw.region ?_)
  refine AL.u rfl rfl (B.bA (g := 0)) ?_
  refine AL.u rfl rfl (B.aA (g := 1) zr_api_Model) ?_
  refine AL.v rfl rfl (B.mA) ?_
  refine AL.nil (AThen.n (Aw.seq (Aw.seq (Aw.region ?_))))
  refine AL.v rfl rfl (B.lN ty_api_Model) ?_
  refine AL.v rfl rfl (B.mA) ?_
  refine AL.v rfl rfl (B.call0 (k := 2) rfl en_shallot_model_client (smodel_client m k) (.c (.c .nil))) ?_
  refine AL.v rfl rfl (B.not rfl rfl rfl) ?_
  refine AL.nil (AThen.n ?_)
  refine Aw.cases (t := 12) rfl (fun hc0 => ?_) (fun hc0 => ?_)
  · have hcl : mClient m k = false := by simpa using hc0
    refine Aw.condT rfl rfl (Aw.seq (Aw.region ?_))
    refine AL.v rfl rfl (B.lN ty_api_Model) ?_
    refine AL.s rfl rfl (B.sA ty_api_Model) ?_
    refine AL.v rfl rfl (B.mA) ?_
    refine AL.nil (AThen.n (Aw.ret (AThen.r (APost.r ?_))))
    refine Ret.a1 [] rfl (.m ty_api_Model (.t .nil)) gs_nil ⟨?_, rfl⟩
    rw [show mCome m k = (m, false) from by simp [mCome, hcl]]
    rfl
  have hcl : mClient m k = true := by simpa using hc0
  obtain ⟨i, rfl, hi1, hi2, hi3⟩ := mClient_at hcl
  obtain ⟨q, hq⟩ : ∃ q, m.Queues[i]? = some q := ⟨_, List.getElem?_eq_getElem hi1⟩
  obtain ⟨a, ha⟩ : ∃ a, m.Come[i]? = some a := ⟨_, List.getElem?_eq_getElem hi2⟩
  obtain ⟨hQ1, hQ2, hQ3⟩ := hm.atQ hq
  refine Aw.condF rfl rfl (Aw.skip (AThen.n (Aw.seq (Aw.drawn' mixed ?_))))
  refine CD.v rfl rfl (B.fA fl_api_Model_1) ?_
  refine CD.v rfl rfl (B.l1 ty_Lint) ?_
  refine CD.v rfl rfl (B.mA) ?_
  refine CD.v rfl rfl (B.idxView (i := i) rfl el_Lint (by first | exact .view _ _ | exact .lent _ _) rfl rfl (map_at ha) rfl) ?_
  refine CD.v rfl rfl (B.l1 ty_int) ?_
  refine CD.v rfl rfl (B.fA fl_api_Model_0) ?_
  refine CD.v rfl rfl (B.l1 ty_Lapi_Queue) ?_
  refine CD.v rfl rfl (B.mA) ?_
  refine CD.v rfl rfl (B.idxView (i := i) rfl el_Lapi_Queue (by first | exact .view _ _ | exact .lent _ _) rfl rfl (map_at hq) rfl) ?_
  refine CD.v rfl rfl (B.gA fl_api_Queue_1) ?_
  refine CD.v rfl rfl (B.l1 ty_Lapi_Letter) ?_
  refine CD.v rfl rfl (B.mA) ?_
  refine CD.v rfl rfl (B.mA) ?_
  refine CD.nil (by kernel_rfl) ?_
  refine AThen.n (Aw.seq (Aw.seq (Aw.drawn' mixed ?_)))
  refine CD.v rfl rfl (B.mA) ?_
  refine CD.v rfl rfl (B.cmp rfl rfl rfl rfl rfl) ?_
  refine CD.v rfl rfl (B.mA) ?_
  refine CD.cases (t := 27) rfl (fun hg27 => ?_) (fun hg27 => ?_)
  · refine CD.off rfl rfl rfl rfl rfl (by decide) ?_
    refine CD.off rfl rfl rfl rfl rfl (by decide) ?_
    refine CD.off rfl rfl rfl rfl rfl (by decide) ?_
    refine CD.off rfl rfl rfl rfl rfl (by decide) ?_
    refine CD.v rfl rfl (B.pT) ?_
    refine CD.v rfl rfl (B.mA) ?_
    refine CD.off rfl rfl rfl rfl rfl (by decide) ?_
    refine CD.off rfl rfl rfl rfl rfl (by decide) ?_
    refine CD.off rfl rfl rfl rfl rfl (by decide) ?_
    refine CD.off rfl rfl rfl rfl rfl (by decide) ?_
    refine CD.off rfl rfl rfl rfl rfl (by decide) ?_
    refine CD.off rfl rfl rfl rfl rfl (by decide) ?_
    refine CD.off rfl rfl rfl rfl rfl (by decide) ?_
    refine CD.off rfl rfl rfl rfl rfl (by decide) ?_
    refine CD.v rfl rfl (B.pT) ?_
    refine CD.nil (by kernel_rfl) ?_
    refine AThen.n ?_
    refine Aw.condT rfl (rfl) ?_
    refine Aw.seq (Aw.region ?_)
    refine AL.v rfl rfl (B.lN ty_api_Model) ?_
    refine AL.s rfl rfl (B.sA ty_api_Model) ?_
    refine AL.v rfl rfl (B.mA) ?_
    refine AL.nil (AThen.n (Aw.ret (AThen.r (APost.r ?_))))
    refine Ret.a1 [] rfl (.m ty_api_Model (.t .nil)) gs_nil ⟨?_, rfl⟩
    have h1 : a < 0 := by simpa using hg27
    rw [show mCome m i = (m, false) from by simp [mCome, hcl, ha, hq, h1]]
    rfl
  refine CD.gv rfl rfl rfl rfl (B.mA) ?_
  refine CD.gv rfl rfl rfl rfl (B.mA) ?_
  refine CD.gv rfl rfl rfl rfl (B.nA Try.underlying74) ?_
  refine CD.gv rfl rfl rfl rfl (B.cmp rfl rfl rfl rfl rfl) ?_
  refine CD.v rfl rfl (B.pF) ?_
  refine CD.v rfl rfl (B.mA) ?_
  refine CD.cases (t := 33) rfl (fun hg33 => ?_) (fun hg33 => ?_)
  · 
    refine CD.off rfl rfl rfl rfl rfl (by decide) ?_
    refine CD.off rfl rfl rfl rfl rfl (by decide) ?_
    refine CD.off rfl rfl rfl rfl rfl (by decide) ?_
    refine CD.off rfl rfl rfl rfl rfl (by decide) ?_
    refine CD.off rfl rfl rfl rfl rfl (by decide) ?_
    refine CD.off rfl rfl rfl rfl rfl (by decide) ?_
    refine CD.off rfl rfl rfl rfl rfl (by decide) ?_
    refine CD.off rfl rfl rfl rfl rfl (by decide) ?_
    refine CD.v rfl rfl (B.pT) ?_
    refine CD.nil (by kernel_rfl) ?_
    refine AThen.n ?_
    refine Aw.condT rfl (rfl) ?_
    refine Aw.seq (Aw.region ?_)
    refine AL.v rfl rfl (B.lN ty_api_Model) ?_
    refine AL.s rfl rfl (B.sA ty_api_Model) ?_
    refine AL.v rfl rfl (B.mA) ?_
    refine AL.nil (AThen.n (Aw.ret (AThen.r (APost.r ?_))))
    refine Ret.a1 [] rfl (.m ty_api_Model (.t .nil)) gs_nil ⟨?_, rfl⟩
    have h1 : ¬ a < 0 := by simpa using hg27
    have h2 : q.Items[a.toNat]? = none := List.getElem?_eq_none (by simp at hg33; omega)
    rw [show mCome m i = (m, false) from by simp [mCome, hcl, ha, hq, h1, h2]]
    rfl
  obtain ⟨j, rfl⟩ : ∃ j : Nat, a = j := ⟨a.toNat, by simp at hg27; omega⟩
  have hj : j < q.Items.length := by simp at hg33; omega
  obtain ⟨⟨lc, lf, lt, ls, lx⟩, hl⟩ : ∃ l, q.Items[j]? = some l := ⟨_, List.getElem?_eq_getElem hj⟩
  refine CD.gv rfl rfl rfl rfl (B.lN ty_api_Model) ?_
  refine CD.gv rfl rfl rfl rfl (B.mA) ?_
  refine CD.gv rfl rfl rfl rfl (B.mA) ?_
  refine CD.gv rfl rfl rfl rfl (B.idxView (i := j) rfl el_Lapi_Letter (by first | exact .view _ _ | exact .lent _ _) rfl rfl (map_at hl) rfl) ?_
  refine CD.gv rfl rfl rfl rfl (B.gA fl_api_Letter_2) ?_
  refine CD.gv rfl rfl rfl rfl (B.l1 ty_int) ?_
  refine CD.gv rfl rfl rfl rfl (B.call0 (k := 2) rfl en_shallot_model_client (smodel_client m lt) (.c (.c .nil))) ?_
  refine CD.gv rfl rfl rfl rfl (B.not rfl rfl rfl) ?_
  refine CD.v rfl rfl (B.pF) ?_
  refine CD.nil (by kernel_rfl) ?_
  refine AThen.n ?_
  refine Aw.cases (t := 42) rfl (fun hc1 => ?_) (fun hc1 => ?_)
  · refine Aw.condT rfl rfl (Aw.seq (Aw.region ?_))
    refine AL.v rfl rfl (B.lN ty_api_Model) ?_
    refine AL.s rfl rfl (B.sA ty_api_Model) ?_
    refine AL.v rfl rfl (B.mA) ?_
    refine AL.nil (AThen.n (Aw.ret (AThen.r (APost.r ?_))))
    refine Ret.a1 [] rfl (.m ty_api_Model (.t .nil)) gs_nil ⟨?_, rfl⟩
    have h1 : ¬ (j : Int) < 0 := by omega
    have h3 : mClient m lt = false := by simpa using hc1
    rw [show mCome m i = (m, false) from by simp [mCome, hcl, ha, hq, h1, hl, h3]]
    rfl
  have hcl2 : mClient m lt = true := by simpa using hc1
  obtain ⟨p, rfl, hp1, hp2, hp3⟩ := mClient_at hcl2
  obtain ⟨b, hb⟩ : ∃ b, m.Boxes[p]? = some b := ⟨_, List.getElem?_eq_getElem hp3⟩
  obtain ⟨hb1, hb2⟩ := hm.b b (List.mem_of_getElem? hb)
  have hlx : lx.length ≤ 140737488355328 := (hm.q q (List.mem_of_getElem? hq)).1.2 _ (List.mem_of_getElem? hl)
  refine Aw.condF rfl rfl (Aw.skip (AThen.n (Aw.seq (Aw.region ?_))))
  refine AL.v rfl rfl (B.mA) ?_
  refine AL.v rfl rfl (B.mA) ?_
  refine AL.v rfl rfl (B.idxView (i := j) rfl el_Lapi_Letter (by first | exact .view _ _ | exact .lent _ _) rfl rfl (map_at hl) rfl) ?_
  refine AL.v rfl rfl (B.lN ty_api_Letter) ?_
  refine AL.u rfl rfl (B.aA (g := 2) zr_api_Letter) ?_
  refine AL.s rfl rfl (B.sA ty_api_Letter) ?_
  refine AL.nil (AThen.n (Aw.seq (Aw.region ?_)))
  refine AL.v rfl rfl (B.fA fl_api_Letter_4) ?_
  refine AL.v rfl rfl (B.l1 ty_Luint8) ?_
  refine AL.v rfl rfl (B.call0 (k := 3) rfl en_slices_Clone___byte_byte_ (ACalls.plain (sclone_byte (lx.map eByte) (by rw [List.length_map, Nat.mul_one]; exact hlx)) rfl) (.c .nil)) ?_
  refine AL.v rfl rfl (B.fA fl_api_Letter_4) ?_
  refine AL.s rfl rfl (B.sA ty_Luint8) ?_
  refine AL.nil (AThen.n (Aw.seq (Aw.drawn' mixed ?_)))
  refine CD.v rfl rfl (B.fA fl_api_Model_2) ?_
  refine CD.v rfl rfl (B.l1 ty_LLapi_Letter) ?_
  refine CD.v rfl rfl (B.fA fl_api_Letter_2) ?_
  refine CD.v rfl rfl (B.l1 ty_int) ?_
  refine CD.v rfl rfl (B.fA fl_api_Model_2) ?_
  refine CD.v rfl rfl (B.l1 ty_LLapi_Letter) ?_
  refine CD.v rfl rfl (B.fA fl_api_Letter_2) ?_
  refine CD.v rfl rfl (B.l1 ty_int) ?_
  refine CD.v rfl rfl (B.idxView (i := p) rfl el_LLapi_Letter (by first | exact .view _ _ | exact .lent _ _) rfl rfl (map_at hb) rfl) ?_
  refine CD.v rfl rfl (B.l1 ty_Lapi_Letter) ?_
  refine CD.uc rfl rfl (B.call (k := 3) (rb := []) (hc := (sclone_let (b.map eLetter) (by rw [List.length_map]; omega))) rfl en_slices_Clone___shallot_api_Letter_shallot_api_Letter_ (ArgsA.cons (by first | exact .d _ | exact .lent _ _ | exact .nv _ | exact .nlent _ | exact .nsl | exact .lnd _ _ | exact .own (by simp) rfl rfl | exact .aggL (by repeat (first | exact L2.nil | (apply L2.cons; focus (first | exact .d _ | exact .lent _ _ | exact .nv _ | exact .nlent _ | exact .nsl | exact .lnd _ _ | exact .own (by simp) rfl rfl))))) ArgsA.nil) rfl (by first | exact .d _ | exact .nsl | exact .own (g := 0) (g' := 3) ⟨by simp, rfl⟩ | exact .aggL (by repeat (first | exact L2.nil | (apply L2.cons; focus (first | exact .d _ | exact .nsl | exact .own (g := 0) (g' := 3) ⟨by simp, rfl⟩)))) | exact .tupL (by repeat (first | exact L2.nil | (apply L2.cons; focus (first | exact .aggL (by repeat (first | exact L2.nil | (apply L2.cons; focus (first | exact .d _ | exact .nsl | exact .own (g := 0) (g' := 3) ⟨by simp, rfl⟩)))) | exact .d _ | exact .nsl | exact .own (g := 0) (g' := 3) ⟨by simp, rfl⟩))))) rfl) ?_
  refine CD.v rfl rfl (B.lN ty_api_Letter) ?_
  refine CD.u rfl rfl (B.bslice (g := 4) rfl el_Lapi_Letter (by rw [zr_api_Letter]; rfl) (by decide) rfl (by decide) (by decide) rfl rfl rfl rfl) ?_
  refine CD.u3 rfl rfl (DoesB.frz2 rfl (by first | rfl | simp) (B.append (g' := 5) rfl el_Lapi_Letter (by rw [zr_api_Letter]; rfl) by_api_Letter (by decide) rfl rfl rfl (by first | exact .own rfl rfl rfl | exact .view (by first | exact .view _ _ | exact .lent _ _) | exact .nil rfl) (by unfold maxLen; simp; omega) (by simp; omega) rfl (by decide) rfl)) ?_
  refine CD.v rfl rfl (B.call0 (k := 6) rfl en_shallot_model_put___shallot_api_Letter_ (ACalls.plain (sput_box (m.Boxes.map eL_Letter) p _ (by rw [List.length_map]; exact hp3) (ebs_sz _) (by rw [List.length_map]; exact hm.bs)) (by simp)) (.c (.c (.c .nil)))) ?_
  refine CD.v rfl rfl (B.fA fl_api_Model_2) ?_
  refine CD.s rfl rfl (B.sA ty_LLapi_Letter) ?_
  refine CD.nil (by kernel_rfl) ?_
  refine AThen.n (Aw.seq (Aw.region ?_))
  refine AL.v rfl rfl (B.fA fl_api_Model_1) ?_
  refine AL.v rfl rfl (B.l1 ty_Lint) ?_
  refine AL.v rfl rfl (B.mA) ?_
  refine AL.v rfl rfl (B.mA) ?_
  refine AL.v rfl rfl (B.arith rfl rfl rfl (arith_add64 (by omega)) rfl) ?_
  refine AL.v rfl rfl (B.call0 (k := 6) rfl en_shallot_model_put_int_ (ACalls.plain (sput_int (m.Come.map eInt) i _ (by rw [List.length_map]; exact hi2) (eis_sz _) (by rw [List.length_map]; exact hm.cs)) (by simp)) (.c (.c (.c .nil)))) ?_
  refine AL.v rfl rfl (B.fA fl_api_Model_1) ?_
  refine AL.s rfl rfl (B.sA ty_Lint) ?_
  refine AL.nil (AThen.n (Aw.seq (Aw.region ?_)))
  refine AL.v rfl rfl (B.lN ty_api_Model) ?_
  refine AL.s rfl rfl (B.sA ty_api_Model) ?_
  refine AL.v rfl rfl (B.mA) ?_
  refine AL.nil (AThen.n (Aw.ret (APost.r ?_)))
  refine Ret.a1 [] rfl (.m ty_api_Model (.t .nil)) gs_nil ⟨?_, rfl⟩
  have h1 : ¬ (j : Int) < 0 := by omega
  rw [show mCome m i = (⟨m.Queues, m.Come.set i ((j : Int) + 1), m.Boxes.set p (b ++ [⟨lc, lf, p, ls, lx⟩])⟩, true) from by simp [mCome, hcl, ha, hq, h1, hl, hcl2, hb]]
  simp only [aModel, List.map_set, eL_Letter, List.map_append, List.map_cons, List.map_nil]
  rfl

set_option maxRecDepth 100000 in
theorem smodel_gone (m : ModelV) (hm : okM m) (k : Int) :
    ACalls Try.prog 58 [aModel m, .d (.int .i64 k)] (fun r bs => r = .tup [aModel (mGone m k).1, .d (.bool (mGone m k).2)] ∧ bs = []) := by
  refine ACalls.of Try.func58 rfl (Nat.le_of_ble_eq_true rfl) ?_
  show Aw _ _ _ _ ⟨_, _⟩
  refine Aw.seq (Aw.region ?_)
  refine AL.u rfl rfl (B.bA (g := 0)) ?_
  refine AL.u rfl rfl (B.aA (g := 1) zr_api_Model) ?_
  refine AL.v rfl rfl (B.mA) ?_
  refine AL.nil (AThen.n (Aw.seq (Aw.seq (Aw.region ?_))))
  refine AL.v rfl rfl (B.lN ty_api_Model) ?_
  refine AL.v rfl rfl (B.mA) ?_
  refine AL.v rfl rfl (B.call0 (k := 2) rfl en_shallot_model_client (smodel_client m k) (.c (.c .nil))) ?_
  refine AL.v rfl rfl (B.not rfl rfl rfl) ?_
  refine AL.v rfl rfl (B.mA) ?_
  refine AL.cases (t := 14) rfl (fun hg14 => ?_) (fun hg14 => ?_)
  · have hcl : mClient m k = false := by simpa using hg14
    refine AL.off rfl rfl rfl rfl rfl (by decide) ?_
    refine AL.off rfl rfl rfl rfl rfl (by decide) ?_
    refine AL.off rfl rfl rfl rfl rfl (by decide) ?_
    refine AL.off rfl rfl rfl rfl rfl (by decide) ?_
    refine AL.off rfl rfl rfl rfl rfl (by decide) ?_
    refine AL.off rfl rfl rfl rfl rfl (by decide) ?_
    refine AL.v rfl rfl (B.pT) ?_
    refine AL.nil (AThen.n ?_)
    refine Aw.condT rfl (rfl) ?_
    refine Aw.seq (Aw.region ?_)
    refine AL.v rfl rfl (B.lN ty_api_Model) ?_
    refine AL.s rfl rfl (B.sA ty_api_Model) ?_
    refine AL.v rfl rfl (B.mA) ?_
    refine AL.nil (AThen.n (Aw.ret (AThen.r (APost.r ?_))))
    refine Ret.a1 [] rfl (.m ty_api_Model (.t .nil)) gs_nil ⟨?_, rfl⟩
    rw [show mGone m k = (m, false) from by simp [mGone, hcl]]
    rfl
  have hcl : mClient m k = true := by simpa using hg14
  obtain ⟨i, rfl, hi1, hi2, hi3⟩ := mClient_at hcl
  obtain ⟨q, hq⟩ : ∃ q, m.Queues[i]? = some q := ⟨_, List.getElem?_eq_getElem hi1⟩
  obtain ⟨a, ha⟩ : ∃ a, m.Come[i]? = some a := ⟨_, List.getElem?_eq_getElem hi2⟩
  obtain ⟨hQ1, hQ2, hQ3⟩ := hm.atQ hq
  obtain ⟨hr1, hr2⟩ := hm.c a (List.mem_of_getElem? ha)
  refine AL.gv rfl rfl rfl rfl (B.fA fl_api_Model_1) ?_
  refine AL.gv rfl rfl rfl rfl (B.l1 ty_Lint) ?_
  refine AL.gv rfl rfl rfl rfl (B.mA) ?_
  refine AL.gv rfl rfl rfl rfl (B.idxView (i := i) rfl el_Lint (by first | exact .view _ _ | exact .lent _ _) rfl rfl (map_at ha) rfl) ?_
  refine AL.gv rfl rfl rfl rfl (B.l1 ty_int) ?_
  refine AL.gv rfl rfl rfl rfl (B.cmp rfl rfl rfl rfl rfl) ?_
  refine AL.v rfl rfl (B.pF) ?_
  refine AL.nil (AThen.n ?_)
  refine Aw.cases (t := 21) rfl (fun hc0 => ?_) (fun hc0 => ?_)
  · refine Aw.condT rfl rfl (Aw.seq (Aw.region ?_))
    refine AL.v rfl rfl (B.lN ty_api_Model) ?_
    refine AL.s rfl rfl (B.sA ty_api_Model) ?_
    refine AL.v rfl rfl (B.mA) ?_
    refine AL.nil (AThen.n (Aw.ret (AThen.r (APost.r ?_))))
    refine Ret.a1 [] rfl (.m ty_api_Model (.t .nil)) gs_nil ⟨?_, rfl⟩
    have h1 : a ≤ 0 := by simpa using hc0
    rw [show mGone m i = (m, false) from by simp [mGone, hcl, ha, hq, h1]]
    rfl
  refine Aw.condF rfl rfl (Aw.skip (AThen.n (Aw.seq (Aw.region ?_))))
  refine AL.v rfl rfl (B.fA fl_api_Model_0) ?_
  refine AL.v rfl rfl (B.l1 ty_Lapi_Queue) ?_
  refine AL.v rfl rfl (B.mA) ?_
  refine AL.v rfl rfl (B.idxView (i := i) rfl el_Lapi_Queue (by first | exact .view _ _ | exact .lent _ _) rfl rfl (map_at hq) rfl) ?_
  refine AL.v rfl rfl (B.lN ty_api_Queue) ?_
  refine AL.v rfl rfl (B.call0 (k := 2) rfl en_shallot_queue_Head (squeue_head q hQ1) (.c .nil)) ?_
  refine AL.v rfl rfl (B.mA) ?_
  refine AL.v rfl rfl (B.xA) ?_
  refine AL.v rfl rfl (B.xA) ?_
  refine AL.u rfl rfl (B.aA (g := 2) zr_api_Letter) ?_
  refine AL.s rfl rfl (B.sA ty_api_Letter) ?_
  refine AL.v rfl rfl (B.mA) ?_
  refine AL.nil (AThen.n (Aw.seq (Aw.seq (Aw.region ?_))))
  refine AL.v rfl rfl (B.mA) ?_
  refine AL.v rfl rfl (B.not rfl rfl rfl) ?_
  refine AL.nil (AThen.n ?_)
  refine Aw.cases (t := 33) rfl (fun hc1 => ?_) (fun hc1 => ?_)
  · refine Aw.condT rfl rfl (Aw.seq (Aw.region ?_))
    refine AL.v rfl rfl (B.lN ty_api_Model) ?_
    refine AL.s rfl rfl (B.sA ty_api_Model) ?_
    refine AL.v rfl rfl (B.mA) ?_
    refine AL.nil (AThen.n (Aw.ret (AThen.r (APost.r ?_))))
    refine Ret.a1 [] rfl (.m ty_api_Model (.t .nil)) gs_nil ⟨?_, rfl⟩
    have h1 : ¬ a ≤ 0 := by simpa using hc0
    have h2 : q.Items = [] := by
      cases he : q.Items with
      | nil => rfl
      | cons x t => simp [qHead, he] at hc1
    rw [show mGone m i = (m, false) from by simp [mGone, hcl, ha, hq, h1, h2]]
    rfl
  refine Aw.condF rfl rfl (Aw.skip (AThen.n (Aw.seq (Aw.drawn' mixed ?_))))
  refine CD.v rfl rfl (B.fA fl_api_Model_0) ?_
  refine CD.v rfl rfl (B.l1 ty_Lapi_Queue) ?_
  refine CD.v rfl rfl (B.mA) ?_
  refine CD.v rfl rfl (B.idxView (i := i) rfl el_Lapi_Queue (by first | exact .view _ _ | exact .lent _ _) rfl rfl (map_at hq) rfl) ?_
  refine CD.v rfl rfl (B.lN ty_api_Queue) ?_
  refine CD.v rfl rfl (B.fA fl_api_Letter_3) ?_
  refine CD.v rfl rfl (B.l1 ty_uint64) ?_
  refine CD.v rfl rfl (B.call0 (k := 3) rfl en_shallot_queue_Pop (squeue_pop q hQ1 (qHead q).1.Seq) (.c (.c .nil))) ?_
  refine CD.v rfl rfl (B.mA) ?_
  refine CD.v rfl rfl (B.xA) ?_
  refine CD.v rfl rfl (B.xA) ?_
  refine CD.u rfl rfl (B.aA (g := 3) zr_api_Queue) ?_
  refine CD.s rfl rfl (B.sA ty_api_Queue) ?_
  refine CD.v rfl rfl (B.mA) ?_
  refine CD.nil (by kernel_rfl) ?_
  refine AThen.n (Aw.seq (Aw.region ?_))
  refine AL.v rfl rfl (B.fA fl_api_Model_0) ?_
  refine AL.v rfl rfl (B.l1 ty_Lapi_Queue) ?_
  refine AL.v rfl rfl (B.mA) ?_
  refine AL.v rfl rfl (B.lN ty_api_Queue) ?_
  refine AL.v rfl rfl (B.call0 (k := 4) rfl en_shallot_model_put_shallot_api_Queue_ (ACalls.plain (sput_que (m.Queues.map eQueue) i _ _ (by rw [List.length_map]; exact hi1) (eqs_sz _) (by rw [List.length_map]; exact hm.qs)) (by simp)) (.c (.c (.c .nil)))) ?_
  refine AL.v rfl rfl (B.fA fl_api_Model_0) ?_
  refine AL.s rfl rfl (B.sA ty_Lapi_Queue) ?_
  refine AL.nil (AThen.n (Aw.seq (Aw.drawn' mixed ?_)))
  refine CD.v rfl rfl (B.fA fl_api_Model_1) ?_
  refine CD.v rfl rfl (B.l1 ty_Lint) ?_
  refine CD.v rfl rfl (B.mA) ?_
  refine CD.v rfl rfl (B.fA fl_api_Model_1) ?_
  refine CD.v rfl rfl (B.l1 ty_Lint) ?_
  refine CD.v rfl rfl (B.mA) ?_
  refine CD.v rfl rfl (B.idxView (i := i) rfl el_Lint (by first | exact .view _ _ | exact .lent _ _) rfl rfl (map_at ha) rfl) ?_
  refine CD.v rfl rfl (B.l1 ty_int) ?_
  refine CD.v rfl rfl (B.arith rfl rfl rfl (arith_sub64 (by simp at hc0; omega)) rfl) ?_
  refine CD.v rfl rfl (B.call0 (k := 4) rfl en_shallot_model_put_int_ (ACalls.plain (sput_int (m.Come.map eInt) i _ (by rw [List.length_map]; exact hi2) (eis_sz _) (by rw [List.length_map]; exact hm.cs)) (by simp)) (.c (.c (.c .nil)))) ?_
  refine CD.v rfl rfl (B.fA fl_api_Model_1) ?_
  refine CD.s rfl rfl (B.sA ty_Lint) ?_
  refine CD.nil (by kernel_rfl) ?_
  refine AThen.n (Aw.seq (Aw.region ?_))
  refine AL.v rfl rfl (B.lN ty_api_Model) ?_
  refine AL.s rfl rfl (B.sA ty_api_Model) ?_
  refine AL.v rfl rfl (B.mA) ?_
  refine AL.nil (AThen.n (Aw.ret (APost.r ?_)))
  refine Ret.a1 [] rfl (.m ty_api_Model (.t .nil)) gs_nil ⟨?_, rfl⟩
  have h1 : ¬ a ≤ 0 := by simpa using hc0
  obtain ⟨x, t, h2⟩ : ∃ x t, q.Items = x :: t := by
    cases he : q.Items with
    | nil => simp [qHead, he] at hc1
    | cons x t => exact ⟨x, t, rfl⟩
  rw [show mGone m i = (⟨m.Queues.set i ⟨q.Next, t⟩, m.Come.set i (a - 1), m.Boxes⟩, true) from by simp [mGone, hcl, ha, hq, h1, h2], show qPop q (qHead q).1.Seq = (⟨q.Next, t⟩, true) from by simp [qPop, qHead, h2]]
  simp only [aModel, List.map_set]
  rfl

set_option maxRecDepth 100000 in
theorem smodel_take (m : ModelV) (hm : okM m) (k : Int) :
    ACalls Try.prog 60 [aModel m, .d (.int .i64 k)] (fun r bs => r = .tup [aModel (mTake m k).1, aLetter (mTake m k).2.1, .d (.bool (mTake m k).2.2)] ∧ bs = []) := by
  refine ACalls.of Try.func60 rfl (Nat.le_of_ble_eq_true rfl) ?_
  show Aw _ _ _ _ ⟨_, _⟩
  refine Aw.seq (Aw.region ?_)
  refine AL.u rfl rfl (B.bA (g := 0)) ?_
  refine AL.u rfl rfl (B.aA (g := 1) zr_api_Model) ?_
  refine AL.u rfl rfl (B.aA (g := 2) zr_api_Letter) ?_
  refine AL.v rfl rfl (B.mA) ?_
  refine AL.nil (AThen.n (Aw.seq (Aw.seq (Aw.region ?_))))
  refine AL.v rfl rfl (B.lN ty_api_Model) ?_
  refine AL.v rfl rfl (B.mA) ?_
  refine AL.v rfl rfl (B.call0 (k := 3) rfl en_shallot_model_client (smodel_client m k) (.c (.c .nil))) ?_
  refine AL.v rfl rfl (B.not rfl rfl rfl) ?_
  refine AL.v rfl rfl (B.mA) ?_
  refine AL.cases (t := 12) rfl (fun hg12 => ?_) (fun hg12 => ?_)
  · have hcl : mClient m k = false := by simpa using hg12
    refine AL.off rfl rfl rfl rfl rfl (by decide) ?_
    refine AL.off rfl rfl rfl rfl rfl (by decide) ?_
    refine AL.off rfl rfl rfl rfl rfl (by decide) ?_
    refine AL.off rfl rfl rfl rfl rfl (by decide) ?_
    refine AL.off rfl rfl rfl rfl rfl (by decide) ?_
    refine AL.off rfl rfl rfl rfl rfl (by decide) ?_
    refine AL.off rfl rfl rfl rfl rfl (by decide) ?_
    refine AL.v rfl rfl (B.pT) ?_
    refine AL.nil (AThen.n ?_)
    refine Aw.condT rfl (rfl) ?_
    refine Aw.seq (Aw.region ?_)
    refine AL.v rfl rfl (B.lN ty_api_Model) ?_
    refine AL.v rfl rfl (B.build rfl bd_api_Letter rfl rfl) ?_
    refine AL.s rfl rfl (B.sA ty_api_Model) ?_
    refine AL.s rfl rfl (B.sA ty_api_Letter) ?_
    refine AL.v rfl rfl (B.mA) ?_
    refine AL.nil (AThen.n (Aw.ret (AThen.r (APost.r ?_))))
    refine Ret.a1 [] rfl (.m ty_api_Model (.m ty_api_Letter (.t .nil))) gs_nil ⟨?_, rfl⟩
    rw [show mTake m k = (m, .zero, false) from by simp [mTake, hcl]]
    rfl
  have hcl : mClient m k = true := by simpa using hg12
  obtain ⟨i, rfl, hi1, hi2, hi3⟩ := mClient_at hcl
  obtain ⟨b, hb⟩ : ∃ b, m.Boxes[i]? = some b := ⟨_, List.getElem?_eq_getElem hi3⟩
  obtain ⟨hb1, hb2⟩ := hm.b b (List.mem_of_getElem? hb)
  refine AL.gv rfl rfl rfl rfl (B.fA fl_api_Model_2) ?_
  refine AL.gv rfl rfl rfl rfl (B.l1 ty_LLapi_Letter) ?_
  refine AL.gv rfl rfl rfl rfl (B.mA) ?_
  refine AL.gv rfl rfl rfl rfl (B.idxView (i := i) rfl el_LLapi_Letter (by first | exact .view _ _ | exact .lent _ _) rfl rfl (map_at hb) rfl) ?_
  refine AL.gv rfl rfl rfl rfl (B.l1 ty_Lapi_Letter) ?_
  refine AL.gv rfl rfl rfl rfl (B.nA Try.underlying74) ?_
  refine AL.gv rfl rfl rfl rfl (B.cmp rfl rfl rfl rfl rfl) ?_
  refine AL.v rfl rfl (B.pF) ?_
  refine AL.nil (AThen.n ?_)
  refine Aw.cases (t := 20) rfl (fun hc0 => ?_) (fun hc0 => ?_)
  · refine Aw.condT rfl rfl (Aw.seq (Aw.region ?_))
    refine AL.v rfl rfl (B.lN ty_api_Model) ?_
    refine AL.v rfl rfl (B.build rfl bd_api_Letter rfl rfl) ?_
    refine AL.s rfl rfl (B.sA ty_api_Model) ?_
    refine AL.s rfl rfl (B.sA ty_api_Letter) ?_
    refine AL.v rfl rfl (B.mA) ?_
    refine AL.nil (AThen.n (Aw.ret (AThen.r (APost.r ?_))))
    refine Ret.a1 [] rfl (.m ty_api_Model (.m ty_api_Letter (.t .nil))) gs_nil ⟨?_, rfl⟩
    obtain rfl : b = [] := by
      cases b with
      | nil => rfl
      | cons x t => simp at hc0; omega
    rw [show mTake m i = (m, .zero, false) from by simp [mTake, hcl, hb]]
    rfl
  obtain ⟨x, t, rfl⟩ : ∃ x t, b = x :: t := by
    cases b with
    | nil => simp at hc0
    | cons x t => exact ⟨x, t, rfl⟩
  have hx : (x :: t)[0]? = some x := rfl
  have hlx : x.Text.length ≤ 140737488355328 := hb2 x (List.mem_cons_self ..)
  rw [List.length_cons] at hb1
  refine Aw.condF rfl rfl (Aw.skip (AThen.n (Aw.seq (Aw.region ?_))))
  refine AL.v rfl rfl (B.fA fl_api_Model_2) ?_
  refine AL.v rfl rfl (B.l1 ty_LLapi_Letter) ?_
  refine AL.v rfl rfl (B.mA) ?_
  refine AL.v rfl rfl (B.idxView (i := i) rfl el_LLapi_Letter (by first | exact .view _ _ | exact .lent _ _) rfl rfl (map_at hb) rfl) ?_
  refine AL.v rfl rfl (B.l1 ty_Lapi_Letter) ?_
  refine AL.v rfl rfl (B.idxView (i := 0) rfl el_Lapi_Letter (by first | exact .view _ _ | exact .lent _ _) rfl rfl (map_at hx) rfl) ?_
  refine AL.v rfl rfl (B.lN ty_api_Letter) ?_
  refine AL.u rfl rfl (B.aA (g := 3) zr_api_Letter) ?_
  refine AL.s rfl rfl (B.sA ty_api_Letter) ?_
  refine AL.nil (AThen.n (Aw.seq (Aw.region ?_)))
  refine AL.v rfl rfl (B.fA fl_api_Letter_4) ?_
  refine AL.v rfl rfl (B.l1 ty_Luint8) ?_
  refine AL.v rfl rfl (B.call0 (k := 4) rfl en_slices_Clone___byte_byte_ (ACalls.plain (sclone_byte (x.Text.map eByte) (by rw [List.length_map, Nat.mul_one]; exact hlx)) rfl) (.c .nil)) ?_
  refine AL.v rfl rfl (B.fA fl_api_Letter_4) ?_
  refine AL.s rfl rfl (B.sA ty_Luint8) ?_
  refine AL.nil (AThen.n (Aw.seq (Aw.drawn' mixed ?_)))
  refine CD.v rfl rfl (B.fA fl_api_Model_2) ?_
  refine CD.v rfl rfl (B.l1 ty_LLapi_Letter) ?_
  refine CD.v rfl rfl (B.mA) ?_
  refine CD.v rfl rfl (B.fA fl_api_Model_2) ?_
  refine CD.v rfl rfl (B.l1 ty_LLapi_Letter) ?_
  refine CD.v rfl rfl (B.mA) ?_
  refine CD.v rfl rfl (B.idxView (i := i) rfl el_LLapi_Letter (by first | exact .view _ _ | exact .lent _ _) rfl rfl (map_at hb) rfl) ?_
  refine CD.v rfl rfl (B.l1 ty_Lapi_Letter) ?_
  refine CD.v rfl rfl (B.sliceView (l := 1) rfl el_Lapi_Letter (by first | exact .view _ _ | exact .lent _ _) ⟨.i64, 1, rfl, rfl⟩ rfl (by simp) (Nat.le_refl _) rfl) ?_
  rw [show slAV false 5 ((((x :: t).map eLetter).drop 1).take (((x :: t).map eLetter).length - 1)) = .d (.view 5 (t.map eLetter)) from by rw [drop1 rfl]; rfl]
  refine CD.v rfl rfl (B.call0 (k := 4) rfl en_slices_Clone___shallot_api_Letter_shallot_api_Letter_ (ACalls.plain (sclone_let (t.map eLetter) (by rw [List.length_map]; omega)) rfl) (.c .nil)) ?_
  refine CD.v rfl rfl (B.call0 (k := 4) rfl en_shallot_model_put___shallot_api_Letter_ (ACalls.plain (sput_box (m.Boxes.map eL_Letter) i _ (by rw [List.length_map]; exact hi3) (ebs_sz _) (by rw [List.length_map]; exact hm.bs)) (by simp)) (.c (.c (.c .nil)))) ?_
  refine CD.v rfl rfl (B.fA fl_api_Model_2) ?_
  refine CD.s rfl rfl (B.sA ty_LLapi_Letter) ?_
  refine CD.nil (by kernel_rfl) ?_
  refine AThen.n (Aw.seq (Aw.drawn' mixed ?_))
  refine CD.v rfl rfl (B.lN ty_api_Model) ?_
  refine CD.v rfl rfl (B.lN ty_api_Letter) ?_
  refine CD.s rfl rfl (B.sA ty_api_Model) ?_
  refine CD.s rfl rfl (B.sA ty_api_Letter) ?_
  refine CD.v rfl rfl (B.mA) ?_
  refine CD.nil (by kernel_rfl) ?_
  refine AThen.n (Aw.ret (APost.r ?_))
  refine Ret.a1 [] rfl (.m ty_api_Model (.m ty_api_Letter (.t .nil))) gs_nil ⟨?_, rfl⟩
  rw [show mTake m i = (⟨m.Queues, m.Come, m.Boxes.set i t⟩, x, true) from by simp [mTake, hcl, hb]]
  simp only [aModel, List.map_set, eL_Letter]
  rfl

end Go.Proofs.Ytmkfpfnjimmmaaa
