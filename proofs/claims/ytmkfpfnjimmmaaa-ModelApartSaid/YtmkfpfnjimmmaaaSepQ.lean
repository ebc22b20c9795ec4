/- The walks that make a model, and the example. Printed by sep.py. -/
import Derived.Test.YtmkfpfnjimmmaaaSepP
namespace Go.Proofs.Ytmkfpfnjimmmaaa
open Go.RowKit
set_option linter.unusedVariables false
set_option linter.unusedSimpArgs false

theorem bd_api_Cfg : bldOf Try.prog 55 = some ([.nsl, .d (.int .i64 0), .d (.int .i64 0), .d (.int .i64 0), .d (.int .i64 0), .d (.int .i64 0), .d (.int .i64 0), .d (.int .i64 0), .d (.int .i64 0), .d (.int .u64 0), .d (.int .u64 0)], [(0, 1), (1, 1), (2, 1), (3, 1), (4, 1), (5, 1), (6, 1), (7, 1), (8, 1), (9, 1), (10, 1)]) := by kernel_rfl
theorem bd_api_Model : bldOf Try.prog 60 = some ([.nsl, .nsl, .nsl], [(0, 1), (1, 1), (2, 1)]) := by kernel_rfl
theorem bd_api_Queue : bldOf Try.prog 77 = some ([.d (.int .u64 0), .nsl], [(0, 1), (1, 1)]) := by kernel_rfl
theorem en_shallot_key_within (us : Array Value) (u : World) : (callFunc 106 us).run Try.prog u = .ok (.enter 106 us) u := by kernel_rfl
theorem en_shallot_key_Check (us : Array Value) (u : World) : (callFunc 82 us).run Try.prog u = .ok (.enter 82 us) u := by kernel_rfl
theorem en_shallot_queue_New (us : Array Value) (u : World) : (callFunc 83 us).run Try.prog u = .ok (.enter 83 us) u := by kernel_rfl
theorem en_shallot_shallotref07_within (us : Array Value) (u : World) : (callFunc 99 us).run Try.prog u = .ok (.enter 99 us) u := by kernel_rfl
theorem fl_api_Cfg_0 : fldOf Try.prog 55 0 = some (0, false, 1) := by kernel_rfl
theorem fl_api_Cfg_1 : fldOf Try.prog 55 1 = some (1, false, 1) := by kernel_rfl
theorem fl_api_Cfg_10 : fldOf Try.prog 55 10 = some (10, false, 1) := by kernel_rfl
theorem fl_api_Cfg_2 : fldOf Try.prog 55 2 = some (2, false, 1) := by kernel_rfl
theorem fl_api_Cfg_5 : fldOf Try.prog 55 5 = some (5, false, 1) := by kernel_rfl
theorem fl_api_Cfg_6 : fldOf Try.prog 55 6 = some (6, false, 1) := by kernel_rfl
theorem fl_api_Cfg_7 : fldOf Try.prog 55 7 = some (7, false, 1) := by kernel_rfl
theorem fl_api_Cfg_8 : fldOf Try.prog 55 8 = some (8, false, 1) := by kernel_rfl
theorem fl_api_Cfg_9 : fldOf Try.prog 55 9 = some (9, false, 1) := by kernel_rfl
theorem zr_api_Cfg : zeroAV Try.prog 55 = some [.nsl, .d (.int .i64 0), .d (.int .i64 0), .d (.int .i64 0), .d (.int .i64 0), .d (.int .i64 0), .d (.int .i64 0), .d (.int .i64 0), .d (.int .i64 0), .d (.int .u64 0), .d (.int .u64 0)] := by kernel_rfl


def inB (n a b : Int) : Bool := decide (a ≤ n) && decide (n ≤ b)
def cfgOk (c : CfgV) : Bool := decide (c.Seed.length ≤ 64) && inB c.Chain 1 8 && inB c.Standby 0 8 && inB c.Clients 1 8 && inB c.Queue 1 64 && inB c.Close 1 10000 && (decide (c.Close < c.Long) && decide (c.Long ≤ 10000)) && inB c.Again 1 10000 && inB c.Window 1 64 && decide (1 ≤ c.Round) && decide (1 ≤ c.Seq)
def mNew (c : CfgV) : ModelV × Int := if cfgOk c then (⟨List.replicate c.Clients.toNat ⟨c.Seq, []⟩, List.replicate c.Clients.toNat 0, List.replicate c.Clients.toNat []⟩, 0) else (.zero, 1)
theorem repl_at {α : Type} {k n : Nat} {a z : α} (h : k < n) : (List.replicate k a ++ List.replicate (n - k) z)[k]? = some z := by
  rw [List.getElem?_append_right (by simp), List.length_replicate, Nat.sub_self, List.getElem?_replicate, if_pos (by omega)]
theorem repl_set {α : Type} {k n : Nat} {a z : α} (h : k < n) : (List.replicate k a ++ List.replicate (n - k) z).set k a = List.replicate (k + 1) a ++ List.replicate (n - (k + 1)) z := by
  rw [List.set_append_right _ _ (by simp), List.length_replicate, Nat.sub_self, show n - k = (n - (k + 1)) + 1 by omega, List.replicate_succ, List.set_cons_zero, List.replicate_succ', List.append_assoc]
  rfl

set_option maxRecDepth 100000 in
theorem key_within (n a b : Int) :
    ACalls Try.prog 106 [.d (.int .i64 n), .d (.int .i64 a), .d (.int .i64 b)] (fun r bs => r = .d (.bool (inB n a b)) ∧ bs = []) := by
  refine ACalls.of Try.func106 rfl (Nat.le_of_ble_eq_true rfl) ?_
  show Aw _ _ _ _ ⟨_, _⟩
  refine Aw.seq (Aw.region ?_)
  refine AL.v rfl rfl (B.mA) ?_
  refine AL.nil (AThen.n (Aw.seq (Aw.region ?_)))
  refine AL.v rfl rfl (B.mA) ?_
  refine AL.v rfl rfl (B.mA) ?_
  refine AL.v rfl rfl (B.cmp rfl rfl rfl rfl rfl) ?_
  refine AL.v rfl rfl (B.mA) ?_
  refine AL.cases (t := 10) rfl (fun hg10 => ?_) (fun hg10 => ?_)
  · refine AL.gv rfl rfl rfl rfl (B.mA) ?_
    refine AL.gv rfl rfl rfl rfl (B.mA) ?_
    refine AL.gv rfl rfl rfl rfl (B.cmp rfl rfl rfl rfl rfl) ?_
    refine AL.v rfl rfl (B.pT) ?_
    refine AL.v rfl rfl (B.mA) ?_
    refine AL.nil (AThen.n (Aw.ret (APost.r ?_)))
    refine Ret.all [] rfl (.cons (.t (.d _)) .nil) gs_nil (.refl _) (.d _) ⟨congrArg (fun b => AV.d (.bool b)) ?_, rfl⟩
    simp_all [inB] <;> (intros; omega)
  refine AL.off rfl rfl rfl rfl rfl (by decide) ?_
  refine AL.off rfl rfl rfl rfl rfl (by decide) ?_
  refine AL.off rfl rfl rfl rfl rfl (by decide) ?_
  refine AL.v rfl rfl (B.pF) ?_
  refine AL.v rfl rfl (B.mA) ?_
  refine AL.nil (AThen.n (Aw.ret (APost.r ?_)))
  refine Ret.all [] rfl (.cons (.t (.d _)) .nil) gs_nil (.refl _) (.d _) ⟨congrArg (fun b => AV.d (.bool b)) ?_, rfl⟩
  simp_all [inB] <;> (intros; omega)

set_option maxRecDepth 100000 in
theorem r07_within (n a b : Int) :
    ACalls Try.prog 99 [.d (.int .i64 n), .d (.int .i64 a), .d (.int .i64 b)] (fun r bs => r = .d (.bool (inB n a b)) ∧ bs = []) := by
  refine ACalls.of Try.func99 rfl (Nat.le_of_ble_eq_true rfl) ?_
  show Aw _ _ _ _ ⟨_, _⟩
  refine Aw.seq (Aw.region ?_)
  refine AL.v rfl rfl (B.mA) ?_
  refine AL.nil (AThen.n (Aw.seq (Aw.region ?_)))
  refine AL.v rfl rfl (B.mA) ?_
  refine AL.v rfl rfl (B.mA) ?_
  refine AL.v rfl rfl (B.cmp rfl rfl rfl rfl rfl) ?_
  refine AL.v rfl rfl (B.mA) ?_
  refine AL.cases (t := 10) rfl (fun hg10 => ?_) (fun hg10 => ?_)
  · refine AL.gv rfl rfl rfl rfl (B.mA) ?_
    refine AL.gv rfl rfl rfl rfl (B.mA) ?_
    refine AL.gv rfl rfl rfl rfl (B.cmp rfl rfl rfl rfl rfl) ?_
    refine AL.v rfl rfl (B.pT) ?_
    refine AL.v rfl rfl (B.mA) ?_
    refine AL.nil (AThen.n (Aw.ret (APost.r ?_)))
    refine Ret.all [] rfl (.cons (.t (.d _)) .nil) gs_nil (.refl _) (.d _) ⟨congrArg (fun b => AV.d (.bool b)) ?_, rfl⟩
    simp_all [inB] <;> (intros; omega)
  refine AL.off rfl rfl rfl rfl rfl (by decide) ?_
  refine AL.off rfl rfl rfl rfl rfl (by decide) ?_
  refine AL.off rfl rfl rfl rfl rfl (by decide) ?_
  refine AL.v rfl rfl (B.pF) ?_
  refine AL.v rfl rfl (B.mA) ?_
  refine AL.nil (AThen.n (Aw.ret (APost.r ?_)))
  refine Ret.all [] rfl (.cons (.t (.d _)) .nil) gs_nil (.refl _) (.d _) ⟨congrArg (fun b => AV.d (.bool b)) ?_, rfl⟩
  simp_all [inB] <;> (intros; omega)

set_option maxRecDepth 100000 in
theorem key_check (c : CfgV) :
    ACalls Try.prog 82 [aCfg c] (fun r bs => r = .d (.int .i64 (if cfgOk c then 0 else 1)) ∧ bs = []) := by
  refine ACalls.of Try.func82 rfl (Nat.le_of_ble_eq_true rfl) ?_
  show Aw _ _ _ _ ⟨_, _⟩
  refine Aw.seq (Aw.region ?_)
  refine AL.u rfl rfl (B.bA (g := 0)) ?_
  refine AL.v rfl rfl (B.mA) ?_
  refine AL.nil (AThen.n (Aw.seq (Aw.block (Aw.seq (Aw.seq (Aw.region ?_))))))
  refine AL.v rfl rfl (B.fA fl_api_Cfg_0) ?_
  refine AL.v rfl rfl (B.l1 ty_Luint8) ?_
  refine AL.v rfl rfl (B.nA Try.underlying24) ?_
  refine AL.v rfl rfl (B.cmp rfl rfl rfl rfl rfl) ?_
  refine AL.v rfl rfl (B.mA) ?_
  refine AL.nil (AThen.n ?_)
  refine Aw.cases (t := 3) rfl (fun hc0 => ?_) (fun hc0 => ?_)
  · refine Aw.condT rfl rfl (Aw.skip (AThen.n ?_))
    refine Aw.condT rfl (rfl) ?_
    refine Aw.seq (Aw.region ?_)
    refine AL.v rfl rfl (B.mA) ?_
    refine AL.nil (AThen.n (Aw.ret (AIn.r (AThen.r (APost.r ?_)))))
    refine Ret.all [] rfl (.cons (.t (.d _)) .nil) gs_nil (.refl _) (.d _) ⟨congrArg (fun x => AV.d (.int .i64 x)) ?_, rfl⟩
    simp_all [cfgOk] <;> omega
  refine Aw.condF rfl rfl (Aw.seq (Aw.region ?_))
  refine AL.v rfl rfl (B.fA fl_api_Cfg_1) ?_
  refine AL.v rfl rfl (B.l1 ty_int) ?_
  refine AL.v rfl rfl (B.call0 (k := 1) rfl en_shallot_key_within (key_within c.Chain 1 8) (.c (.c (.c .nil)))) ?_
  refine AL.v rfl rfl (B.not rfl rfl rfl) ?_
  refine AL.v rfl rfl (B.mA) ?_
  refine AL.nil (AThen.n ?_)
  refine Aw.cases (t := 3) rfl (fun hc1 => ?_) (fun hc1 => ?_)
  · refine Aw.condT rfl rfl (Aw.skip (AThen.n ?_))
    refine Aw.condT rfl (rfl) ?_
    refine Aw.seq (Aw.region ?_)
    refine AL.v rfl rfl (B.mA) ?_
    refine AL.nil (AThen.n (Aw.ret (AIn.r (AThen.r (APost.r ?_)))))
    refine Ret.all [] rfl (.cons (.t (.d _)) .nil) gs_nil (.refl _) (.d _) ⟨congrArg (fun x => AV.d (.int .i64 x)) ?_, rfl⟩
    simp_all [cfgOk] <;> omega
  refine Aw.condF rfl rfl (Aw.seq (Aw.region ?_))
  refine AL.v rfl rfl (B.fA fl_api_Cfg_2) ?_
  refine AL.v rfl rfl (B.l1 ty_int) ?_
  refine AL.v rfl rfl (B.call0 (k := 1) rfl en_shallot_key_within (key_within c.Standby 0 8) (.c (.c (.c .nil)))) ?_
  refine AL.v rfl rfl (B.not rfl rfl rfl) ?_
  refine AL.v rfl rfl (B.mA) ?_
  refine AL.nil (AThen.n ?_)
  refine Aw.cases (t := 3) rfl (fun hc2 => ?_) (fun hc2 => ?_)
  · refine Aw.condT rfl rfl (Aw.skip (AThen.n ?_))
    refine Aw.condT rfl (rfl) ?_
    refine Aw.seq (Aw.region ?_)
    refine AL.v rfl rfl (B.mA) ?_
    refine AL.nil (AThen.n (Aw.ret (AIn.r (AThen.r (APost.r ?_)))))
    refine Ret.all [] rfl (.cons (.t (.d _)) .nil) gs_nil (.refl _) (.d _) ⟨congrArg (fun x => AV.d (.int .i64 x)) ?_, rfl⟩
    simp_all [cfgOk] <;> omega
  refine Aw.condF rfl rfl (Aw.seq (Aw.region ?_))
  refine AL.v rfl rfl (B.fA fl_api_Cfg_3) ?_
  refine AL.v rfl rfl (B.l1 ty_int) ?_
  refine AL.v rfl rfl (B.call0 (k := 1) rfl en_shallot_key_within (key_within c.Clients 1 8) (.c (.c (.c .nil)))) ?_
  refine AL.v rfl rfl (B.not rfl rfl rfl) ?_
  refine AL.v rfl rfl (B.mA) ?_
  refine AL.nil (AThen.n ?_)
  refine Aw.cases (t := 3) rfl (fun hc3 => ?_) (fun hc3 => ?_)
  · refine Aw.condT rfl rfl (Aw.skip (AThen.n ?_))
    refine Aw.condT rfl (rfl) ?_
    refine Aw.seq (Aw.region ?_)
    refine AL.v rfl rfl (B.mA) ?_
    refine AL.nil (AThen.n (Aw.ret (AIn.r (AThen.r (APost.r ?_)))))
    refine Ret.all [] rfl (.cons (.t (.d _)) .nil) gs_nil (.refl _) (.d _) ⟨congrArg (fun x => AV.d (.int .i64 x)) ?_, rfl⟩
    simp_all [cfgOk] <;> omega
  refine Aw.condF rfl rfl (Aw.seq (Aw.region ?_))
  refine AL.v rfl rfl (B.fA fl_api_Cfg_4) ?_
  refine AL.v rfl rfl (B.l1 ty_int) ?_
  refine AL.v rfl rfl (B.call0 (k := 1) rfl en_shallot_key_within (key_within c.Queue 1 64) (.c (.c (.c .nil)))) ?_
  refine AL.v rfl rfl (B.not rfl rfl rfl) ?_
  refine AL.v rfl rfl (B.mA) ?_
  refine AL.nil (AThen.n ?_)
  refine Aw.cases (t := 3) rfl (fun hc4 => ?_) (fun hc4 => ?_)
  · refine Aw.condT rfl rfl (Aw.skip (AThen.n ?_))
    refine Aw.condT rfl (rfl) ?_
    refine Aw.seq (Aw.region ?_)
    refine AL.v rfl rfl (B.mA) ?_
    refine AL.nil (AThen.n (Aw.ret (AIn.r (AThen.r (APost.r ?_)))))
    refine Ret.all [] rfl (.cons (.t (.d _)) .nil) gs_nil (.refl _) (.d _) ⟨congrArg (fun x => AV.d (.int .i64 x)) ?_, rfl⟩
    simp_all [cfgOk] <;> omega
  refine Aw.condF rfl rfl (Aw.seq (Aw.region ?_))
  refine AL.v rfl rfl (B.fA fl_api_Cfg_5) ?_
  refine AL.v rfl rfl (B.l1 ty_int) ?_
  refine AL.v rfl rfl (B.call0 (k := 1) rfl en_shallot_key_within (key_within c.Close 1 10000) (.c (.c (.c .nil)))) ?_
  refine AL.v rfl rfl (B.not rfl rfl rfl) ?_
  refine AL.v rfl rfl (B.mA) ?_
  refine AL.nil (AThen.n ?_)
  refine Aw.cases (t := 3) rfl (fun hc5 => ?_) (fun hc5 => ?_)
  · refine Aw.condT rfl rfl (Aw.skip (AThen.n ?_))
    refine Aw.condT rfl (rfl) ?_
    refine Aw.seq (Aw.region ?_)
    refine AL.v rfl rfl (B.mA) ?_
    refine AL.nil (AThen.n (Aw.ret (AIn.r (AThen.r (APost.r ?_)))))
    refine Ret.all [] rfl (.cons (.t (.d _)) .nil) gs_nil (.refl _) (.d _) ⟨congrArg (fun x => AV.d (.int .i64 x)) ?_, rfl⟩
    simp_all [cfgOk] <;> omega
  refine Aw.condF rfl rfl (Aw.seq (Aw.region ?_))
  refine AL.v rfl rfl (B.fA fl_api_Cfg_6) ?_
  refine AL.v rfl rfl (B.l1 ty_int) ?_
  refine AL.v rfl rfl (B.fA fl_api_Cfg_5) ?_
  refine AL.v rfl rfl (B.l1 ty_int) ?_
  refine AL.v rfl rfl (B.cmp rfl rfl rfl rfl rfl) ?_
  refine AL.v rfl rfl (B.mA) ?_
  refine AL.cases (t := 33) rfl (fun hg33 => ?_) (fun hg33 => ?_)
  · refine AL.off rfl rfl rfl rfl rfl (by decide) ?_
    refine AL.off rfl rfl rfl rfl rfl (by decide) ?_
    refine AL.off rfl rfl rfl rfl rfl (by decide) ?_
    refine AL.v rfl rfl (B.pT) ?_
    refine AL.v rfl rfl (B.mA) ?_
    refine AL.nil (AThen.n ?_)
    refine Aw.condT rfl (rfl) ?_
    refine Aw.skip (AThen.n ?_)
    refine Aw.condT rfl (rfl) ?_
    refine Aw.seq (Aw.region ?_)
    refine AL.v rfl rfl (B.mA) ?_
    refine AL.nil (AThen.n (Aw.ret (AIn.r (AThen.r (APost.r ?_)))))
    refine Ret.all [] rfl (.cons (.t (.d _)) .nil) gs_nil (.refl _) (.d _) ⟨congrArg (fun x => AV.d (.int .i64 x)) ?_, rfl⟩
    simp_all [cfgOk] <;> omega
  refine AL.gv rfl rfl rfl rfl (B.fA fl_api_Cfg_6) ?_
  refine AL.gv rfl rfl rfl rfl (B.l1 ty_int) ?_
  refine AL.gv rfl rfl rfl rfl (B.cmp rfl rfl rfl rfl rfl) ?_
  refine AL.v rfl rfl (B.pF) ?_
  refine AL.v rfl rfl (B.mA) ?_
  refine AL.nil (AThen.n ?_)
  refine Aw.cases (t := 3) rfl (fun hc6 => ?_) (fun hc6 => ?_)
  · refine Aw.condT rfl rfl (Aw.skip (AThen.n ?_))
    refine Aw.condT rfl (rfl) ?_
    refine Aw.seq (Aw.region ?_)
    refine AL.v rfl rfl (B.mA) ?_
    refine AL.nil (AThen.n (Aw.ret (AIn.r (AThen.r (APost.r ?_)))))
    refine Ret.all [] rfl (.cons (.t (.d _)) .nil) gs_nil (.refl _) (.d _) ⟨congrArg (fun x => AV.d (.int .i64 x)) ?_, rfl⟩
    simp_all [cfgOk] <;> omega
  refine Aw.condF rfl rfl (Aw.seq (Aw.region ?_))
  refine AL.v rfl rfl (B.fA fl_api_Cfg_7) ?_
  refine AL.v rfl rfl (B.l1 ty_int) ?_
  refine AL.v rfl rfl (B.call0 (k := 1) rfl en_shallot_key_within (key_within c.Again 1 10000) (.c (.c (.c .nil)))) ?_
  refine AL.v rfl rfl (B.not rfl rfl rfl) ?_
  refine AL.v rfl rfl (B.mA) ?_
  refine AL.nil (AThen.n ?_)
  refine Aw.cases (t := 3) rfl (fun hc7 => ?_) (fun hc7 => ?_)
  · refine Aw.condT rfl rfl (Aw.skip (AThen.n ?_))
    refine Aw.condT rfl (rfl) ?_
    refine Aw.seq (Aw.region ?_)
    refine AL.v rfl rfl (B.mA) ?_
    refine AL.nil (AThen.n (Aw.ret (AIn.r (AThen.r (APost.r ?_)))))
    refine Ret.all [] rfl (.cons (.t (.d _)) .nil) gs_nil (.refl _) (.d _) ⟨congrArg (fun x => AV.d (.int .i64 x)) ?_, rfl⟩
    simp_all [cfgOk] <;> omega
  refine Aw.condF rfl rfl (Aw.seq (Aw.region ?_))
  refine AL.v rfl rfl (B.fA fl_api_Cfg_8) ?_
  refine AL.v rfl rfl (B.l1 ty_int) ?_
  refine AL.v rfl rfl (B.call0 (k := 1) rfl en_shallot_key_within (key_within c.Window 1 64) (.c (.c (.c .nil)))) ?_
  refine AL.v rfl rfl (B.not rfl rfl rfl) ?_
  refine AL.v rfl rfl (B.mA) ?_
  refine AL.nil (AThen.n ?_)
  refine Aw.cases (t := 3) rfl (fun hc8 => ?_) (fun hc8 => ?_)
  · refine Aw.condT rfl rfl (Aw.skip (AThen.n ?_))
    refine Aw.condT rfl (rfl) ?_
    refine Aw.seq (Aw.region ?_)
    refine AL.v rfl rfl (B.mA) ?_
    refine AL.nil (AThen.n (Aw.ret (AIn.r (AThen.r (APost.r ?_)))))
    refine Ret.all [] rfl (.cons (.t (.d _)) .nil) gs_nil (.refl _) (.d _) ⟨congrArg (fun x => AV.d (.int .i64 x)) ?_, rfl⟩
    simp_all [cfgOk] <;> omega
  refine Aw.condF rfl rfl (Aw.seq (Aw.region ?_))
  refine AL.v rfl rfl (B.fA fl_api_Cfg_9) ?_
  refine AL.v rfl rfl (B.l1 ty_uint64) ?_
  refine AL.v rfl rfl (B.cmp rfl rfl rfl rfl rfl) ?_
  refine AL.v rfl rfl (B.mA) ?_
  refine AL.nil (AThen.n ?_)
  refine Aw.cases (t := 3) rfl (fun hc9 => ?_) (fun hc9 => ?_)
  · refine Aw.condT rfl rfl (Aw.skip (AThen.n ?_))
    refine Aw.condT rfl (rfl) ?_
    refine Aw.seq (Aw.region ?_)
    refine AL.v rfl rfl (B.mA) ?_
    refine AL.nil (AThen.n (Aw.ret (AIn.r (AThen.r (APost.r ?_)))))
    refine Ret.all [] rfl (.cons (.t (.d _)) .nil) gs_nil (.refl _) (.d _) ⟨congrArg (fun x => AV.d (.int .i64 x)) ?_, rfl⟩
    simp_all [cfgOk] <;> omega
  refine Aw.condF rfl rfl (Aw.region ?_)
  refine AL.v rfl rfl (B.fA fl_api_Cfg_10) ?_
  refine AL.v rfl rfl (B.l1 ty_uint64) ?_
  refine AL.v rfl rfl (B.cmp rfl rfl rfl rfl rfl) ?_
  refine AL.v rfl rfl (B.mA) ?_
  refine AL.nil (AThen.n ?_)
  refine Aw.cases (t := 3) rfl (fun hc10 => ?_) (fun hc10 => ?_)
  · refine Aw.condT rfl rfl (Aw.seq (Aw.region ?_))
    refine AL.v rfl rfl (B.mA) ?_
    refine AL.nil (AThen.n (Aw.ret (AIn.r (AThen.r (APost.r ?_)))))
    refine Ret.all [] rfl (.cons (.t (.d _)) .nil) gs_nil (.refl _) (.d _) ⟨congrArg (fun x => AV.d (.int .i64 x)) ?_, rfl⟩
    simp_all [cfgOk] <;> omega
  refine Aw.condF rfl rfl (Aw.skip (AIn.n (AThen.n (Aw.seq (Aw.region ?_)))))
  refine AL.v rfl rfl (B.mA) ?_
  refine AL.nil (AThen.n (Aw.ret (APost.r ?_)))
  refine Ret.all [] rfl (.cons (.t (.d _)) .nil) gs_nil (.refl _) (.d _) ⟨congrArg (fun x => AV.d (.int .i64 x)) ?_, rfl⟩
  simp_all [cfgOk] <;> omega

set_option maxRecDepth 100000 in
theorem r07_check (c : CfgV) :
    ACalls Try.prog 63 [aCfg c] (fun r bs => r = .d (.int .i64 (if cfgOk c then 0 else 1)) ∧ bs = []) := by
  refine ACalls.of Try.func63 rfl (Nat.le_of_ble_eq_true rfl) ?_
  show Aw _ _ _ _ ⟨_, _⟩
  refine Aw.seq (Aw.region ?_)
  refine AL.u rfl rfl (B.bA (g := 0)) ?_
  refine AL.v rfl rfl (B.mA) ?_
  refine AL.nil (AThen.n (Aw.seq (Aw.region ?_)))
  refine AL.v rfl rfl (B.fA fl_api_Cfg_0) ?_
  refine AL.v rfl rfl (B.l1 ty_Luint8) ?_
  refine AL.v rfl rfl (B.nA Try.underlying24) ?_
  refine AL.v rfl rfl (B.cmp rfl rfl rfl rfl rfl) ?_
  refine AL.v rfl rfl (B.mA) ?_
  refine AL.cases (t := 8) rfl (fun hg8 => ?_) (fun hg8 => ?_)
  · refine AL.gv rfl rfl rfl rfl (B.fA fl_api_Cfg_1) ?_
    refine AL.gv rfl rfl rfl rfl (B.l1 ty_int) ?_
    refine AL.gv rfl rfl rfl rfl (B.call0 (k := 1) rfl en_shallot_shallotref07_within (r07_within c.Chain 1 8) (.c (.c (.c .nil)))) ?_
    refine AL.v rfl rfl (B.pT) ?_
    refine AL.v rfl rfl (B.mA) ?_
    refine AL.cases (t := 13) rfl (fun hg13 => ?_) (fun hg13 => ?_)
    · refine AL.gv rfl rfl rfl rfl (B.fA fl_api_Cfg_2) ?_
      refine AL.gv rfl rfl rfl rfl (B.l1 ty_int) ?_
      refine AL.gv rfl rfl rfl rfl (B.call0 (k := 1) rfl en_shallot_shallotref07_within (r07_within c.Standby 0 8) (.c (.c (.c .nil)))) ?_
      refine AL.v rfl rfl (B.pT) ?_
      refine AL.v rfl rfl (B.mA) ?_
      refine AL.cases (t := 18) rfl (fun hg18 => ?_) (fun hg18 => ?_)
      · refine AL.gv rfl rfl rfl rfl (B.fA fl_api_Cfg_3) ?_
        refine AL.gv rfl rfl rfl rfl (B.l1 ty_int) ?_
        refine AL.gv rfl rfl rfl rfl (B.call0 (k := 1) rfl en_shallot_shallotref07_within (r07_within c.Clients 1 8) (.c (.c (.c .nil)))) ?_
        refine AL.v rfl rfl (B.pT) ?_
        refine AL.v rfl rfl (B.mA) ?_
        refine AL.cases (t := 23) rfl (fun hg23 => ?_) (fun hg23 => ?_)
        · refine AL.gv rfl rfl rfl rfl (B.fA fl_api_Cfg_4) ?_
          refine AL.gv rfl rfl rfl rfl (B.l1 ty_int) ?_
          refine AL.gv rfl rfl rfl rfl (B.call0 (k := 1) rfl en_shallot_shallotref07_within (r07_within c.Queue 1 64) (.c (.c (.c .nil)))) ?_
          refine AL.v rfl rfl (B.pT) ?_
          refine AL.v rfl rfl (B.mA) ?_
          refine AL.nil (AThen.n (Aw.seq (Aw.region ?_)))
          refine AL.v rfl rfl (B.mA) ?_
          refine AL.v rfl rfl (B.mA) ?_
          refine AL.cases (t := 29) rfl (fun hg29 => ?_) (fun hg29 => ?_)
          · refine AL.gv rfl rfl rfl rfl (B.fA fl_api_Cfg_5) ?_
            refine AL.gv rfl rfl rfl rfl (B.l1 ty_int) ?_
            refine AL.gv rfl rfl rfl rfl (B.call0 (k := 1) rfl en_shallot_shallotref07_within (r07_within c.Close 1 10000) (.c (.c (.c .nil)))) ?_
            refine AL.v rfl rfl (B.pT) ?_
            refine AL.v rfl rfl (B.mA) ?_
            refine AL.cases (t := 34) rfl (fun hg34 => ?_) (fun hg34 => ?_)
            · refine AL.gv rfl rfl rfl rfl (B.fA fl_api_Cfg_6) ?_
              refine AL.gv rfl rfl rfl rfl (B.l1 ty_int) ?_
              refine AL.gv rfl rfl rfl rfl (B.fA fl_api_Cfg_5) ?_
              refine AL.gv rfl rfl rfl rfl (B.l1 ty_int) ?_
              refine AL.gv rfl rfl rfl rfl (B.cmp rfl rfl rfl rfl rfl) ?_
              refine AL.v rfl rfl (B.pT) ?_
              refine AL.v rfl rfl (B.mA) ?_
              refine AL.cases (t := 41) rfl (fun hg41 => ?_) (fun hg41 => ?_)
              · refine AL.gv rfl rfl rfl rfl (B.fA fl_api_Cfg_6) ?_
                refine AL.gv rfl rfl rfl rfl (B.l1 ty_int) ?_
                refine AL.gv rfl rfl rfl rfl (B.cmp rfl rfl rfl rfl rfl) ?_
                refine AL.v rfl rfl (B.pT) ?_
                refine AL.v rfl rfl (B.mA) ?_
                refine AL.cases (t := 46) rfl (fun hg46 => ?_) (fun hg46 => ?_)
                · refine AL.gv rfl rfl rfl rfl (B.fA fl_api_Cfg_7) ?_
                  refine AL.gv rfl rfl rfl rfl (B.l1 ty_int) ?_
                  refine AL.gv rfl rfl rfl rfl (B.call0 (k := 1) rfl en_shallot_shallotref07_within (r07_within c.Again 1 10000) (.c (.c (.c .nil)))) ?_
                  refine AL.v rfl rfl (B.pT) ?_
                  refine AL.v rfl rfl (B.mA) ?_
                  refine AL.cases (t := 51) rfl (fun hg51 => ?_) (fun hg51 => ?_)
                  · refine AL.gv rfl rfl rfl rfl (B.fA fl_api_Cfg_8) ?_
                    refine AL.gv rfl rfl rfl rfl (B.l1 ty_int) ?_
                    refine AL.gv rfl rfl rfl rfl (B.call0 (k := 1) rfl en_shallot_shallotref07_within (r07_within c.Window 1 64) (.c (.c (.c .nil)))) ?_
                    refine AL.v rfl rfl (B.pT) ?_
                    refine AL.v rfl rfl (B.mA) ?_
                    refine AL.nil (AThen.n (Aw.seq (Aw.seq (Aw.region ?_))))
                    refine AL.v rfl rfl (B.mA) ?_
                    refine AL.v rfl rfl (B.not rfl rfl rfl) ?_
                    refine AL.v rfl rfl (B.mA) ?_
                    refine AL.cases (t := 58) rfl (fun hg58 => ?_) (fun hg58 => ?_)
                    · refine AL.off rfl rfl rfl rfl rfl (by decide) ?_
                      refine AL.off rfl rfl rfl rfl rfl (by decide) ?_
                      refine AL.off rfl rfl rfl rfl rfl (by decide) ?_
                      refine AL.v rfl rfl (B.pT) ?_
                      refine AL.v rfl rfl (B.mA) ?_
                      refine AL.off rfl rfl rfl rfl rfl (by decide) ?_
                      refine AL.off rfl rfl rfl rfl rfl (by decide) ?_
                      refine AL.off rfl rfl rfl rfl rfl (by decide) ?_
                      refine AL.v rfl rfl (B.pT) ?_
                      refine AL.nil (AThen.n ?_)
                      refine Aw.condT rfl (rfl) ?_
                      refine Aw.seq (Aw.region ?_)
                      refine AL.v rfl rfl (B.mA) ?_
                      refine AL.nil (AThen.n (Aw.ret (AThen.r (APost.r ?_))))
                      refine Ret.all [] rfl (.cons (.t (.d _)) .nil) gs_nil (.refl _) (.d _) ⟨congrArg (fun x => AV.d (.int .i64 x)) ?_, rfl⟩
                      simp_all [cfgOk] <;> omega
                    refine AL.gv rfl rfl rfl rfl (B.fA fl_api_Cfg_9) ?_
                    refine AL.gv rfl rfl rfl rfl (B.l1 ty_uint64) ?_
                    refine AL.gv rfl rfl rfl rfl (B.cmp rfl rfl rfl rfl rfl) ?_
                    refine AL.v rfl rfl (B.pF) ?_
                    refine AL.v rfl rfl (B.mA) ?_
                    refine AL.cases (t := 63) rfl (fun hg63 => ?_) (fun hg63 => ?_)
                    · refine AL.off rfl rfl rfl rfl rfl (by decide) ?_
                      refine AL.off rfl rfl rfl rfl rfl (by decide) ?_
                      refine AL.off rfl rfl rfl rfl rfl (by decide) ?_
                      refine AL.v rfl rfl (B.pT) ?_
                      refine AL.nil (AThen.n ?_)
                      refine Aw.condT rfl (rfl) ?_
                      refine Aw.seq (Aw.region ?_)
                      refine AL.v rfl rfl (B.mA) ?_
                      refine AL.nil (AThen.n (Aw.ret (AThen.r (APost.r ?_))))
                      refine Ret.all [] rfl (.cons (.t (.d _)) .nil) gs_nil (.refl _) (.d _) ⟨congrArg (fun x => AV.d (.int .i64 x)) ?_, rfl⟩
                      simp_all [cfgOk] <;> omega
                    refine AL.gv rfl rfl rfl rfl (B.fA fl_api_Cfg_10) ?_
                    refine AL.gv rfl rfl rfl rfl (B.l1 ty_uint64) ?_
                    refine AL.gv rfl rfl rfl rfl (B.cmp rfl rfl rfl rfl rfl) ?_
                    refine AL.v rfl rfl (B.pF) ?_
                    refine AL.nil (AThen.n ?_)
                    refine Aw.cases (t := 67) rfl (fun hc0 => ?_) (fun hc0 => ?_)
                    · refine Aw.condT rfl rfl (Aw.seq (Aw.region ?_))
                      refine AL.v rfl rfl (B.mA) ?_
                      refine AL.nil (AThen.n (Aw.ret (AThen.r (APost.r ?_))))
                      refine Ret.all [] rfl (.cons (.t (.d _)) .nil) gs_nil (.refl _) (.d _) ⟨congrArg (fun x => AV.d (.int .i64 x)) ?_, rfl⟩
                      simp_all [cfgOk] <;> omega
                    refine Aw.condF rfl rfl (Aw.skip (AThen.n (Aw.seq (Aw.region ?_))))
                    refine AL.v rfl rfl (B.mA) ?_
                    refine AL.nil (AThen.n (Aw.ret (APost.r ?_)))
                    refine Ret.all [] rfl (.cons (.t (.d _)) .nil) gs_nil (.refl _) (.d _) ⟨congrArg (fun x => AV.d (.int .i64 x)) ?_, rfl⟩
                    simp_all [cfgOk] <;> omega
                  refine AL.off rfl rfl rfl rfl rfl (by decide) ?_
                  refine AL.off rfl rfl rfl rfl rfl (by decide) ?_
                  refine AL.off rfl rfl rfl rfl rfl (by decide) ?_
                  refine AL.v rfl rfl (B.pF) ?_
                  refine AL.v rfl rfl (B.mA) ?_
                  refine AL.nil (AThen.n (Aw.seq (Aw.seq (Aw.region ?_))))
                  refine AL.v rfl rfl (B.mA) ?_
                  refine AL.v rfl rfl (B.not rfl rfl rfl) ?_
                  refine AL.v rfl rfl (B.mA) ?_
                  refine AL.cases (t := 58) rfl (fun hg58 => ?_) (fun hg58 => ?_)
                  · refine AL.off rfl rfl rfl rfl rfl (by decide) ?_
                    refine AL.off rfl rfl rfl rfl rfl (by decide) ?_
                    refine AL.off rfl rfl rfl rfl rfl (by decide) ?_
                    refine AL.v rfl rfl (B.pT) ?_
                    refine AL.v rfl rfl (B.mA) ?_
                    refine AL.off rfl rfl rfl rfl rfl (by decide) ?_
                    refine AL.off rfl rfl rfl rfl rfl (by decide) ?_
                    refine AL.off rfl rfl rfl rfl rfl (by decide) ?_
                    refine AL.v rfl rfl (B.pT) ?_
                    refine AL.nil (AThen.n ?_)
                    refine Aw.condT rfl (rfl) ?_
                    refine Aw.seq (Aw.region ?_)
                    refine AL.v rfl rfl (B.mA) ?_
                    refine AL.nil (AThen.n (Aw.ret (AThen.r (APost.r ?_))))
                    refine Ret.all [] rfl (.cons (.t (.d _)) .nil) gs_nil (.refl _) (.d _) ⟨congrArg (fun x => AV.d (.int .i64 x)) ?_, rfl⟩
                    simp_all [cfgOk] <;> omega
                  refine AL.gv rfl rfl rfl rfl (B.fA fl_api_Cfg_9) ?_
                  refine AL.gv rfl rfl rfl rfl (B.l1 ty_uint64) ?_
                  refine AL.gv rfl rfl rfl rfl (B.cmp rfl rfl rfl rfl rfl) ?_
                  refine AL.v rfl rfl (B.pF) ?_
                  refine AL.v rfl rfl (B.mA) ?_
                  refine AL.cases (t := 63) rfl (fun hg63 => ?_) (fun hg63 => ?_)
                  · refine AL.off rfl rfl rfl rfl rfl (by decide) ?_
                    refine AL.off rfl rfl rfl rfl rfl (by decide) ?_
                    refine AL.off rfl rfl rfl rfl rfl (by decide) ?_
                    refine AL.v rfl rfl (B.pT) ?_
                    refine AL.nil (AThen.n ?_)
                    refine Aw.condT rfl (rfl) ?_
                    refine Aw.seq (Aw.region ?_)
                    refine AL.v rfl rfl (B.mA) ?_
                    refine AL.nil (AThen.n (Aw.ret (AThen.r (APost.r ?_))))
                    refine Ret.all [] rfl (.cons (.t (.d _)) .nil) gs_nil (.refl _) (.d _) ⟨congrArg (fun x => AV.d (.int .i64 x)) ?_, rfl⟩
                    simp_all [cfgOk] <;> omega
                  refine AL.gv rfl rfl rfl rfl (B.fA fl_api_Cfg_10) ?_
                  refine AL.gv rfl rfl rfl rfl (B.l1 ty_uint64) ?_
                  refine AL.gv rfl rfl rfl rfl (B.cmp rfl rfl rfl rfl rfl) ?_
                  refine AL.v rfl rfl (B.pF) ?_
                  refine AL.nil (AThen.n ?_)
                  refine Aw.cases (t := 67) rfl (fun hc0 => ?_) (fun hc0 => ?_)
                  · refine Aw.condT rfl rfl (Aw.seq (Aw.region ?_))
                    refine AL.v rfl rfl (B.mA) ?_
                    refine AL.nil (AThen.n (Aw.ret (AThen.r (APost.r ?_))))
                    refine Ret.all [] rfl (.cons (.t (.d _)) .nil) gs_nil (.refl _) (.d _) ⟨congrArg (fun x => AV.d (.int .i64 x)) ?_, rfl⟩
                    simp_all [cfgOk] <;> omega
                  refine Aw.condF rfl rfl (Aw.skip (AThen.n (Aw.seq (Aw.region ?_))))
                  refine AL.v rfl rfl (B.mA) ?_
                  refine AL.nil (AThen.n (Aw.ret (APost.r ?_)))
                  refine Ret.all [] rfl (.cons (.t (.d _)) .nil) gs_nil (.refl _) (.d _) ⟨congrArg (fun x => AV.d (.int .i64 x)) ?_, rfl⟩
                  simp_all [cfgOk] <;> omega
                refine AL.off rfl rfl rfl rfl rfl (by decide) ?_
                refine AL.off rfl rfl rfl rfl rfl (by decide) ?_
                refine AL.off rfl rfl rfl rfl rfl (by decide) ?_
                refine AL.v rfl rfl (B.pF) ?_
                refine AL.v rfl rfl (B.mA) ?_
                refine AL.off rfl rfl rfl rfl rfl (by decide) ?_
                refine AL.off rfl rfl rfl rfl rfl (by decide) ?_
                refine AL.off rfl rfl rfl rfl rfl (by decide) ?_
                refine AL.v rfl rfl (B.pF) ?_
                refine AL.v rfl rfl (B.mA) ?_
                refine AL.nil (AThen.n (Aw.seq (Aw.seq (Aw.region ?_))))
                refine AL.v rfl rfl (B.mA) ?_
                refine AL.v rfl rfl (B.not rfl rfl rfl) ?_
                refine AL.v rfl rfl (B.mA) ?_
                refine AL.cases (t := 58) rfl (fun hg58 => ?_) (fun hg58 => ?_)
                · refine AL.off rfl rfl rfl rfl rfl (by decide) ?_
                  refine AL.off rfl rfl rfl rfl rfl (by decide) ?_
                  refine AL.off rfl rfl rfl rfl rfl (by decide) ?_
                  refine AL.v rfl rfl (B.pT) ?_
                  refine AL.v rfl rfl (B.mA) ?_
                  refine AL.off rfl rfl rfl rfl rfl (by decide) ?_
                  refine AL.off rfl rfl rfl rfl rfl (by decide) ?_
                  refine AL.off rfl rfl rfl rfl rfl (by decide) ?_
                  refine AL.v rfl rfl (B.pT) ?_
                  refine AL.nil (AThen.n ?_)
                  refine Aw.condT rfl (rfl) ?_
                  refine Aw.seq (Aw.region ?_)
                  refine AL.v rfl rfl (B.mA) ?_
                  refine AL.nil (AThen.n (Aw.ret (AThen.r (APost.r ?_))))
                  refine Ret.all [] rfl (.cons (.t (.d _)) .nil) gs_nil (.refl _) (.d _) ⟨congrArg (fun x => AV.d (.int .i64 x)) ?_, rfl⟩
                  simp_all [cfgOk] <;> omega
                refine AL.gv rfl rfl rfl rfl (B.fA fl_api_Cfg_9) ?_
                refine AL.gv rfl rfl rfl rfl (B.l1 ty_uint64) ?_
                refine AL.gv rfl rfl rfl rfl (B.cmp rfl rfl rfl rfl rfl) ?_
                refine AL.v rfl rfl (B.pF) ?_
                refine AL.v rfl rfl (B.mA) ?_
                refine AL.cases (t := 63) rfl (fun hg63 => ?_) (fun hg63 => ?_)
                · refine AL.off rfl rfl rfl rfl rfl (by decide) ?_
                  refine AL.off rfl rfl rfl rfl rfl (by decide) ?_
                  refine AL.off rfl rfl rfl rfl rfl (by decide) ?_
                  refine AL.v rfl rfl (B.pT) ?_
                  refine AL.nil (AThen.n ?_)
                  refine Aw.condT rfl (rfl) ?_
                  refine Aw.seq (Aw.region ?_)
                  refine AL.v rfl rfl (B.mA) ?_
                  refine AL.nil (AThen.n (Aw.ret (AThen.r (APost.r ?_))))
                  refine Ret.all [] rfl (.cons (.t (.d _)) .nil) gs_nil (.refl _) (.d _) ⟨congrArg (fun x => AV.d (.int .i64 x)) ?_, rfl⟩
                  simp_all [cfgOk] <;> omega
                refine AL.gv rfl rfl rfl rfl (B.fA fl_api_Cfg_10) ?_
                refine AL.gv rfl rfl rfl rfl (B.l1 ty_uint64) ?_
                refine AL.gv rfl rfl rfl rfl (B.cmp rfl rfl rfl rfl rfl) ?_
                refine AL.v rfl rfl (B.pF) ?_
                refine AL.nil (AThen.n ?_)
                refine Aw.cases (t := 67) rfl (fun hc0 => ?_) (fun hc0 => ?_)
                · refine Aw.condT rfl rfl (Aw.seq (Aw.region ?_))
                  refine AL.v rfl rfl (B.mA) ?_
                  refine AL.nil (AThen.n (Aw.ret (AThen.r (APost.r ?_))))
                  refine Ret.all [] rfl (.cons (.t (.d _)) .nil) gs_nil (.refl _) (.d _) ⟨congrArg (fun x => AV.d (.int .i64 x)) ?_, rfl⟩
                  simp_all [cfgOk] <;> omega
                refine Aw.condF rfl rfl (Aw.skip (AThen.n (Aw.seq (Aw.region ?_))))
                refine AL.v rfl rfl (B.mA) ?_
                refine AL.nil (AThen.n (Aw.ret (APost.r ?_)))
                refine Ret.all [] rfl (.cons (.t (.d _)) .nil) gs_nil (.refl _) (.d _) ⟨congrArg (fun x => AV.d (.int .i64 x)) ?_, rfl⟩
                simp_all [cfgOk] <;> omega
              refine AL.off rfl rfl rfl rfl rfl (by decide) ?_
              refine AL.off rfl rfl rfl rfl rfl (by decide) ?_
              refine AL.off rfl rfl rfl rfl rfl (by decide) ?_
              refine AL.v rfl rfl (B.pF) ?_
              refine AL.v rfl rfl (B.mA) ?_
              refine AL.off rfl rfl rfl rfl rfl (by decide) ?_
              refine AL.off rfl rfl rfl rfl rfl (by decide) ?_
              refine AL.off rfl rfl rfl rfl rfl (by decide) ?_
              refine AL.v rfl rfl (B.pF) ?_
              refine AL.v rfl rfl (B.mA) ?_
              refine AL.off rfl rfl rfl rfl rfl (by decide) ?_
              refine AL.off rfl rfl rfl rfl rfl (by decide) ?_
              refine AL.off rfl rfl rfl rfl rfl (by decide) ?_
              refine AL.v rfl rfl (B.pF) ?_
              refine AL.v rfl rfl (B.mA) ?_
              refine AL.nil (AThen.n (Aw.seq (Aw.seq (Aw.region ?_))))
              refine AL.v rfl rfl (B.mA) ?_
              refine AL.v rfl rfl (B.not rfl rfl rfl) ?_
              refine AL.v rfl rfl (B.mA) ?_
              refine AL.cases (t := 58) rfl (fun hg58 => ?_) (fun hg58 => ?_)
              · refine AL.off rfl rfl rfl rfl rfl (by decide) ?_
                refine AL.off rfl rfl rfl rfl rfl (by decide) ?_
                refine AL.off rfl rfl rfl rfl rfl (by decide) ?_
                refine AL.v rfl rfl (B.pT) ?_
                refine AL.v rfl rfl (B.mA) ?_
                refine AL.off rfl rfl rfl rfl rfl (by decide) ?_
                refine AL.off rfl rfl rfl rfl rfl (by decide) ?_
                refine AL.off rfl rfl rfl rfl rfl (by decide) ?_
                refine AL.v rfl rfl (B.pT) ?_
                refine AL.nil (AThen.n ?_)
                refine Aw.condT rfl (rfl) ?_
                refine Aw.seq (Aw.region ?_)
                refine AL.v rfl rfl (B.mA) ?_
                refine AL.nil (AThen.n (Aw.ret (AThen.r (APost.r ?_))))
                refine Ret.all [] rfl (.cons (.t (.d _)) .nil) gs_nil (.refl _) (.d _) ⟨congrArg (fun x => AV.d (.int .i64 x)) ?_, rfl⟩
                simp_all [cfgOk] <;> omega
              refine AL.gv rfl rfl rfl rfl (B.fA fl_api_Cfg_9) ?_
              refine AL.gv rfl rfl rfl rfl (B.l1 ty_uint64) ?_
              refine AL.gv rfl rfl rfl rfl (B.cmp rfl rfl rfl rfl rfl) ?_
              refine AL.v rfl rfl (B.pF) ?_
              refine AL.v rfl rfl (B.mA) ?_
              refine AL.cases (t := 63) rfl (fun hg63 => ?_) (fun hg63 => ?_)
              · refine AL.off rfl rfl rfl rfl rfl (by decide) ?_
                refine AL.off rfl rfl rfl rfl rfl (by decide) ?_
                refine AL.off rfl rfl rfl rfl rfl (by decide) ?_
                refine AL.v rfl rfl (B.pT) ?_
                refine AL.nil (AThen.n ?_)
                refine Aw.condT rfl (rfl) ?_
                refine Aw.seq (Aw.region ?_)
                refine AL.v rfl rfl (B.mA) ?_
                refine AL.nil (AThen.n (Aw.ret (AThen.r (APost.r ?_))))
                refine Ret.all [] rfl (.cons (.t (.d _)) .nil) gs_nil (.refl _) (.d _) ⟨congrArg (fun x => AV.d (.int .i64 x)) ?_, rfl⟩
                simp_all [cfgOk] <;> omega
              refine AL.gv rfl rfl rfl rfl (B.fA fl_api_Cfg_10) ?_
              refine AL.gv rfl rfl rfl rfl (B.l1 ty_uint64) ?_
              refine AL.gv rfl rfl rfl rfl (B.cmp rfl rfl rfl rfl rfl) ?_
              refine AL.v rfl rfl (B.pF) ?_
              refine AL.nil (AThen.n ?_)
              refine Aw.cases (t := 67) rfl (fun hc0 => ?_) (fun hc0 => ?_)
              · refine Aw.condT rfl rfl (Aw.seq (Aw.region ?_))
                refine AL.v rfl rfl (B.mA) ?_
                refine AL.nil (AThen.n (Aw.ret (AThen.r (APost.r ?_))))
                refine Ret.all [] rfl (.cons (.t (.d _)) .nil) gs_nil (.refl _) (.d _) ⟨congrArg (fun x => AV.d (.int .i64 x)) ?_, rfl⟩
                simp_all [cfgOk] <;> omega
              refine Aw.condF rfl rfl (Aw.skip (AThen.n (Aw.seq (Aw.region ?_))))
              refine AL.v rfl rfl (B.mA) ?_
              refine AL.nil (AThen.n (Aw.ret (APost.r ?_)))
              refine Ret.all [] rfl (.cons (.t (.d _)) .nil) gs_nil (.refl _) (.d _) ⟨congrArg (fun x => AV.d (.int .i64 x)) ?_, rfl⟩
              simp_all [cfgOk] <;> omega
            refine AL.off rfl rfl rfl rfl rfl (by decide) ?_
            refine AL.off rfl rfl rfl rfl rfl (by decide) ?_
            refine AL.off rfl rfl rfl rfl rfl (by decide) ?_
            refine AL.off rfl rfl rfl rfl rfl (by decide) ?_
            refine AL.off rfl rfl rfl rfl rfl (by decide) ?_
            refine AL.v rfl rfl (B.pF) ?_
            refine AL.v rfl rfl (B.mA) ?_
            refine AL.off rfl rfl rfl rfl rfl (by decide) ?_
            refine AL.off rfl rfl rfl rfl rfl (by decide) ?_
            refine AL.off rfl rfl rfl rfl rfl (by decide) ?_
            refine AL.v rfl rfl (B.pF) ?_
            refine AL.v rfl rfl (B.mA) ?_
            refine AL.off rfl rfl rfl rfl rfl (by decide) ?_
            refine AL.off rfl rfl rfl rfl rfl (by decide) ?_
            refine AL.off rfl rfl rfl rfl rfl (by decide) ?_
            refine AL.v rfl rfl (B.pF) ?_
            refine AL.v rfl rfl (B.mA) ?_
            refine AL.off rfl rfl rfl rfl rfl (by decide) ?_
            refine AL.off rfl rfl rfl rfl rfl (by decide) ?_
            refine AL.off rfl rfl rfl rfl rfl (by decide) ?_
            refine AL.v rfl rfl (B.pF) ?_
            refine AL.v rfl rfl (B.mA) ?_
            refine AL.nil (AThen.n (Aw.seq (Aw.seq (Aw.region ?_))))
            refine AL.v rfl rfl (B.mA) ?_
            refine AL.v rfl rfl (B.not rfl rfl rfl) ?_
            refine AL.v rfl rfl (B.mA) ?_
            refine AL.cases (t := 58) rfl (fun hg58 => ?_) (fun hg58 => ?_)
            · refine AL.off rfl rfl rfl rfl rfl (by decide) ?_
              refine AL.off rfl rfl rfl rfl rfl (by decide) ?_
              refine AL.off rfl rfl rfl rfl rfl (by decide) ?_
              refine AL.v rfl rfl (B.pT) ?_
              refine AL.v rfl rfl (B.mA) ?_
              refine AL.off rfl rfl rfl rfl rfl (by decide) ?_
              refine AL.off rfl rfl rfl rfl rfl (by decide) ?_
              refine AL.off rfl rfl rfl rfl rfl (by decide) ?_
              refine AL.v rfl rfl (B.pT) ?_
              refine AL.nil (AThen.n ?_)
              refine Aw.condT rfl (rfl) ?_
              refine Aw.seq (Aw.region ?_)
              refine AL.v rfl rfl (B.mA) ?_
              refine AL.nil (AThen.n (Aw.ret (AThen.r (APost.r ?_))))
              refine Ret.all [] rfl (.cons (.t (.d _)) .nil) gs_nil (.refl _) (.d _) ⟨congrArg (fun x => AV.d (.int .i64 x)) ?_, rfl⟩
              simp_all [cfgOk] <;> omega
            refine AL.gv rfl rfl rfl rfl (B.fA fl_api_Cfg_9) ?_
            refine AL.gv rfl rfl rfl rfl (B.l1 ty_uint64) ?_
            refine AL.gv rfl rfl rfl rfl (B.cmp rfl rfl rfl rfl rfl) ?_
            refine AL.v rfl rfl (B.pF) ?_
            refine AL.v rfl rfl (B.mA) ?_
            refine AL.cases (t := 63) rfl (fun hg63 => ?_) (fun hg63 => ?_)
            · refine AL.off rfl rfl rfl rfl rfl (by decide) ?_
              refine AL.off rfl rfl rfl rfl rfl (by decide) ?_
              refine AL.off rfl rfl rfl rfl rfl (by decide) ?_
              refine AL.v rfl rfl (B.pT) ?_
              refine AL.nil (AThen.n ?_)
              refine Aw.condT rfl (rfl) ?_
              refine Aw.seq (Aw.region ?_)
              refine AL.v rfl rfl (B.mA) ?_
              refine AL.nil (AThen.n (Aw.ret (AThen.r (APost.r ?_))))
              refine Ret.all [] rfl (.cons (.t (.d _)) .nil) gs_nil (.refl _) (.d _) ⟨congrArg (fun x => AV.d (.int .i64 x)) ?_, rfl⟩
              simp_all [cfgOk] <;> omega
            refine AL.gv rfl rfl rfl rfl (B.fA fl_api_Cfg_10) ?_
            refine AL.gv rfl rfl rfl rfl (B.l1 ty_uint64) ?_
            refine AL.gv rfl rfl rfl rfl (B.cmp rfl rfl rfl rfl rfl) ?_
            refine AL.v rfl rfl (B.pF) ?_
            refine AL.nil (AThen.n ?_)
            refine Aw.cases (t := 67) rfl (fun hc0 => ?_) (fun hc0 => ?_)
            · refine Aw.condT rfl rfl (Aw.seq (Aw.region ?_))
              refine AL.v rfl rfl (B.mA) ?_
              refine AL.nil (AThen.n (Aw.ret (AThen.r (APost.r ?_))))
              refine Ret.all [] rfl (.cons (.t (.d _)) .nil) gs_nil (.refl _) (.d _) ⟨congrArg (fun x => AV.d (.int .i64 x)) ?_, rfl⟩
              simp_all [cfgOk] <;> omega
            refine Aw.condF rfl rfl (Aw.skip (AThen.n (Aw.seq (Aw.region ?_))))
            refine AL.v rfl rfl (B.mA) ?_
            refine AL.nil (AThen.n (Aw.ret (APost.r ?_)))
            refine Ret.all [] rfl (.cons (.t (.d _)) .nil) gs_nil (.refl _) (.d _) ⟨congrArg (fun x => AV.d (.int .i64 x)) ?_, rfl⟩
            simp_all [cfgOk] <;> omega
          refine AL.off rfl rfl rfl rfl rfl (by decide) ?_
          refine AL.off rfl rfl rfl rfl rfl (by decide) ?_
          refine AL.off rfl rfl rfl rfl rfl (by decide) ?_
          refine AL.v rfl rfl (B.pF) ?_
          refine AL.v rfl rfl (B.mA) ?_
          refine AL.off rfl rfl rfl rfl rfl (by decide) ?_
          refine AL.off rfl rfl rfl rfl rfl (by decide) ?_
          refine AL.off rfl rfl rfl rfl rfl (by decide) ?_
          refine AL.off rfl rfl rfl rfl rfl (by decide) ?_
          refine AL.off rfl rfl rfl rfl rfl (by decide) ?_
          refine AL.v rfl rfl (B.pF) ?_
          refine AL.v rfl rfl (B.mA) ?_
          refine AL.off rfl rfl rfl rfl rfl (by decide) ?_
          refine AL.off rfl rfl rfl rfl rfl (by decide) ?_
          refine AL.off rfl rfl rfl rfl rfl (by decide) ?_
          refine AL.v rfl rfl (B.pF) ?_
          refine AL.v rfl rfl (B.mA) ?_
          refine AL.off rfl rfl rfl rfl rfl (by decide) ?_
          refine AL.off rfl rfl rfl rfl rfl (by decide) ?_
          refine AL.off rfl rfl rfl rfl rfl (by decide) ?_
          refine AL.v rfl rfl (B.pF) ?_
          refine AL.v rfl rfl (B.mA) ?_
          refine AL.off rfl rfl rfl rfl rfl (by decide) ?_
          refine AL.off rfl rfl rfl rfl rfl (by decide) ?_
          refine AL.off rfl rfl rfl rfl rfl (by decide) ?_
          refine AL.v rfl rfl (B.pF) ?_
          refine AL.v rfl rfl (B.mA) ?_
          refine AL.nil (AThen.n (Aw.seq (Aw.seq (Aw.region ?_))))
          refine AL.v rfl rfl (B.mA) ?_
          refine AL.v rfl rfl (B.not rfl rfl rfl) ?_
          refine AL.v rfl rfl (B.mA) ?_
          refine AL.cases (t := 58) rfl (fun hg58 => ?_) (fun hg58 => ?_)
          · refine AL.off rfl rfl rfl rfl rfl (by decide) ?_
            refine AL.off rfl rfl rfl rfl rfl (by decide) ?_
            refine AL.off rfl rfl rfl rfl rfl (by decide) ?_
            refine AL.v rfl rfl (B.pT) ?_
            refine AL.v rfl rfl (B.mA) ?_
            refine AL.off rfl rfl rfl rfl rfl (by decide) ?_
            refine AL.off rfl rfl rfl rfl rfl (by decide) ?_
            refine AL.off rfl rfl rfl rfl rfl (by decide) ?_
            refine AL.v rfl rfl (B.pT) ?_
            refine AL.nil (AThen.n ?_)
            refine Aw.condT rfl (rfl) ?_
            refine Aw.seq (Aw.region ?_)
            refine AL.v rfl rfl (B.mA) ?_
            refine AL.nil (AThen.n (Aw.ret (AThen.r (APost.r ?_))))
            refine Ret.all [] rfl (.cons (.t (.d _)) .nil) gs_nil (.refl _) (.d _) ⟨congrArg (fun x => AV.d (.int .i64 x)) ?_, rfl⟩
            simp_all [cfgOk] <;> omega
          refine AL.gv rfl rfl rfl rfl (B.fA fl_api_Cfg_9) ?_
          refine AL.gv rfl rfl rfl rfl (B.l1 ty_uint64) ?_
          refine AL.gv rfl rfl rfl rfl (B.cmp rfl rfl rfl rfl rfl) ?_
          refine AL.v rfl rfl (B.pF) ?_
          refine AL.v rfl rfl (B.mA) ?_
          refine AL.cases (t := 63) rfl (fun hg63 => ?_) (fun hg63 => ?_)
          · refine AL.off rfl rfl rfl rfl rfl (by decide) ?_
            refine AL.off rfl rfl rfl rfl rfl (by decide) ?_
            refine AL.off rfl rfl rfl rfl rfl (by decide) ?_
            refine AL.v rfl rfl (B.pT) ?_
            refine AL.nil (AThen.n ?_)
            refine Aw.condT rfl (rfl) ?_
            refine Aw.seq (Aw.region ?_)
            refine AL.v rfl rfl (B.mA) ?_
            refine AL.nil (AThen.n (Aw.ret (AThen.r (APost.r ?_))))
            refine Ret.all [] rfl (.cons (.t (.d _)) .nil) gs_nil (.refl _) (.d _) ⟨congrArg (fun x => AV.d (.int .i64 x)) ?_, rfl⟩
            simp_all [cfgOk] <;> omega
          refine AL.gv rfl rfl rfl rfl (B.fA fl_api_Cfg_10) ?_
          refine AL.gv rfl rfl rfl rfl (B.l1 ty_uint64) ?_
          refine AL.gv rfl rfl rfl rfl (B.cmp rfl rfl rfl rfl rfl) ?_
          refine AL.v rfl rfl (B.pF) ?_
          refine AL.nil (AThen.n ?_)
          refine Aw.cases (t := 67) rfl (fun hc0 => ?_) (fun hc0 => ?_)
          · refine Aw.condT rfl rfl (Aw.seq (Aw.region ?_))
            refine AL.v rfl rfl (B.mA) ?_
            refine AL.nil (AThen.n (Aw.ret (AThen.r (APost.r ?_))))
            refine Ret.all [] rfl (.cons (.t (.d _)) .nil) gs_nil (.refl _) (.d _) ⟨congrArg (fun x => AV.d (.int .i64 x)) ?_, rfl⟩
            simp_all [cfgOk] <;> omega
          refine Aw.condF rfl rfl (Aw.skip (AThen.n (Aw.seq (Aw.region ?_))))
          refine AL.v rfl rfl (B.mA) ?_
          refine AL.nil (AThen.n (Aw.ret (APost.r ?_)))
          refine Ret.all [] rfl (.cons (.t (.d _)) .nil) gs_nil (.refl _) (.d _) ⟨congrArg (fun x => AV.d (.int .i64 x)) ?_, rfl⟩
          simp_all [cfgOk] <;> omega
        refine AL.off rfl rfl rfl rfl rfl (by decide) ?_
        refine AL.off rfl rfl rfl rfl rfl (by decide) ?_
        refine AL.off rfl rfl rfl rfl rfl (by decide) ?_
        refine AL.v rfl rfl (B.pF) ?_
        refine AL.v rfl rfl (B.mA) ?_
        refine AL.nil (AThen.n (Aw.seq (Aw.region ?_)))
        refine AL.v rfl rfl (B.mA) ?_
        refine AL.v rfl rfl (B.mA) ?_
        refine AL.off rfl rfl rfl rfl rfl (by decide) ?_
        refine AL.off rfl rfl rfl rfl rfl (by decide) ?_
        refine AL.off rfl rfl rfl rfl rfl (by decide) ?_
        refine AL.v rfl rfl (B.pF) ?_
        refine AL.v rfl rfl (B.mA) ?_
        refine AL.off rfl rfl rfl rfl rfl (by decide) ?_
        refine AL.off rfl rfl rfl rfl rfl (by decide) ?_
        refine AL.off rfl rfl rfl rfl rfl (by decide) ?_
        refine AL.off rfl rfl rfl rfl rfl (by decide) ?_
        refine AL.off rfl rfl rfl rfl rfl (by decide) ?_
        refine AL.v rfl rfl (B.pF) ?_
        refine AL.v rfl rfl (B.mA) ?_
        refine AL.off rfl rfl rfl rfl rfl (by decide) ?_
        refine AL.off rfl rfl rfl rfl rfl (by decide) ?_
        refine AL.off rfl rfl rfl rfl rfl (by decide) ?_
        refine AL.v rfl rfl (B.pF) ?_
        refine AL.v rfl rfl (B.mA) ?_
        refine AL.off rfl rfl rfl rfl rfl (by decide) ?_
        refine AL.off rfl rfl rfl rfl rfl (by decide) ?_
        refine AL.off rfl rfl rfl rfl rfl (by decide) ?_
        refine AL.v rfl rfl (B.pF) ?_
        refine AL.v rfl rfl (B.mA) ?_
        refine AL.off rfl rfl rfl rfl rfl (by decide) ?_
        refine AL.off rfl rfl rfl rfl rfl (by decide) ?_
        refine AL.off rfl rfl rfl rfl rfl (by decide) ?_
        refine AL.v rfl rfl (B.pF) ?_
        refine AL.v rfl rfl (B.mA) ?_
        refine AL.nil (AThen.n (Aw.seq (Aw.seq (Aw.region ?_))))
        refine AL.v rfl rfl (B.mA) ?_
        refine AL.v rfl rfl (B.not rfl rfl rfl) ?_
        refine AL.v rfl rfl (B.mA) ?_
        refine AL.cases (t := 58) rfl (fun hg58 => ?_) (fun hg58 => ?_)
        · refine AL.off rfl rfl rfl rfl rfl (by decide) ?_
          refine AL.off rfl rfl rfl rfl rfl (by decide) ?_
          refine AL.off rfl rfl rfl rfl rfl (by decide) ?_
          refine AL.v rfl rfl (B.pT) ?_
          refine AL.v rfl rfl (B.mA) ?_
          refine AL.off rfl rfl rfl rfl rfl (by decide) ?_
          refine AL.off rfl rfl rfl rfl rfl (by decide) ?_
          refine AL.off rfl rfl rfl rfl rfl (by decide) ?_
          refine AL.v rfl rfl (B.pT) ?_
          refine AL.nil (AThen.n ?_)
          refine Aw.condT rfl (rfl) ?_
          refine Aw.seq (Aw.region ?_)
          refine AL.v rfl rfl (B.mA) ?_
          refine AL.nil (AThen.n (Aw.ret (AThen.r (APost.r ?_))))
          refine Ret.all [] rfl (.cons (.t (.d _)) .nil) gs_nil (.refl _) (.d _) ⟨congrArg (fun x => AV.d (.int .i64 x)) ?_, rfl⟩
          simp_all [cfgOk] <;> omega
        refine AL.gv rfl rfl rfl rfl (B.fA fl_api_Cfg_9) ?_
        refine AL.gv rfl rfl rfl rfl (B.l1 ty_uint64) ?_
        refine AL.gv rfl rfl rfl rfl (B.cmp rfl rfl rfl rfl rfl) ?_
        refine AL.v rfl rfl (B.pF) ?_
        refine AL.v rfl rfl (B.mA) ?_
        refine AL.cases (t := 63) rfl (fun hg63 => ?_) (fun hg63 => ?_)
        · refine AL.off rfl rfl rfl rfl rfl (by decide) ?_
          refine AL.off rfl rfl rfl rfl rfl (by decide) ?_
          refine AL.off rfl rfl rfl rfl rfl (by decide) ?_
          refine AL.v rfl rfl (B.pT) ?_
          refine AL.nil (AThen.n ?_)
          refine Aw.condT rfl (rfl) ?_
          refine Aw.seq (Aw.region ?_)
          refine AL.v rfl rfl (B.mA) ?_
          refine AL.nil (AThen.n (Aw.ret (AThen.r (APost.r ?_))))
          refine Ret.all [] rfl (.cons (.t (.d _)) .nil) gs_nil (.refl _) (.d _) ⟨congrArg (fun x => AV.d (.int .i64 x)) ?_, rfl⟩
          simp_all [cfgOk] <;> omega
        refine AL.gv rfl rfl rfl rfl (B.fA fl_api_Cfg_10) ?_
        refine AL.gv rfl rfl rfl rfl (B.l1 ty_uint64) ?_
        refine AL.gv rfl rfl rfl rfl (B.cmp rfl rfl rfl rfl rfl) ?_
        refine AL.v rfl rfl (B.pF) ?_
        refine AL.nil (AThen.n ?_)
        refine Aw.cases (t := 67) rfl (fun hc0 => ?_) (fun hc0 => ?_)
        · refine Aw.condT rfl rfl (Aw.seq (Aw.region ?_))
          refine AL.v rfl rfl (B.mA) ?_
          refine AL.nil (AThen.n (Aw.ret (AThen.r (APost.r ?_))))
          refine Ret.all [] rfl (.cons (.t (.d _)) .nil) gs_nil (.refl _) (.d _) ⟨congrArg (fun x => AV.d (.int .i64 x)) ?_, rfl⟩
          simp_all [cfgOk] <;> omega
        refine Aw.condF rfl rfl (Aw.skip (AThen.n (Aw.seq (Aw.region ?_))))
        refine AL.v rfl rfl (B.mA) ?_
        refine AL.nil (AThen.n (Aw.ret (APost.r ?_)))
        refine Ret.all [] rfl (.cons (.t (.d _)) .nil) gs_nil (.refl _) (.d _) ⟨congrArg (fun x => AV.d (.int .i64 x)) ?_, rfl⟩
        simp_all [cfgOk] <;> omega
      refine AL.off rfl rfl rfl rfl rfl (by decide) ?_
      refine AL.off rfl rfl rfl rfl rfl (by decide) ?_
      refine AL.off rfl rfl rfl rfl rfl (by decide) ?_
      refine AL.v rfl rfl (B.pF) ?_
      refine AL.v rfl rfl (B.mA) ?_
      refine AL.off rfl rfl rfl rfl rfl (by decide) ?_
      refine AL.off rfl rfl rfl rfl rfl (by decide) ?_
      refine AL.off rfl rfl rfl rfl rfl (by decide) ?_
      refine AL.v rfl rfl (B.pF) ?_
      refine AL.v rfl rfl (B.mA) ?_
      refine AL.nil (AThen.n (Aw.seq (Aw.region ?_)))
      refine AL.v rfl rfl (B.mA) ?_
      refine AL.v rfl rfl (B.mA) ?_
      refine AL.off rfl rfl rfl rfl rfl (by decide) ?_
      refine AL.off rfl rfl rfl rfl rfl (by decide) ?_
      refine AL.off rfl rfl rfl rfl rfl (by decide) ?_
      refine AL.v rfl rfl (B.pF) ?_
      refine AL.v rfl rfl (B.mA) ?_
      refine AL.off rfl rfl rfl rfl rfl (by decide) ?_
      refine AL.off rfl rfl rfl rfl rfl (by decide) ?_
      refine AL.off rfl rfl rfl rfl rfl (by decide) ?_
      refine AL.off rfl rfl rfl rfl rfl (by decide) ?_
      refine AL.off rfl rfl rfl rfl rfl (by decide) ?_
      refine AL.v rfl rfl (B.pF) ?_
      refine AL.v rfl rfl (B.mA) ?_
      refine AL.off rfl rfl rfl rfl rfl (by decide) ?_
      refine AL.off rfl rfl rfl rfl rfl (by decide) ?_
      refine AL.off rfl rfl rfl rfl rfl (by decide) ?_
      refine AL.v rfl rfl (B.pF) ?_
      refine AL.v rfl rfl (B.mA) ?_
      refine AL.off rfl rfl rfl rfl rfl (by decide) ?_
      refine AL.off rfl rfl rfl rfl rfl (by decide) ?_
      refine AL.off rfl rfl rfl rfl rfl (by decide) ?_
      refine AL.v rfl rfl (B.pF) ?_
      refine AL.v rfl rfl (B.mA) ?_
      refine AL.off rfl rfl rfl rfl rfl (by decide) ?_
      refine AL.off rfl rfl rfl rfl rfl (by decide) ?_
      refine AL.off rfl rfl rfl rfl rfl (by decide) ?_
      refine AL.v rfl rfl (B.pF) ?_
      refine AL.v rfl rfl (B.mA) ?_
      refine AL.nil (AThen.n (Aw.seq (Aw.seq (Aw.region ?_))))
      refine AL.v rfl rfl (B.mA) ?_
      refine AL.v rfl rfl (B.not rfl rfl rfl) ?_
      refine AL.v rfl rfl (B.mA) ?_
      refine AL.cases (t := 58) rfl (fun hg58 => ?_) (fun hg58 => ?_)
      · refine AL.off rfl rfl rfl rfl rfl (by decide) ?_
        refine AL.off rfl rfl rfl rfl rfl (by decide) ?_
        refine AL.off rfl rfl rfl rfl rfl (by decide) ?_
        refine AL.v rfl rfl (B.pT) ?_
        refine AL.v rfl rfl (B.mA) ?_
        refine AL.off rfl rfl rfl rfl rfl (by decide) ?_
        refine AL.off rfl rfl rfl rfl rfl (by decide) ?_
        refine AL.off rfl rfl rfl rfl rfl (by decide) ?_
        refine AL.v rfl rfl (B.pT) ?_
        refine AL.nil (AThen.n ?_)
        refine Aw.condT rfl (rfl) ?_
        refine Aw.seq (Aw.region ?_)
        refine AL.v rfl rfl (B.mA) ?_
        refine AL.nil (AThen.n (Aw.ret (AThen.r (APost.r ?_))))
        refine Ret.all [] rfl (.cons (.t (.d _)) .nil) gs_nil (.refl _) (.d _) ⟨congrArg (fun x => AV.d (.int .i64 x)) ?_, rfl⟩
        simp_all [cfgOk] <;> omega
      refine AL.gv rfl rfl rfl rfl (B.fA fl_api_Cfg_9) ?_
      refine AL.gv rfl rfl rfl rfl (B.l1 ty_uint64) ?_
      refine AL.gv rfl rfl rfl rfl (B.cmp rfl rfl rfl rfl rfl) ?_
      refine AL.v rfl rfl (B.pF) ?_
      refine AL.v rfl rfl (B.mA) ?_
      refine AL.cases (t := 63) rfl (fun hg63 => ?_) (fun hg63 => ?_)
      · refine AL.off rfl rfl rfl rfl rfl (by decide) ?_
        refine AL.off rfl rfl rfl rfl rfl (by decide) ?_
        refine AL.off rfl rfl rfl rfl rfl (by decide) ?_
        refine AL.v rfl rfl (B.pT) ?_
        refine AL.nil (AThen.n ?_)
        refine Aw.condT rfl (rfl) ?_
        refine Aw.seq (Aw.region ?_)
        refine AL.v rfl rfl (B.mA) ?_
        refine AL.nil (AThen.n (Aw.ret (AThen.r (APost.r ?_))))
        refine Ret.all [] rfl (.cons (.t (.d _)) .nil) gs_nil (.refl _) (.d _) ⟨congrArg (fun x => AV.d (.int .i64 x)) ?_, rfl⟩
        simp_all [cfgOk] <;> omega
      refine AL.gv rfl rfl rfl rfl (B.fA fl_api_Cfg_10) ?_
      refine AL.gv rfl rfl rfl rfl (B.l1 ty_uint64) ?_
      refine AL.gv rfl rfl rfl rfl (B.cmp rfl rfl rfl rfl rfl) ?_
      refine AL.v rfl rfl (B.pF) ?_
      refine AL.nil (AThen.n ?_)
      refine Aw.cases (t := 67) rfl (fun hc0 => ?_) (fun hc0 => ?_)
      · refine Aw.condT rfl rfl (Aw.seq (Aw.region ?_))
        refine AL.v rfl rfl (B.mA) ?_
        refine AL.nil (AThen.n (Aw.ret (AThen.r (APost.r ?_))))
        refine Ret.all [] rfl (.cons (.t (.d _)) .nil) gs_nil (.refl _) (.d _) ⟨congrArg (fun x => AV.d (.int .i64 x)) ?_, rfl⟩
        simp_all [cfgOk] <;> omega
      refine Aw.condF rfl rfl (Aw.skip (AThen.n (Aw.seq (Aw.region ?_))))
      refine AL.v rfl rfl (B.mA) ?_
      refine AL.nil (AThen.n (Aw.ret (APost.r ?_)))
      refine Ret.all [] rfl (.cons (.t (.d _)) .nil) gs_nil (.refl _) (.d _) ⟨congrArg (fun x => AV.d (.int .i64 x)) ?_, rfl⟩
      simp_all [cfgOk] <;> omega
    refine AL.off rfl rfl rfl rfl rfl (by decide) ?_
    refine AL.off rfl rfl rfl rfl rfl (by decide) ?_
    refine AL.off rfl rfl rfl rfl rfl (by decide) ?_
    refine AL.v rfl rfl (B.pF) ?_
    refine AL.v rfl rfl (B.mA) ?_
    refine AL.off rfl rfl rfl rfl rfl (by decide) ?_
    refine AL.off rfl rfl rfl rfl rfl (by decide) ?_
    refine AL.off rfl rfl rfl rfl rfl (by decide) ?_
    refine AL.v rfl rfl (B.pF) ?_
    refine AL.v rfl rfl (B.mA) ?_
    refine AL.off rfl rfl rfl rfl rfl (by decide) ?_
    refine AL.off rfl rfl rfl rfl rfl (by decide) ?_
    refine AL.off rfl rfl rfl rfl rfl (by decide) ?_
    refine AL.v rfl rfl (B.pF) ?_
    refine AL.v rfl rfl (B.mA) ?_
    refine AL.nil (AThen.n (Aw.seq (Aw.region ?_)))
    refine AL.v rfl rfl (B.mA) ?_
    refine AL.v rfl rfl (B.mA) ?_
    refine AL.off rfl rfl rfl rfl rfl (by decide) ?_
    refine AL.off rfl rfl rfl rfl rfl (by decide) ?_
    refine AL.off rfl rfl rfl rfl rfl (by decide) ?_
    refine AL.v rfl rfl (B.pF) ?_
    refine AL.v rfl rfl (B.mA) ?_
    refine AL.off rfl rfl rfl rfl rfl (by decide) ?_
    refine AL.off rfl rfl rfl rfl rfl (by decide) ?_
    refine AL.off rfl rfl rfl rfl rfl (by decide) ?_
    refine AL.off rfl rfl rfl rfl rfl (by decide) ?_
    refine AL.off rfl rfl rfl rfl rfl (by decide) ?_
    refine AL.v rfl rfl (B.pF) ?_
    refine AL.v rfl rfl (B.mA) ?_
    refine AL.off rfl rfl rfl rfl rfl (by decide) ?_
    refine AL.off rfl rfl rfl rfl rfl (by decide) ?_
    refine AL.off rfl rfl rfl rfl rfl (by decide) ?_
    refine AL.v rfl rfl (B.pF) ?_
    refine AL.v rfl rfl (B.mA) ?_
    refine AL.off rfl rfl rfl rfl rfl (by decide) ?_
    refine AL.off rfl rfl rfl rfl rfl (by decide) ?_
    refine AL.off rfl rfl rfl rfl rfl (by decide) ?_
    refine AL.v rfl rfl (B.pF) ?_
    refine AL.v rfl rfl (B.mA) ?_
    refine AL.off rfl rfl rfl rfl rfl (by decide) ?_
    refine AL.off rfl rfl rfl rfl rfl (by decide) ?_
    refine AL.off rfl rfl rfl rfl rfl (by decide) ?_
    refine AL.v rfl rfl (B.pF) ?_
    refine AL.v rfl rfl (B.mA) ?_
    refine AL.nil (AThen.n (Aw.seq (Aw.seq (Aw.region ?_))))
    refine AL.v rfl rfl (B.mA) ?_
    refine AL.v rfl rfl (B.not rfl rfl rfl) ?_
    refine AL.v rfl rfl (B.mA) ?_
    refine AL.cases (t := 58) rfl (fun hg58 => ?_) (fun hg58 => ?_)
    · refine AL.off rfl rfl rfl rfl rfl (by decide) ?_
      refine AL.off rfl rfl rfl rfl rfl (by decide) ?_
      refine AL.off rfl rfl rfl rfl rfl (by decide) ?_
      refine AL.v rfl rfl (B.pT) ?_
      refine AL.v rfl rfl (B.mA) ?_
      refine AL.off rfl rfl rfl rfl rfl (by decide) ?_
      refine AL.off rfl rfl rfl rfl rfl (by decide) ?_
      refine AL.off rfl rfl rfl rfl rfl (by decide) ?_
      refine AL.v rfl rfl (B.pT) ?_
      refine AL.nil (AThen.n ?_)
      refine Aw.condT rfl (rfl) ?_
      refine Aw.seq (Aw.region ?_)
      refine AL.v rfl rfl (B.mA) ?_
      refine AL.nil (AThen.n (Aw.ret (AThen.r (APost.r ?_))))
      refine Ret.all [] rfl (.cons (.t (.d _)) .nil) gs_nil (.refl _) (.d _) ⟨congrArg (fun x => AV.d (.int .i64 x)) ?_, rfl⟩
      simp_all [cfgOk] <;> omega
    refine AL.gv rfl rfl rfl rfl (B.fA fl_api_Cfg_9) ?_
    refine AL.gv rfl rfl rfl rfl (B.l1 ty_uint64) ?_
    refine AL.gv rfl rfl rfl rfl (B.cmp rfl rfl rfl rfl rfl) ?_
    refine AL.v rfl rfl (B.pF) ?_
    refine AL.v rfl rfl (B.mA) ?_
    refine AL.cases (t := 63) rfl (fun hg63 => ?_) (fun hg63 => ?_)
    · refine AL.off rfl rfl rfl rfl rfl (by decide) ?_
      refine AL.off rfl rfl rfl rfl rfl (by decide) ?_
      refine AL.off rfl rfl rfl rfl rfl (by decide) ?_
      refine AL.v rfl rfl (B.pT) ?_
      refine AL.nil (AThen.n ?_)
      refine Aw.condT rfl (rfl) ?_
      refine Aw.seq (Aw.region ?_)
      refine AL.v rfl rfl (B.mA) ?_
      refine AL.nil (AThen.n (Aw.ret (AThen.r (APost.r ?_))))
      refine Ret.all [] rfl (.cons (.t (.d _)) .nil) gs_nil (.refl _) (.d _) ⟨congrArg (fun x => AV.d (.int .i64 x)) ?_, rfl⟩
      simp_all [cfgOk] <;> omega
    refine AL.gv rfl rfl rfl rfl (B.fA fl_api_Cfg_10) ?_
    refine AL.gv rfl rfl rfl rfl (B.l1 ty_uint64) ?_
    refine AL.gv rfl rfl rfl rfl (B.cmp rfl rfl rfl rfl rfl) ?_
    refine AL.v rfl rfl (B.pF) ?_
    refine AL.nil (AThen.n ?_)
    refine Aw.cases (t := 67) rfl (fun hc0 => ?_) (fun hc0 => ?_)
    · refine Aw.condT rfl rfl (Aw.seq (Aw.region ?_))
      refine AL.v rfl rfl (B.mA) ?_
      refine AL.nil (AThen.n (Aw.ret (AThen.r (APost.r ?_))))
      refine Ret.all [] rfl (.cons (.t (.d _)) .nil) gs_nil (.refl _) (.d _) ⟨congrArg (fun x => AV.d (.int .i64 x)) ?_, rfl⟩
      simp_all [cfgOk] <;> omega
    refine Aw.condF rfl rfl (Aw.skip (AThen.n (Aw.seq (Aw.region ?_))))
    refine AL.v rfl rfl (B.mA) ?_
    refine AL.nil (AThen.n (Aw.ret (APost.r ?_)))
    refine Ret.all [] rfl (.cons (.t (.d _)) .nil) gs_nil (.refl _) (.d _) ⟨congrArg (fun x => AV.d (.int .i64 x)) ?_, rfl⟩
    simp_all [cfgOk] <;> omega
  refine AL.off rfl rfl rfl rfl rfl (by decide) ?_
  refine AL.off rfl rfl rfl rfl rfl (by decide) ?_
  refine AL.off rfl rfl rfl rfl rfl (by decide) ?_
  refine AL.v rfl rfl (B.pF) ?_
  refine AL.v rfl rfl (B.mA) ?_
  refine AL.off rfl rfl rfl rfl rfl (by decide) ?_
  refine AL.off rfl rfl rfl rfl rfl (by decide) ?_
  refine AL.off rfl rfl rfl rfl rfl (by decide) ?_
  refine AL.v rfl rfl (B.pF) ?_
  refine AL.v rfl rfl (B.mA) ?_
  refine AL.off rfl rfl rfl rfl rfl (by decide) ?_
  refine AL.off rfl rfl rfl rfl rfl (by decide) ?_
  refine AL.off rfl rfl rfl rfl rfl (by decide) ?_
  refine AL.v rfl rfl (B.pF) ?_
  refine AL.v rfl rfl (B.mA) ?_
  refine AL.off rfl rfl rfl rfl rfl (by decide) ?_
  refine AL.off rfl rfl rfl rfl rfl (by decide) ?_
  refine AL.off rfl rfl rfl rfl rfl (by decide) ?_
  refine AL.v rfl rfl (B.pF) ?_
  refine AL.v rfl rfl (B.mA) ?_
  refine AL.nil (AThen.n (Aw.seq (Aw.region ?_)))
  refine AL.v rfl rfl (B.mA) ?_
  refine AL.v rfl rfl (B.mA) ?_
  refine AL.off rfl rfl rfl rfl rfl (by decide) ?_
  refine AL.off rfl rfl rfl rfl rfl (by decide) ?_
  refine AL.off rfl rfl rfl rfl rfl (by decide) ?_
  refine AL.v rfl rfl (B.pF) ?_
  refine AL.v rfl rfl (B.mA) ?_
  refine AL.off rfl rfl rfl rfl rfl (by decide) ?_
  refine AL.off rfl rfl rfl rfl rfl (by decide) ?_
  refine AL.off rfl rfl rfl rfl rfl (by decide) ?_
  refine AL.off rfl rfl rfl rfl rfl (by decide) ?_
  refine AL.off rfl rfl rfl rfl rfl (by decide) ?_
  refine AL.v rfl rfl (B.pF) ?_
  refine AL.v rfl rfl (B.mA) ?_
  refine AL.off rfl rfl rfl rfl rfl (by decide) ?_
  refine AL.off rfl rfl rfl rfl rfl (by decide) ?_
  refine AL.off rfl rfl rfl rfl rfl (by decide) ?_
  refine AL.v rfl rfl (B.pF) ?_
  refine AL.v rfl rfl (B.mA) ?_
  refine AL.off rfl rfl rfl rfl rfl (by decide) ?_
  refine AL.off rfl rfl rfl rfl rfl (by decide) ?_
  refine AL.off rfl rfl rfl rfl rfl (by decide) ?_
  refine AL.v rfl rfl (B.pF) ?_
  refine AL.v rfl rfl (B.mA) ?_
  refine AL.off rfl rfl rfl rfl rfl (by decide) ?_
  refine AL.off rfl rfl rfl rfl rfl (by decide) ?_
  refine AL.off rfl rfl rfl rfl rfl (by decide) ?_
  refine AL.v rfl rfl (B.pF) ?_
  refine AL.v rfl rfl (B.mA) ?_
  refine AL.nil (AThen.n (Aw.seq (Aw.seq (Aw.region ?_))))
  refine AL.v rfl rfl (B.mA) ?_
  refine AL.v rfl rfl (B.not rfl rfl rfl) ?_
  refine AL.v rfl rfl (B.mA) ?_
  refine AL.cases (t := 58) rfl (fun hg58 => ?_) (fun hg58 => ?_)
  · refine AL.off rfl rfl rfl rfl rfl (by decide) ?_
    refine AL.off rfl rfl rfl rfl rfl (by decide) ?_
    refine AL.off rfl rfl rfl rfl rfl (by decide) ?_
    refine AL.v rfl rfl (B.pT) ?_
    refine AL.v rfl rfl (B.mA) ?_
    refine AL.off rfl rfl rfl rfl rfl (by decide) ?_
    refine AL.off rfl rfl rfl rfl rfl (by decide) ?_
    refine AL.off rfl rfl rfl rfl rfl (by decide) ?_
    refine AL.v rfl rfl (B.pT) ?_
    refine AL.nil (AThen.n ?_)
    refine Aw.condT rfl (rfl) ?_
    refine Aw.seq (Aw.region ?_)
    refine AL.v rfl rfl (B.mA) ?_
    refine AL.nil (AThen.n (Aw.ret (AThen.r (APost.r ?_))))
    refine Ret.all [] rfl (.cons (.t (.d _)) .nil) gs_nil (.refl _) (.d _) ⟨congrArg (fun x => AV.d (.int .i64 x)) ?_, rfl⟩
    simp_all [cfgOk] <;> omega
  refine AL.gv rfl rfl rfl rfl (B.fA fl_api_Cfg_9) ?_
  refine AL.gv rfl rfl rfl rfl (B.l1 ty_uint64) ?_
  refine AL.gv rfl rfl rfl rfl (B.cmp rfl rfl rfl rfl rfl) ?_
  refine AL.v rfl rfl (B.pF) ?_
  refine AL.v rfl rfl (B.mA) ?_
  refine AL.cases (t := 63) rfl (fun hg63 => ?_) (fun hg63 => ?_)
  · refine AL.off rfl rfl rfl rfl rfl (by decide) ?_
    refine AL.off rfl rfl rfl rfl rfl (by decide) ?_
    refine AL.off rfl rfl rfl rfl rfl (by decide) ?_
    refine AL.v rfl rfl (B.pT) ?_
    refine AL.nil (AThen.n ?_)
    refine Aw.condT rfl (rfl) ?_
    refine Aw.seq (Aw.region ?_)
    refine AL.v rfl rfl (B.mA) ?_
    refine AL.nil (AThen.n (Aw.ret (AThen.r (APost.r ?_))))
    refine Ret.all [] rfl (.cons (.t (.d _)) .nil) gs_nil (.refl _) (.d _) ⟨congrArg (fun x => AV.d (.int .i64 x)) ?_, rfl⟩
    simp_all [cfgOk] <;> omega
  refine AL.gv rfl rfl rfl rfl (B.fA fl_api_Cfg_10) ?_
  refine AL.gv rfl rfl rfl rfl (B.l1 ty_uint64) ?_
  refine AL.gv rfl rfl rfl rfl (B.cmp rfl rfl rfl rfl rfl) ?_
  refine AL.v rfl rfl (B.pF) ?_
  refine AL.nil (AThen.n ?_)
  refine Aw.cases (t := 67) rfl (fun hc0 => ?_) (fun hc0 => ?_)
  · refine Aw.condT rfl rfl (Aw.seq (Aw.region ?_))
    refine AL.v rfl rfl (B.mA) ?_
    refine AL.nil (AThen.n (Aw.ret (AThen.r (APost.r ?_))))
    refine Ret.all [] rfl (.cons (.t (.d _)) .nil) gs_nil (.refl _) (.d _) ⟨congrArg (fun x => AV.d (.int .i64 x)) ?_, rfl⟩
    simp_all [cfgOk] <;> omega
  refine Aw.condF rfl rfl (Aw.skip (AThen.n (Aw.seq (Aw.region ?_))))
  refine AL.v rfl rfl (B.mA) ?_
  refine AL.nil (AThen.n (Aw.ret (APost.r ?_)))
  refine Ret.all [] rfl (.cons (.t (.d _)) .nil) gs_nil (.refl _) (.d _) ⟨congrArg (fun x => AV.d (.int .i64 x)) ?_, rfl⟩
  simp_all [cfgOk] <;> omega

set_option maxRecDepth 100000 in
theorem squeue_new (s : Nat) :
    ACalls Try.prog 83 [.d (.int .u64 (s : Nat))] (fun r bs => r = aQueue ⟨s, []⟩ ∧ bs = []) := by
  refine ACalls.of Try.func83 rfl (Nat.le_of_ble_eq_true rfl) ?_
  show Aw _ _ _ _ ⟨_, _⟩
  refine Aw.seq (Aw.region ?_)
  refine AL.u rfl rfl (B.aA (g := 0) zr_api_Queue) ?_
  refine AL.nil (AThen.n (Aw.seq (Aw.region ?_)))
  refine AL.v rfl rfl (B.mA) ?_
  refine AL.v rfl rfl (B.build rfl bd_api_Queue rfl rfl) ?_
  refine AL.s rfl rfl (B.sA ty_api_Queue) ?_
  refine AL.nil (AThen.n (Aw.ret (APost.r ?_)))
  refine Ret.a2 [] (aQueue ⟨s, []⟩) rfl (.m ty_api_Queue .nil) gs_nil ⟨?_, rfl⟩
  rfl

set_option maxRecDepth 100000 in
theorem smodel_new (c : CfgV) :
    ACalls Try.prog 49 [aCfg c] (fun r bs => r = .tup [aModel (mNew c).1, .d (.int .i64 (mNew c).2)] ∧ bs = []) := by
  refine ACalls.of Try.func49 rfl (Nat.le_of_ble_eq_true rfl) ?_
  show Aw _ _ _ _ ⟨_, _⟩
  refine Aw.seq (Aw.region ?_)
  refine AL.u rfl rfl (B.bA (g := 0)) ?_
  refine AL.u rfl rfl (B.aA (g := 1) zr_api_Model) ?_
  refine AL.v rfl rfl (B.mA) ?_
  refine AL.nil (AThen.n (Aw.seq (Aw.seq (Aw.region ?_))))
  refine AL.v rfl rfl (B.lN ty_api_Cfg) ?_
  refine AL.v rfl rfl (B.call0 (k := 2) rfl en_shallot_key_Check (key_check c) (.c .nil)) ?_
  refine AL.v rfl rfl (B.cmp rfl rfl rfl rfl rfl) ?_
  refine AL.nil (AThen.n ?_)
  refine Aw.cases (t := 8) rfl (fun hc0 => ?_) (fun hc0 => ?_)
  · have hcf : cfgOk c = false := by
      cases hcc : cfgOk c with
      | false => rfl
      | true => rw [hcc] at hc0; simp at hc0
    refine Aw.condT rfl rfl (Aw.seq (Aw.region ?_))
    refine AL.v rfl rfl (B.build rfl bd_api_Model rfl rfl) ?_
    refine AL.s rfl rfl (B.sA ty_api_Model) ?_
    refine AL.v rfl rfl (B.mA) ?_
    refine AL.nil (AThen.n (Aw.ret (AThen.r (APost.r ?_))))
    refine Ret.a2 [] (.tup [aModel .zero, .d (.int .i64 1)]) rfl (.m ty_api_Model (.t .nil)) gs_nil ⟨?_, rfl⟩
    rw [show mNew c = (.zero, 1) from by simp [mNew, hcf]]
    rfl
  have hcf : cfgOk c = true := by
    cases hcc : cfgOk c with
    | true => rfl
    | false => rw [hcc] at hc0; simp at hc0
  obtain ⟨cl, hn, hn8⟩ : ∃ n : Nat, c.Clients = n ∧ n ≤ 8 := by
    simp [cfgOk, inB] at hcf
    exact ⟨c.Clients.toNat, by omega, by omega⟩
  refine Aw.condF rfl rfl (Aw.skip (AThen.n (Aw.seq (Aw.drawn' mixed ?_))))
  refine CD.v rfl rfl (B.fA fl_api_Cfg_3) ?_
  refine CD.v rfl rfl (B.l1 ty_int) ?_
  refine CD.u rfl rfl (B.make (g := 2) (l := cl) (c := cl) rfl el_Lapi_Queue zr_api_Queue (.d (.nsl (sz := 5) .nil)) by_api_Queue (by decide) rfl rfl rfl hn hn (Nat.le_refl _) (by omega) (by unfold maxLen; omega) rfl rfl) ?_
  refine CD.v rfl rfl (B.fA fl_api_Cfg_3) ?_
  refine CD.v rfl rfl (B.l1 ty_int) ?_
  refine CD.u rfl rfl (B.make (g := 3) (l := cl) (c := cl) rfl el_Lint zr_int (.d .nil) by_int (by decide) rfl rfl rfl hn hn (Nat.le_refl _) (by omega) (by unfold maxLen; omega) rfl rfl) ?_
  refine CD.v rfl rfl (B.fA fl_api_Cfg_3) ?_
  refine CD.v rfl rfl (B.l1 ty_int) ?_
  refine CD.u rfl rfl (B.make (g := 4) (l := cl) (c := cl) rfl el_LLapi_Letter zr_Lapi_Letter (.nsl (sz := 5) .nil) by_Lapi_Letter (by decide) rfl rfl rfl hn hn (Nat.le_refl _) (by omega) (by unfold maxLen; omega) rfl rfl) ?_
  refine CD.v rfl rfl (B.build rfl bd_api_Model rfl rfl) ?_
  refine CD.u rfl rfl (B.aA (g := 5) zr_api_Model) ?_
  refine CD.s rfl rfl (B.sA ty_api_Model) ?_
  refine CD.nil (by kernel_rfl) ?_
  refine AThen.n (Aw.seq (Aw.seq (Aw.region ?_)))
  refine AL.v rfl rfl (B.fA fl_api_Model_0) ?_
  refine AL.v rfl rfl (B.l1 ty_Lapi_Queue) ?_
  refine AL.v rfl rfl (B.nA Try.underlying56) ?_
  refine AL.v rfl rfl (B.mA) ?_
  refine AL.nil (AThen.n (Aw.block ?_))
  refine Aw.move (σ' := ⟨(upd (upd (upd (upd (upd (fun _ => AV.und) 23 (.d (.int .i64 (0 : Nat)))) 22 (.d (.int .i64 (cl : Nat)))) 4 (.ptr 5 0 0)) 2 (.ptr 1 0 0)) 1 (.ptr 0 0 0)), blksOf [.var 55 [.d (.view 1 (c.Seed.map eByte)), .d (.int .i64 c.Chain), .d (.int .i64 c.Standby), .d (.int .i64 c.Clients), .d (.int .i64 c.Queue), .d (.int .i64 c.Close), .d (.int .i64 c.Long), .d (.int .i64 c.Again), .d (.int .i64 c.Window), .d (.int .u64 (c.Round : Nat)), .d (.int .u64 (c.Seq : Nat))], .var 60 [.nsl, .nsl, .nsl], .row 2 77 (List.replicate 0 (eQueue ⟨c.Seq, []⟩) ++ List.replicate (cl - 0) (eQueue ⟨0, []⟩)), .row 1 3 (List.replicate cl (eInt 0)), .row 1 74 (List.replicate cl (eL_Letter [])), .var 60 [.own 2 0 cl, .own 3 0 cl, .own 4 0 cl]]⟩) (Moved.mk' [] [0, 1, 2, 3, 4, 5] _ (fun g h => by simp at h) (loc_u (loc_u (loc_u (loc_u (loc_u loc_und))))) rfl (by decide) (by simp) (at_cons (.va) (at_cons (.va) (at_cons (.row' (by rfl)) (at_cons (.row _ _ _) (at_cons (.row _ _ _) (at_cons (.va) at_nil))))))) ?_
  refine Aw.loop (fun n σ => ∃ k, k ≤ cl ∧ n = cl - k ∧ σ = ⟨(upd (upd (upd (upd (upd (fun _ => AV.und) 23 (.d (.int .i64 (k : Nat)))) 22 (.d (.int .i64 (cl : Nat)))) 4 (.ptr 5 0 0)) 2 (.ptr 1 0 0)) 1 (.ptr 0 0 0)), blksOf [.var 55 [.d (.view 1 (c.Seed.map eByte)), .d (.int .i64 c.Chain), .d (.int .i64 c.Standby), .d (.int .i64 c.Clients), .d (.int .i64 c.Queue), .d (.int .i64 c.Close), .d (.int .i64 c.Long), .d (.int .i64 c.Again), .d (.int .i64 c.Window), .d (.int .u64 (c.Round : Nat)), .d (.int .u64 (c.Seq : Nat))], .var 60 [.nsl, .nsl, .nsl], .row 2 77 (List.replicate k (eQueue ⟨c.Seq, []⟩) ++ List.replicate (cl - k) (eQueue ⟨0, []⟩)), .row 1 3 (List.replicate cl (eInt 0)), .row 1 74 (List.replicate cl (eL_Letter [])), .var 60 [.own 2 0 cl, .own 3 0 cl, .own 4 0 cl]]⟩) (cl) ⟨0, Nat.zero_le _, rfl, rfl⟩ ?_
  rintro n σ ⟨k, hk, rfl, rfl⟩
  refine Aw.seq (Aw.region ?_)
  refine AL.v rfl rfl (B.cmp rfl rfl rfl rfl rfl) ?_
  refine AL.nil (AThen.n (Aw.seq ?_))
  refine Aw.cases (t := 24) rfl (fun hc1 => ?_) (fun hc1 => ?_)
  · refine Aw.condT rfl rfl (Aw.skip (AThen.n (Aw.seq (Aw.block (Aw.seq (Aw.region ?_))))))
    refine AL.v rfl rfl (B.mA) ?_
    refine AL.v rfl rfl (B.mA) ?_
    refine AL.nil (AThen.n ?_)
    have hlt : k < cl := by simp at hc1; omega
    refine Aw.drawn' mixed ?_
    refine CD.v rfl rfl (B.fA fl_api_Model_0) ?_
    refine CD.v rfl rfl (B.l1 ty_Lapi_Queue) ?_
    refine CD.v rfl rfl (B.mA) ?_
    refine CD.v rfl rfl (B.fA fl_api_Cfg_10) ?_
    refine CD.v rfl rfl (B.l1 ty_uint64) ?_
    refine CD.v rfl rfl (B.call0 (k := 6) rfl en_shallot_queue_New (squeue_new c.Seq) (.c .nil)) ?_
    refine CD.v rfl rfl (B.idxOwn0 rfl el_Lapi_Queue rfl rfl rfl rfl hlt rfl) ?_
    refine CD.s rfl rfl (B.storeRow (ds := (eQueue ⟨c.Seq, []⟩)) rfl ty_api_Queue rfl rfl (repl_at hlt) rfl rfl rfl rfl) ?_
    refine CD.nil (by kernel_rfl) ?_
    refine AIn.n (AThen.n (Aw.region ?_))
    refine AL.v rfl rfl (B.arith rfl rfl rfl (arith_add64 (by omega)) rfl) ?_
    refine AL.v rfl rfl (B.mA) ?_
    refine AL.move (σ' := ⟨(upd (upd (upd (upd (upd (fun _ => AV.und) 23 (.d (.int .i64 ((k + 1) : Nat)))) 22 (.d (.int .i64 (cl : Nat)))) 4 (.ptr 5 0 0)) 2 (.ptr 1 0 0)) 1 (.ptr 0 0 0)), blksOf [.var 55 [.d (.view 1 (c.Seed.map eByte)), .d (.int .i64 c.Chain), .d (.int .i64 c.Standby), .d (.int .i64 c.Clients), .d (.int .i64 c.Queue), .d (.int .i64 c.Close), .d (.int .i64 c.Long), .d (.int .i64 c.Again), .d (.int .i64 c.Window), .d (.int .u64 (c.Round : Nat)), .d (.int .u64 (c.Seq : Nat))], .var 60 [.nsl, .nsl, .nsl], .row 2 77 (List.replicate (k + 1) (eQueue ⟨c.Seq, []⟩) ++ List.replicate (cl - (k + 1)) (eQueue ⟨0, []⟩)), .row 1 3 (List.replicate cl (eInt 0)), .row 1 74 (List.replicate cl (eL_Letter [])), .var 60 [.own 2 0 cl, .own 3 0 cl, .own 4 0 cl]]⟩) (Moved.mk' [] [0, 1, 2, 3, 4, 5] _ (fun g h => by simp at h) (loc_u (loc_u (loc_u (loc_u (loc_u loc_und))))) rfl (by decide) (by simp) (at_cons (.va) (at_cons (.va) (at_cons (.row' (repl_set hlt)) (at_cons (.row _ _ _) (at_cons (.row _ _ _) (at_cons (.va) at_nil))))))) ?_
    refine AL.nil (AThen.n ?_)
    exact ⟨cl - (k + 1), by omega, k + 1, by omega, rfl, rfl⟩
  refine Aw.condF rfl rfl (Aw.exit (AThen.e (AThen.e (AIn.e (AThen.n (Aw.seq (Aw.region ?_)))))))
  refine AL.v rfl rfl (B.lN ty_api_Model) ?_
  refine AL.s rfl rfl (B.sA ty_api_Model) ?_
  refine AL.v rfl rfl (B.mA) ?_
  refine AL.nil (AThen.n (Aw.ret (APost.r ?_)))
  refine Ret.a1 [2, 3, 4] rfl (.m ty_api_Model (.t .nil)) (gs_cons rfl (gs_cons rfl (gs_cons rfl gs_nil))) ⟨?_, rfl⟩
  have hk2 : k = cl := by simp at hc1; omega
  subst hk2
  rw [show mNew c = (⟨List.replicate k ⟨c.Seq, []⟩, List.replicate k 0, List.replicate k []⟩, 0) from by simp [mNew, hcf, hn]]
  simp only [aModel, List.map_replicate, Nat.sub_self, List.replicate_zero, List.append_nil]

def plainC : CfgV := ⟨[], 2, 1, 2, 3, 4, 20, 5, 4, 1, 1⟩

set_option maxRecDepth 100000 in
theorem lplain :
    ACalls Try.prog 80 [] (fun r bs => r = aCfg plainC ∧ bs = []) := by
  refine ACalls.of Try.func80 rfl (Nat.le_of_ble_eq_true rfl) ?_
  show Aw _ _ _ _ ⟨_, _⟩
  refine Aw.seq (Aw.region ?_)
  refine AL.u rfl rfl (B.aA (g := 0) zr_api_Cfg) ?_
  refine AL.nil (AThen.n (Aw.seq (Aw.region ?_)))
  refine AL.v rfl rfl (B.build rfl bd_api_Cfg rfl rfl) ?_
  refine AL.s rfl rfl (B.sA ty_api_Cfg) ?_
  refine AL.nil (AThen.n (Aw.ret (APost.r ?_)))
  refine Ret.a2 [] (aCfg plainC) rfl (.m ty_api_Cfg .nil) gs_nil ⟨?_, rfl⟩
  rfl

end Go.Proofs.Ytmkfpfnjimmmaaa
