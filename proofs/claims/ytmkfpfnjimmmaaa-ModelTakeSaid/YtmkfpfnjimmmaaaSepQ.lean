/- The walks that make a model, and the example. Printed by sep.py. -/
import Derived.Test.YtmkfpfnjimmmaaaSepP
namespace Go.Proofs.Ytmkfpfnjimmmaaa
open Go.RowKit
set_option linter.unusedVariables false
set_option linter.unusedSimpArgs false

theorem bd_api_Cfg : bldOf Try.prog 55 = some ([.nsl, .d (.int .i64 0), .d (.int .i64 0), .d (.int .i64 0), .d (.int .i64 0), .d (.int .i64 0), .d (.int .i64 0), .d (.int .i64 0), .d (.int .i64 0), .d (.int .u64 0), .d (.int .u64 0)], [(0, 1), (1, 1), (2, 1), (3, 1), (4, 1), (5, 1), (6, 1), (7, 1), (8, 1), (9, 1), (10, 1)]) := by kernel_rfl
theorem bd_api_Model : bldOf Try.prog 60 = some ([.nsl, .nsl, .nsl], [(0, 1), (1, 1), (2, 1)]) := by kernel_rfl
theorem bd_api_Queue : bldOf Try.prog 77 = some ([.d (.int .u64 0), .nsl], [(0, 1), (1, 1)]) := by kernel_rfl
theorem en_shallot_key_within (us : Array Value) (u : World) : (callFunc 106 us).run Try.prog u = .ok (.enter 106 us) u := by kernel_rfl
theorem en_shallot_key_Check (us : Array Value) (u : World) : (callFunc 82 us).run Try.prog u = .ok (.enter 82 us) u := by kernel_rfl
theorem en_shallot_queue_New (us : Array Value) (u : World) : (callFunc 83 us).run Try.prog u = .ok (.enter 83 us) u := by kernel_rfl
theorem en_shallot_shallotref07_within (us : Array Value) (u : World) : (callFunc 99 us).run Try.prog u = .ok (.enter 99 us) u := by kernel_rfl
theorem fl_api_Cfg_0 : fldOf Try.prog 55 0 = some (0, false, 1) := by kernel_rfl
theorem fl_api_Cfg_1 : fldOf Try.prog 55 1 = some (1, false, 1) := by kernel_rfl
theorem fl_api_Cfg_10 : fldOf Try.prog 55 10 = some (10, false, 1) := by kernel_rfl
theorem fl_api_Cfg_2 : fldOf Try.prog 55 2 = some (2, false, 1) := by kernel_rfl
theorem fl_api_Cfg_5 : fldOf Try.prog 55 5 = some (5, false, 1) := by kernel_rfl
theorem fl_api_Cfg_6 : fldOf Try.prog 55 6 = some (6, false, 1) := by kernel_rfl
theorem fl_api_Cfg_7 : fldOf Try.prog 55 7 = some (7, false, 1) := by kernel_rfl
theorem fl_api_Cfg_8 : fldOf Try.prog 55 8 = some (8, false, 1) := by kernel_rfl
theorem fl_api_Cfg_9 : fldOf Try.prog 55 9 = some (9, false, 1) := by kernel_rfl
theorem zr_api_Cfg : zeroAV Try.prog 55 = some [.nsl, .d (.int .i64 0), .d (.int .i64 0), .d (.int .i64 0), .d (.int .i64 0), .d (.int .i64 0), .d (.int .i64 0), .d (.int .i64 0), .d (.int .i64 0), .d (.int .u64 0), .d (.int .u64 0)] := by kernel_rfl


def inB (n a b : Int) : Bool := decide (a ≤ n) && decide (n ≤ b)
def cfgOk (c : CfgV) : Bool := decide (c.Seed.length ≤ 64) && inB c.Chain 1 8 && inB c.Standby 0 8 && inB c.Clients 1 8 && inB c.Queue 1 64 && inB c.Close 1 10000 && (decide (c.Close < c.Long) && decide (c.Long ≤ 10000)) && inB c.Again 1 10000 && inB c.Window 1 64 && decide (1 ≤ c.Round) && decide (1 ≤ c.Seq)
def mNew (c : CfgV) : ModelV × Int := if cfgOk c then (⟨List.replicate c.Clients.toNat ⟨c.Seq, []⟩, List.replicate c.Clients.toNat 0, List.replicate c.Clients.toNat []⟩, 0) else (.zero, 1)
theorem repl_at {α : Type} {k n : Nat} {a z : α} (h : k < n) : (List.replicate k a ++ List.replicate (n - k) z)[k]? = some z := by
  rw [List.getElem?_append_right (by simp), List.length_replicate, Nat.sub_self, List.getElem?_replicate, if_pos (by omega)]
theorem repl_set {α : Type} {k n : Nat} {a z : α} (h : k < n) : (List.replicate k a ++ List.replicate (n - k) z).set k a = List.replicate (k + 1) a ++ List.replicate (n - (k + 1)) z := by
  rw [List.set_append_right _ _ (by simp), List.length_replicate, Nat.sub_self, show n - k = (n - (k + 1)) + 1 by omega, List.replicate_succ, List.set_cons_zero, List.replicate_succ', List.append_assoc]
  rfl

set_option maxRecDepth 100000 in
theorem key_within (n a b : Int) :
    ACalls Try.prog 106 [.d (.int .i64 n), .d (.int .i64 a), .d (.int .i64 b)] (fun r bs => r = .d (.bool (inB n a b)) ∧ bs = []) := by
  refine ACalls.of Try.func106 rfl (Nat.le_of_ble_eq_true rfl) ?_
  show Aw _ _ _ _ ⟨_, _⟩
  refine Aw.seq ?_
  refine Aw.region ?_
  refine AL.v rfl rfl (B.mv (.inr rfl) (by first | exact .d _ | exact .own _ _ _ | exact .ptr _ _ _ | exact .agg _ | exact .nsl | exact .lent _ _ | exact .vptr _ _ _ | exact .tup _ | exact .nptr | exact .fn _ _ | exact .und) rfl) ?_
  refine AL.nil ?_
  refine AThen.n ?_
  refine Aw.seq ?_
  refine Aw.region ?_
  refine AL.v rfl rfl (B.mv (.inl rfl) (by first | exact .d _ | exact .own _ _ _ | exact .ptr _ _ _ | exact .agg _ | exact .nsl | exact .lent _ _ | exact .vptr _ _ _ | exact .tup _ | exact .nptr | exact .fn _ _ | exact .und) rfl) ?_
  refine AL.v rfl rfl (B.mv (.inl rfl) (by first | exact .d _ | exact .own _ _ _ | exact .ptr _ _ _ | exact .agg _ | exact .nsl | exact .lent _ _ | exact .vptr _ _ _ | exact .tup _ | exact .nptr | exact .fn _ _ | exact .und) rfl) ?_
  refine AL.v rfl rfl (B.cmp rfl rfl rfl rfl rfl) ?_
  refine AL.v rfl rfl (B.mv (.inl rfl) (by first | exact .d _ | exact .own _ _ _ | exact .ptr _ _ _ | exact .agg _ | exact .nsl | exact .lent _ _ | exact .vptr _ _ _ | exact .tup _ | exact .nptr | exact .fn _ _ | exact .und) rfl) ?_
  refine AL.cases (t := 10) rfl (fun hg10 => ?_) (fun hg10 => ?_)
  · refine AL.gv rfl rfl rfl rfl (B.mv (.inl rfl) (by first | exact .d _ | exact .own _ _ _ | exact .ptr _ _ _ | exact .agg _ | exact .nsl | exact .lent _ _ | exact .vptr _ _ _ | exact .tup _ | exact .nptr | exact .fn _ _ | exact .und) rfl) ?_
    refine AL.gv rfl rfl rfl rfl (B.mv (.inl rfl) (by first | exact .d _ | exact .own _ _ _ | exact .ptr _ _ _ | exact .agg _ | exact .nsl | exact .lent _ _ | exact .vptr _ _ _ | exact .tup _ | exact .nptr | exact .fn _ _ | exact .und) rfl) ?_
    refine AL.gv rfl rfl rfl rfl (B.cmp rfl rfl rfl rfl rfl) ?_
    refine AL.v rfl rfl (B.pickT rfl rfl (by first | exact .d _ | exact .own _ _ _ | exact .ptr _ _ _ | exact .agg _ | exact .nsl | exact .lent _ _ | exact .vptr _ _ _ | exact .tup _ | exact .nptr | exact .fn _ _ | exact .und) rfl) ?_
    refine AL.v rfl rfl (B.mv (.inr rfl) (by first | exact .d _ | exact .own _ _ _ | exact .ptr _ _ _ | exact .agg _ | exact .nsl | exact .lent _ _ | exact .vptr _ _ _ | exact .tup _ | exact .nptr | exact .fn _ _ | exact .und) rfl) ?_
    refine AL.nil ?_
    refine AThen.n ?_
    refine Aw.ret ?_
    refine APost.r ?_
    refine Ret.all [] rfl (.cons (.t (.d _)) .nil) gs_nil (.refl _) (.d _) ⟨congrArg (fun b => AV.d (.bool b)) ?_, rfl⟩
    simp_all [inB] <;> (intros; omega)
  · refine AL.off rfl rfl rfl rfl rfl (by decide) ?_
    refine AL.off rfl rfl rfl rfl rfl (by decide) ?_
    refine AL.off rfl rfl rfl rfl rfl (by decide) ?_
    refine AL.v rfl rfl (B.pickF rfl rfl (by first | exact .d _ | exact .own _ _ _ | exact .ptr _ _ _ | exact .agg _ | exact .nsl | exact .lent _ _ | exact .vptr _ _ _ | exact .tup _ | exact .nptr | exact .fn _ _ | exact .und) rfl) ?_
    refine AL.v rfl rfl (B.mv (.inr rfl) (by first | exact .d _ | exact .own _ _ _ | exact .ptr _ _ _ | exact .agg _ | exact .nsl | exact .lent _ _ | exact .vptr _ _ _ | exact .tup _ | exact .nptr | exact .fn _ _ | exact .und) rfl) ?_
    refine AL.nil ?_
    refine AThen.n ?_
    refine Aw.ret ?_
    refine APost.r ?_
    refine Ret.all [] rfl (.cons (.t (.d _)) .nil) gs_nil (.refl _) (.d _) ⟨congrArg (fun b => AV.d (.bool b)) ?_, rfl⟩
    simp_all [inB] <;> (intros; omega)

set_option maxRecDepth 100000 in
theorem r07_within (n a b : Int) :
    ACalls Try.prog 99 [.d (.int .i64 n), .d (.int .i64 a), .d (.int .i64 b)] (fun r bs => r = .d (.bool (inB n a b)) ∧ bs = []) := by
  refine ACalls.of Try.func99 rfl (Nat.le_of_ble_eq_true rfl) ?_
  show Aw _ _ _ _ ⟨_, _⟩
  refine Aw.seq ?_
  refine Aw.region ?_
  refine AL.v rfl rfl (B.mv (.inr rfl) (by first | exact .d _ | exact .own _ _ _ | exact .ptr _ _ _ | exact .agg _ | exact .nsl | exact .lent _ _ | exact .vptr _ _ _ | exact .tup _ | exact .nptr | exact .fn _ _ | exact .und) rfl) ?_
  refine AL.nil ?_
  refine AThen.n ?_
  refine Aw.seq ?_
  refine Aw.region ?_
  refine AL.v rfl rfl (B.mv (.inl rfl) (by first | exact .d _ | exact .own _ _ _ | exact .ptr _ _ _ | exact .agg _ | exact .nsl | exact .lent _ _ | exact .vptr _ _ _ | exact .tup _ | exact .nptr | exact .fn _ _ | exact .und) rfl) ?_
  refine AL.v rfl rfl (B.mv (.inl rfl) (by first | exact .d _ | exact .own _ _ _ | exact .ptr _ _ _ | exact .agg _ | exact .nsl | exact .lent _ _ | exact .vptr _ _ _ | exact .tup _ | exact .nptr | exact .fn _ _ | exact .und) rfl) ?_
  refine AL.v rfl rfl (B.cmp rfl rfl rfl rfl rfl) ?_
  refine AL.v rfl rfl (B.mv (.inl rfl) (by first | exact .d _ | exact .own _ _ _ | exact .ptr _ _ _ | exact .agg _ | exact .nsl | exact .lent _ _ | exact .vptr _ _ _ | exact .tup _ | exact .nptr | exact .fn _ _ | exact .und) rfl) ?_
  refine AL.cases (t := 10) rfl (fun hg10 => ?_) (fun hg10 => ?_)
  · refine AL.gv rfl rfl rfl rfl (B.mv (.inl rfl) (by first | exact .d _ | exact .own _ _ _ | exact .ptr _ _ _ | exact .agg _ | exact .nsl | exact .lent _ _ | exact .vptr _ _ _ | exact .tup _ | exact .nptr | exact .fn _ _ | exact .und) rfl) ?_
    refine AL.gv rfl rfl rfl rfl (B.mv (.inl rfl) (by first | exact .d _ | exact .own _ _ _ | exact .ptr _ _ _ | exact .agg _ | exact .nsl | exact .lent _ _ | exact .vptr _ _ _ | exact .tup _ | exact .nptr | exact .fn _ _ | exact .und) rfl) ?_
    refine AL.gv rfl rfl rfl rfl (B.cmp rfl rfl rfl rfl rfl) ?_
    refine AL.v rfl rfl (B.pickT rfl rfl (by first | exact .d _ | exact .own _ _ _ | exact .ptr _ _ _ | exact .agg _ | exact .nsl | exact .lent _ _ | exact .vptr _ _ _ | exact .tup _ | exact .nptr | exact .fn _ _ | exact .und) rfl) ?_
    refine AL.v rfl rfl (B.mv (.inr rfl) (by first | exact .d _ | exact .own _ _ _ | exact .ptr _ _ _ | exact .agg _ | exact .nsl | exact .lent _ _ | exact .vptr _ _ _ | exact .tup _ | exact .nptr | exact .fn _ _ | exact .und) rfl) ?_
    refine AL.nil ?_
    refine AThen.n ?_
    refine Aw.ret ?_
    refine APost.r ?_
    refine Ret.all [] rfl (.cons (.t (.d _)) .nil) gs_nil (.refl _) (.d _) ⟨congrArg (fun b => AV.d (.bool b)) ?_, rfl⟩
    simp_all [inB] <;> (intros; omega)
  · refine AL.off rfl rfl rfl rfl rfl (by decide) ?_
    refine AL.off rfl rfl rfl rfl rfl (by decide) ?_
    refine AL.off rfl rfl rfl rfl rfl (by decide) ?_
    refine AL.v rfl rfl (B.pickF rfl rfl (by first | exact .d _ | exact .own _ _ _ | exact .ptr _ _ _ | exact .agg _ | exact .nsl | exact .lent _ _ | exact .vptr _ _ _ | exact .tup _ | exact .nptr | exact .fn _ _ | exact .und) rfl) ?_
    refine AL.v rfl rfl (B.mv (.inr rfl) (by first | exact .d _ | exact .own _ _ _ | exact .ptr _ _ _ | exact .agg _ | exact .nsl | exact .lent _ _ | exact .vptr _ _ _ | exact .tup _ | exact .nptr | exact .fn _ _ | exact .und) rfl) ?_
    refine AL.nil ?_
    refine AThen.n ?_
    refine Aw.ret ?_
    refine APost.r ?_
    refine Ret.all [] rfl (.cons (.t (.d _)) .nil) gs_nil (.refl _) (.d _) ⟨congrArg (fun b => AV.d (.bool b)) ?_, rfl⟩
    simp_all [inB] <;> (intros; omega)

set_option maxRecDepth 100000 in
theorem key_check (c : CfgV) :
    ACalls Try.prog 82 [aCfg c] (fun r bs => r = .d (.int .i64 (if cfgOk c then 0 else 1)) ∧ bs = []) := by
  refine ACalls.of Try.func82 rfl (Nat.le_of_ble_eq_true rfl) ?_
  show Aw _ _ _ _ ⟨_, _⟩
  refine Aw.seq ?_
  refine Aw.region ?_
  refine AL.u rfl rfl (B.box (g := 0) rfl (FlatV.eq (by first | exact .agg _ | exact .d _ | exact .own _ _ _ | exact .nsl | exact .ptr _ _ _)) (by rfl) rfl rfl) ?_
  refine AL.v rfl rfl (B.mv (.inr rfl) (by first | exact .d _ | exact .own _ _ _ | exact .ptr _ _ _ | exact .agg _ | exact .nsl | exact .lent _ _ | exact .vptr _ _ _ | exact .tup _ | exact .nptr | exact .fn _ _ | exact .und) rfl) ?_
  refine AL.nil ?_
  refine AThen.n ?_
  refine Aw.seq ?_
  refine Aw.block ?_
  refine Aw.seq ?_
  refine Aw.seq ?_
  refine Aw.region ?_
  first | refine AL.v rfl rfl (B.fld rfl fl_api_Cfg_0 (by decide) rfl rfl) ?_ | refine AL.v rfl rfl (B.vfld rfl fl_api_Cfg_0 (by decide) rfl rfl) ?_
  refine AL.v rfl rfl (B.load1 rfl ty_Luint8 (by first | exact .v rfl rfl rfl | exact .w rfl rfl | exact .r rfl rfl (by assumption) rfl) rfl) ?_
  refine AL.v rfl rfl (B.len rfl Try.underlying24 rfl rfl) ?_
  refine AL.v rfl rfl (B.cmp rfl rfl rfl rfl rfl) ?_
  refine AL.v rfl rfl (B.mv (.inr rfl) (by first | exact .d _ | exact .own _ _ _ | exact .ptr _ _ _ | exact .agg _ | exact .nsl | exact .lent _ _ | exact .vptr _ _ _ | exact .tup _ | exact .nptr | exact .fn _ _ | exact .und) rfl) ?_
  refine AL.nil ?_
  refine AThen.n ?_
  refine Aw.cases (t := 3) rfl (fun hc0 => ?_) (fun hc0 => ?_)
  · refine Aw.condT rfl rfl ?_
    refine Aw.skip ?_
    refine AThen.n ?_
    refine Aw.condT rfl (rfl) ?_
    refine Aw.seq ?_
    refine Aw.region ?_
    refine AL.v rfl rfl (B.mv (.inr rfl) (by first | exact .d _ | exact .own _ _ _ | exact .ptr _ _ _ | exact .agg _ | exact .nsl | exact .lent _ _ | exact .vptr _ _ _ | exact .tup _ | exact .nptr | exact .fn _ _ | exact .und) rfl) ?_
    refine AL.nil ?_
    refine AThen.n ?_
    refine Aw.ret ?_
    refine AIn.r ?_
    refine AThen.r ?_
    refine APost.r ?_
    refine Ret.all [] rfl (.cons (.t (.d _)) .nil) gs_nil (.refl _) (.d _) ⟨congrArg (fun x => AV.d (.int .i64 x)) ?_, rfl⟩
    simp_all [cfgOk] <;> omega
  · refine Aw.condF rfl rfl ?_
    refine Aw.seq ?_
    refine Aw.region ?_
    first | refine AL.v rfl rfl (B.fld rfl fl_api_Cfg_1 (by decide) rfl rfl) ?_ | refine AL.v rfl rfl (B.vfld rfl fl_api_Cfg_1 (by decide) rfl rfl) ?_
    refine AL.v rfl rfl (B.load1 rfl ty_int (by first | exact .v rfl rfl rfl | exact .w rfl rfl | exact .r rfl rfl (by assumption) rfl) rfl) ?_
    refine AL.v rfl rfl (B.call (k := 1) (rb := []) (hc := (key_within c.Chain 1 8)) rfl en_shallot_key_within (ArgsA.cons (by first | exact .d _ | exact .lent _ _ | exact .nv _ | exact .nlent _ | exact .nsl | exact .lnd _ _ | exact .own (by simp) rfl rfl | exact .aggL (by repeat (first | exact L2.nil | (apply L2.cons; focus (first | exact .d _ | exact .lent _ _ | exact .nv _ | exact .nlent _ | exact .nsl | exact .lnd _ _ | exact .own (by simp) rfl rfl))))) (ArgsA.cons (by first | exact .d _ | exact .lent _ _ | exact .nv _ | exact .nlent _ | exact .nsl | exact .lnd _ _ | exact .own (by simp) rfl rfl | exact .aggL (by repeat (first | exact L2.nil | (apply L2.cons; focus (first | exact .d _ | exact .lent _ _ | exact .nv _ | exact .nlent _ | exact .nsl | exact .lnd _ _ | exact .own (by simp) rfl rfl))))) (ArgsA.cons (by first | exact .d _ | exact .lent _ _ | exact .nv _ | exact .nlent _ | exact .nsl | exact .lnd _ _ | exact .own (by simp) rfl rfl | exact .aggL (by repeat (first | exact L2.nil | (apply L2.cons; focus (first | exact .d _ | exact .lent _ _ | exact .nv _ | exact .nlent _ | exact .nsl | exact .lnd _ _ | exact .own (by simp) rfl rfl))))) ArgsA.nil))) rfl (by first | exact .d _ | exact .nsl | exact .aggL (by repeat (first | exact L2.nil | (apply L2.cons; focus (first | exact .d _ | exact .nsl)))) | exact .tupL (by repeat (first | exact L2.nil | (apply L2.cons; focus (first | exact .aggL (by repeat (first | exact L2.nil | (apply L2.cons; focus (first | exact .d _ | exact .nsl)))) | exact .d _ | exact .nsl))))) rfl) ?_
    refine AL.v rfl rfl (B.not rfl rfl rfl) ?_
    refine AL.v rfl rfl (B.mv (.inr rfl) (by first | exact .d _ | exact .own _ _ _ | exact .ptr _ _ _ | exact .agg _ | exact .nsl | exact .lent _ _ | exact .vptr _ _ _ | exact .tup _ | exact .nptr | exact .fn _ _ | exact .und) rfl) ?_
    refine AL.nil ?_
    refine AThen.n ?_
    refine Aw.cases (t := 3) rfl (fun hc1 => ?_) (fun hc1 => ?_)
    · refine Aw.condT rfl rfl ?_
      refine Aw.skip ?_
      refine AThen.n ?_
      refine Aw.condT rfl (rfl) ?_
      refine Aw.seq ?_
      refine Aw.region ?_
      refine AL.v rfl rfl (B.mv (.inr rfl) (by first | exact .d _ | exact .own _ _ _ | exact .ptr _ _ _ | exact .agg _ | exact .nsl | exact .lent _ _ | exact .vptr _ _ _ | exact .tup _ | exact .nptr | exact .fn _ _ | exact .und) rfl) ?_
      refine AL.nil ?_
      refine AThen.n ?_
      refine Aw.ret ?_
      refine AIn.r ?_
      refine AThen.r ?_
      refine APost.r ?_
      refine Ret.all [] rfl (.cons (.t (.d _)) .nil) gs_nil (.refl _) (.d _) ⟨congrArg (fun x => AV.d (.int .i64 x)) ?_, rfl⟩
      simp_all [cfgOk] <;> omega
    · refine Aw.condF rfl rfl ?_
      refine Aw.seq ?_
      refine Aw.region ?_
      first | refine AL.v rfl rfl (B.fld rfl fl_api_Cfg_2 (by decide) rfl rfl) ?_ | refine AL.v rfl rfl (B.vfld rfl fl_api_Cfg_2 (by decide) rfl rfl) ?_
      refine AL.v rfl rfl (B.load1 rfl ty_int (by first | exact .v rfl rfl rfl | exact .w rfl rfl | exact .r rfl rfl (by assumption) rfl) rfl) ?_
      refine AL.v rfl rfl (B.call (k := 1) (rb := []) (hc := (key_within c.Standby 0 8)) rfl en_shallot_key_within (ArgsA.cons (by first | exact .d _ | exact .lent _ _ | exact .nv _ | exact .nlent _ | exact .nsl | exact .lnd _ _ | exact .own (by simp) rfl rfl | exact .aggL (by repeat (first | exact L2.nil | (apply L2.cons; focus (first | exact .d _ | exact .lent _ _ | exact .nv _ | exact .nlent _ | exact .nsl | exact .lnd _ _ | exact .own (by simp) rfl rfl))))) (ArgsA.cons (by first | exact .d _ | exact .lent _ _ | exact .nv _ | exact .nlent _ | exact .nsl | exact .lnd _ _ | exact .own (by simp) rfl rfl | exact .aggL (by repeat (first | exact L2.nil | (apply L2.cons; focus (first | exact .d _ | exact .lent _ _ | exact .nv _ | exact .nlent _ | exact .nsl | exact .lnd _ _ | exact .own (by simp) rfl rfl))))) (ArgsA.cons (by first | exact .d _ | exact .lent _ _ | exact .nv _ | exact .nlent _ | exact .nsl | exact .lnd _ _ | exact .own (by simp) rfl rfl | exact .aggL (by repeat (first | exact L2.nil | (apply L2.cons; focus (first | exact .d _ | exact .lent _ _ | exact .nv _ | exact .nlent _ | exact .nsl | exact .lnd _ _ | exact .own (by simp) rfl rfl))))) ArgsA.nil))) rfl (by first | exact .d _ | exact .nsl | exact .aggL (by repeat (first | exact L2.nil | (apply L2.cons; focus (first | exact .d _ | exact .nsl)))) | exact .tupL (by repeat (first | exact L2.nil | (apply L2.cons; focus (first | exact .aggL (by repeat (first | exact L2.nil | (apply L2.cons; focus (first | exact .d _ | exact .nsl)))) | exact .d _ | exact .nsl))))) rfl) ?_
      refine AL.v rfl rfl (B.not rfl rfl rfl) ?_
      refine AL.v rfl rfl (B.mv (.inr rfl) (by first | exact .d _ | exact .own _ _ _ | exact .ptr _ _ _ | exact .agg _ | exact .nsl | exact .lent _ _ | exact .vptr _ _ _ | exact .tup _ | exact .nptr | exact .fn _ _ | exact .und) rfl) ?_
      refine AL.nil ?_
      refine AThen.n ?_
      refine Aw.cases (t := 3) rfl (fun hc2 => ?_) (fun hc2 => ?_)
      · refine Aw.condT rfl rfl ?_
        refine Aw.skip ?_
        refine AThen.n ?_
        refine Aw.condT rfl (rfl) ?_
        refine Aw.seq ?_
        refine Aw.region ?_
        refine AL.v rfl rfl (B.mv (.inr rfl) (by first | exact .d _ | exact .own _ _ _ | exact .ptr _ _ _ | exact .agg _ | exact .nsl | exact .lent _ _ | exact .vptr _ _ _ | exact .tup _ | exact .nptr | exact .fn _ _ | exact .und) rfl) ?_
        refine AL.nil ?_
        refine AThen.n ?_
        refine Aw.ret ?_
        refine AIn.r ?_
        refine AThen.r ?_
        refine APost.r ?_
        refine Ret.all [] rfl (.cons (.t (.d _)) .nil) gs_nil (.refl _) (.d _) ⟨congrArg (fun x => AV.d (.int .i64 x)) ?_, rfl⟩
        simp_all [cfgOk] <;> omega
      · refine Aw.condF rfl rfl ?_
        refine Aw.seq ?_
        refine Aw.region ?_
        first | refine AL.v rfl rfl (B.fld rfl fl_api_Cfg_3 (by decide) rfl rfl) ?_ | refine AL.v rfl rfl (B.vfld rfl fl_api_Cfg_3 (by decide) rfl rfl) ?_
        refine AL.v rfl rfl (B.load1 rfl ty_int (by first | exact .v rfl rfl rfl | exact .w rfl rfl | exact .r rfl rfl (by assumption) rfl) rfl) ?_
        refine AL.v rfl rfl (B.call (k := 1) (rb := []) (hc := (key_within c.Clients 1 8)) rfl en_shallot_key_within (ArgsA.cons (by first | exact .d _ | exact .lent _ _ | exact .nv _ | exact .nlent _ | exact .nsl | exact .lnd _ _ | exact .own (by simp) rfl rfl | exact .aggL (by repeat (first | exact L2.nil | (apply L2.cons; focus (first | exact .d _ | exact .lent _ _ | exact .nv _ | exact .nlent _ | exact .nsl | exact .lnd _ _ | exact .own (by simp) rfl rfl))))) (ArgsA.cons (by first | exact .d _ | exact .lent _ _ | exact .nv _ | exact .nlent _ | exact .nsl | exact .lnd _ _ | exact .own (by simp) rfl rfl | exact .aggL (by repeat (first | exact L2.nil | (apply L2.cons; focus (first | exact .d _ | exact .lent _ _ | exact .nv _ | exact .nlent _ | exact .nsl | exact .lnd _ _ | exact .own (by simp) rfl rfl))))) (ArgsA.cons (by first | exact .d _ | exact .lent _ _ | exact .nv _ | exact .nlent _ | exact .nsl | exact .lnd _ _ | exact .own (by simp) rfl rfl | exact .aggL (by repeat (first | exact L2.nil | (apply L2.cons; focus (first | exact .d _ | exact .lent _ _ | exact .nv _ | exact .nlent _ | exact .nsl | exact .lnd _ _ | exact .own (by simp) rfl rfl))))) ArgsA.nil))) rfl (by first | exact .d _ | exact .nsl | exact .aggL (by repeat (first | exact L2.nil | (apply L2.cons; focus (first | exact .d _ | exact .nsl)))) | exact .tupL (by repeat (first | exact L2.nil | (apply L2.cons; focus (first | exact .aggL (by repeat (first | exact L2.nil | (apply L2.cons; focus (first | exact .d _ | exact .nsl)))) | exact .d _ | exact .nsl))))) rfl) ?_
        refine AL.v rfl rfl (B.not rfl rfl rfl) ?_
        refine AL.v rfl rfl (B.mv (.inr rfl) (by first | exact .d _ | exact .own _ _ _ | exact .ptr _ _ _ | exact .agg _ | exact .nsl | exact .lent _ _ | exact .vptr _ _ _ | exact .tup _ | exact .nptr | exact .fn _ _ | exact .und) rfl) ?_
        refine AL.nil ?_
        refine AThen.n ?_
        refine Aw.cases (t := 3) rfl (fun hc3 => ?_) (fun hc3 => ?_)
        · refine Aw.condT rfl rfl ?_
          refine Aw.skip ?_
          refine AThen.n ?_
          refine Aw.condT rfl (rfl) ?_
          refine Aw.seq ?_
          refine Aw.region ?_
          refine AL.v rfl rfl (B.mv (.inr rfl) (by first | exact .d _ | exact .own _ _ _ | exact .ptr _ _ _ | exact .agg _ | exact .nsl | exact .lent _ _ | exact .vptr _ _ _ | exact .tup _ | exact .nptr | exact .fn _ _ | exact .und) rfl) ?_
          refine AL.nil ?_
          refine AThen.n ?_
          refine Aw.ret ?_
          refine AIn.r ?_
          refine AThen.r ?_
          refine APost.r ?_
          refine Ret.all [] rfl (.cons (.t (.d _)) .nil) gs_nil (.refl _) (.d _) ⟨congrArg (fun x => AV.d (.int .i64 x)) ?_, rfl⟩
          simp_all [cfgOk] <;> omega
        · refine Aw.condF rfl rfl ?_
          refine Aw.seq ?_
          refine Aw.region ?_
          first | refine AL.v rfl rfl (B.fld rfl fl_api_Cfg_4 (by decide) rfl rfl) ?_ | refine AL.v rfl rfl (B.vfld rfl fl_api_Cfg_4 (by decide) rfl rfl) ?_
          refine AL.v rfl rfl (B.load1 rfl ty_int (by first | exact .v rfl rfl rfl | exact .w rfl rfl | exact .r rfl rfl (by assumption) rfl) rfl) ?_
          refine AL.v rfl rfl (B.call (k := 1) (rb := []) (hc := (key_within c.Queue 1 64)) rfl en_shallot_key_within (ArgsA.cons (by first | exact .d _ | exact .lent _ _ | exact .nv _ | exact .nlent _ | exact .nsl | exact .lnd _ _ | exact .own (by simp) rfl rfl | exact .aggL (by repeat (first | exact L2.nil | (apply L2.cons; focus (first | exact .d _ | exact .lent _ _ | exact .nv _ | exact .nlent _ | exact .nsl | exact .lnd _ _ | exact .own (by simp) rfl rfl))))) (ArgsA.cons (by first | exact .d _ | exact .lent _ _ | exact .nv _ | exact .nlent _ | exact .nsl | exact .lnd _ _ | exact .own (by simp) rfl rfl | exact .aggL (by repeat (first | exact L2.nil | (apply L2.cons; focus (first | exact .d _ | exact .lent _ _ | exact .nv _ | exact .nlent _ | exact .nsl | exact .lnd _ _ | exact .own (by simp) rfl rfl))))) (ArgsA.cons (by first | exact .d _ | exact .lent _ _ | exact .nv _ | exact .nlent _ | exact .nsl | exact .lnd _ _ | exact .own (by simp) rfl rfl | exact .aggL (by repeat (first | exact L2.nil | (apply L2.cons; focus (first | exact .d _ | exact .lent _ _ | exact .nv _ | exact .nlent _ | exact .nsl | exact .lnd _ _ | exact .own (by simp) rfl rfl))))) ArgsA.nil))) rfl (by first | exact .d _ | exact .nsl | exact .aggL (by repeat (first | exact L2.nil | (apply L2.cons; focus (first | exact .d _ | exact .nsl)))) | exact .tupL (by repeat (first | exact L2.nil | (apply L2.cons; focus (first | exact .aggL (by repeat (first | exact L2.nil | (apply L2.cons; focus (first | exact .d _ | exact .nsl)))) | exact .d _ | exact .nsl))))) rfl) ?_
          refine AL.v rfl rfl (B.not rfl rfl rfl) ?_
          refine AL.v rfl rfl (B.mv (.inr rfl) (by first | exact .d _ | exact .own _ _ _ | exact .ptr _ _ _ | exact .agg _ | exact .nsl | exact .lent _ _ | exact .vptr _ _ _ | exact .tup _ | exact .nptr | exact .fn _ _ | exact .und) rfl) ?_
          refine AL.nil ?_
          refine AThen.n ?_
          refine Aw.cases (t := 3) rfl (fun hc4 => ?_) (fun hc4 => ?_)
          · refine Aw.condT rfl rfl ?_
            refine Aw.skip ?_
            refine AThen.n ?_
            refine Aw.condT rfl (rfl) ?_
            refine Aw.seq ?_
            refine Aw.region ?_
            refine AL.v rfl rfl (B.mv (.inr rfl) (by first | exact .d _ | exact .own _ _ _ | exact .ptr _ _ _ | exact .agg _ | exact .nsl | exact .lent _ _ | exact .vptr _ _ _ | exact .tup _ | exact .nptr | exact .fn _ _ | exact .und) rfl) ?_
            refine AL.nil ?_
            refine AThen.n ?_
            refine Aw.ret ?_
            refine AIn.r ?_
            refine AThen.r ?_
            refine APost.r ?_
            refine Ret.all [] rfl (.cons (.t (.d _)) .nil) gs_nil (.refl _) (.d _) ⟨congrArg (fun x => AV.d (.int .i64 x)) ?_, rfl⟩
            simp_all [cfgOk] <;> omega
          · refine Aw.condF rfl rfl ?_
            refine Aw.seq ?_
            refine Aw.region ?_
            first | refine AL.v rfl rfl (B.fld rfl fl_api_Cfg_5 (by decide) rfl rfl) ?_ | refine AL.v rfl rfl (B.vfld rfl fl_api_Cfg_5 (by decide) rfl rfl) ?_
            refine AL.v rfl rfl (B.load1 rfl ty_int (by first | exact .v rfl rfl rfl | exact .w rfl rfl | exact .r rfl rfl (by assumption) rfl) rfl) ?_
            refine AL.v rfl rfl (B.call (k := 1) (rb := []) (hc := (key_within c.Close 1 10000)) rfl en_shallot_key_within (ArgsA.cons (by first | exact .d _ | exact .lent _ _ | exact .nv _ | exact .nlent _ | exact .nsl | exact .lnd _ _ | exact .own (by simp) rfl rfl | exact .aggL (by repeat (first | exact L2.nil | (apply L2.cons; focus (first | exact .d _ | exact .lent _ _ | exact .nv _ | exact .nlent _ | exact .nsl | exact .lnd _ _ | exact .own (by simp) rfl rfl))))) (ArgsA.cons (by first | exact .d _ | exact .lent _ _ | exact .nv _ | exact .nlent _ | exact .nsl | exact .lnd _ _ | exact .own (by simp) rfl rfl | exact .aggL (by repeat (first | exact L2.nil | (apply L2.cons; focus (first | exact .d _ | exact .lent _ _ | exact .nv _ | exact .nlent _ | exact .nsl | exact .lnd _ _ | exact .own (by simp) rfl rfl))))) (ArgsA.cons (by first | exact .d _ | exact .lent _ _ | exact .nv _ | exact .nlent _ | exact .nsl | exact .lnd _ _ | exact .own (by simp) rfl rfl | exact .aggL (by repeat (first | exact L2.nil | (apply L2.cons; focus (first | exact .d _ | exact .lent _ _ | exact .nv _ | exact .nlent _ | exact .nsl | exact .lnd _ _ | exact .own (by simp) rfl rfl))))) ArgsA.nil))) rfl (by first | exact .d _ | exact .nsl | exact .aggL (by repeat (first | exact L2.nil | (apply L2.cons; focus (first | exact .d _ | exact .nsl)))) | exact .tupL (by repeat (first | exact L2.nil | (apply L2.cons; focus (first | exact .aggL (by repeat (first | exact L2.nil | (apply L2.cons; focus (first | exact .d _ | exact .nsl)))) | exact .d _ | exact .nsl))))) rfl) ?_
            refine AL.v rfl rfl (B.not rfl rfl rfl) ?_
            refine AL.v rfl rfl (B.mv (.inr rfl) (by first | exact .d _ | exact .own _ _ _ | exact .ptr _ _ _ | exact .agg _ | exact .nsl | exact .lent _ _ | exact .vptr _ _ _ | exact .tup _ | exact .nptr | exact .fn _ _ | exact .und) rfl) ?_
            refine AL.nil ?_
            refine AThen.n ?_
            refine Aw.cases (t := 3) rfl (fun hc5 => ?_) (fun hc5 => ?_)
            · refine Aw.condT rfl rfl ?_
              refine Aw.skip ?_
              refine AThen.n ?_
              refine Aw.condT rfl (rfl) ?_
              refine Aw.seq ?_
              refine Aw.region ?_
              refine AL.v rfl rfl (B.mv (.inr rfl) (by first | exact .d _ | exact .own _ _ _ | exact .ptr _ _ _ | exact .agg _ | exact .nsl | exact .lent _ _ | exact .vptr _ _ _ | exact .tup _ | exact .nptr | exact .fn _ _ | exact .und) rfl) ?_
              refine AL.nil ?_
              refine AThen.n ?_
              refine Aw.ret ?_
              refine AIn.r ?_
              refine AThen.r ?_
              refine APost.r ?_
              refine Ret.all [] rfl (.cons (.t (.d _)) .nil) gs_nil (.refl _) (.d _) ⟨congrArg (fun x => AV.d (.int .i64 x)) ?_, rfl⟩
              simp_all [cfgOk] <;> omega
            · refine Aw.condF rfl rfl ?_
              refine Aw.seq ?_
              refine Aw.region ?_
              first | refine AL.v rfl rfl (B.fld rfl fl_api_Cfg_6 (by decide) rfl rfl) ?_ | refine AL.v rfl rfl (B.vfld rfl fl_api_Cfg_6 (by decide) rfl rfl) ?_
              refine AL.v rfl rfl (B.load1 rfl ty_int (by first | exact .v rfl rfl rfl | exact .w rfl rfl | exact .r rfl rfl (by assumption) rfl) rfl) ?_
              first | refine AL.v rfl rfl (B.fld rfl fl_api_Cfg_5 (by decide) rfl rfl) ?_ | refine AL.v rfl rfl (B.vfld rfl fl_api_Cfg_5 (by decide) rfl rfl) ?_
              refine AL.v rfl rfl (B.load1 rfl ty_int (by first | exact .v rfl rfl rfl | exact .w rfl rfl | exact .r rfl rfl (by assumption) rfl) rfl) ?_
              refine AL.v rfl rfl (B.cmp rfl rfl rfl rfl rfl) ?_
              refine AL.v rfl rfl (B.mv (.inl rfl) (by first | exact .d _ | exact .own _ _ _ | exact .ptr _ _ _ | exact .agg _ | exact .nsl | exact .lent _ _ | exact .vptr _ _ _ | exact .tup _ | exact .nptr | exact .fn _ _ | exact .und) rfl) ?_
              refine AL.cases (t := 33) rfl (fun hg33 => ?_) (fun hg33 => ?_)
              · refine AL.off rfl rfl rfl rfl rfl (by decide) ?_
                refine AL.off rfl rfl rfl rfl rfl (by decide) ?_
                refine AL.off rfl rfl rfl rfl rfl (by decide) ?_
                refine AL.v rfl rfl (B.pickT rfl rfl (by first | exact .d _ | exact .own _ _ _ | exact .ptr _ _ _ | exact .agg _ | exact .nsl | exact .lent _ _ | exact .vptr _ _ _ | exact .tup _ | exact .nptr | exact .fn _ _ | exact .und) rfl) ?_
                refine AL.v rfl rfl (B.mv (.inr rfl) (by first | exact .d _ | exact .own _ _ _ | exact .ptr _ _ _ | exact .agg _ | exact .nsl | exact .lent _ _ | exact .vptr _ _ _ | exact .tup _ | exact .nptr | exact .fn _ _ | exact .und) rfl) ?_
                refine AL.nil ?_
                refine AThen.n ?_
                refine Aw.condT rfl (rfl) ?_
                refine Aw.skip ?_
                refine AThen.n ?_
                refine Aw.condT rfl (rfl) ?_
                refine Aw.seq ?_
                refine Aw.region ?_
                refine AL.v rfl rfl (B.mv (.inr rfl) (by first | exact .d _ | exact .own _ _ _ | exact .ptr _ _ _ | exact .agg _ | exact .nsl | exact .lent _ _ | exact .vptr _ _ _ | exact .tup _ | exact .nptr | exact .fn _ _ | exact .und) rfl) ?_
                refine AL.nil ?_
                refine AThen.n ?_
                refine Aw.ret ?_
                refine AIn.r ?_
                refine AThen.r ?_
                refine APost.r ?_
                refine Ret.all [] rfl (.cons (.t (.d _)) .nil) gs_nil (.refl _) (.d _) ⟨congrArg (fun x => AV.d (.int .i64 x)) ?_, rfl⟩
                simp_all [cfgOk] <;> omega
              · first | refine AL.gv rfl rfl rfl rfl (B.fld rfl fl_api_Cfg_6 (by decide) rfl rfl) ?_ | refine AL.gv rfl rfl rfl rfl (B.vfld rfl fl_api_Cfg_6 (by decide) rfl rfl) ?_
                refine AL.gv rfl rfl rfl rfl (B.load1 rfl ty_int (by first | exact .v rfl rfl rfl | exact .w rfl rfl | exact .r rfl rfl (by assumption) rfl) rfl) ?_
                refine AL.gv rfl rfl rfl rfl (B.cmp rfl rfl rfl rfl rfl) ?_
                refine AL.v rfl rfl (B.pickF rfl rfl (by first | exact .d _ | exact .own _ _ _ | exact .ptr _ _ _ | exact .agg _ | exact .nsl | exact .lent _ _ | exact .vptr _ _ _ | exact .tup _ | exact .nptr | exact .fn _ _ | exact .und) rfl) ?_
                refine AL.v rfl rfl (B.mv (.inr rfl) (by first | exact .d _ | exact .own _ _ _ | exact .ptr _ _ _ | exact .agg _ | exact .nsl | exact .lent _ _ | exact .vptr _ _ _ | exact .tup _ | exact .nptr | exact .fn _ _ | exact .und) rfl) ?_
                refine AL.nil ?_
                refine AThen.n ?_
                refine Aw.cases (t := 3) rfl (fun hc6 => ?_) (fun hc6 => ?_)
                · refine Aw.condT rfl rfl ?_
                  refine Aw.skip ?_
                  refine AThen.n ?_
                  refine Aw.condT rfl (rfl) ?_
                  refine Aw.seq ?_
                  refine Aw.region ?_
                  refine AL.v rfl rfl (B.mv (.inr rfl) (by first | exact .d _ | exact .own _ _ _ | exact .ptr _ _ _ | exact .agg _ | exact .nsl | exact .lent _ _ | exact .vptr _ _ _ | exact .tup _ | exact .nptr | exact .fn _ _ | exact .und) rfl) ?_
                  refine AL.nil ?_
                  refine AThen.n ?_
                  refine Aw.ret ?_
                  refine AIn.r ?_
                  refine AThen.r ?_
                  refine APost.r ?_
                  refine Ret.all [] rfl (.cons (.t (.d _)) .nil) gs_nil (.refl _) (.d _) ⟨congrArg (fun x => AV.d (.int .i64 x)) ?_, rfl⟩
                  simp_all [cfgOk] <;> omega
                · refine Aw.condF rfl rfl ?_
                  refine Aw.seq ?_
                  refine Aw.region ?_
                  first | refine AL.v rfl rfl (B.fld rfl fl_api_Cfg_7 (by decide) rfl rfl) ?_ | refine AL.v rfl rfl (B.vfld rfl fl_api_Cfg_7 (by decide) rfl rfl) ?_
                  refine AL.v rfl rfl (B.load1 rfl ty_int (by first | exact .v rfl rfl rfl | exact .w rfl rfl | exact .r rfl rfl (by assumption) rfl) rfl) ?_
                  refine AL.v rfl rfl (B.call (k := 1) (rb := []) (hc := (key_within c.Again 1 10000)) rfl en_shallot_key_within (ArgsA.cons (by first | exact .d _ | exact .lent _ _ | exact .nv _ | exact .nlent _ | exact .nsl | exact .lnd _ _ | exact .own (by simp) rfl rfl | exact .aggL (by repeat (first | exact L2.nil | (apply L2.cons; focus (first | exact .d _ | exact .lent _ _ | exact .nv _ | exact .nlent _ | exact .nsl | exact .lnd _ _ | exact .own (by simp) rfl rfl))))) (ArgsA.cons (by first | exact .d _ | exact .lent _ _ | exact .nv _ | exact .nlent _ | exact .nsl | exact .lnd _ _ | exact .own (by simp) rfl rfl | exact .aggL (by repeat (first | exact L2.nil | (apply L2.cons; focus (first | exact .d _ | exact .lent _ _ | exact .nv _ | exact .nlent _ | exact .nsl | exact .lnd _ _ | exact .own (by simp) rfl rfl))))) (ArgsA.cons (by first | exact .d _ | exact .lent _ _ | exact .nv _ | exact .nlent _ | exact .nsl | exact .lnd _ _ | exact .own (by simp) rfl rfl | exact .aggL (by repeat (first | exact L2.nil | (apply L2.cons; focus (first | exact .d _ | exact .lent _ _ | exact .nv _ | exact .nlent _ | exact .nsl | exact .lnd _ _ | exact .own (by simp) rfl rfl))))) ArgsA.nil))) rfl (by first | exact .d _ | exact .nsl | exact .aggL (by repeat (first | exact L2.nil | (apply L2.cons; focus (first | exact .d _ | exact .nsl)))) | exact .tupL (by repeat (first | exact L2.nil | (apply L2.cons; focus (first | exact .aggL (by repeat (first | exact L2.nil | (apply L2.cons; focus (first | exact .d _ | exact .nsl)))) | exact .d _ | exact .nsl))))) rfl) ?_
                  refine AL.v rfl rfl (B.not rfl rfl rfl) ?_
                  refine AL.v rfl rfl (B.mv (.inr rfl) (by first | exact .d _ | exact .own _ _ _ | exact .ptr _ _ _ | exact .agg _ | exact .nsl | exact .lent _ _ | exact .vptr _ _ _ | exact .tup _ | exact .nptr | exact .fn _ _ | exact .und) rfl) ?_
                  refine AL.nil ?_
                  refine AThen.n ?_
                  refine Aw.cases (t := 3) rfl (fun hc7 => ?_) (fun hc7 => ?_)
                  · refine Aw.condT rfl rfl ?_
                    refine Aw.skip ?_
                    refine AThen.n ?_
                    refine Aw.condT rfl (rfl) ?_
                    refine Aw.seq ?_
                    refine Aw.region ?_
                    refine AL.v rfl rfl (B.mv (.inr rfl) (by first | exact .d _ | exact .own _ _ _ | exact .ptr _ _ _ | exact .agg _ | exact .nsl | exact .lent _ _ | exact .vptr _ _ _ | exact .tup _ | exact .nptr | exact .fn _ _ | exact .und) rfl) ?_
                    refine AL.nil ?_
                    refine AThen.n ?_
                    refine Aw.ret ?_
                    refine AIn.r ?_
                    refine AThen.r ?_
                    refine APost.r ?_
                    refine Ret.all [] rfl (.cons (.t (.d _)) .nil) gs_nil (.refl _) (.d _) ⟨congrArg (fun x => AV.d (.int .i64 x)) ?_, rfl⟩
                    simp_all [cfgOk] <;> omega
                  · refine Aw.condF rfl rfl ?_
                    refine Aw.seq ?_
                    refine Aw.region ?_
                    first | refine AL.v rfl rfl (B.fld rfl fl_api_Cfg_8 (by decide) rfl rfl) ?_ | refine AL.v rfl rfl (B.vfld rfl fl_api_Cfg_8 (by decide) rfl rfl) ?_
                    refine AL.v rfl rfl (B.load1 rfl ty_int (by first | exact .v rfl rfl rfl | exact .w rfl rfl | exact .r rfl rfl (by assumption) rfl) rfl) ?_
                    refine AL.v rfl rfl (B.call (k := 1) (rb := []) (hc := (key_within c.Window 1 64)) rfl en_shallot_key_within (ArgsA.cons (by first | exact .d _ | exact .lent _ _ | exact .nv _ | exact .nlent _ | exact .nsl | exact .lnd _ _ | exact .own (by simp) rfl rfl | exact .aggL (by repeat (first | exact L2.nil | (apply L2.cons; focus (first | exact .d _ | exact .lent _ _ | exact .nv _ | exact .nlent _ | exact .nsl | exact .lnd _ _ | exact .own (by simp) rfl rfl))))) (ArgsA.cons (by first | exact .d _ | exact .lent _ _ | exact .nv _ | exact .nlent _ | exact .nsl | exact .lnd _ _ | exact .own (by simp) rfl rfl | exact .aggL (by repeat (first | exact L2.nil | (apply L2.cons; focus (first | exact .d _ | exact .lent _ _ | exact .nv _ | exact .nlent _ | exact .nsl | exact .lnd _ _ | exact .own (by simp) rfl rfl))))) (ArgsA.cons (by first | exact .d _ | exact .lent _ _ | exact .nv _ | exact .nlent _ | exact .nsl | exact .lnd _ _ | exact .own (by simp) rfl rfl | exact .aggL (by repeat (first | exact L2.nil | (apply L2.cons; focus (first | exact .d _ | exact .lent _ _ | exact .nv _ | exact .nlent _ | exact .nsl | exact .lnd _ _ | exact .own (by simp) rfl rfl))))) ArgsA.nil))) rfl (by first | exact .d _ | exact .nsl | exact .aggL (by repeat (first | exact L2.nil | (apply L2.cons; focus (first | exact .d _ | exact .nsl)))) | exact .tupL (by repeat (first | exact L2.nil | (apply L2.cons; focus (first | exact .aggL (by repeat (first | exact L2.nil | (apply L2.cons; focus (first | exact .d _ | exact .nsl)))) | exact .d _ | exact .nsl))))) rfl) ?_
                    refine AL.v rfl rfl (B.not rfl rfl rfl) ?_
                    refine AL.v rfl rfl (B.mv (.inr rfl) (by first | exact .d _ | exact .own _ _ _ | exact .ptr _ _ _ | exact .agg _ | exact .nsl | exact .lent _ _ | exact .vptr _ _ _ | exact .tup _ | exact .nptr | exact .fn _ _ | exact .und) rfl) ?_
                    refine AL.nil ?_
                    refine AThen.n ?_
                    refine Aw.cases (t := 3) rfl (fun hc8 => ?_) (fun hc8 => ?_)
                    · refine Aw.condT rfl rfl ?_
                      refine Aw.skip ?_
                      refine AThen.n ?_
                      refine Aw.condT rfl (rfl) ?_
                      refine Aw.seq ?_
                      refine Aw.region ?_
                      refine AL.v rfl rfl (B.mv (.inr rfl) (by first | exact .d _ | exact .own _ _ _ | exact .ptr _ _ _ | exact .agg _ | exact .nsl | exact .lent _ _ | exact .vptr _ _ _ | exact .tup _ | exact .nptr | exact .fn _ _ | exact .und) rfl) ?_
                      refine AL.nil ?_
                      refine AThen.n ?_
                      refine Aw.ret ?_
                      refine AIn.r ?_
                      refine AThen.r ?_
                      refine APost.r ?_
                      refine Ret.all [] rfl (.cons (.t (.d _)) .nil) gs_nil (.refl _) (.d _) ⟨congrArg (fun x => AV.d (.int .i64 x)) ?_, rfl⟩
                      simp_all [cfgOk] <;> omega
                    · refine Aw.condF rfl rfl ?_
                      refine Aw.seq ?_
                      refine Aw.region ?_
                      first | refine AL.v rfl rfl (B.fld rfl fl_api_Cfg_9 (by decide) rfl rfl) ?_ | refine AL.v rfl rfl (B.vfld rfl fl_api_Cfg_9 (by decide) rfl rfl) ?_
                      refine AL.v rfl rfl (B.load1 rfl ty_uint64 (by first | exact .v rfl rfl rfl | exact .w rfl rfl | exact .r rfl rfl (by assumption) rfl) rfl) ?_
                      refine AL.v rfl rfl (B.cmp rfl rfl rfl rfl rfl) ?_
                      refine AL.v rfl rfl (B.mv (.inr rfl) (by first | exact .d _ | exact .own _ _ _ | exact .ptr _ _ _ | exact .agg _ | exact .nsl | exact .lent _ _ | exact .vptr _ _ _ | exact .tup _ | exact .nptr | exact .fn _ _ | exact .und) rfl) ?_
                      refine AL.nil ?_
                      refine AThen.n ?_
                      refine Aw.cases (t := 3) rfl (fun hc9 => ?_) (fun hc9 => ?_)
                      · refine Aw.condT rfl rfl ?_
                        refine Aw.skip ?_
                        refine AThen.n ?_
                        refine Aw.condT rfl (rfl) ?_
                        refine Aw.seq ?_
                        refine Aw.region ?_
                        refine AL.v rfl rfl (B.mv (.inr rfl) (by first | exact .d _ | exact .own _ _ _ | exact .ptr _ _ _ | exact .agg _ | exact .nsl | exact .lent _ _ | exact .vptr _ _ _ | exact .tup _ | exact .nptr | exact .fn _ _ | exact .und) rfl) ?_
                        refine AL.nil ?_
                        refine AThen.n ?_
                        refine Aw.ret ?_
                        refine AIn.r ?_
                        refine AThen.r ?_
                        refine APost.r ?_
                        refine Ret.all [] rfl (.cons (.t (.d _)) .nil) gs_nil (.refl _) (.d _) ⟨congrArg (fun x => AV.d (.int .i64 x)) ?_, rfl⟩
                        simp_all [cfgOk] <;> omega
                      · refine Aw.condF rfl rfl ?_
                        refine Aw.region ?_
                        first | refine AL.v rfl rfl (B.fld rfl fl_api_Cfg_10 (by decide) rfl rfl) ?_ | refine AL.v rfl rfl (B.vfld rfl fl_api_Cfg_10 (by decide) rfl rfl) ?_
                        refine AL.v rfl rfl (B.load1 rfl ty_uint64 (by first | exact .v rfl rfl rfl | exact .w rfl rfl | exact .r rfl rfl (by assumption) rfl) rfl) ?_
                        refine AL.v rfl rfl (B.cmp rfl rfl rfl rfl rfl) ?_
                        refine AL.v rfl rfl (B.mv (.inr rfl) (by first | exact .d _ | exact .own _ _ _ | exact .ptr _ _ _ | exact .agg _ | exact .nsl | exact .lent _ _ | exact .vptr _ _ _ | exact .tup _ | exact .nptr | exact .fn _ _ | exact .und) rfl) ?_
                        refine AL.nil ?_
                        refine AThen.n ?_
                        refine Aw.cases (t := 3) rfl (fun hc10 => ?_) (fun hc10 => ?_)
                        · refine Aw.condT rfl rfl ?_
                          refine Aw.seq ?_
                          refine Aw.region ?_
                          refine AL.v rfl rfl (B.mv (.inr rfl) (by first | exact .d _ | exact .own _ _ _ | exact .ptr _ _ _ | exact .agg _ | exact .nsl | exact .lent _ _ | exact .vptr _ _ _ | exact .tup _ | exact .nptr | exact .fn _ _ | exact .und) rfl) ?_
                          refine AL.nil ?_
                          refine AThen.n ?_
                          refine Aw.ret ?_
                          refine AIn.r ?_
                          refine AThen.r ?_
                          refine APost.r ?_
                          refine Ret.all [] rfl (.cons (.t (.d _)) .nil) gs_nil (.refl _) (.d _) ⟨congrArg (fun x => AV.d (.int .i64 x)) ?_, rfl⟩
                          simp_all [cfgOk] <;> omega
                        · refine Aw.condF rfl rfl ?_
                          refine Aw.skip ?_
                          refine AIn.n ?_
                          refine AThen.n ?_
                          refine Aw.seq ?_
                          refine Aw.region ?_
                          refine AL.v rfl rfl (B.mv (.inr rfl) (by first | exact .d _ | exact .own _ _ _ | exact .ptr _ _ _ | exact .agg _ | exact .nsl | exact .lent _ _ | exact .vptr _ _ _ | exact .tup _ | exact .nptr | exact .fn _ _ | exact .und) rfl) ?_
                          refine AL.nil ?_
                          refine AThen.n ?_
                          refine Aw.ret ?_
                          refine APost.r ?_
                          refine Ret.all [] rfl (.cons (.t (.d _)) .nil) gs_nil (.refl _) (.d _) ⟨congrArg (fun x => AV.d (.int .i64 x)) ?_, rfl⟩
                          simp_all [cfgOk] <;> omega

set_option maxRecDepth 100000 in
theorem r07_check (c : CfgV) :
    ACalls Try.prog 63 [aCfg c] (fun r bs => r = .d (.int .i64 (if cfgOk c then 0 else 1)) ∧ bs = []) := by
  refine ACalls.of Try.func63 rfl (Nat.le_of_ble_eq_true rfl) ?_
  show Aw _ _ _ _ ⟨_, _⟩
  refine Aw.seq ?_
  refine Aw.region ?_
  refine AL.u rfl rfl (B.box (g := 0) rfl (FlatV.eq (by first | exact .agg _ | exact .d _ | exact .own _ _ _ | exact .nsl | exact .ptr _ _ _)) (by rfl) rfl rfl) ?_
  refine AL.v rfl rfl (B.mv (.inr rfl) (by first | exact .d _ | exact .own _ _ _ | exact .ptr _ _ _ | exact .agg _ | exact .nsl | exact .lent _ _ | exact .vptr _ _ _ | exact .tup _ | exact .nptr | exact .fn _ _ | exact .und) rfl) ?_
  refine AL.nil ?_
  refine AThen.n ?_
  refine Aw.seq ?_
  refine Aw.region ?_
  first | refine AL.v rfl rfl (B.fld rfl fl_api_Cfg_0 (by decide) rfl rfl) ?_ | refine AL.v rfl rfl (B.vfld rfl fl_api_Cfg_0 (by decide) rfl rfl) ?_
  refine AL.v rfl rfl (B.load1 rfl ty_Luint8 (by first | exact .v rfl rfl rfl | exact .w rfl rfl | exact .r rfl rfl (by assumption) rfl) rfl) ?_
  refine AL.v rfl rfl (B.len rfl Try.underlying24 rfl rfl) ?_
  refine AL.v rfl rfl (B.cmp rfl rfl rfl rfl rfl) ?_
  refine AL.v rfl rfl (B.mv (.inl rfl) (by first | exact .d _ | exact .own _ _ _ | exact .ptr _ _ _ | exact .agg _ | exact .nsl | exact .lent _ _ | exact .vptr _ _ _ | exact .tup _ | exact .nptr | exact .fn _ _ | exact .und) rfl) ?_
  refine AL.cases (t := 8) rfl (fun hg8 => ?_) (fun hg8 => ?_)
  · first | refine AL.gv rfl rfl rfl rfl (B.fld rfl fl_api_Cfg_1 (by decide) rfl rfl) ?_ | refine AL.gv rfl rfl rfl rfl (B.vfld rfl fl_api_Cfg_1 (by decide) rfl rfl) ?_
    refine AL.gv rfl rfl rfl rfl (B.load1 rfl ty_int (by first | exact .v rfl rfl rfl | exact .w rfl rfl | exact .r rfl rfl (by assumption) rfl) rfl) ?_
    refine AL.gv rfl rfl rfl rfl (B.call (k := 1) (rb := []) (hc := (r07_within c.Chain 1 8)) rfl en_shallot_shallotref07_within (ArgsA.cons (by first | exact .d _ | exact .lent _ _ | exact .nv _ | exact .nlent _ | exact .nsl | exact .lnd _ _ | exact .own (by simp) rfl rfl | exact .aggL (by repeat (first | exact L2.nil | (apply L2.cons; focus (first | exact .d _ | exact .lent _ _ | exact .nv _ | exact .nlent _ | exact .nsl | exact .lnd _ _ | exact .own (by simp) rfl rfl))))) (ArgsA.cons (by first | exact .d _ | exact .lent _ _ | exact .nv _ | exact .nlent _ | exact .nsl | exact .lnd _ _ | exact .own (by simp) rfl rfl | exact .aggL (by repeat (first | exact L2.nil | (apply L2.cons; focus (first | exact .d _ | exact .lent _ _ | exact .nv _ | exact .nlent _ | exact .nsl | exact .lnd _ _ | exact .own (by simp) rfl rfl))))) (ArgsA.cons (by first | exact .d _ | exact .lent _ _ | exact .nv _ | exact .nlent _ | exact .nsl | exact .lnd _ _ | exact .own (by simp) rfl rfl | exact .aggL (by repeat (first | exact L2.nil | (apply L2.cons; focus (first | exact .d _ | exact .lent _ _ | exact .nv _ | exact .nlent _ | exact .nsl | exact .lnd _ _ | exact .own (by simp) rfl rfl))))) ArgsA.nil))) rfl (by first | exact .d _ | exact .nsl | exact .aggL (by repeat (first | exact L2.nil | (apply L2.cons; focus (first | exact .d _ | exact .nsl)))) | exact .tupL (by repeat (first | exact L2.nil | (apply L2.cons; focus (first | exact .aggL (by repeat (first | exact L2.nil | (apply L2.cons; focus (first | exact .d _ | exact .nsl)))) | exact .d _ | exact .nsl))))) rfl) ?_
    refine AL.v rfl rfl (B.pickT rfl rfl (by first | exact .d _ | exact .own _ _ _ | exact .ptr _ _ _ | exact .agg _ | exact .nsl | exact .lent _ _ | exact .vptr _ _ _ | exact .tup _ | exact .nptr | exact .fn _ _ | exact .und) rfl) ?_
    refine AL.v rfl rfl (B.mv (.inl rfl) (by first | exact .d _ | exact .own _ _ _ | exact .ptr _ _ _ | exact .agg _ | exact .nsl | exact .lent _ _ | exact .vptr _ _ _ | exact .tup _ | exact .nptr | exact .fn _ _ | exact .und) rfl) ?_
    refine AL.cases (t := 13) rfl (fun hg13 => ?_) (fun hg13 => ?_)
    · first | refine AL.gv rfl rfl rfl rfl (B.fld rfl fl_api_Cfg_2 (by decide) rfl rfl) ?_ | refine AL.gv rfl rfl rfl rfl (B.vfld rfl fl_api_Cfg_2 (by decide) rfl rfl) ?_
      refine AL.gv rfl rfl rfl rfl (B.load1 rfl ty_int (by first | exact .v rfl rfl rfl | exact .w rfl rfl | exact .r rfl rfl (by assumption) rfl) rfl) ?_
      refine AL.gv rfl rfl rfl rfl (B.call (k := 1) (rb := []) (hc := (r07_within c.Standby 0 8)) rfl en_shallot_shallotref07_within (ArgsA.cons (by first | exact .d _ | exact .lent _ _ | exact .nv _ | exact .nlent _ | exact .nsl | exact .lnd _ _ | exact .own (by simp) rfl rfl | exact .aggL (by repeat (first | exact L2.nil | (apply L2.cons; focus (first | exact .d _ | exact .lent _ _ | exact .nv _ | exact .nlent _ | exact .nsl | exact .lnd _ _ | exact .own (by simp) rfl rfl))))) (ArgsA.cons (by first | exact .d _ | exact .lent _ _ | exact .nv _ | exact .nlent _ | exact .nsl | exact .lnd _ _ | exact .own (by simp) rfl rfl | exact .aggL (by repeat (first | exact L2.nil | (apply L2.cons; focus (first | exact .d _ | exact .lent _ _ | exact .nv _ | exact .nlent _ | exact .nsl | exact .lnd _ _ | exact .own (by simp) rfl rfl))))) (ArgsA.cons (by first | exact .d _ | exact .lent _ _ | exact .nv _ | exact .nlent _ | exact .nsl | exact .lnd _ _ | exact .own (by simp) rfl rfl | exact .aggL (by repeat (first | exact L2.nil | (apply L2.cons; focus (first | exact .d _ | exact .lent _ _ | exact .nv _ | exact .nlent _ | exact .nsl | exact .lnd _ _ | exact .own (by simp) rfl rfl))))) ArgsA.nil))) rfl (by first | exact .d _ | exact .nsl | exact .aggL (by repeat (first | exact L2.nil | (apply L2.cons; focus (first | exact .d _ | exact .nsl)))) | exact .tupL (by repeat (first | exact L2.nil | (apply L2.cons; focus (first | exact .aggL (by repeat (first | exact L2.nil | (apply L2.cons; focus (first | exact .d _ | exact .nsl)))) | exact .d _ | exact .nsl))))) rfl) ?_
      refine AL.v rfl rfl (B.pickT rfl rfl (by first | exact .d _ | exact .own _ _ _ | exact .ptr _ _ _ | exact .agg _ | exact .nsl | exact .lent _ _ | exact .vptr _ _ _ | exact .tup _ | exact .nptr | exact .fn _ _ | exact .und) rfl) ?_
      refine AL.v rfl rfl (B.mv (.inl rfl) (by first | exact .d _ | exact .own _ _ _ | exact .ptr _ _ _ | exact .agg _ | exact .nsl | exact .lent _ _ | exact .vptr _ _ _ | exact .tup _ | exact .nptr | exact .fn _ _ | exact .und) rfl) ?_
      refine AL.cases (t := 18) rfl (fun hg18 => ?_) (fun hg18 => ?_)
      · first | refine AL.gv rfl rfl rfl rfl (B.fld rfl fl_api_Cfg_3 (by decide) rfl rfl) ?_ | refine AL.gv rfl rfl rfl rfl (B.vfld rfl fl_api_Cfg_3 (by decide) rfl rfl) ?_
        refine AL.gv rfl rfl rfl rfl (B.load1 rfl ty_int (by first | exact .v rfl rfl rfl | exact .w rfl rfl | exact .r rfl rfl (by assumption) rfl) rfl) ?_
        refine AL.gv rfl rfl rfl rfl (B.call (k := 1) (rb := []) (hc := (r07_within c.Clients 1 8)) rfl en_shallot_shallotref07_within (ArgsA.cons (by first | exact .d _ | exact .lent _ _ | exact .nv _ | exact .nlent _ | exact .nsl | exact .lnd _ _ | exact .own (by simp) rfl rfl | exact .aggL (by repeat (first | exact L2.nil | (apply L2.cons; focus (first | exact .d _ | exact .lent _ _ | exact .nv _ | exact .nlent _ | exact .nsl | exact .lnd _ _ | exact .own (by simp) rfl rfl))))) (ArgsA.cons (by first | exact .d _ | exact .lent _ _ | exact .nv _ | exact .nlent _ | exact .nsl | exact .lnd _ _ | exact .own (by simp) rfl rfl | exact .aggL (by repeat (first | exact L2.nil | (apply L2.cons; focus (first | exact .d _ | exact .lent _ _ | exact .nv _ | exact .nlent _ | exact .nsl | exact .lnd _ _ | exact .own (by simp) rfl rfl))))) (ArgsA.cons (by first | exact .d _ | exact .lent _ _ | exact .nv _ | exact .nlent _ | exact .nsl | exact .lnd _ _ | exact .own (by simp) rfl rfl | exact .aggL (by repeat (first | exact L2.nil | (apply L2.cons; focus (first | exact .d _ | exact .lent _ _ | exact .nv _ | exact .nlent _ | exact .nsl | exact .lnd _ _ | exact .own (by simp) rfl rfl))))) ArgsA.nil))) rfl (by first | exact .d _ | exact .nsl | exact .aggL (by repeat (first | exact L2.nil | (apply L2.cons; focus (first | exact .d _ | exact .nsl)))) | exact .tupL (by repeat (first | exact L2.nil | (apply L2.cons; focus (first | exact .aggL (by repeat (first | exact L2.nil | (apply L2.cons; focus (first | exact .d _ | exact .nsl)))) | exact .d _ | exact .nsl))))) rfl) ?_
        refine AL.v rfl rfl (B.pickT rfl rfl (by first | exact .d _ | exact .own _ _ _ | exact .ptr _ _ _ | exact .agg _ | exact .nsl | exact .lent _ _ | exact .vptr _ _ _ | exact .tup _ | exact .nptr | exact .fn _ _ | exact .und) rfl) ?_
        refine AL.v rfl rfl (B.mv (.inl rfl) (by first | exact .d _ | exact .own _ _ _ | exact .ptr _ _ _ | exact .agg _ | exact .nsl | exact .lent _ _ | exact .vptr _ _ _ | exact .tup _ | exact .nptr | exact .fn _ _ | exact .und) rfl) ?_
        refine AL.cases (t := 23) rfl (fun hg23 => ?_) (fun hg23 => ?_)
        · first | refine AL.gv rfl rfl rfl rfl (B.fld rfl fl_api_Cfg_4 (by decide) rfl rfl) ?_ | refine AL.gv rfl rfl rfl rfl (B.vfld rfl fl_api_Cfg_4 (by decide) rfl rfl) ?_
          refine AL.gv rfl rfl rfl rfl (B.load1 rfl ty_int (by first | exact .v rfl rfl rfl | exact .w rfl rfl | exact .r rfl rfl (by assumption) rfl) rfl) ?_
          refine AL.gv rfl rfl rfl rfl (B.call (k := 1) (rb := []) (hc := (r07_within c.Queue 1 64)) rfl en_shallot_shallotref07_within (ArgsA.cons (by first | exact .d _ | exact .lent _ _ | exact .nv _ | exact .nlent _ | exact .nsl | exact .lnd _ _ | exact .own (by simp) rfl rfl | exact .aggL (by repeat (first | exact L2.nil | (apply L2.cons; focus (first | exact .d _ | exact .lent _ _ | exact .nv _ | exact .nlent _ | exact .nsl | exact .lnd _ _ | exact .own (by simp) rfl rfl))))) (ArgsA.cons (by first | exact .d _ | exact .lent _ _ | exact .nv _ | exact .nlent _ | exact .nsl | exact .lnd _ _ | exact .own (by simp) rfl rfl | exact .aggL (by repeat (first | exact L2.nil | (apply L2.cons; focus (first | exact .d _ | exact .lent _ _ | exact .nv _ | exact .nlent _ | exact .nsl | exact .lnd _ _ | exact .own (by simp) rfl rfl))))) (ArgsA.cons (by first | exact .d _ | exact .lent _ _ | exact .nv _ | exact .nlent _ | exact .nsl | exact .lnd _ _ | exact .own (by simp) rfl rfl | exact .aggL (by repeat (first | exact L2.nil | (apply L2.cons; focus (first | exact .d _ | exact .lent _ _ | exact .nv _ | exact .nlent _ | exact .nsl | exact .lnd _ _ | exact .own (by simp) rfl rfl))))) ArgsA.nil))) rfl (by first | exact .d _ | exact .nsl | exact .aggL (by repeat (first | exact L2.nil | (apply L2.cons; focus (first | exact .d _ | exact .nsl)))) | exact .tupL (by repeat (first | exact L2.nil | (apply L2.cons; focus (first | exact .aggL (by repeat (first | exact L2.nil | (apply L2.cons; focus (first | exact .d _ | exact .nsl)))) | exact .d _ | exact .nsl))))) rfl) ?_
          refine AL.v rfl rfl (B.pickT rfl rfl (by first | exact .d _ | exact .own _ _ _ | exact .ptr _ _ _ | exact .agg _ | exact .nsl | exact .lent _ _ | exact .vptr _ _ _ | exact .tup _ | exact .nptr | exact .fn _ _ | exact .und) rfl) ?_
          refine AL.v rfl rfl (B.mv (.inr rfl) (by first | exact .d _ | exact .own _ _ _ | exact .ptr _ _ _ | exact .agg _ | exact .nsl | exact .lent _ _ | exact .vptr _ _ _ | exact .tup _ | exact .nptr | exact .fn _ _ | exact .und) rfl) ?_
          refine AL.nil ?_
          refine AThen.n ?_
          refine Aw.seq ?_
          refine Aw.region ?_
          refine AL.v rfl rfl (B.mv (.inl rfl) (by first | exact .d _ | exact .own _ _ _ | exact .ptr _ _ _ | exact .agg _ | exact .nsl | exact .lent _ _ | exact .vptr _ _ _ | exact .tup _ | exact .nptr | exact .fn _ _ | exact .und) rfl) ?_
          refine AL.v rfl rfl (B.mv (.inl rfl) (by first | exact .d _ | exact .own _ _ _ | exact .ptr _ _ _ | exact .agg _ | exact .nsl | exact .lent _ _ | exact .vptr _ _ _ | exact .tup _ | exact .nptr | exact .fn _ _ | exact .und) rfl) ?_
          refine AL.cases (t := 29) rfl (fun hg29 => ?_) (fun hg29 => ?_)
          · first | refine AL.gv rfl rfl rfl rfl (B.fld rfl fl_api_Cfg_5 (by decide) rfl rfl) ?_ | refine AL.gv rfl rfl rfl rfl (B.vfld rfl fl_api_Cfg_5 (by decide) rfl rfl) ?_
            refine AL.gv rfl rfl rfl rfl (B.load1 rfl ty_int (by first | exact .v rfl rfl rfl | exact .w rfl rfl | exact .r rfl rfl (by assumption) rfl) rfl) ?_
            refine AL.gv rfl rfl rfl rfl (B.call (k := 1) (rb := []) (hc := (r07_within c.Close 1 10000)) rfl en_shallot_shallotref07_within (ArgsA.cons (by first | exact .d _ | exact .lent _ _ | exact .nv _ | exact .nlent _ | exact .nsl | exact .lnd _ _ | exact .own (by simp) rfl rfl | exact .aggL (by repeat (first | exact L2.nil | (apply L2.cons; focus (first | exact .d _ | exact .lent _ _ | exact .nv _ | exact .nlent _ | exact .nsl | exact .lnd _ _ | exact .own (by simp) rfl rfl))))) (ArgsA.cons (by first | exact .d _ | exact .lent _ _ | exact .nv _ | exact .nlent _ | exact .nsl | exact .lnd _ _ | exact .own (by simp) rfl rfl | exact .aggL (by repeat (first | exact L2.nil | (apply L2.cons; focus (first | exact .d _ | exact .lent _ _ | exact .nv _ | exact .nlent _ | exact .nsl | exact .lnd _ _ | exact .own (by simp) rfl rfl))))) (ArgsA.cons (by first | exact .d _ | exact .lent _ _ | exact .nv _ | exact .nlent _ | exact .nsl | exact .lnd _ _ | exact .own (by simp) rfl rfl | exact .aggL (by repeat (first | exact L2.nil | (apply L2.cons; focus (first | exact .d _ | exact .lent _ _ | exact .nv _ | exact .nlent _ | exact .nsl | exact .lnd _ _ | exact .own (by simp) rfl rfl))))) ArgsA.nil))) rfl (by first | exact .d _ | exact .nsl | exact .aggL (by repeat (first | exact L2.nil | (apply L2.cons; focus (first | exact .d _ | exact .nsl)))) | exact .tupL (by repeat (first | exact L2.nil | (apply L2.cons; focus (first | exact .aggL (by repeat (first | exact L2.nil | (apply L2.cons; focus (first | exact .d _ | exact .nsl)))) | exact .d _ | exact .nsl))))) rfl) ?_
            refine AL.v rfl rfl (B.pickT rfl rfl (by first | exact .d _ | exact .own _ _ _ | exact .ptr _ _ _ | exact .agg _ | exact .nsl | exact .lent _ _ | exact .vptr _ _ _ | exact .tup _ | exact .nptr | exact .fn _ _ | exact .und) rfl) ?_
            refine AL.v rfl rfl (B.mv (.inl rfl) (by first | exact .d _ | exact .own _ _ _ | exact .ptr _ _ _ | exact .agg _ | exact .nsl | exact .lent _ _ | exact .vptr _ _ _ | exact .tup _ | exact .nptr | exact .fn _ _ | exact .und) rfl) ?_
            refine AL.cases (t := 34) rfl (fun hg34 => ?_) (fun hg34 => ?_)
            · first | refine AL.gv rfl rfl rfl rfl (B.fld rfl fl_api_Cfg_6 (by decide) rfl rfl) ?_ | refine AL.gv rfl rfl rfl rfl (B.vfld rfl fl_api_Cfg_6 (by decide) rfl rfl) ?_
              refine AL.gv rfl rfl rfl rfl (B.load1 rfl ty_int (by first | exact .v rfl rfl rfl | exact .w rfl rfl | exact .r rfl rfl (by assumption) rfl) rfl) ?_
              first | refine AL.gv rfl rfl rfl rfl (B.fld rfl fl_api_Cfg_5 (by decide) rfl rfl) ?_ | refine AL.gv rfl rfl rfl rfl (B.vfld rfl fl_api_Cfg_5 (by decide) rfl rfl) ?_
              refine AL.gv rfl rfl rfl rfl (B.load1 rfl ty_int (by first | exact .v rfl rfl rfl | exact .w rfl rfl | exact .r rfl rfl (by assumption) rfl) rfl) ?_
              refine AL.gv rfl rfl rfl rfl (B.cmp rfl rfl rfl rfl rfl) ?_
              refine AL.v rfl rfl (B.pickT rfl rfl (by first | exact .d _ | exact .own _ _ _ | exact .ptr _ _ _ | exact .agg _ | exact .nsl | exact .lent _ _ | exact .vptr _ _ _ | exact .tup _ | exact .nptr | exact .fn _ _ | exact .und) rfl) ?_
              refine AL.v rfl rfl (B.mv (.inl rfl) (by first | exact .d _ | exact .own _ _ _ | exact .ptr _ _ _ | exact .agg _ | exact .nsl | exact .lent _ _ | exact .vptr _ _ _ | exact .tup _ | exact .nptr | exact .fn _ _ | exact .und) rfl) ?_
              refine AL.cases (t := 41) rfl (fun hg41 => ?_) (fun hg41 => ?_)
              · first | refine AL.gv rfl rfl rfl rfl (B.fld rfl fl_api_Cfg_6 (by decide) rfl rfl) ?_ | refine AL.gv rfl rfl rfl rfl (B.vfld rfl fl_api_Cfg_6 (by decide) rfl rfl) ?_
                refine AL.gv rfl rfl rfl rfl (B.load1 rfl ty_int (by first | exact .v rfl rfl rfl | exact .w rfl rfl | exact .r rfl rfl (by assumption) rfl) rfl) ?_
                refine AL.gv rfl rfl rfl rfl (B.cmp rfl rfl rfl rfl rfl) ?_
                refine AL.v rfl rfl (B.pickT rfl rfl (by first | exact .d _ | exact .own _ _ _ | exact .ptr _ _ _ | exact .agg _ | exact .nsl | exact .lent _ _ | exact .vptr _ _ _ | exact .tup _ | exact .nptr | exact .fn _ _ | exact .und) rfl) ?_
                refine AL.v rfl rfl (B.mv (.inl rfl) (by first | exact .d _ | exact .own _ _ _ | exact .ptr _ _ _ | exact .agg _ | exact .nsl | exact .lent _ _ | exact .vptr _ _ _ | exact .tup _ | exact .nptr | exact .fn _ _ | exact .und) rfl) ?_
                refine AL.cases (t := 46) rfl (fun hg46 => ?_) (fun hg46 => ?_)
                · first | refine AL.gv rfl rfl rfl rfl (B.fld rfl fl_api_Cfg_7 (by decide) rfl rfl) ?_ | refine AL.gv rfl rfl rfl rfl (B.vfld rfl fl_api_Cfg_7 (by decide) rfl rfl) ?_
                  refine AL.gv rfl rfl rfl rfl (B.load1 rfl ty_int (by first | exact .v rfl rfl rfl | exact .w rfl rfl | exact .r rfl rfl (by assumption) rfl) rfl) ?_
                  refine AL.gv rfl rfl rfl rfl (B.call (k := 1) (rb := []) (hc := (r07_within c.Again 1 10000)) rfl en_shallot_shallotref07_within (ArgsA.cons (by first | exact .d _ | exact .lent _ _ | exact .nv _ | exact .nlent _ | exact .nsl | exact .lnd _ _ | exact .own (by simp) rfl rfl | exact .aggL (by repeat (first | exact L2.nil | (apply L2.cons; focus (first | exact .d _ | exact .lent _ _ | exact .nv _ | exact .nlent _ | exact .nsl | exact .lnd _ _ | exact .own (by simp) rfl rfl))))) (ArgsA.cons (by first | exact .d _ | exact .lent _ _ | exact .nv _ | exact .nlent _ | exact .nsl | exact .lnd _ _ | exact .own (by simp) rfl rfl | exact .aggL (by repeat (first | exact L2.nil | (apply L2.cons; focus (first | exact .d _ | exact .lent _ _ | exact .nv _ | exact .nlent _ | exact .nsl | exact .lnd _ _ | exact .own (by simp) rfl rfl))))) (ArgsA.cons (by first | exact .d _ | exact .lent _ _ | exact .nv _ | exact .nlent _ | exact .nsl | exact .lnd _ _ | exact .own (by simp) rfl rfl | exact .aggL (by repeat (first | exact L2.nil | (apply L2.cons; focus (first | exact .d _ | exact .lent _ _ | exact .nv _ | exact .nlent _ | exact .nsl | exact .lnd _ _ | exact .own (by simp) rfl rfl))))) ArgsA.nil))) rfl (by first | exact .d _ | exact .nsl | exact .aggL (by repeat (first | exact L2.nil | (apply L2.cons; focus (first | exact .d _ | exact .nsl)))) | exact .tupL (by repeat (first | exact L2.nil | (apply L2.cons; focus (first | exact .aggL (by repeat (first | exact L2.nil | (apply L2.cons; focus (first | exact .d _ | exact .nsl)))) | exact .d _ | exact .nsl))))) rfl) ?_
                  refine AL.v rfl rfl (B.pickT rfl rfl (by first | exact .d _ | exact .own _ _ _ | exact .ptr _ _ _ | exact .agg _ | exact .nsl | exact .lent _ _ | exact .vptr _ _ _ | exact .tup _ | exact .nptr | exact .fn _ _ | exact .und) rfl) ?_
                  refine AL.v rfl rfl (B.mv (.inl rfl) (by first | exact .d _ | exact .own _ _ _ | exact .ptr _ _ _ | exact .agg _ | exact .nsl | exact .lent _ _ | exact .vptr _ _ _ | exact .tup _ | exact .nptr | exact .fn _ _ | exact .und) rfl) ?_
                  refine AL.cases (t := 51) rfl (fun hg51 => ?_) (fun hg51 => ?_)
                  · first | refine AL.gv rfl rfl rfl rfl (B.fld rfl fl_api_Cfg_8 (by decide) rfl rfl) ?_ | refine AL.gv rfl rfl rfl rfl (B.vfld rfl fl_api_Cfg_8 (by decide) rfl rfl) ?_
                    refine AL.gv rfl rfl rfl rfl (B.load1 rfl ty_int (by first | exact .v rfl rfl rfl | exact .w rfl rfl | exact .r rfl rfl (by assumption) rfl) rfl) ?_
                    refine AL.gv rfl rfl rfl rfl (B.call (k := 1) (rb := []) (hc := (r07_within c.Window 1 64)) rfl en_shallot_shallotref07_within (ArgsA.cons (by first | exact .d _ | exact .lent _ _ | exact .nv _ | exact .nlent _ | exact .nsl | exact .lnd _ _ | exact .own (by simp) rfl rfl | exact .aggL (by repeat (first | exact L2.nil | (apply L2.cons; focus (first | exact .d _ | exact .lent _ _ | exact .nv _ | exact .nlent _ | exact .nsl | exact .lnd _ _ | exact .own (by simp) rfl rfl))))) (ArgsA.cons (by first | exact .d _ | exact .lent _ _ | exact .nv _ | exact .nlent _ | exact .nsl | exact .lnd _ _ | exact .own (by simp) rfl rfl | exact .aggL (by repeat (first | exact L2.nil | (apply L2.cons; focus (first | exact .d _ | exact .lent _ _ | exact .nv _ | exact .nlent _ | exact .nsl | exact .lnd _ _ | exact .own (by simp) rfl rfl))))) (ArgsA.cons (by first | exact .d _ | exact .lent _ _ | exact .nv _ | exact .nlent _ | exact .nsl | exact .lnd _ _ | exact .own (by simp) rfl rfl | exact .aggL (by repeat (first | exact L2.nil | (apply L2.cons; focus (first | exact .d _ | exact .lent _ _ | exact .nv _ | exact .nlent _ | exact .nsl | exact .lnd _ _ | exact .own (by simp) rfl rfl))))) ArgsA.nil))) rfl (by first | exact .d _ | exact .nsl | exact .aggL (by repeat (first | exact L2.nil | (apply L2.cons; focus (first | exact .d _ | exact .nsl)))) | exact .tupL (by repeat (first | exact L2.nil | (apply L2.cons; focus (first | exact .aggL (by repeat (first | exact L2.nil | (apply L2.cons; focus (first | exact .d _ | exact .nsl)))) | exact .d _ | exact .nsl))))) rfl) ?_
                    refine AL.v rfl rfl (B.pickT rfl rfl (by first | exact .d _ | exact .own _ _ _ | exact .ptr _ _ _ | exact .agg _ | exact .nsl | exact .lent _ _ | exact .vptr _ _ _ | exact .tup _ | exact .nptr | exact .fn _ _ | exact .und) rfl) ?_
                    refine AL.v rfl rfl (B.mv (.inr rfl) (by first | exact .d _ | exact .own _ _ _ | exact .ptr _ _ _ | exact .agg _ | exact .nsl | exact .lent _ _ | exact .vptr _ _ _ | exact .tup _ | exact .nptr | exact .fn _ _ | exact .und) rfl) ?_
                    refine AL.nil ?_
                    refine AThen.n ?_
                    refine Aw.seq ?_
                    refine Aw.seq ?_
                    refine Aw.region ?_
                    refine AL.v rfl rfl (B.mv (.inl rfl) (by first | exact .d _ | exact .own _ _ _ | exact .ptr _ _ _ | exact .agg _ | exact .nsl | exact .lent _ _ | exact .vptr _ _ _ | exact .tup _ | exact .nptr | exact .fn _ _ | exact .und) rfl) ?_
                    refine AL.v rfl rfl (B.not rfl rfl rfl) ?_
                    refine AL.v rfl rfl (B.mv (.inl rfl) (by first | exact .d _ | exact .own _ _ _ | exact .ptr _ _ _ | exact .agg _ | exact .nsl | exact .lent _ _ | exact .vptr _ _ _ | exact .tup _ | exact .nptr | exact .fn _ _ | exact .und) rfl) ?_
                    refine AL.cases (t := 58) rfl (fun hg58 => ?_) (fun hg58 => ?_)
                    · refine AL.off rfl rfl rfl rfl rfl (by decide) ?_
                      refine AL.off rfl rfl rfl rfl rfl (by decide) ?_
                      refine AL.off rfl rfl rfl rfl rfl (by decide) ?_
                      refine AL.v rfl rfl (B.pickT rfl rfl (by first | exact .d _ | exact .own _ _ _ | exact .ptr _ _ _ | exact .agg _ | exact .nsl | exact .lent _ _ | exact .vptr _ _ _ | exact .tup _ | exact .nptr | exact .fn _ _ | exact .und) rfl) ?_
                      refine AL.v rfl rfl (B.mv (.inl rfl) (by first | exact .d _ | exact .own _ _ _ | exact .ptr _ _ _ | exact .agg _ | exact .nsl | exact .lent _ _ | exact .vptr _ _ _ | exact .tup _ | exact .nptr | exact .fn _ _ | exact .und) rfl) ?_
                      refine AL.off rfl rfl rfl rfl rfl (by decide) ?_
                      refine AL.off rfl rfl rfl rfl rfl (by decide) ?_
                      refine AL.off rfl rfl rfl rfl rfl (by decide) ?_
                      refine AL.v rfl rfl (B.pickT rfl rfl (by first | exact .d _ | exact .own _ _ _ | exact .ptr _ _ _ | exact .agg _ | exact .nsl | exact .lent _ _ | exact .vptr _ _ _ | exact .tup _ | exact .nptr | exact .fn _ _ | exact .und) rfl) ?_
                      refine AL.nil ?_
                      refine AThen.n ?_
                      refine Aw.condT rfl (rfl) ?_
                      refine Aw.seq ?_
                      refine Aw.region ?_
                      refine AL.v rfl rfl (B.mv (.inr rfl) (by first | exact .d _ | exact .own _ _ _ | exact .ptr _ _ _ | exact .agg _ | exact .nsl | exact .lent _ _ | exact .vptr _ _ _ | exact .tup _ | exact .nptr | exact .fn _ _ | exact .und) rfl) ?_
                      refine AL.nil ?_
                      refine AThen.n ?_
                      refine Aw.ret ?_
                      refine AThen.r ?_
                      refine APost.r ?_
                      refine Ret.all [] rfl (.cons (.t (.d _)) .nil) gs_nil (.refl _) (.d _) ⟨congrArg (fun x => AV.d (.int .i64 x)) ?_, rfl⟩
                      simp_all [cfgOk] <;> omega
                    · first | refine AL.gv rfl rfl rfl rfl (B.fld rfl fl_api_Cfg_9 (by decide) rfl rfl) ?_ | refine AL.gv rfl rfl rfl rfl (B.vfld rfl fl_api_Cfg_9 (by decide) rfl rfl) ?_
                      refine AL.gv rfl rfl rfl rfl (B.load1 rfl ty_uint64 (by first | exact .v rfl rfl rfl | exact .w rfl rfl | exact .r rfl rfl (by assumption) rfl) rfl) ?_
                      refine AL.gv rfl rfl rfl rfl (B.cmp rfl rfl rfl rfl rfl) ?_
                      refine AL.v rfl rfl (B.pickF rfl rfl (by first | exact .d _ | exact .own _ _ _ | exact .ptr _ _ _ | exact .agg _ | exact .nsl | exact .lent _ _ | exact .vptr _ _ _ | exact .tup _ | exact .nptr | exact .fn _ _ | exact .und) rfl) ?_
                      refine AL.v rfl rfl (B.mv (.inl rfl) (by first | exact .d _ | exact .own _ _ _ | exact .ptr _ _ _ | exact .agg _ | exact .nsl | exact .lent _ _ | exact .vptr _ _ _ | exact .tup _ | exact .nptr | exact .fn _ _ | exact .und) rfl) ?_
                      refine AL.cases (t := 63) rfl (fun hg63 => ?_) (fun hg63 => ?_)
                      · refine AL.off rfl rfl rfl rfl rfl (by decide) ?_
                        refine AL.off rfl rfl rfl rfl rfl (by decide) ?_
                        refine AL.off rfl rfl rfl rfl rfl (by decide) ?_
                        refine AL.v rfl rfl (B.pickT rfl rfl (by first | exact .d _ | exact .own _ _ _ | exact .ptr _ _ _ | exact .agg _ | exact .nsl | exact .lent _ _ | exact .vptr _ _ _ | exact .tup _ | exact .nptr | exact .fn _ _ | exact .und) rfl) ?_
                        refine AL.nil ?_
                        refine AThen.n ?_
                        refine Aw.condT rfl (rfl) ?_
                        refine Aw.seq ?_
                        refine Aw.region ?_
                        refine AL.v rfl rfl (B.mv (.inr rfl) (by first | exact .d _ | exact .own _ _ _ | exact .ptr _ _ _ | exact .agg _ | exact .nsl | exact .lent _ _ | exact .vptr _ _ _ | exact .tup _ | exact .nptr | exact .fn _ _ | exact .und) rfl) ?_
                        refine AL.nil ?_
                        refine AThen.n ?_
                        refine Aw.ret ?_
                        refine AThen.r ?_
                        refine APost.r ?_
                        refine Ret.all [] rfl (.cons (.t (.d _)) .nil) gs_nil (.refl _) (.d _) ⟨congrArg (fun x => AV.d (.int .i64 x)) ?_, rfl⟩
                        simp_all [cfgOk] <;> omega
                      · first | refine AL.gv rfl rfl rfl rfl (B.fld rfl fl_api_Cfg_10 (by decide) rfl rfl) ?_ | refine AL.gv rfl rfl rfl rfl (B.vfld rfl fl_api_Cfg_10 (by decide) rfl rfl) ?_
                        refine AL.gv rfl rfl rfl rfl (B.load1 rfl ty_uint64 (by first | exact .v rfl rfl rfl | exact .w rfl rfl | exact .r rfl rfl (by assumption) rfl) rfl) ?_
                        refine AL.gv rfl rfl rfl rfl (B.cmp rfl rfl rfl rfl rfl) ?_
                        refine AL.v rfl rfl (B.pickF rfl rfl (by first | exact .d _ | exact .own _ _ _ | exact .ptr _ _ _ | exact .agg _ | exact .nsl | exact .lent _ _ | exact .vptr _ _ _ | exact .tup _ | exact .nptr | exact .fn _ _ | exact .und) rfl) ?_
                        refine AL.nil ?_
                        refine AThen.n ?_
                        refine Aw.cases (t := 67) rfl (fun hc0 => ?_) (fun hc0 => ?_)
                        · refine Aw.condT rfl rfl ?_
                          refine Aw.seq ?_
                          refine Aw.region ?_
                          refine AL.v rfl rfl (B.mv (.inr rfl) (by first | exact .d _ | exact .own _ _ _ | exact .ptr _ _ _ | exact .agg _ | exact .nsl | exact .lent _ _ | exact .vptr _ _ _ | exact .tup _ | exact .nptr | exact .fn _ _ | exact .und) rfl) ?_
                          refine AL.nil ?_
                          refine AThen.n ?_
                          refine Aw.ret ?_
                          refine AThen.r ?_
                          refine APost.r ?_
                          refine Ret.all [] rfl (.cons (.t (.d _)) .nil) gs_nil (.refl _) (.d _) ⟨congrArg (fun x => AV.d (.int .i64 x)) ?_, rfl⟩
                          simp_all [cfgOk] <;> omega
                        · refine Aw.condF rfl rfl ?_
                          refine Aw.skip ?_
                          refine AThen.n ?_
                          refine Aw.seq ?_
                          refine Aw.region ?_
                          refine AL.v rfl rfl (B.mv (.inr rfl) (by first | exact .d _ | exact .own _ _ _ | exact .ptr _ _ _ | exact .agg _ | exact .nsl | exact .lent _ _ | exact .vptr _ _ _ | exact .tup _ | exact .nptr | exact .fn _ _ | exact .und) rfl) ?_
                          refine AL.nil ?_
                          refine AThen.n ?_
                          refine Aw.ret ?_
                          refine APost.r ?_
                          refine Ret.all [] rfl (.cons (.t (.d _)) .nil) gs_nil (.refl _) (.d _) ⟨congrArg (fun x => AV.d (.int .i64 x)) ?_, rfl⟩
                          simp_all [cfgOk] <;> omega
                  · refine AL.off rfl rfl rfl rfl rfl (by decide) ?_
                    refine AL.off rfl rfl rfl rfl rfl (by decide) ?_
                    refine AL.off rfl rfl rfl rfl rfl (by decide) ?_
                    refine AL.v rfl rfl (B.pickF rfl rfl (by first | exact .d _ | exact .own _ _ _ | exact .ptr _ _ _ | exact .agg _ | exact .nsl | exact .lent _ _ | exact .vptr _ _ _ | exact .tup _ | exact .nptr | exact .fn _ _ | exact .und) rfl) ?_
                    refine AL.v rfl rfl (B.mv (.inr rfl) (by first | exact .d _ | exact .own _ _ _ | exact .ptr _ _ _ | exact .agg _ | exact .nsl | exact .lent _ _ | exact .vptr _ _ _ | exact .tup _ | exact .nptr | exact .fn _ _ | exact .und) rfl) ?_
                    refine AL.nil ?_
                    refine AThen.n ?_
                    refine Aw.seq ?_
                    refine Aw.seq ?_
                    refine Aw.region ?_
                    refine AL.v rfl rfl (B.mv (.inl rfl) (by first | exact .d _ | exact .own _ _ _ | exact .ptr _ _ _ | exact .agg _ | exact .nsl | exact .lent _ _ | exact .vptr _ _ _ | exact .tup _ | exact .nptr | exact .fn _ _ | exact .und) rfl) ?_
                    refine AL.v rfl rfl (B.not rfl rfl rfl) ?_
                    refine AL.v rfl rfl (B.mv (.inl rfl) (by first | exact .d _ | exact .own _ _ _ | exact .ptr _ _ _ | exact .agg _ | exact .nsl | exact .lent _ _ | exact .vptr _ _ _ | exact .tup _ | exact .nptr | exact .fn _ _ | exact .und) rfl) ?_
                    refine AL.cases (t := 58) rfl (fun hg58 => ?_) (fun hg58 => ?_)
                    · refine AL.off rfl rfl rfl rfl rfl (by decide) ?_
                      refine AL.off rfl rfl rfl rfl rfl (by decide) ?_
                      refine AL.off rfl rfl rfl rfl rfl (by decide) ?_
                      refine AL.v rfl rfl (B.pickT rfl rfl (by first | exact .d _ | exact .own _ _ _ | exact .ptr _ _ _ | exact .agg _ | exact .nsl | exact .lent _ _ | exact .vptr _ _ _ | exact .tup _ | exact .nptr | exact .fn _ _ | exact .und) rfl) ?_
                      refine AL.v rfl rfl (B.mv (.inl rfl) (by first | exact .d _ | exact .own _ _ _ | exact .ptr _ _ _ | exact .agg _ | exact .nsl | exact .lent _ _ | exact .vptr _ _ _ | exact .tup _ | exact .nptr | exact .fn _ _ | exact .und) rfl) ?_
                      refine AL.off rfl rfl rfl rfl rfl (by decide) ?_
                      refine AL.off rfl rfl rfl rfl rfl (by decide) ?_
                      refine AL.off rfl rfl rfl rfl rfl (by decide) ?_
                      refine AL.v rfl rfl (B.pickT rfl rfl (by first | exact .d _ | exact .own _ _ _ | exact .ptr _ _ _ | exact .agg _ | exact .nsl | exact .lent _ _ | exact .vptr _ _ _ | exact .tup _ | exact .nptr | exact .fn _ _ | exact .und) rfl) ?_
                      refine AL.nil ?_
                      refine AThen.n ?_
                      refine Aw.condT rfl (rfl) ?_
                      refine Aw.seq ?_
                      refine Aw.region ?_
                      refine AL.v rfl rfl (B.mv (.inr rfl) (by first | exact .d _ | exact .own _ _ _ | exact .ptr _ _ _ | exact .agg _ | exact .nsl | exact .lent _ _ | exact .vptr _ _ _ | exact .tup _ | exact .nptr | exact .fn _ _ | exact .und) rfl) ?_
                      refine AL.nil ?_
                      refine AThen.n ?_
                      refine Aw.ret ?_
                      refine AThen.r ?_
                      refine APost.r ?_
                      refine Ret.all [] rfl (.cons (.t (.d _)) .nil) gs_nil (.refl _) (.d _) ⟨congrArg (fun x => AV.d (.int .i64 x)) ?_, rfl⟩
                      simp_all [cfgOk] <;> omega
                    · first | refine AL.gv rfl rfl rfl rfl (B.fld rfl fl_api_Cfg_9 (by decide) rfl rfl) ?_ | refine AL.gv rfl rfl rfl rfl (B.vfld rfl fl_api_Cfg_9 (by decide) rfl rfl) ?_
                      refine AL.gv rfl rfl rfl rfl (B.load1 rfl ty_uint64 (by first | exact .v rfl rfl rfl | exact .w rfl rfl | exact .r rfl rfl (by assumption) rfl) rfl) ?_
                      refine AL.gv rfl rfl rfl rfl (B.cmp rfl rfl rfl rfl rfl) ?_
                      refine AL.v rfl rfl (B.pickF rfl rfl (by first | exact .d _ | exact .own _ _ _ | exact .ptr _ _ _ | exact .agg _ | exact .nsl | exact .lent _ _ | exact .vptr _ _ _ | exact .tup _ | exact .nptr | exact .fn _ _ | exact .und) rfl) ?_
                      refine AL.v rfl rfl (B.mv (.inl rfl) (by first | exact .d _ | exact .own _ _ _ | exact .ptr _ _ _ | exact .agg _ | exact .nsl | exact .lent _ _ | exact .vptr _ _ _ | exact .tup _ | exact .nptr | exact .fn _ _ | exact .und) rfl) ?_
                      refine AL.cases (t := 63) rfl (fun hg63 => ?_) (fun hg63 => ?_)
                      · refine AL.off rfl rfl rfl rfl rfl (by decide) ?_
                        refine AL.off rfl rfl rfl rfl rfl (by decide) ?_
                        refine AL.off rfl rfl rfl rfl rfl (by decide) ?_
                        refine AL.v rfl rfl (B.pickT rfl rfl (by first | exact .d _ | exact .own _ _ _ | exact .ptr _ _ _ | exact .agg _ | exact .nsl | exact .lent _ _ | exact .vptr _ _ _ | exact .tup _ | exact .nptr | exact .fn _ _ | exact .und) rfl) ?_
                        refine AL.nil ?_
                        refine AThen.n ?_
                        refine Aw.condT rfl (rfl) ?_
                        refine Aw.seq ?_
                        refine Aw.region ?_
                        refine AL.v rfl rfl (B.mv (.inr rfl) (by first | exact .d _ | exact .own _ _ _ | exact .ptr _ _ _ | exact .agg _ | exact .nsl | exact .lent _ _ | exact .vptr _ _ _ | exact .tup _ | exact .nptr | exact .fn _ _ | exact .und) rfl) ?_
                        refine AL.nil ?_
                        refine AThen.n ?_
                        refine Aw.ret ?_
                        refine AThen.r ?_
                        refine APost.r ?_
                        refine Ret.all [] rfl (.cons (.t (.d _)) .nil) gs_nil (.refl _) (.d _) ⟨congrArg (fun x => AV.d (.int .i64 x)) ?_, rfl⟩
                        simp_all [cfgOk] <;> omega
                      · first | refine AL.gv rfl rfl rfl rfl (B.fld rfl fl_api_Cfg_10 (by decide) rfl rfl) ?_ | refine AL.gv rfl rfl rfl rfl (B.vfld rfl fl_api_Cfg_10 (by decide) rfl rfl) ?_
                        refine AL.gv rfl rfl rfl rfl (B.load1 rfl ty_uint64 (by first | exact .v rfl rfl rfl | exact .w rfl rfl | exact .r rfl rfl (by assumption) rfl) rfl) ?_
                        refine AL.gv rfl rfl rfl rfl (B.cmp rfl rfl rfl rfl rfl) ?_
                        refine AL.v rfl rfl (B.pickF rfl rfl (by first | exact .d _ | exact .own _ _ _ | exact .ptr _ _ _ | exact .agg _ | exact .nsl | exact .lent _ _ | exact .vptr _ _ _ | exact .tup _ | exact .nptr | exact .fn _ _ | exact .und) rfl) ?_
                        refine AL.nil ?_
                        refine AThen.n ?_
                        refine Aw.cases (t := 67) rfl (fun hc0 => ?_) (fun hc0 => ?_)
                        · refine Aw.condT rfl rfl ?_
                          refine Aw.seq ?_
                          refine Aw.region ?_
                          refine AL.v rfl rfl (B.mv (.inr rfl) (by first | exact .d _ | exact .own _ _ _ | exact .ptr _ _ _ | exact .agg _ | exact .nsl | exact .lent _ _ | exact .vptr _ _ _ | exact .tup _ | exact .nptr | exact .fn _ _ | exact .und) rfl) ?_
                          refine AL.nil ?_
                          refine AThen.n ?_
                          refine Aw.ret ?_
                          refine AThen.r ?_
                          refine APost.r ?_
                          refine Ret.all [] rfl (.cons (.t (.d _)) .nil) gs_nil (.refl _) (.d _) ⟨congrArg (fun x => AV.d (.int .i64 x)) ?_, rfl⟩
                          simp_all [cfgOk] <;> omega
                        · refine Aw.condF rfl rfl ?_
                          refine Aw.skip ?_
                          refine AThen.n ?_
                          refine Aw.seq ?_
                          refine Aw.region ?_
                          refine AL.v rfl rfl (B.mv (.inr rfl) (by first | exact .d _ | exact .own _ _ _ | exact .ptr _ _ _ | exact .agg _ | exact .nsl | exact .lent _ _ | exact .vptr _ _ _ | exact .tup _ | exact .nptr | exact .fn _ _ | exact .und) rfl) ?_
                          refine AL.nil ?_
                          refine AThen.n ?_
                          refine Aw.ret ?_
                          refine APost.r ?_
                          refine Ret.all [] rfl (.cons (.t (.d _)) .nil) gs_nil (.refl _) (.d _) ⟨congrArg (fun x => AV.d (.int .i64 x)) ?_, rfl⟩
                          simp_all [cfgOk] <;> omega
                · refine AL.off rfl rfl rfl rfl rfl (by decide) ?_
                  refine AL.off rfl rfl rfl rfl rfl (by decide) ?_
                  refine AL.off rfl rfl rfl rfl rfl (by decide) ?_
                  refine AL.v rfl rfl (B.pickF rfl rfl (by first | exact .d _ | exact .own _ _ _ | exact .ptr _ _ _ | exact .agg _ | exact .nsl | exact .lent _ _ | exact .vptr _ _ _ | exact .tup _ | exact .nptr | exact .fn _ _ | exact .und) rfl) ?_
                  refine AL.v rfl rfl (B.mv (.inl rfl) (by first | exact .d _ | exact .own _ _ _ | exact .ptr _ _ _ | exact .agg _ | exact .nsl | exact .lent _ _ | exact .vptr _ _ _ | exact .tup _ | exact .nptr | exact .fn _ _ | exact .und) rfl) ?_
                  refine AL.off rfl rfl rfl rfl rfl (by decide) ?_
                  refine AL.off rfl rfl rfl rfl rfl (by decide) ?_
                  refine AL.off rfl rfl rfl rfl rfl (by decide) ?_
                  refine AL.v rfl rfl (B.pickF rfl rfl (by first | exact .d _ | exact .own _ _ _ | exact .ptr _ _ _ | exact .agg _ | exact .nsl | exact .lent _ _ | exact .vptr _ _ _ | exact .tup _ | exact .nptr | exact .fn _ _ | exact .und) rfl) ?_
                  refine AL.v rfl rfl (B.mv (.inr rfl) (by first | exact .d _ | exact .own _ _ _ | exact .ptr _ _ _ | exact .agg _ | exact .nsl | exact .lent _ _ | exact .vptr _ _ _ | exact .tup _ | exact .nptr | exact .fn _ _ | exact .und) rfl) ?_
                  refine AL.nil ?_
                  refine AThen.n ?_
                  refine Aw.seq ?_
                  refine Aw.seq ?_
                  refine Aw.region ?_
                  refine AL.v rfl rfl (B.mv (.inl rfl) (by first | exact .d _ | exact .own _ _ _ | exact .ptr _ _ _ | exact .agg _ | exact .nsl | exact .lent _ _ | exact .vptr _ _ _ | exact .tup _ | exact .nptr | exact .fn _ _ | exact .und) rfl) ?_
                  refine AL.v rfl rfl (B.not rfl rfl rfl) ?_
                  refine AL.v rfl rfl (B.mv (.inl rfl) (by first | exact .d _ | exact .own _ _ _ | exact .ptr _ _ _ | exact .agg _ | exact .nsl | exact .lent _ _ | exact .vptr _ _ _ | exact .tup _ | exact .nptr | exact .fn _ _ | exact .und) rfl) ?_
                  refine AL.cases (t := 58) rfl (fun hg58 => ?_) (fun hg58 => ?_)
                  · refine AL.off rfl rfl rfl rfl rfl (by decide) ?_
                    refine AL.off rfl rfl rfl rfl rfl (by decide) ?_
                    refine AL.off rfl rfl rfl rfl rfl (by decide) ?_
                    refine AL.v rfl rfl (B.pickT rfl rfl (by first | exact .d _ | exact .own _ _ _ | exact .ptr _ _ _ | exact .agg _ | exact .nsl | exact .lent _ _ | exact .vptr _ _ _ | exact .tup _ | exact .nptr | exact .fn _ _ | exact .und) rfl) ?_
                    refine AL.v rfl rfl (B.mv (.inl rfl) (by first | exact .d _ | exact .own _ _ _ | exact .ptr _ _ _ | exact .agg _ | exact .nsl | exact .lent _ _ | exact .vptr _ _ _ | exact .tup _ | exact .nptr | exact .fn _ _ | exact .und) rfl) ?_
                    refine AL.off rfl rfl rfl rfl rfl (by decide) ?_
                    refine AL.off rfl rfl rfl rfl rfl (by decide) ?_
                    refine AL.off rfl rfl rfl rfl rfl (by decide) ?_
                    refine AL.v rfl rfl (B.pickT rfl rfl (by first | exact .d _ | exact .own _ _ _ | exact .ptr _ _ _ | exact .agg _ | exact .nsl | exact .lent _ _ | exact .vptr _ _ _ | exact .tup _ | exact .nptr | exact .fn _ _ | exact .und) rfl) ?_
                    refine AL.nil ?_
                    refine AThen.n ?_
                    refine Aw.condT rfl (rfl) ?_
                    refine Aw.seq ?_
                    refine Aw.region ?_
                    refine AL.v rfl rfl (B.mv (.inr rfl) (by first | exact .d _ | exact .own _ _ _ | exact .ptr _ _ _ | exact .agg _ | exact .nsl | exact .lent _ _ | exact .vptr _ _ _ | exact .tup _ | exact .nptr | exact .fn _ _ | exact .und) rfl) ?_
                    refine AL.nil ?_
                    refine AThen.n ?_
                    refine Aw.ret ?_
                    refine AThen.r ?_
                    refine APost.r ?_
                    refine Ret.all [] rfl (.cons (.t (.d _)) .nil) gs_nil (.refl _) (.d _) ⟨congrArg (fun x => AV.d (.int .i64 x)) ?_, rfl⟩
                    simp_all [cfgOk] <;> omega
                  · first | refine AL.gv rfl rfl rfl rfl (B.fld rfl fl_api_Cfg_9 (by decide) rfl rfl) ?_ | refine AL.gv rfl rfl rfl rfl (B.vfld rfl fl_api_Cfg_9 (by decide) rfl rfl) ?_
                    refine AL.gv rfl rfl rfl rfl (B.load1 rfl ty_uint64 (by first | exact .v rfl rfl rfl | exact .w rfl rfl | exact .r rfl rfl (by assumption) rfl) rfl) ?_
                    refine AL.gv rfl rfl rfl rfl (B.cmp rfl rfl rfl rfl rfl) ?_
                    refine AL.v rfl rfl (B.pickF rfl rfl (by first | exact .d _ | exact .own _ _ _ | exact .ptr _ _ _ | exact .agg _ | exact .nsl | exact .lent _ _ | exact .vptr _ _ _ | exact .tup _ | exact .nptr | exact .fn _ _ | exact .und) rfl) ?_
                    refine AL.v rfl rfl (B.mv (.inl rfl) (by first | exact .d _ | exact .own _ _ _ | exact .ptr _ _ _ | exact .agg _ | exact .nsl | exact .lent _ _ | exact .vptr _ _ _ | exact .tup _ | exact .nptr | exact .fn _ _ | exact .und) rfl) ?_
                    refine AL.cases (t := 63) rfl (fun hg63 => ?_) (fun hg63 => ?_)
                    · refine AL.off rfl rfl rfl rfl rfl (by decide) ?_
                      refine AL.off rfl rfl rfl rfl rfl (by decide) ?_
                      refine AL.off rfl rfl rfl rfl rfl (by decide) ?_
                      refine AL.v rfl rfl (B.pickT rfl rfl (by first | exact .d _ | exact .own _ _ _ | exact .ptr _ _ _ | exact .agg _ | exact .nsl | exact .lent _ _ | exact .vptr _ _ _ | exact .tup _ | exact .nptr | exact .fn _ _ | exact .und) rfl) ?_
                      refine AL.nil ?_
                      refine AThen.n ?_
                      refine Aw.condT rfl (rfl) ?_
                      refine Aw.seq ?_
                      refine Aw.region ?_
                      refine AL.v rfl rfl (B.mv (.inr rfl) (by first | exact .d _ | exact .own _ _ _ | exact .ptr _ _ _ | exact .agg _ | exact .nsl | exact .lent _ _ | exact .vptr _ _ _ | exact .tup _ | exact .nptr | exact .fn _ _ | exact .und) rfl) ?_
                      refine AL.nil ?_
                      refine AThen.n ?_
                      refine Aw.ret ?_
                      refine AThen.r ?_
                      refine APost.r ?_
                      refine Ret.all [] rfl (.cons (.t (.d _)) .nil) gs_nil (.refl _) (.d _) ⟨congrArg (fun x => AV.d (.int .i64 x)) ?_, rfl⟩
                      simp_all [cfgOk] <;> omega
                    · first | refine AL.gv rfl rfl rfl rfl (B.fld rfl fl_api_Cfg_10 (by decide) rfl rfl) ?_ | refine AL.gv rfl rfl rfl rfl (B.vfld rfl fl_api_Cfg_10 (by decide) rfl rfl) ?_
                      refine AL.gv rfl rfl rfl rfl (B.load1 rfl ty_uint64 (by first | exact .v rfl rfl rfl | exact .w rfl rfl | exact .r rfl rfl (by assumption) rfl) rfl) ?_
                      refine AL.gv rfl rfl rfl rfl (B.cmp rfl rfl rfl rfl rfl) ?_
                      refine AL.v rfl rfl (B.pickF rfl rfl (by first | exact .d _ | exact .own _ _ _ | exact .ptr _ _ _ | exact .agg _ | exact .nsl | exact .lent _ _ | exact .vptr _ _ _ | exact .tup _ | exact .nptr | exact .fn _ _ | exact .und) rfl) ?_
                      refine AL.nil ?_
                      refine AThen.n ?_
                      refine Aw.cases (t := 67) rfl (fun hc0 => ?_) (fun hc0 => ?_)
                      · refine Aw.condT rfl rfl ?_
                        refine Aw.seq ?_
                        refine Aw.region ?_
                        refine AL.v rfl rfl (B.mv (.inr rfl) (by first | exact .d _ | exact .own _ _ _ | exact .ptr _ _ _ | exact .agg _ | exact .nsl | exact .lent _ _ | exact .vptr _ _ _ | exact .tup _ | exact .nptr | exact .fn _ _ | exact .und) rfl) ?_
                        refine AL.nil ?_
                        refine AThen.n ?_
                        refine Aw.ret ?_
                        refine AThen.r ?_
                        refine APost.r ?_
                        refine Ret.all [] rfl (.cons (.t (.d _)) .nil) gs_nil (.refl _) (.d _) ⟨congrArg (fun x => AV.d (.int .i64 x)) ?_, rfl⟩
                        simp_all [cfgOk] <;> omega
                      · refine Aw.condF rfl rfl ?_
                        refine Aw.skip ?_
                        refine AThen.n ?_
                        refine Aw.seq ?_
                        refine Aw.region ?_
                        refine AL.v rfl rfl (B.mv (.inr rfl) (by first | exact .d _ | exact .own _ _ _ | exact .ptr _ _ _ | exact .agg _ | exact .nsl | exact .lent _ _ | exact .vptr _ _ _ | exact .tup _ | exact .nptr | exact .fn _ _ | exact .und) rfl) ?_
                        refine AL.nil ?_
                        refine AThen.n ?_
                        refine Aw.ret ?_
                        refine APost.r ?_
                        refine Ret.all [] rfl (.cons (.t (.d _)) .nil) gs_nil (.refl _) (.d _) ⟨congrArg (fun x => AV.d (.int .i64 x)) ?_, rfl⟩
                        simp_all [cfgOk] <;> omega
              · refine AL.off rfl rfl rfl rfl rfl (by decide) ?_
                refine AL.off rfl rfl rfl rfl rfl (by decide) ?_
                refine AL.off rfl rfl rfl rfl rfl (by decide) ?_
                refine AL.v rfl rfl (B.pickF rfl rfl (by first | exact .d _ | exact .own _ _ _ | exact .ptr _ _ _ | exact .agg _ | exact .nsl | exact .lent _ _ | exact .vptr _ _ _ | exact .tup _ | exact .nptr | exact .fn _ _ | exact .und) rfl) ?_
                refine AL.v rfl rfl (B.mv (.inl rfl) (by first | exact .d _ | exact .own _ _ _ | exact .ptr _ _ _ | exact .agg _ | exact .nsl | exact .lent _ _ | exact .vptr _ _ _ | exact .tup _ | exact .nptr | exact .fn _ _ | exact .und) rfl) ?_
                refine AL.off rfl rfl rfl rfl rfl (by decide) ?_
                refine AL.off rfl rfl rfl rfl rfl (by decide) ?_
                refine AL.off rfl rfl rfl rfl rfl (by decide) ?_
                refine AL.v rfl rfl (B.pickF rfl rfl (by first | exact .d _ | exact .own _ _ _ | exact .ptr _ _ _ | exact .agg _ | exact .nsl | exact .lent _ _ | exact .vptr _ _ _ | exact .tup _ | exact .nptr | exact .fn _ _ | exact .und) rfl) ?_
                refine AL.v rfl rfl (B.mv (.inl rfl) (by first | exact .d _ | exact .own _ _ _ | exact .ptr _ _ _ | exact .agg _ | exact .nsl | exact .lent _ _ | exact .vptr _ _ _ | exact .tup _ | exact .nptr | exact .fn _ _ | exact .und) rfl) ?_
                refine AL.off rfl rfl rfl rfl rfl (by decide) ?_
                refine AL.off rfl rfl rfl rfl rfl (by decide) ?_
                refine AL.off rfl rfl rfl rfl rfl (by decide) ?_
                refine AL.v rfl rfl (B.pickF rfl rfl (by first | exact .d _ | exact .own _ _ _ | exact .ptr _ _ _ | exact .agg _ | exact .nsl | exact .lent _ _ | exact .vptr _ _ _ | exact .tup _ | exact .nptr | exact .fn _ _ | exact .und) rfl) ?_
                refine AL.v rfl rfl (B.mv (.inr rfl) (by first | exact .d _ | exact .own _ _ _ | exact .ptr _ _ _ | exact .agg _ | exact .nsl | exact .lent _ _ | exact .vptr _ _ _ | exact .tup _ | exact .nptr | exact .fn _ _ | exact .und) rfl) ?_
                refine AL.nil ?_
                refine AThen.n ?_
                refine Aw.seq ?_
                refine Aw.seq ?_
                refine Aw.region ?_
                refine AL.v rfl rfl (B.mv (.inl rfl) (by first | exact .d _ | exact .own _ _ _ | exact .ptr _ _ _ | exact .agg _ | exact .nsl | exact .lent _ _ | exact .vptr _ _ _ | exact .tup _ | exact .nptr | exact .fn _ _ | exact .und) rfl) ?_
                refine AL.v rfl rfl (B.not rfl rfl rfl) ?_
                refine AL.v rfl rfl (B.mv (.inl rfl) (by first | exact .d _ | exact .own _ _ _ | exact .ptr _ _ _ | exact .agg _ | exact .nsl | exact .lent _ _ | exact .vptr _ _ _ | exact .tup _ | exact .nptr | exact .fn _ _ | exact .und) rfl) ?_
                refine AL.cases (t := 58) rfl (fun hg58 => ?_) (fun hg58 => ?_)
                · refine AL.off rfl rfl rfl rfl rfl (by decide) ?_
                  refine AL.off rfl rfl rfl rfl rfl (by decide) ?_
                  refine AL.off rfl rfl rfl rfl rfl (by decide) ?_
                  refine AL.v rfl rfl (B.pickT rfl rfl (by first | exact .d _ | exact .own _ _ _ | exact .ptr _ _ _ | exact .agg _ | exact .nsl | exact .lent _ _ | exact .vptr _ _ _ | exact .tup _ | exact .nptr | exact .fn _ _ | exact .und) rfl) ?_
                  refine AL.v rfl rfl (B.mv (.inl rfl) (by first | exact .d _ | exact .own _ _ _ | exact .ptr _ _ _ | exact .agg _ | exact .nsl | exact .lent _ _ | exact .vptr _ _ _ | exact .tup _ | exact .nptr | exact .fn _ _ | exact .und) rfl) ?_
                  refine AL.off rfl rfl rfl rfl rfl (by decide) ?_
                  refine AL.off rfl rfl rfl rfl rfl (by decide) ?_
                  refine AL.off rfl rfl rfl rfl rfl (by decide) ?_
                  refine AL.v rfl rfl (B.pickT rfl rfl (by first | exact .d _ | exact .own _ _ _ | exact .ptr _ _ _ | exact .agg _ | exact .nsl | exact .lent _ _ | exact .vptr _ _ _ | exact .tup _ | exact .nptr | exact .fn _ _ | exact .und) rfl) ?_
                  refine AL.nil ?_
                  refine AThen.n ?_
                  refine Aw.condT rfl (rfl) ?_
                  refine Aw.seq ?_
                  refine Aw.region ?_
                  refine AL.v rfl rfl (B.mv (.inr rfl) (by first | exact .d _ | exact .own _ _ _ | exact .ptr _ _ _ | exact .agg _ | exact .nsl | exact .lent _ _ | exact .vptr _ _ _ | exact .tup _ | exact .nptr | exact .fn _ _ | exact .und) rfl) ?_
                  refine AL.nil ?_
                  refine AThen.n ?_
                  refine Aw.ret ?_
                  refine AThen.r ?_
                  refine APost.r ?_
                  refine Ret.all [] rfl (.cons (.t (.d _)) .nil) gs_nil (.refl _) (.d _) ⟨congrArg (fun x => AV.d (.int .i64 x)) ?_, rfl⟩
                  simp_all [cfgOk] <;> omega
                · first | refine AL.gv rfl rfl rfl rfl (B.fld rfl fl_api_Cfg_9 (by decide) rfl rfl) ?_ | refine AL.gv rfl rfl rfl rfl (B.vfld rfl fl_api_Cfg_9 (by decide) rfl rfl) ?_
                  refine AL.gv rfl rfl rfl rfl (B.load1 rfl ty_uint64 (by first | exact .v rfl rfl rfl | exact .w rfl rfl | exact .r rfl rfl (by assumption) rfl) rfl) ?_
                  refine AL.gv rfl rfl rfl rfl (B.cmp rfl rfl rfl rfl rfl) ?_
                  refine AL.v rfl rfl (B.pickF rfl rfl (by first | exact .d _ | exact .own _ _ _ | exact .ptr _ _ _ | exact .agg _ | exact .nsl | exact .lent _ _ | exact .vptr _ _ _ | exact .tup _ | exact .nptr | exact .fn _ _ | exact .und) rfl) ?_
                  refine AL.v rfl rfl (B.mv (.inl rfl) (by first | exact .d _ | exact .own _ _ _ | exact .ptr _ _ _ | exact .agg _ | exact .nsl | exact .lent _ _ | exact .vptr _ _ _ | exact .tup _ | exact .nptr | exact .fn _ _ | exact .und) rfl) ?_
                  refine AL.cases (t := 63) rfl (fun hg63 => ?_) (fun hg63 => ?_)
                  · refine AL.off rfl rfl rfl rfl rfl (by decide) ?_
                    refine AL.off rfl rfl rfl rfl rfl (by decide) ?_
                    refine AL.off rfl rfl rfl rfl rfl (by decide) ?_
                    refine AL.v rfl rfl (B.pickT rfl rfl (by first | exact .d _ | exact .own _ _ _ | exact .ptr _ _ _ | exact .agg _ | exact .nsl | exact .lent _ _ | exact .vptr _ _ _ | exact .tup _ | exact .nptr | exact .fn _ _ | exact .und) rfl) ?_
                    refine AL.nil ?_
                    refine AThen.n ?_
                    refine Aw.condT rfl (rfl) ?_
                    refine Aw.seq ?_
                    refine Aw.region ?_
                    refine AL.v rfl rfl (B.mv (.inr rfl) (by first | exact .d _ | exact .own _ _ _ | exact .ptr _ _ _ | exact .agg _ | exact .nsl | exact .lent _ _ | exact .vptr _ _ _ | exact .tup _ | exact .nptr | exact .fn _ _ | exact .und) rfl) ?_
                    refine AL.nil ?_
                    refine AThen.n ?_
                    refine Aw.ret ?_
                    refine AThen.r ?_
                    refine APost.r ?_
                    refine Ret.all [] rfl (.cons (.t (.d _)) .nil) gs_nil (.refl _) (.d _) ⟨congrArg (fun x => AV.d (.int .i64 x)) ?_, rfl⟩
                    simp_all [cfgOk] <;> omega
                  · first | refine AL.gv rfl rfl rfl rfl (B.fld rfl fl_api_Cfg_10 (by decide) rfl rfl) ?_ | refine AL.gv rfl rfl rfl rfl (B.vfld rfl fl_api_Cfg_10 (by decide) rfl rfl) ?_
                    refine AL.gv rfl rfl rfl rfl (B.load1 rfl ty_uint64 (by first | exact .v rfl rfl rfl | exact .w rfl rfl | exact .r rfl rfl (by assumption) rfl) rfl) ?_
                    refine AL.gv rfl rfl rfl rfl (B.cmp rfl rfl rfl rfl rfl) ?_
                    refine AL.v rfl rfl (B.pickF rfl rfl (by first | exact .d _ | exact .own _ _ _ | exact .ptr _ _ _ | exact .agg _ | exact .nsl | exact .lent _ _ | exact .vptr _ _ _ | exact .tup _ | exact .nptr | exact .fn _ _ | exact .und) rfl) ?_
                    refine AL.nil ?_
                    refine AThen.n ?_
                    refine Aw.cases (t := 67) rfl (fun hc0 => ?_) (fun hc0 => ?_)
                    · refine Aw.condT rfl rfl ?_
                      refine Aw.seq ?_
                      refine Aw.region ?_
                      refine AL.v rfl rfl (B.mv (.inr rfl) (by first | exact .d _ | exact .own _ _ _ | exact .ptr _ _ _ | exact .agg _ | exact .nsl | exact .lent _ _ | exact .vptr _ _ _ | exact .tup _ | exact .nptr | exact .fn _ _ | exact .und) rfl) ?_
                      refine AL.nil ?_
                      refine AThen.n ?_
                      refine Aw.ret ?_
                      refine AThen.r ?_
                      refine APost.r ?_
                      refine Ret.all [] rfl (.cons (.t (.d _)) .nil) gs_nil (.refl _) (.d _) ⟨congrArg (fun x => AV.d (.int .i64 x)) ?_, rfl⟩
                      simp_all [cfgOk] <;> omega
                    · refine Aw.condF rfl rfl ?_
                      refine Aw.skip ?_
                      refine AThen.n ?_
                      refine Aw.seq ?_
                      refine Aw.region ?_
                      refine AL.v rfl rfl (B.mv (.inr rfl) (by first | exact .d _ | exact .own _ _ _ | exact .ptr _ _ _ | exact .agg _ | exact .nsl | exact .lent _ _ | exact .vptr _ _ _ | exact .tup _ | exact .nptr | exact .fn _ _ | exact .und) rfl) ?_
                      refine AL.nil ?_
                      refine AThen.n ?_
                      refine Aw.ret ?_
                      refine APost.r ?_
                      refine Ret.all [] rfl (.cons (.t (.d _)) .nil) gs_nil (.refl _) (.d _) ⟨congrArg (fun x => AV.d (.int .i64 x)) ?_, rfl⟩
                      simp_all [cfgOk] <;> omega
            · refine AL.off rfl rfl rfl rfl rfl (by decide) ?_
              refine AL.off rfl rfl rfl rfl rfl (by decide) ?_
              refine AL.off rfl rfl rfl rfl rfl (by decide) ?_
              refine AL.off rfl rfl rfl rfl rfl (by decide) ?_
              refine AL.off rfl rfl rfl rfl rfl (by decide) ?_
              refine AL.v rfl rfl (B.pickF rfl rfl (by first | exact .d _ | exact .own _ _ _ | exact .ptr _ _ _ | exact .agg _ | exact .nsl | exact .lent _ _ | exact .vptr _ _ _ | exact .tup _ | exact .nptr | exact .fn _ _ | exact .und) rfl) ?_
              refine AL.v rfl rfl (B.mv (.inl rfl) (by first | exact .d _ | exact .own _ _ _ | exact .ptr _ _ _ | exact .agg _ | exact .nsl | exact .lent _ _ | exact .vptr _ _ _ | exact .tup _ | exact .nptr | exact .fn _ _ | exact .und) rfl) ?_
              refine AL.off rfl rfl rfl rfl rfl (by decide) ?_
              refine AL.off rfl rfl rfl rfl rfl (by decide) ?_
              refine AL.off rfl rfl rfl rfl rfl (by decide) ?_
              refine AL.v rfl rfl (B.pickF rfl rfl (by first | exact .d _ | exact .own _ _ _ | exact .ptr _ _ _ | exact .agg _ | exact .nsl | exact .lent _ _ | exact .vptr _ _ _ | exact .tup _ | exact .nptr | exact .fn _ _ | exact .und) rfl) ?_
              refine AL.v rfl rfl (B.mv (.inl rfl) (by first | exact .d _ | exact .own _ _ _ | exact .ptr _ _ _ | exact .agg _ | exact .nsl | exact .lent _ _ | exact .vptr _ _ _ | exact .tup _ | exact .nptr | exact .fn _ _ | exact .und) rfl) ?_
              refine AL.off rfl rfl rfl rfl rfl (by decide) ?_
              refine AL.off rfl rfl rfl rfl rfl (by decide) ?_
              refine AL.off rfl rfl rfl rfl rfl (by decide) ?_
              refine AL.v rfl rfl (B.pickF rfl rfl (by first | exact .d _ | exact .own _ _ _ | exact .ptr _ _ _ | exact .agg _ | exact .nsl | exact .lent _ _ | exact .vptr _ _ _ | exact .tup _ | exact .nptr | exact .fn _ _ | exact .und) rfl) ?_
              refine AL.v rfl rfl (B.mv (.inl rfl) (by first | exact .d _ | exact .own _ _ _ | exact .ptr _ _ _ | exact .agg _ | exact .nsl | exact .lent _ _ | exact .vptr _ _ _ | exact .tup _ | exact .nptr | exact .fn _ _ | exact .und) rfl) ?_
              refine AL.off rfl rfl rfl rfl rfl (by decide) ?_
              refine AL.off rfl rfl rfl rfl rfl (by decide) ?_
              refine AL.off rfl rfl rfl rfl rfl (by decide) ?_
              refine AL.v rfl rfl (B.pickF rfl rfl (by first | exact .d _ | exact .own _ _ _ | exact .ptr _ _ _ | exact .agg _ | exact .nsl | exact .lent _ _ | exact .vptr _ _ _ | exact .tup _ | exact .nptr | exact .fn _ _ | exact .und) rfl) ?_
              refine AL.v rfl rfl (B.mv (.inr rfl) (by first | exact .d _ | exact .own _ _ _ | exact .ptr _ _ _ | exact .agg _ | exact .nsl | exact .lent _ _ | exact .vptr _ _ _ | exact .tup _ | exact .nptr | exact .fn _ _ | exact .und) rfl) ?_
              refine AL.nil ?_
              refine AThen.n ?_
              refine Aw.seq ?_
              refine Aw.seq ?_
              refine Aw.region ?_
              refine AL.v rfl rfl (B.mv (.inl rfl) (by first | exact .d _ | exact .own _ _ _ | exact .ptr _ _ _ | exact .agg _ | exact .nsl | exact .lent _ _ | exact .vptr _ _ _ | exact .tup _ | exact .nptr | exact .fn _ _ | exact .und) rfl) ?_
              refine AL.v rfl rfl (B.not rfl rfl rfl) ?_
              refine AL.v rfl rfl (B.mv (.inl rfl) (by first | exact .d _ | exact .own _ _ _ | exact .ptr _ _ _ | exact .agg _ | exact .nsl | exact .lent _ _ | exact .vptr _ _ _ | exact .tup _ | exact .nptr | exact .fn _ _ | exact .und) rfl) ?_
              refine AL.cases (t := 58) rfl (fun hg58 => ?_) (fun hg58 => ?_)
              · refine AL.off rfl rfl rfl rfl rfl (by decide) ?_
                refine AL.off rfl rfl rfl rfl rfl (by decide) ?_
                refine AL.off rfl rfl rfl rfl rfl (by decide) ?_
                refine AL.v rfl rfl (B.pickT rfl rfl (by first | exact .d _ | exact .own _ _ _ | exact .ptr _ _ _ | exact .agg _ | exact .nsl | exact .lent _ _ | exact .vptr _ _ _ | exact .tup _ | exact .nptr | exact .fn _ _ | exact .und) rfl) ?_
                refine AL.v rfl rfl (B.mv (.inl rfl) (by first | exact .d _ | exact .own _ _ _ | exact .ptr _ _ _ | exact .agg _ | exact .nsl | exact .lent _ _ | exact .vptr _ _ _ | exact .tup _ | exact .nptr | exact .fn _ _ | exact .und) rfl) ?_
                refine AL.off rfl rfl rfl rfl rfl (by decide) ?_
                refine AL.off rfl rfl rfl rfl rfl (by decide) ?_
                refine AL.off rfl rfl rfl rfl rfl (by decide) ?_
                refine AL.v rfl rfl (B.pickT rfl rfl (by first | exact .d _ | exact .own _ _ _ | exact .ptr _ _ _ | exact .agg _ | exact .nsl | exact .lent _ _ | exact .vptr _ _ _ | exact .tup _ | exact .nptr | exact .fn _ _ | exact .und) rfl) ?_
                refine AL.nil ?_
                refine AThen.n ?_
                refine Aw.condT rfl (rfl) ?_
                refine Aw.seq ?_
                refine Aw.region ?_
                refine AL.v rfl rfl (B.mv (.inr rfl) (by first | exact .d _ | exact .own _ _ _ | exact .ptr _ _ _ | exact .agg _ | exact .nsl | exact .lent _ _ | exact .vptr _ _ _ | exact .tup _ | exact .nptr | exact .fn _ _ | exact .und) rfl) ?_
                refine AL.nil ?_
                refine AThen.n ?_
                refine Aw.ret ?_
                refine AThen.r ?_
                refine APost.r ?_
                refine Ret.all [] rfl (.cons (.t (.d _)) .nil) gs_nil (.refl _) (.d _) ⟨congrArg (fun x => AV.d (.int .i64 x)) ?_, rfl⟩
                simp_all [cfgOk] <;> omega
              · first | refine AL.gv rfl rfl rfl rfl (B.fld rfl fl_api_Cfg_9 (by decide) rfl rfl) ?_ | refine AL.gv rfl rfl rfl rfl (B.vfld rfl fl_api_Cfg_9 (by decide) rfl rfl) ?_
                refine AL.gv rfl rfl rfl rfl (B.load1 rfl ty_uint64 (by first | exact .v rfl rfl rfl | exact .w rfl rfl | exact .r rfl rfl (by assumption) rfl) rfl) ?_
                refine AL.gv rfl rfl rfl rfl (B.cmp rfl rfl rfl rfl rfl) ?_
                refine AL.v rfl rfl (B.pickF rfl rfl (by first | exact .d _ | exact .own _ _ _ | exact .ptr _ _ _ | exact .agg _ | exact .nsl | exact .lent _ _ | exact .vptr _ _ _ | exact .tup _ | exact .nptr | exact .fn _ _ | exact .und) rfl) ?_
                refine AL.v rfl rfl (B.mv (.inl rfl) (by first | exact .d _ | exact .own _ _ _ | exact .ptr _ _ _ | exact .agg _ | exact .nsl | exact .lent _ _ | exact .vptr _ _ _ | exact .tup _ | exact .nptr | exact .fn _ _ | exact .und) rfl) ?_
                refine AL.cases (t := 63) rfl (fun hg63 => ?_) (fun hg63 => ?_)
                · refine AL.off rfl rfl rfl rfl rfl (by decide) ?_
                  refine AL.off rfl rfl rfl rfl rfl (by decide) ?_
                  refine AL.off rfl rfl rfl rfl rfl (by decide) ?_
                  refine AL.v rfl rfl (B.pickT rfl rfl (by first | exact .d _ | exact .own _ _ _ | exact .ptr _ _ _ | exact .agg _ | exact .nsl | exact .lent _ _ | exact .vptr _ _ _ | exact .tup _ | exact .nptr | exact .fn _ _ | exact .und) rfl) ?_
                  refine AL.nil ?_
                  refine AThen.n ?_
                  refine Aw.condT rfl (rfl) ?_
                  refine Aw.seq ?_
                  refine Aw.region ?_
                  refine AL.v rfl rfl (B.mv (.inr rfl) (by first | exact .d _ | exact .own _ _ _ | exact .ptr _ _ _ | exact .agg _ | exact .nsl | exact .lent _ _ | exact .vptr _ _ _ | exact .tup _ | exact .nptr | exact .fn _ _ | exact .und) rfl) ?_
                  refine AL.nil ?_
                  refine AThen.n ?_
                  refine Aw.ret ?_
                  refine AThen.r ?_
                  refine APost.r ?_
                  refine Ret.all [] rfl (.cons (.t (.d _)) .nil) gs_nil (.refl _) (.d _) ⟨congrArg (fun x => AV.d (.int .i64 x)) ?_, rfl⟩
                  simp_all [cfgOk] <;> omega
                · first | refine AL.gv rfl rfl rfl rfl (B.fld rfl fl_api_Cfg_10 (by decide) rfl rfl) ?_ | refine AL.gv rfl rfl rfl rfl (B.vfld rfl fl_api_Cfg_10 (by decide) rfl rfl) ?_
                  refine AL.gv rfl rfl rfl rfl (B.load1 rfl ty_uint64 (by first | exact .v rfl rfl rfl | exact .w rfl rfl | exact .r rfl rfl (by assumption) rfl) rfl) ?_
                  refine AL.gv rfl rfl rfl rfl (B.cmp rfl rfl rfl rfl rfl) ?_
                  refine AL.v rfl rfl (B.pickF rfl rfl (by first | exact .d _ | exact .own _ _ _ | exact .ptr _ _ _ | exact .agg _ | exact .nsl | exact .lent _ _ | exact .vptr _ _ _ | exact .tup _ | exact .nptr | exact .fn _ _ | exact .und) rfl) ?_
                  refine AL.nil ?_
                  refine AThen.n ?_
                  refine Aw.cases (t := 67) rfl (fun hc0 => ?_) (fun hc0 => ?_)
                  · refine Aw.condT rfl rfl ?_
                    refine Aw.seq ?_
                    refine Aw.region ?_
                    refine AL.v rfl rfl (B.mv (.inr rfl) (by first | exact .d _ | exact .own _ _ _ | exact .ptr _ _ _ | exact .agg _ | exact .nsl | exact .lent _ _ | exact .vptr _ _ _ | exact .tup _ | exact .nptr | exact .fn _ _ | exact .und) rfl) ?_
                    refine AL.nil ?_
                    refine AThen.n ?_
                    refine Aw.ret ?_
                    refine AThen.r ?_
                    refine APost.r ?_
                    refine Ret.all [] rfl (.cons (.t (.d _)) .nil) gs_nil (.refl _) (.d _) ⟨congrArg (fun x => AV.d (.int .i64 x)) ?_, rfl⟩
                    simp_all [cfgOk] <;> omega
                  · refine Aw.condF rfl rfl ?_
                    refine Aw.skip ?_
                    refine AThen.n ?_
                    refine Aw.seq ?_
                    refine Aw.region ?_
                    refine AL.v rfl rfl (B.mv (.inr rfl) (by first | exact .d _ | exact .own _ _ _ | exact .ptr _ _ _ | exact .agg _ | exact .nsl | exact .lent _ _ | exact .vptr _ _ _ | exact .tup _ | exact .nptr | exact .fn _ _ | exact .und) rfl) ?_
                    refine AL.nil ?_
                    refine AThen.n ?_
                    refine Aw.ret ?_
                    refine APost.r ?_
                    refine Ret.all [] rfl (.cons (.t (.d _)) .nil) gs_nil (.refl _) (.d _) ⟨congrArg (fun x => AV.d (.int .i64 x)) ?_, rfl⟩
                    simp_all [cfgOk] <;> omega
          · refine AL.off rfl rfl rfl rfl rfl (by decide) ?_
            refine AL.off rfl rfl rfl rfl rfl (by decide) ?_
            refine AL.off rfl rfl rfl rfl rfl (by decide) ?_
            refine AL.v rfl rfl (B.pickF rfl rfl (by first | exact .d _ | exact .own _ _ _ | exact .ptr _ _ _ | exact .agg _ | exact .nsl | exact .lent _ _ | exact .vptr _ _ _ | exact .tup _ | exact .nptr | exact .fn _ _ | exact .und) rfl) ?_
            refine AL.v rfl rfl (B.mv (.inl rfl) (by first | exact .d _ | exact .own _ _ _ | exact .ptr _ _ _ | exact .agg _ | exact .nsl | exact .lent _ _ | exact .vptr _ _ _ | exact .tup _ | exact .nptr | exact .fn _ _ | exact .und) rfl) ?_
            refine AL.off rfl rfl rfl rfl rfl (by decide) ?_
            refine AL.off rfl rfl rfl rfl rfl (by decide) ?_
            refine AL.off rfl rfl rfl rfl rfl (by decide) ?_
            refine AL.off rfl rfl rfl rfl rfl (by decide) ?_
            refine AL.off rfl rfl rfl rfl rfl (by decide) ?_
            refine AL.v rfl rfl (B.pickF rfl rfl (by first | exact .d _ | exact .own _ _ _ | exact .ptr _ _ _ | exact .agg _ | exact .nsl | exact .lent _ _ | exact .vptr _ _ _ | exact .tup _ | exact .nptr | exact .fn _ _ | exact .und) rfl) ?_
            refine AL.v rfl rfl (B.mv (.inl rfl) (by first | exact .d _ | exact .own _ _ _ | exact .ptr _ _ _ | exact .agg _ | exact .nsl | exact .lent _ _ | exact .vptr _ _ _ | exact .tup _ | exact .nptr | exact .fn _ _ | exact .und) rfl) ?_
            refine AL.off rfl rfl rfl rfl rfl (by decide) ?_
            refine AL.off rfl rfl rfl rfl rfl (by decide) ?_
            refine AL.off rfl rfl rfl rfl rfl (by decide) ?_
            refine AL.v rfl rfl (B.pickF rfl rfl (by first | exact .d _ | exact .own _ _ _ | exact .ptr _ _ _ | exact .agg _ | exact .nsl | exact .lent _ _ | exact .vptr _ _ _ | exact .tup _ | exact .nptr | exact .fn _ _ | exact .und) rfl) ?_
            refine AL.v rfl rfl (B.mv (.inl rfl) (by first | exact .d _ | exact .own _ _ _ | exact .ptr _ _ _ | exact .agg _ | exact .nsl | exact .lent _ _ | exact .vptr _ _ _ | exact .tup _ | exact .nptr | exact .fn _ _ | exact .und) rfl) ?_
            refine AL.off rfl rfl rfl rfl rfl (by decide) ?_
            refine AL.off rfl rfl rfl rfl rfl (by decide) ?_
            refine AL.off rfl rfl rfl rfl rfl (by decide) ?_
            refine AL.v rfl rfl (B.pickF rfl rfl (by first | exact .d _ | exact .own _ _ _ | exact .ptr _ _ _ | exact .agg _ | exact .nsl | exact .lent _ _ | exact .vptr _ _ _ | exact .tup _ | exact .nptr | exact .fn _ _ | exact .und) rfl) ?_
            refine AL.v rfl rfl (B.mv (.inl rfl) (by first | exact .d _ | exact .own _ _ _ | exact .ptr _ _ _ | exact .agg _ | exact .nsl | exact .lent _ _ | exact .vptr _ _ _ | exact .tup _ | exact .nptr | exact .fn _ _ | exact .und) rfl) ?_
            refine AL.off rfl rfl rfl rfl rfl (by decide) ?_
            refine AL.off rfl rfl rfl rfl rfl (by decide) ?_
            refine AL.off rfl rfl rfl rfl rfl (by decide) ?_
            refine AL.v rfl rfl (B.pickF rfl rfl (by first | exact .d _ | exact .own _ _ _ | exact .ptr _ _ _ | exact .agg _ | exact .nsl | exact .lent _ _ | exact .vptr _ _ _ | exact .tup _ | exact .nptr | exact .fn _ _ | exact .und) rfl) ?_
            refine AL.v rfl rfl (B.mv (.inr rfl) (by first | exact .d _ | exact .own _ _ _ | exact .ptr _ _ _ | exact .agg _ | exact .nsl | exact .lent _ _ | exact .vptr _ _ _ | exact .tup _ | exact .nptr | exact .fn _ _ | exact .und) rfl) ?_
            refine AL.nil ?_
            refine AThen.n ?_
            refine Aw.seq ?_
            refine Aw.seq ?_
            refine Aw.region ?_
            refine AL.v rfl rfl (B.mv (.inl rfl) (by first | exact .d _ | exact .own _ _ _ | exact .ptr _ _ _ | exact .agg _ | exact .nsl | exact .lent _ _ | exact .vptr _ _ _ | exact .tup _ | exact .nptr | exact .fn _ _ | exact .und) rfl) ?_
            refine AL.v rfl rfl (B.not rfl rfl rfl) ?_
            refine AL.v rfl rfl (B.mv (.inl rfl) (by first | exact .d _ | exact .own _ _ _ | exact .ptr _ _ _ | exact .agg _ | exact .nsl | exact .lent _ _ | exact .vptr _ _ _ | exact .tup _ | exact .nptr | exact .fn _ _ | exact .und) rfl) ?_
            refine AL.cases (t := 58) rfl (fun hg58 => ?_) (fun hg58 => ?_)
            · refine AL.off rfl rfl rfl rfl rfl (by decide) ?_
              refine AL.off rfl rfl rfl rfl rfl (by decide) ?_
              refine AL.off rfl rfl rfl rfl rfl (by decide) ?_
              refine AL.v rfl rfl (B.pickT rfl rfl (by first | exact .d _ | exact .own _ _ _ | exact .ptr _ _ _ | exact .agg _ | exact .nsl | exact .lent _ _ | exact .vptr _ _ _ | exact .tup _ | exact .nptr | exact .fn _ _ | exact .und) rfl) ?_
              refine AL.v rfl rfl (B.mv (.inl rfl) (by first | exact .d _ | exact .own _ _ _ | exact .ptr _ _ _ | exact .agg _ | exact .nsl | exact .lent _ _ | exact .vptr _ _ _ | exact .tup _ | exact .nptr | exact .fn _ _ | exact .und) rfl) ?_
              refine AL.off rfl rfl rfl rfl rfl (by decide) ?_
              refine AL.off rfl rfl rfl rfl rfl (by decide) ?_
              refine AL.off rfl rfl rfl rfl rfl (by decide) ?_
              refine AL.v rfl rfl (B.pickT rfl rfl (by first | exact .d _ | exact .own _ _ _ | exact .ptr _ _ _ | exact .agg _ | exact .nsl | exact .lent _ _ | exact .vptr _ _ _ | exact .tup _ | exact .nptr | exact .fn _ _ | exact .und) rfl) ?_
              refine AL.nil ?_
              refine AThen.n ?_
              refine Aw.condT rfl (rfl) ?_
              refine Aw.seq ?_
              refine Aw.region ?_
              refine AL.v rfl rfl (B.mv (.inr rfl) (by first | exact .d _ | exact .own _ _ _ | exact .ptr _ _ _ | exact .agg _ | exact .nsl | exact .lent _ _ | exact .vptr _ _ _ | exact .tup _ | exact .nptr | exact .fn _ _ | exact .und) rfl) ?_
              refine AL.nil ?_
              refine AThen.n ?_
              refine Aw.ret ?_
              refine AThen.r ?_
              refine APost.r ?_
              refine Ret.all [] rfl (.cons (.t (.d _)) .nil) gs_nil (.refl _) (.d _) ⟨congrArg (fun x => AV.d (.int .i64 x)) ?_, rfl⟩
              simp_all [cfgOk] <;> omega
            · first | refine AL.gv rfl rfl rfl rfl (B.fld rfl fl_api_Cfg_9 (by decide) rfl rfl) ?_ | refine AL.gv rfl rfl rfl rfl (B.vfld rfl fl_api_Cfg_9 (by decide) rfl rfl) ?_
              refine AL.gv rfl rfl rfl rfl (B.load1 rfl ty_uint64 (by first | exact .v rfl rfl rfl | exact .w rfl rfl | exact .r rfl rfl (by assumption) rfl) rfl) ?_
              refine AL.gv rfl rfl rfl rfl (B.cmp rfl rfl rfl rfl rfl) ?_
              refine AL.v rfl rfl (B.pickF rfl rfl (by first | exact .d _ | exact .own _ _ _ | exact .ptr _ _ _ | exact .agg _ | exact .nsl | exact .lent _ _ | exact .vptr _ _ _ | exact .tup _ | exact .nptr | exact .fn _ _ | exact .und) rfl) ?_
              refine AL.v rfl rfl (B.mv (.inl rfl) (by first | exact .d _ | exact .own _ _ _ | exact .ptr _ _ _ | exact .agg _ | exact .nsl | exact .lent _ _ | exact .vptr _ _ _ | exact .tup _ | exact .nptr | exact .fn _ _ | exact .und) rfl) ?_
              refine AL.cases (t := 63) rfl (fun hg63 => ?_) (fun hg63 => ?_)
              · refine AL.off rfl rfl rfl rfl rfl (by decide) ?_
                refine AL.off rfl rfl rfl rfl rfl (by decide) ?_
                refine AL.off rfl rfl rfl rfl rfl (by decide) ?_
                refine AL.v rfl rfl (B.pickT rfl rfl (by first | exact .d _ | exact .own _ _ _ | exact .ptr _ _ _ | exact .agg _ | exact .nsl | exact .lent _ _ | exact .vptr _ _ _ | exact .tup _ | exact .nptr | exact .fn _ _ | exact .und) rfl) ?_
                refine AL.nil ?_
                refine AThen.n ?_
                refine Aw.condT rfl (rfl) ?_
                refine Aw.seq ?_
                refine Aw.region ?_
                refine AL.v rfl rfl (B.mv (.inr rfl) (by first | exact .d _ | exact .own _ _ _ | exact .ptr _ _ _ | exact .agg _ | exact .nsl | exact .lent _ _ | exact .vptr _ _ _ | exact .tup _ | exact .nptr | exact .fn _ _ | exact .und) rfl) ?_
                refine AL.nil ?_
                refine AThen.n ?_
                refine Aw.ret ?_
                refine AThen.r ?_
                refine APost.r ?_
                refine Ret.all [] rfl (.cons (.t (.d _)) .nil) gs_nil (.refl _) (.d _) ⟨congrArg (fun x => AV.d (.int .i64 x)) ?_, rfl⟩
                simp_all [cfgOk] <;> omega
              · first | refine AL.gv rfl rfl rfl rfl (B.fld rfl fl_api_Cfg_10 (by decide) rfl rfl) ?_ | refine AL.gv rfl rfl rfl rfl (B.vfld rfl fl_api_Cfg_10 (by decide) rfl rfl) ?_
                refine AL.gv rfl rfl rfl rfl (B.load1 rfl ty_uint64 (by first | exact .v rfl rfl rfl | exact .w rfl rfl | exact .r rfl rfl (by assumption) rfl) rfl) ?_
                refine AL.gv rfl rfl rfl rfl (B.cmp rfl rfl rfl rfl rfl) ?_
                refine AL.v rfl rfl (B.pickF rfl rfl (by first | exact .d _ | exact .own _ _ _ | exact .ptr _ _ _ | exact .agg _ | exact .nsl | exact .lent _ _ | exact .vptr _ _ _ | exact .tup _ | exact .nptr | exact .fn _ _ | exact .und) rfl) ?_
                refine AL.nil ?_
                refine AThen.n ?_
                refine Aw.cases (t := 67) rfl (fun hc0 => ?_) (fun hc0 => ?_)
                · refine Aw.condT rfl rfl ?_
                  refine Aw.seq ?_
                  refine Aw.region ?_
                  refine AL.v rfl rfl (B.mv (.inr rfl) (by first | exact .d _ | exact .own _ _ _ | exact .ptr _ _ _ | exact .agg _ | exact .nsl | exact .lent _ _ | exact .vptr _ _ _ | exact .tup _ | exact .nptr | exact .fn _ _ | exact .und) rfl) ?_
                  refine AL.nil ?_
                  refine AThen.n ?_
                  refine Aw.ret ?_
                  refine AThen.r ?_
                  refine APost.r ?_
                  refine Ret.all [] rfl (.cons (.t (.d _)) .nil) gs_nil (.refl _) (.d _) ⟨congrArg (fun x => AV.d (.int .i64 x)) ?_, rfl⟩
                  simp_all [cfgOk] <;> omega
                · refine Aw.condF rfl rfl ?_
                  refine Aw.skip ?_
                  refine AThen.n ?_
                  refine Aw.seq ?_
                  refine Aw.region ?_
                  refine AL.v rfl rfl (B.mv (.inr rfl) (by first | exact .d _ | exact .own _ _ _ | exact .ptr _ _ _ | exact .agg _ | exact .nsl | exact .lent _ _ | exact .vptr _ _ _ | exact .tup _ | exact .nptr | exact .fn _ _ | exact .und) rfl) ?_
                  refine AL.nil ?_
                  refine AThen.n ?_
                  refine Aw.ret ?_
                  refine APost.r ?_
                  refine Ret.all [] rfl (.cons (.t (.d _)) .nil) gs_nil (.refl _) (.d _) ⟨congrArg (fun x => AV.d (.int .i64 x)) ?_, rfl⟩
                  simp_all [cfgOk] <;> omega
        · refine AL.off rfl rfl rfl rfl rfl (by decide) ?_
          refine AL.off rfl rfl rfl rfl rfl (by decide) ?_
          refine AL.off rfl rfl rfl rfl rfl (by decide) ?_
          refine AL.v rfl rfl (B.pickF rfl rfl (by first | exact .d _ | exact .own _ _ _ | exact .ptr _ _ _ | exact .agg _ | exact .nsl | exact .lent _ _ | exact .vptr _ _ _ | exact .tup _ | exact .nptr | exact .fn _ _ | exact .und) rfl) ?_
          refine AL.v rfl rfl (B.mv (.inr rfl) (by first | exact .d _ | exact .own _ _ _ | exact .ptr _ _ _ | exact .agg _ | exact .nsl | exact .lent _ _ | exact .vptr _ _ _ | exact .tup _ | exact .nptr | exact .fn _ _ | exact .und) rfl) ?_
          refine AL.nil ?_
          refine AThen.n ?_
          refine Aw.seq ?_
          refine Aw.region ?_
          refine AL.v rfl rfl (B.mv (.inl rfl) (by first | exact .d _ | exact .own _ _ _ | exact .ptr _ _ _ | exact .agg _ | exact .nsl | exact .lent _ _ | exact .vptr _ _ _ | exact .tup _ | exact .nptr | exact .fn _ _ | exact .und) rfl) ?_
          refine AL.v rfl rfl (B.mv (.inl rfl) (by first | exact .d _ | exact .own _ _ _ | exact .ptr _ _ _ | exact .agg _ | exact .nsl | exact .lent _ _ | exact .vptr _ _ _ | exact .tup _ | exact .nptr | exact .fn _ _ | exact .und) rfl) ?_
          refine AL.off rfl rfl rfl rfl rfl (by decide) ?_
          refine AL.off rfl rfl rfl rfl rfl (by decide) ?_
          refine AL.off rfl rfl rfl rfl rfl (by decide) ?_
          refine AL.v rfl rfl (B.pickF rfl rfl (by first | exact .d _ | exact .own _ _ _ | exact .ptr _ _ _ | exact .agg _ | exact .nsl | exact .lent _ _ | exact .vptr _ _ _ | exact .tup _ | exact .nptr | exact .fn _ _ | exact .und) rfl) ?_
          refine AL.v rfl rfl (B.mv (.inl rfl) (by first | exact .d _ | exact .own _ _ _ | exact .ptr _ _ _ | exact .agg _ | exact .nsl | exact .lent _ _ | exact .vptr _ _ _ | exact .tup _ | exact .nptr | exact .fn _ _ | exact .und) rfl) ?_
          refine AL.off rfl rfl rfl rfl rfl (by decide) ?_
          refine AL.off rfl rfl rfl rfl rfl (by decide) ?_
          refine AL.off rfl rfl rfl rfl rfl (by decide) ?_
          refine AL.off rfl rfl rfl rfl rfl (by decide) ?_
          refine AL.off rfl rfl rfl rfl rfl (by decide) ?_
          refine AL.v rfl rfl (B.pickF rfl rfl (by first | exact .d _ | exact .own _ _ _ | exact .ptr _ _ _ | exact .agg _ | exact .nsl | exact .lent _ _ | exact .vptr _ _ _ | exact .tup _ | exact .nptr | exact .fn _ _ | exact .und) rfl) ?_
          refine AL.v rfl rfl (B.mv (.inl rfl) (by first | exact .d _ | exact .own _ _ _ | exact .ptr _ _ _ | exact .agg _ | exact .nsl | exact .lent _ _ | exact .vptr _ _ _ | exact .tup _ | exact .nptr | exact .fn _ _ | exact .und) rfl) ?_
          refine AL.off rfl rfl rfl rfl rfl (by decide) ?_
          refine AL.off rfl rfl rfl rfl rfl (by decide) ?_
          refine AL.off rfl rfl rfl rfl rfl (by decide) ?_
          refine AL.v rfl rfl (B.pickF rfl rfl (by first | exact .d _ | exact .own _ _ _ | exact .ptr _ _ _ | exact .agg _ | exact .nsl | exact .lent _ _ | exact .vptr _ _ _ | exact .tup _ | exact .nptr | exact .fn _ _ | exact .und) rfl) ?_
          refine AL.v rfl rfl (B.mv (.inl rfl) (by first | exact .d _ | exact .own _ _ _ | exact .ptr _ _ _ | exact .agg _ | exact .nsl | exact .lent _ _ | exact .vptr _ _ _ | exact .tup _ | exact .nptr | exact .fn _ _ | exact .und) rfl) ?_
          refine AL.off rfl rfl rfl rfl rfl (by decide) ?_
          refine AL.off rfl rfl rfl rfl rfl (by decide) ?_
          refine AL.off rfl rfl rfl rfl rfl (by decide) ?_
          refine AL.v rfl rfl (B.pickF rfl rfl (by first | exact .d _ | exact .own _ _ _ | exact .ptr _ _ _ | exact .agg _ | exact .nsl | exact .lent _ _ | exact .vptr _ _ _ | exact .tup _ | exact .nptr | exact .fn _ _ | exact .und) rfl) ?_
          refine AL.v rfl rfl (B.mv (.inl rfl) (by first | exact .d _ | exact .own _ _ _ | exact .ptr _ _ _ | exact .agg _ | exact .nsl | exact .lent _ _ | exact .vptr _ _ _ | exact .tup _ | exact .nptr | exact .fn _ _ | exact .und) rfl) ?_
          refine AL.off rfl rfl rfl rfl rfl (by decide) ?_
          refine AL.off rfl rfl rfl rfl rfl (by decide) ?_
          refine AL.off rfl rfl rfl rfl rfl (by decide) ?_
          refine AL.v rfl rfl (B.pickF rfl rfl (by first | exact .d _ | exact .own _ _ _ | exact .ptr _ _ _ | exact .agg _ | exact .nsl | exact .lent _ _ | exact .vptr _ _ _ | exact .tup _ | exact .nptr | exact .fn _ _ | exact .und) rfl) ?_
          refine AL.v rfl rfl (B.mv (.inr rfl) (by first | exact .d _ | exact .own _ _ _ | exact .ptr _ _ _ | exact .agg _ | exact .nsl | exact .lent _ _ | exact .vptr _ _ _ | exact .tup _ | exact .nptr | exact .fn _ _ | exact .und) rfl) ?_
          refine AL.nil ?_
          refine AThen.n ?_
          refine Aw.seq ?_
          refine Aw.seq ?_
          refine Aw.region ?_
          refine AL.v rfl rfl (B.mv (.inl rfl) (by first | exact .d _ | exact .own _ _ _ | exact .ptr _ _ _ | exact .agg _ | exact .nsl | exact .lent _ _ | exact .vptr _ _ _ | exact .tup _ | exact .nptr | exact .fn _ _ | exact .und) rfl) ?_
          refine AL.v rfl rfl (B.not rfl rfl rfl) ?_
          refine AL.v rfl rfl (B.mv (.inl rfl) (by first | exact .d _ | exact .own _ _ _ | exact .ptr _ _ _ | exact .agg _ | exact .nsl | exact .lent _ _ | exact .vptr _ _ _ | exact .tup _ | exact .nptr | exact .fn _ _ | exact .und) rfl) ?_
          refine AL.cases (t := 58) rfl (fun hg58 => ?_) (fun hg58 => ?_)
          · refine AL.off rfl rfl rfl rfl rfl (by decide) ?_
            refine AL.off rfl rfl rfl rfl rfl (by decide) ?_
            refine AL.off rfl rfl rfl rfl rfl (by decide) ?_
            refine AL.v rfl rfl (B.pickT rfl rfl (by first | exact .d _ | exact .own _ _ _ | exact .ptr _ _ _ | exact .agg _ | exact .nsl | exact .lent _ _ | exact .vptr _ _ _ | exact .tup _ | exact .nptr | exact .fn _ _ | exact .und) rfl) ?_
            refine AL.v rfl rfl (B.mv (.inl rfl) (by first | exact .d _ | exact .own _ _ _ | exact .ptr _ _ _ | exact .agg _ | exact .nsl | exact .lent _ _ | exact .vptr _ _ _ | exact .tup _ | exact .nptr | exact .fn _ _ | exact .und) rfl) ?_
            refine AL.off rfl rfl rfl rfl rfl (by decide) ?_
            refine AL.off rfl rfl rfl rfl rfl (by decide) ?_
            refine AL.off rfl rfl rfl rfl rfl (by decide) ?_
            refine AL.v rfl rfl (B.pickT rfl rfl (by first | exact .d _ | exact .own _ _ _ | exact .ptr _ _ _ | exact .agg _ | exact .nsl | exact .lent _ _ | exact .vptr _ _ _ | exact .tup _ | exact .nptr | exact .fn _ _ | exact .und) rfl) ?_
            refine AL.nil ?_
            refine AThen.n ?_
            refine Aw.condT rfl (rfl) ?_
            refine Aw.seq ?_
            refine Aw.region ?_
            refine AL.v rfl rfl (B.mv (.inr rfl) (by first | exact .d _ | exact .own _ _ _ | exact .ptr _ _ _ | exact .agg _ | exact .nsl | exact .lent _ _ | exact .vptr _ _ _ | exact .tup _ | exact .nptr | exact .fn _ _ | exact .und) rfl) ?_
            refine AL.nil ?_
            refine AThen.n ?_
            refine Aw.ret ?_
            refine AThen.r ?_
            refine APost.r ?_
            refine Ret.all [] rfl (.cons (.t (.d _)) .nil) gs_nil (.refl _) (.d _) ⟨congrArg (fun x => AV.d (.int .i64 x)) ?_, rfl⟩
            simp_all [cfgOk] <;> omega
          · first | refine AL.gv rfl rfl rfl rfl (B.fld rfl fl_api_Cfg_9 (by decide) rfl rfl) ?_ | refine AL.gv rfl rfl rfl rfl (B.vfld rfl fl_api_Cfg_9 (by decide) rfl rfl) ?_
            refine AL.gv rfl rfl rfl rfl (B.load1 rfl ty_uint64 (by first | exact .v rfl rfl rfl | exact .w rfl rfl | exact .r rfl rfl (by assumption) rfl) rfl) ?_
            refine AL.gv rfl rfl rfl rfl (B.cmp rfl rfl rfl rfl rfl) ?_
            refine AL.v rfl rfl (B.pickF rfl rfl (by first | exact .d _ | exact .own _ _ _ | exact .ptr _ _ _ | exact .agg _ | exact .nsl | exact .lent _ _ | exact .vptr _ _ _ | exact .tup _ | exact .nptr | exact .fn _ _ | exact .und) rfl) ?_
            refine AL.v rfl rfl (B.mv (.inl rfl) (by first | exact .d _ | exact .own _ _ _ | exact .ptr _ _ _ | exact .agg _ | exact .nsl | exact .lent _ _ | exact .vptr _ _ _ | exact .tup _ | exact .nptr | exact .fn _ _ | exact .und) rfl) ?_
            refine AL.cases (t := 63) rfl (fun hg63 => ?_) (fun hg63 => ?_)
            · refine AL.off rfl rfl rfl rfl rfl (by decide) ?_
              refine AL.off rfl rfl rfl rfl rfl (by decide) ?_
              refine AL.off rfl rfl rfl rfl rfl (by decide) ?_
              refine AL.v rfl rfl (B.pickT rfl rfl (by first | exact .d _ | exact .own _ _ _ | exact .ptr _ _ _ | exact .agg _ | exact .nsl | exact .lent _ _ | exact .vptr _ _ _ | exact .tup _ | exact .nptr | exact .fn _ _ | exact .und) rfl) ?_
              refine AL.nil ?_
              refine AThen.n ?_
              refine Aw.condT rfl (rfl) ?_
              refine Aw.seq ?_
              refine Aw.region ?_
              refine AL.v rfl rfl (B.mv (.inr rfl) (by first | exact .d _ | exact .own _ _ _ | exact .ptr _ _ _ | exact .agg _ | exact .nsl | exact .lent _ _ | exact .vptr _ _ _ | exact .tup _ | exact .nptr | exact .fn _ _ | exact .und) rfl) ?_
              refine AL.nil ?_
              refine AThen.n ?_
              refine Aw.ret ?_
              refine AThen.r ?_
              refine APost.r ?_
              refine Ret.all [] rfl (.cons (.t (.d _)) .nil) gs_nil (.refl _) (.d _) ⟨congrArg (fun x => AV.d (.int .i64 x)) ?_, rfl⟩
              simp_all [cfgOk] <;> omega
            · first | refine AL.gv rfl rfl rfl rfl (B.fld rfl fl_api_Cfg_10 (by decide) rfl rfl) ?_ | refine AL.gv rfl rfl rfl rfl (B.vfld rfl fl_api_Cfg_10 (by decide) rfl rfl) ?_
              refine AL.gv rfl rfl rfl rfl (B.load1 rfl ty_uint64 (by first | exact .v rfl rfl rfl | exact .w rfl rfl | exact .r rfl rfl (by assumption) rfl) rfl) ?_
              refine AL.gv rfl rfl rfl rfl (B.cmp rfl rfl rfl rfl rfl) ?_
              refine AL.v rfl rfl (B.pickF rfl rfl (by first | exact .d _ | exact .own _ _ _ | exact .ptr _ _ _ | exact .agg _ | exact .nsl | exact .lent _ _ | exact .vptr _ _ _ | exact .tup _ | exact .nptr | exact .fn _ _ | exact .und) rfl) ?_
              refine AL.nil ?_
              refine AThen.n ?_
              refine Aw.cases (t := 67) rfl (fun hc0 => ?_) (fun hc0 => ?_)
              · refine Aw.condT rfl rfl ?_
                refine Aw.seq ?_
                refine Aw.region ?_
                refine AL.v rfl rfl (B.mv (.inr rfl) (by first | exact .d _ | exact .own _ _ _ | exact .ptr _ _ _ | exact .agg _ | exact .nsl | exact .lent _ _ | exact .vptr _ _ _ | exact .tup _ | exact .nptr | exact .fn _ _ | exact .und) rfl) ?_
                refine AL.nil ?_
                refine AThen.n ?_
                refine Aw.ret ?_
                refine AThen.r ?_
                refine APost.r ?_
                refine Ret.all [] rfl (.cons (.t (.d _)) .nil) gs_nil (.refl _) (.d _) ⟨congrArg (fun x => AV.d (.int .i64 x)) ?_, rfl⟩
                simp_all [cfgOk] <;> omega
              · refine Aw.condF rfl rfl ?_
                refine Aw.skip ?_
                refine AThen.n ?_
                refine Aw.seq ?_
                refine Aw.region ?_
                refine AL.v rfl rfl (B.mv (.inr rfl) (by first | exact .d _ | exact .own _ _ _ | exact .ptr _ _ _ | exact .agg _ | exact .nsl | exact .lent _ _ | exact .vptr _ _ _ | exact .tup _ | exact .nptr | exact .fn _ _ | exact .und) rfl) ?_
                refine AL.nil ?_
                refine AThen.n ?_
                refine Aw.ret ?_
                refine APost.r ?_
                refine Ret.all [] rfl (.cons (.t (.d _)) .nil) gs_nil (.refl _) (.d _) ⟨congrArg (fun x => AV.d (.int .i64 x)) ?_, rfl⟩
                simp_all [cfgOk] <;> omega
      · refine AL.off rfl rfl rfl rfl rfl (by decide) ?_
        refine AL.off rfl rfl rfl rfl rfl (by decide) ?_
        refine AL.off rfl rfl rfl rfl rfl (by decide) ?_
        refine AL.v rfl rfl (B.pickF rfl rfl (by first | exact .d _ | exact .own _ _ _ | exact .ptr _ _ _ | exact .agg _ | exact .nsl | exact .lent _ _ | exact .vptr _ _ _ | exact .tup _ | exact .nptr | exact .fn _ _ | exact .und) rfl) ?_
        refine AL.v rfl rfl (B.mv (.inl rfl) (by first | exact .d _ | exact .own _ _ _ | exact .ptr _ _ _ | exact .agg _ | exact .nsl | exact .lent _ _ | exact .vptr _ _ _ | exact .tup _ | exact .nptr | exact .fn _ _ | exact .und) rfl) ?_
        refine AL.off rfl rfl rfl rfl rfl (by decide) ?_
        refine AL.off rfl rfl rfl rfl rfl (by decide) ?_
        refine AL.off rfl rfl rfl rfl rfl (by decide) ?_
        refine AL.v rfl rfl (B.pickF rfl rfl (by first | exact .d _ | exact .own _ _ _ | exact .ptr _ _ _ | exact .agg _ | exact .nsl | exact .lent _ _ | exact .vptr _ _ _ | exact .tup _ | exact .nptr | exact .fn _ _ | exact .und) rfl) ?_
        refine AL.v rfl rfl (B.mv (.inr rfl) (by first | exact .d _ | exact .own _ _ _ | exact .ptr _ _ _ | exact .agg _ | exact .nsl | exact .lent _ _ | exact .vptr _ _ _ | exact .tup _ | exact .nptr | exact .fn _ _ | exact .und) rfl) ?_
        refine AL.nil ?_
        refine AThen.n ?_
        refine Aw.seq ?_
        refine Aw.region ?_
        refine AL.v rfl rfl (B.mv (.inl rfl) (by first | exact .d _ | exact .own _ _ _ | exact .ptr _ _ _ | exact .agg _ | exact .nsl | exact .lent _ _ | exact .vptr _ _ _ | exact .tup _ | exact .nptr | exact .fn _ _ | exact .und) rfl) ?_
        refine AL.v rfl rfl (B.mv (.inl rfl) (by first | exact .d _ | exact .own _ _ _ | exact .ptr _ _ _ | exact .agg _ | exact .nsl | exact .lent _ _ | exact .vptr _ _ _ | exact .tup _ | exact .nptr | exact .fn _ _ | exact .und) rfl) ?_
        refine AL.off rfl rfl rfl rfl rfl (by decide) ?_
        refine AL.off rfl rfl rfl rfl rfl (by decide) ?_
        refine AL.off rfl rfl rfl rfl rfl (by decide) ?_
        refine AL.v rfl rfl (B.pickF rfl rfl (by first | exact .d _ | exact .own _ _ _ | exact .ptr _ _ _ | exact .agg _ | exact .nsl | exact .lent _ _ | exact .vptr _ _ _ | exact .tup _ | exact .nptr | exact .fn _ _ | exact .und) rfl) ?_
        refine AL.v rfl rfl (B.mv (.inl rfl) (by first | exact .d _ | exact .own _ _ _ | exact .ptr _ _ _ | exact .agg _ | exact .nsl | exact .lent _ _ | exact .vptr _ _ _ | exact .tup _ | exact .nptr | exact .fn _ _ | exact .und) rfl) ?_
        refine AL.off rfl rfl rfl rfl rfl (by decide) ?_
        refine AL.off rfl rfl rfl rfl rfl (by decide) ?_
        refine AL.off rfl rfl rfl rfl rfl (by decide) ?_
        refine AL.off rfl rfl rfl rfl rfl (by decide) ?_
        refine AL.off rfl rfl rfl rfl rfl (by decide) ?_
        refine AL.v rfl rfl (B.pickF rfl rfl (by first | exact .d _ | exact .own _ _ _ | exact .ptr _ _ _ | exact .agg _ | exact .nsl | exact .lent _ _ | exact .vptr _ _ _ | exact .tup _ | exact .nptr | exact .fn _ _ | exact .und) rfl) ?_
        refine AL.v rfl rfl (B.mv (.inl rfl) (by first | exact .d _ | exact .own _ _ _ | exact .ptr _ _ _ | exact .agg _ | exact .nsl | exact .lent _ _ | exact .vptr _ _ _ | exact .tup _ | exact .nptr | exact .fn _ _ | exact .und) rfl) ?_
        refine AL.off rfl rfl rfl rfl rfl (by decide) ?_
        refine AL.off rfl rfl rfl rfl rfl (by decide) ?_
        refine AL.off rfl rfl rfl rfl rfl (by decide) ?_
        refine AL.v rfl rfl (B.pickF rfl rfl (by first | exact .d _ | exact .own _ _ _ | exact .ptr _ _ _ | exact .agg _ | exact .nsl | exact .lent _ _ | exact .vptr _ _ _ | exact .tup _ | exact .nptr | exact .fn _ _ | exact .und) rfl) ?_
        refine AL.v rfl rfl (B.mv (.inl rfl) (by first | exact .d _ | exact .own _ _ _ | exact .ptr _ _ _ | exact .agg _ | exact .nsl | exact .lent _ _ | exact .vptr _ _ _ | exact .tup _ | exact .nptr | exact .fn _ _ | exact .und) rfl) ?_
        refine AL.off rfl rfl rfl rfl rfl (by decide) ?_
        refine AL.off rfl rfl rfl rfl rfl (by decide) ?_
        refine AL.off rfl rfl rfl rfl rfl (by decide) ?_
        refine AL.v rfl rfl (B.pickF rfl rfl (by first | exact .d _ | exact .own _ _ _ | exact .ptr _ _ _ | exact .agg _ | exact .nsl | exact .lent _ _ | exact .vptr _ _ _ | exact .tup _ | exact .nptr | exact .fn _ _ | exact .und) rfl) ?_
        refine AL.v rfl rfl (B.mv (.inl rfl) (by first | exact .d _ | exact .own _ _ _ | exact .ptr _ _ _ | exact .agg _ | exact .nsl | exact .lent _ _ | exact .vptr _ _ _ | exact .tup _ | exact .nptr | exact .fn _ _ | exact .und) rfl) ?_
        refine AL.off rfl rfl rfl rfl rfl (by decide) ?_
        refine AL.off rfl rfl rfl rfl rfl (by decide) ?_
        refine AL.off rfl rfl rfl rfl rfl (by decide) ?_
        refine AL.v rfl rfl (B.pickF rfl rfl (by first | exact .d _ | exact .own _ _ _ | exact .ptr _ _ _ | exact .agg _ | exact .nsl | exact .lent _ _ | exact .vptr _ _ _ | exact .tup _ | exact .nptr | exact .fn _ _ | exact .und) rfl) ?_
        refine AL.v rfl rfl (B.mv (.inr rfl) (by first | exact .d _ | exact .own _ _ _ | exact .ptr _ _ _ | exact .agg _ | exact .nsl | exact .lent _ _ | exact .vptr _ _ _ | exact .tup _ | exact .nptr | exact .fn _ _ | exact .und) rfl) ?_
        refine AL.nil ?_
        refine AThen.n ?_
        refine Aw.seq ?_
        refine Aw.seq ?_
        refine Aw.region ?_
        refine AL.v rfl rfl (B.mv (.inl rfl) (by first | exact .d _ | exact .own _ _ _ | exact .ptr _ _ _ | exact .agg _ | exact .nsl | exact .lent _ _ | exact .vptr _ _ _ | exact .tup _ | exact .nptr | exact .fn _ _ | exact .und) rfl) ?_
        refine AL.v rfl rfl (B.not rfl rfl rfl) ?_
        refine AL.v rfl rfl (B.mv (.inl rfl) (by first | exact .d _ | exact .own _ _ _ | exact .ptr _ _ _ | exact .agg _ | exact .nsl | exact .lent _ _ | exact .vptr _ _ _ | exact .tup _ | exact .nptr | exact .fn _ _ | exact .und) rfl) ?_
        refine AL.cases (t := 58) rfl (fun hg58 => ?_) (fun hg58 => ?_)
        · refine AL.off rfl rfl rfl rfl rfl (by decide) ?_
          refine AL.off rfl rfl rfl rfl rfl (by decide) ?_
          refine AL.off rfl rfl rfl rfl rfl (by decide) ?_
          refine AL.v rfl rfl (B.pickT rfl rfl (by first | exact .d _ | exact .own _ _ _ | exact .ptr _ _ _ | exact .agg _ | exact .nsl | exact .lent _ _ | exact .vptr _ _ _ | exact .tup _ | exact .nptr | exact .fn _ _ | exact .und) rfl) ?_
          refine AL.v rfl rfl (B.mv (.inl rfl) (by first | exact .d _ | exact .own _ _ _ | exact .ptr _ _ _ | exact .agg _ | exact .nsl | exact .lent _ _ | exact .vptr _ _ _ | exact .tup _ | exact .nptr | exact .fn _ _ | exact .und) rfl) ?_
          refine AL.off rfl rfl rfl rfl rfl (by decide) ?_
          refine AL.off rfl rfl rfl rfl rfl (by decide) ?_
          refine AL.off rfl rfl rfl rfl rfl (by decide) ?_
          refine AL.v rfl rfl (B.pickT rfl rfl (by first | exact .d _ | exact .own _ _ _ | exact .ptr _ _ _ | exact .agg _ | exact .nsl | exact .lent _ _ | exact .vptr _ _ _ | exact .tup _ | exact .nptr | exact .fn _ _ | exact .und) rfl) ?_
          refine AL.nil ?_
          refine AThen.n ?_
          refine Aw.condT rfl (rfl) ?_
          refine Aw.seq ?_
          refine Aw.region ?_
          refine AL.v rfl rfl (B.mv (.inr rfl) (by first | exact .d _ | exact .own _ _ _ | exact .ptr _ _ _ | exact .agg _ | exact .nsl | exact .lent _ _ | exact .vptr _ _ _ | exact .tup _ | exact .nptr | exact .fn _ _ | exact .und) rfl) ?_
          refine AL.nil ?_
          refine AThen.n ?_
          refine Aw.ret ?_
          refine AThen.r ?_
          refine APost.r ?_
          refine Ret.all [] rfl (.cons (.t (.d _)) .nil) gs_nil (.refl _) (.d _) ⟨congrArg (fun x => AV.d (.int .i64 x)) ?_, rfl⟩
          simp_all [cfgOk] <;> omega
        · first | refine AL.gv rfl rfl rfl rfl (B.fld rfl fl_api_Cfg_9 (by decide) rfl rfl) ?_ | refine AL.gv rfl rfl rfl rfl (B.vfld rfl fl_api_Cfg_9 (by decide) rfl rfl) ?_
          refine AL.gv rfl rfl rfl rfl (B.load1 rfl ty_uint64 (by first | exact .v rfl rfl rfl | exact .w rfl rfl | exact .r rfl rfl (by assumption) rfl) rfl) ?_
          refine AL.gv rfl rfl rfl rfl (B.cmp rfl rfl rfl rfl rfl) ?_
          refine AL.v rfl rfl (B.pickF rfl rfl (by first | exact .d _ | exact .own _ _ _ | exact .ptr _ _ _ | exact .agg _ | exact .nsl | exact .lent _ _ | exact .vptr _ _ _ | exact .tup _ | exact .nptr | exact .fn _ _ | exact .und) rfl) ?_
          refine AL.v rfl rfl (B.mv (.inl rfl) (by first | exact .d _ | exact .own _ _ _ | exact .ptr _ _ _ | exact .agg _ | exact .nsl | exact .lent _ _ | exact .vptr _ _ _ | exact .tup _ | exact .nptr | exact .fn _ _ | exact .und) rfl) ?_
          refine AL.cases (t := 63) rfl (fun hg63 => ?_) (fun hg63 => ?_)
          · refine AL.off rfl rfl rfl rfl rfl (by decide) ?_
            refine AL.off rfl rfl rfl rfl rfl (by decide) ?_
            refine AL.off rfl rfl rfl rfl rfl (by decide) ?_
            refine AL.v rfl rfl (B.pickT rfl rfl (by first | exact .d _ | exact .own _ _ _ | exact .ptr _ _ _ | exact .agg _ | exact .nsl | exact .lent _ _ | exact .vptr _ _ _ | exact .tup _ | exact .nptr | exact .fn _ _ | exact .und) rfl) ?_
            refine AL.nil ?_
            refine AThen.n ?_
            refine Aw.condT rfl (rfl) ?_
            refine Aw.seq ?_
            refine Aw.region ?_
            refine AL.v rfl rfl (B.mv (.inr rfl) (by first | exact .d _ | exact .own _ _ _ | exact .ptr _ _ _ | exact .agg _ | exact .nsl | exact .lent _ _ | exact .vptr _ _ _ | exact .tup _ | exact .nptr | exact .fn _ _ | exact .und) rfl) ?_
            refine AL.nil ?_
            refine AThen.n ?_
            refine Aw.ret ?_
            refine AThen.r ?_
            refine APost.r ?_
            refine Ret.all [] rfl (.cons (.t (.d _)) .nil) gs_nil (.refl _) (.d _) ⟨congrArg (fun x => AV.d (.int .i64 x)) ?_, rfl⟩
            simp_all [cfgOk] <;> omega
          · first | refine AL.gv rfl rfl rfl rfl (B.fld rfl fl_api_Cfg_10 (by decide) rfl rfl) ?_ | refine AL.gv rfl rfl rfl rfl (B.vfld rfl fl_api_Cfg_10 (by decide) rfl rfl) ?_
            refine AL.gv rfl rfl rfl rfl (B.load1 rfl ty_uint64 (by first | exact .v rfl rfl rfl | exact .w rfl rfl | exact .r rfl rfl (by assumption) rfl) rfl) ?_
            refine AL.gv rfl rfl rfl rfl (B.cmp rfl rfl rfl rfl rfl) ?_
            refine AL.v rfl rfl (B.pickF rfl rfl (by first | exact .d _ | exact .own _ _ _ | exact .ptr _ _ _ | exact .agg _ | exact .nsl | exact .lent _ _ | exact .vptr _ _ _ | exact .tup _ | exact .nptr | exact .fn _ _ | exact .und) rfl) ?_
            refine AL.nil ?_
            refine AThen.n ?_
            refine Aw.cases (t := 67) rfl (fun hc0 => ?_) (fun hc0 => ?_)
            · refine Aw.condT rfl rfl ?_
              refine Aw.seq ?_
              refine Aw.region ?_
              refine AL.v rfl rfl (B.mv (.inr rfl) (by first | exact .d _ | exact .own _ _ _ | exact .ptr _ _ _ | exact .agg _ | exact .nsl | exact .lent _ _ | exact .vptr _ _ _ | exact .tup _ | exact .nptr | exact .fn _ _ | exact .und) rfl) ?_
              refine AL.nil ?_
              refine AThen.n ?_
              refine Aw.ret ?_
              refine AThen.r ?_
              refine APost.r ?_
              refine Ret.all [] rfl (.cons (.t (.d _)) .nil) gs_nil (.refl _) (.d _) ⟨congrArg (fun x => AV.d (.int .i64 x)) ?_, rfl⟩
              simp_all [cfgOk] <;> omega
            · refine Aw.condF rfl rfl ?_
              refine Aw.skip ?_
              refine AThen.n ?_
              refine Aw.seq ?_
              refine Aw.region ?_
              refine AL.v rfl rfl (B.mv (.inr rfl) (by first | exact .d _ | exact .own _ _ _ | exact .ptr _ _ _ | exact .agg _ | exact .nsl | exact .lent _ _ | exact .vptr _ _ _ | exact .tup _ | exact .nptr | exact .fn _ _ | exact .und) rfl) ?_
              refine AL.nil ?_
              refine AThen.n ?_
              refine Aw.ret ?_
              refine APost.r ?_
              refine Ret.all [] rfl (.cons (.t (.d _)) .nil) gs_nil (.refl _) (.d _) ⟨congrArg (fun x => AV.d (.int .i64 x)) ?_, rfl⟩
              simp_all [cfgOk] <;> omega
    · refine AL.off rfl rfl rfl rfl rfl (by decide) ?_
      refine AL.off rfl rfl rfl rfl rfl (by decide) ?_
      refine AL.off rfl rfl rfl rfl rfl (by decide) ?_
      refine AL.v rfl rfl (B.pickF rfl rfl (by first | exact .d _ | exact .own _ _ _ | exact .ptr _ _ _ | exact .agg _ | exact .nsl | exact .lent _ _ | exact .vptr _ _ _ | exact .tup _ | exact .nptr | exact .fn _ _ | exact .und) rfl) ?_
      refine AL.v rfl rfl (B.mv (.inl rfl) (by first | exact .d _ | exact .own _ _ _ | exact .ptr _ _ _ | exact .agg _ | exact .nsl | exact .lent _ _ | exact .vptr _ _ _ | exact .tup _ | exact .nptr | exact .fn _ _ | exact .und) rfl) ?_
      refine AL.off rfl rfl rfl rfl rfl (by decide) ?_
      refine AL.off rfl rfl rfl rfl rfl (by decide) ?_
      refine AL.off rfl rfl rfl rfl rfl (by decide) ?_
      refine AL.v rfl rfl (B.pickF rfl rfl (by first | exact .d _ | exact .own _ _ _ | exact .ptr _ _ _ | exact .agg _ | exact .nsl | exact .lent _ _ | exact .vptr _ _ _ | exact .tup _ | exact .nptr | exact .fn _ _ | exact .und) rfl) ?_
      refine AL.v rfl rfl (B.mv (.inl rfl) (by first | exact .d _ | exact .own _ _ _ | exact .ptr _ _ _ | exact .agg _ | exact .nsl | exact .lent _ _ | exact .vptr _ _ _ | exact .tup _ | exact .nptr | exact .fn _ _ | exact .und) rfl) ?_
      refine AL.off rfl rfl rfl rfl rfl (by decide) ?_
      refine AL.off rfl rfl rfl rfl rfl (by decide) ?_
      refine AL.off rfl rfl rfl rfl rfl (by decide) ?_
      refine AL.v rfl rfl (B.pickF rfl rfl (by first | exact .d _ | exact .own _ _ _ | exact .ptr _ _ _ | exact .agg _ | exact .nsl | exact .lent _ _ | exact .vptr _ _ _ | exact .tup _ | exact .nptr | exact .fn _ _ | exact .und) rfl) ?_
      refine AL.v rfl rfl (B.mv (.inr rfl) (by first | exact .d _ | exact .own _ _ _ | exact .ptr _ _ _ | exact .agg _ | exact .nsl | exact .lent _ _ | exact .vptr _ _ _ | exact .tup _ | exact .nptr | exact .fn _ _ | exact .und) rfl) ?_
      refine AL.nil ?_
      refine AThen.n ?_
      refine Aw.seq ?_
      refine Aw.region ?_
      refine AL.v rfl rfl (B.mv (.inl rfl) (by first | exact .d _ | exact .own _ _ _ | exact .ptr _ _ _ | exact .agg _ | exact .nsl | exact .lent _ _ | exact .vptr _ _ _ | exact .tup _ | exact .nptr | exact .fn _ _ | exact .und) rfl) ?_
      refine AL.v rfl rfl (B.mv (.inl rfl) (by first | exact .d _ | exact .own _ _ _ | exact .ptr _ _ _ | exact .agg _ | exact .nsl | exact .lent _ _ | exact .vptr _ _ _ | exact .tup _ | exact .nptr | exact .fn _ _ | exact .und) rfl) ?_
      refine AL.off rfl rfl rfl rfl rfl (by decide) ?_
      refine AL.off rfl rfl rfl rfl rfl (by decide) ?_
      refine AL.off rfl rfl rfl rfl rfl (by decide) ?_
      refine AL.v rfl rfl (B.pickF rfl rfl (by first | exact .d _ | exact .own _ _ _ | exact .ptr _ _ _ | exact .agg _ | exact .nsl | exact .lent _ _ | exact .vptr _ _ _ | exact .tup _ | exact .nptr | exact .fn _ _ | exact .und) rfl) ?_
      refine AL.v rfl rfl (B.mv (.inl rfl) (by first | exact .d _ | exact .own _ _ _ | exact .ptr _ _ _ | exact .agg _ | exact .nsl | exact .lent _ _ | exact .vptr _ _ _ | exact .tup _ | exact .nptr | exact .fn _ _ | exact .und) rfl) ?_
      refine AL.off rfl rfl rfl rfl rfl (by decide) ?_
      refine AL.off rfl rfl rfl rfl rfl (by decide) ?_
      refine AL.off rfl rfl rfl rfl rfl (by decide) ?_
      refine AL.off rfl rfl rfl rfl rfl (by decide) ?_
      refine AL.off rfl rfl rfl rfl rfl (by decide) ?_
      refine AL.v rfl rfl (B.pickF rfl rfl (by first | exact .d _ | exact .own _ _ _ | exact .ptr _ _ _ | exact .agg _ | exact .nsl | exact .lent _ _ | exact .vptr _ _ _ | exact .tup _ | exact .nptr | exact .fn _ _ | exact .und) rfl) ?_
      refine AL.v rfl rfl (B.mv (.inl rfl) (by first | exact .d _ | exact .own _ _ _ | exact .ptr _ _ _ | exact .agg _ | exact .nsl | exact .lent _ _ | exact .vptr _ _ _ | exact .tup _ | exact .nptr | exact .fn _ _ | exact .und) rfl) ?_
      refine AL.off rfl rfl rfl rfl rfl (by decide) ?_
      refine AL.off rfl rfl rfl rfl rfl (by decide) ?_
      refine AL.off rfl rfl rfl rfl rfl (by decide) ?_
      refine AL.v rfl rfl (B.pickF rfl rfl (by first | exact .d _ | exact .own _ _ _ | exact .ptr _ _ _ | exact .agg _ | exact .nsl | exact .lent _ _ | exact .vptr _ _ _ | exact .tup _ | exact .nptr | exact .fn _ _ | exact .und) rfl) ?_
      refine AL.v rfl rfl (B.mv (.inl rfl) (by first | exact .d _ | exact .own _ _ _ | exact .ptr _ _ _ | exact .agg _ | exact .nsl | exact .lent _ _ | exact .vptr _ _ _ | exact .tup _ | exact .nptr | exact .fn _ _ | exact .und) rfl) ?_
      refine AL.off rfl rfl rfl rfl rfl (by decide) ?_
      refine AL.off rfl rfl rfl rfl rfl (by decide) ?_
      refine AL.off rfl rfl rfl rfl rfl (by decide) ?_
      refine AL.v rfl rfl (B.pickF rfl rfl (by first | exact .d _ | exact .own _ _ _ | exact .ptr _ _ _ | exact .agg _ | exact .nsl | exact .lent _ _ | exact .vptr _ _ _ | exact .tup _ | exact .nptr | exact .fn _ _ | exact .und) rfl) ?_
      refine AL.v rfl rfl (B.mv (.inl rfl) (by first | exact .d _ | exact .own _ _ _ | exact .ptr _ _ _ | exact .agg _ | exact .nsl | exact .lent _ _ | exact .vptr _ _ _ | exact .tup _ | exact .nptr | exact .fn _ _ | exact .und) rfl) ?_
      refine AL.off rfl rfl rfl rfl rfl (by decide) ?_
      refine AL.off rfl rfl rfl rfl rfl (by decide) ?_
      refine AL.off rfl rfl rfl rfl rfl (by decide) ?_
      refine AL.v rfl rfl (B.pickF rfl rfl (by first | exact .d _ | exact .own _ _ _ | exact .ptr _ _ _ | exact .agg _ | exact .nsl | exact .lent _ _ | exact .vptr _ _ _ | exact .tup _ | exact .nptr | exact .fn _ _ | exact .und) rfl) ?_
      refine AL.v rfl rfl (B.mv (.inr rfl) (by first | exact .d _ | exact .own _ _ _ | exact .ptr _ _ _ | exact .agg _ | exact .nsl | exact .lent _ _ | exact .vptr _ _ _ | exact .tup _ | exact .nptr | exact .fn _ _ | exact .und) rfl) ?_
      refine AL.nil ?_
      refine AThen.n ?_
      refine Aw.seq ?_
      refine Aw.seq ?_
      refine Aw.region ?_
      refine AL.v rfl rfl (B.mv (.inl rfl) (by first | exact .d _ | exact .own _ _ _ | exact .ptr _ _ _ | exact .agg _ | exact .nsl | exact .lent _ _ | exact .vptr _ _ _ | exact .tup _ | exact .nptr | exact .fn _ _ | exact .und) rfl) ?_
      refine AL.v rfl rfl (B.not rfl rfl rfl) ?_
      refine AL.v rfl rfl (B.mv (.inl rfl) (by first | exact .d _ | exact .own _ _ _ | exact .ptr _ _ _ | exact .agg _ | exact .nsl | exact .lent _ _ | exact .vptr _ _ _ | exact .tup _ | exact .nptr | exact .fn _ _ | exact .und) rfl) ?_
      refine AL.cases (t := 58) rfl (fun hg58 => ?_) (fun hg58 => ?_)
      · refine AL.off rfl rfl rfl rfl rfl (by decide) ?_
        refine AL.off rfl rfl rfl rfl rfl (by decide) ?_
        refine AL.off rfl rfl rfl rfl rfl (by decide) ?_
        refine AL.v rfl rfl (B.pickT rfl rfl (by first | exact .d _ | exact .own _ _ _ | exact .ptr _ _ _ | exact .agg _ | exact .nsl | exact .lent _ _ | exact .vptr _ _ _ | exact .tup _ | exact .nptr | exact .fn _ _ | exact .und) rfl) ?_
        refine AL.v rfl rfl (B.mv (.inl rfl) (by first | exact .d _ | exact .own _ _ _ | exact .ptr _ _ _ | exact .agg _ | exact .nsl | exact .lent _ _ | exact .vptr _ _ _ | exact .tup _ | exact .nptr | exact .fn _ _ | exact .und) rfl) ?_
        refine AL.off rfl rfl rfl rfl rfl (by decide) ?_
        refine AL.off rfl rfl rfl rfl rfl (by decide) ?_
        refine AL.off rfl rfl rfl rfl rfl (by decide) ?_
        refine AL.v rfl rfl (B.pickT rfl rfl (by first | exact .d _ | exact .own _ _ _ | exact .ptr _ _ _ | exact .agg _ | exact .nsl | exact .lent _ _ | exact .vptr _ _ _ | exact .tup _ | exact .nptr | exact .fn _ _ | exact .und) rfl) ?_
        refine AL.nil ?_
        refine AThen.n ?_
        refine Aw.condT rfl (rfl) ?_
        refine Aw.seq ?_
        refine Aw.region ?_
        refine AL.v rfl rfl (B.mv (.inr rfl) (by first | exact .d _ | exact .own _ _ _ | exact .ptr _ _ _ | exact .agg _ | exact .nsl | exact .lent _ _ | exact .vptr _ _ _ | exact .tup _ | exact .nptr | exact .fn _ _ | exact .und) rfl) ?_
        refine AL.nil ?_
        refine AThen.n ?_
        refine Aw.ret ?_
        refine AThen.r ?_
        refine APost.r ?_
        refine Ret.all [] rfl (.cons (.t (.d _)) .nil) gs_nil (.refl _) (.d _) ⟨congrArg (fun x => AV.d (.int .i64 x)) ?_, rfl⟩
        simp_all [cfgOk] <;> omega
      · first | refine AL.gv rfl rfl rfl rfl (B.fld rfl fl_api_Cfg_9 (by decide) rfl rfl) ?_ | refine AL.gv rfl rfl rfl rfl (B.vfld rfl fl_api_Cfg_9 (by decide) rfl rfl) ?_
        refine AL.gv rfl rfl rfl rfl (B.load1 rfl ty_uint64 (by first | exact .v rfl rfl rfl | exact .w rfl rfl | exact .r rfl rfl (by assumption) rfl) rfl) ?_
        refine AL.gv rfl rfl rfl rfl (B.cmp rfl rfl rfl rfl rfl) ?_
        refine AL.v rfl rfl (B.pickF rfl rfl (by first | exact .d _ | exact .own _ _ _ | exact .ptr _ _ _ | exact .agg _ | exact .nsl | exact .lent _ _ | exact .vptr _ _ _ | exact .tup _ | exact .nptr | exact .fn _ _ | exact .und) rfl) ?_
        refine AL.v rfl rfl (B.mv (.inl rfl) (by first | exact .d _ | exact .own _ _ _ | exact .ptr _ _ _ | exact .agg _ | exact .nsl | exact .lent _ _ | exact .vptr _ _ _ | exact .tup _ | exact .nptr | exact .fn _ _ | exact .und) rfl) ?_
        refine AL.cases (t := 63) rfl (fun hg63 => ?_) (fun hg63 => ?_)
        · refine AL.off rfl rfl rfl rfl rfl (by decide) ?_
          refine AL.off rfl rfl rfl rfl rfl (by decide) ?_
          refine AL.off rfl rfl rfl rfl rfl (by decide) ?_
          refine AL.v rfl rfl (B.pickT rfl rfl (by first | exact .d _ | exact .own _ _ _ | exact .ptr _ _ _ | exact .agg _ | exact .nsl | exact .lent _ _ | exact .vptr _ _ _ | exact .tup _ | exact .nptr | exact .fn _ _ | exact .und) rfl) ?_
          refine AL.nil ?_
          refine AThen.n ?_
          refine Aw.condT rfl (rfl) ?_
          refine Aw.seq ?_
          refine Aw.region ?_
          refine AL.v rfl rfl (B.mv (.inr rfl) (by first | exact .d _ | exact .own _ _ _ | exact .ptr _ _ _ | exact .agg _ | exact .nsl | exact .lent _ _ | exact .vptr _ _ _ | exact .tup _ | exact .nptr | exact .fn _ _ | exact .und) rfl) ?_
          refine AL.nil ?_
          refine AThen.n ?_
          refine Aw.ret ?_
          refine AThen.r ?_
          refine APost.r ?_
          refine Ret.all [] rfl (.cons (.t (.d _)) .nil) gs_nil (.refl _) (.d _) ⟨congrArg (fun x => AV.d (.int .i64 x)) ?_, rfl⟩
          simp_all [cfgOk] <;> omega
        · first | refine AL.gv rfl rfl rfl rfl (B.fld rfl fl_api_Cfg_10 (by decide) rfl rfl) ?_ | refine AL.gv rfl rfl rfl rfl (B.vfld rfl fl_api_Cfg_10 (by decide) rfl rfl) ?_
          refine AL.gv rfl rfl rfl rfl (B.load1 rfl ty_uint64 (by first | exact .v rfl rfl rfl | exact .w rfl rfl | exact .r rfl rfl (by assumption) rfl) rfl) ?_
          refine AL.gv rfl rfl rfl rfl (B.cmp rfl rfl rfl rfl rfl) ?_
          refine AL.v rfl rfl (B.pickF rfl rfl (by first | exact .d _ | exact .own _ _ _ | exact .ptr _ _ _ | exact .agg _ | exact .nsl | exact .lent _ _ | exact .vptr _ _ _ | exact .tup _ | exact .nptr | exact .fn _ _ | exact .und) rfl) ?_
          refine AL.nil ?_
          refine AThen.n ?_
          refine Aw.cases (t := 67) rfl (fun hc0 => ?_) (fun hc0 => ?_)
          · refine Aw.condT rfl rfl ?_
            refine Aw.seq ?_
            refine Aw.region ?_
            refine AL.v rfl rfl (B.mv (.inr rfl) (by first | exact .d _ | exact .own _ _ _ | exact .ptr _ _ _ | exact .agg _ | exact .nsl | exact .lent _ _ | exact .vptr _ _ _ | exact .tup _ | exact .nptr | exact .fn _ _ | exact .und) rfl) ?_
            refine AL.nil ?_
            refine AThen.n ?_
            refine Aw.ret ?_
            refine AThen.r ?_
            refine APost.r ?_
            refine Ret.all [] rfl (.cons (.t (.d _)) .nil) gs_nil (.refl _) (.d _) ⟨congrArg (fun x => AV.d (.int .i64 x)) ?_, rfl⟩
            simp_all [cfgOk] <;> omega
          · refine Aw.condF rfl rfl ?_
            refine Aw.skip ?_
            refine AThen.n ?_
            refine Aw.seq ?_
            refine Aw.region ?_
            refine AL.v rfl rfl (B.mv (.inr rfl) (by first | exact .d _ | exact .own _ _ _ | exact .ptr _ _ _ | exact .agg _ | exact .nsl | exact .lent _ _ | exact .vptr _ _ _ | exact .tup _ | exact .nptr | exact .fn _ _ | exact .und) rfl) ?_
            refine AL.nil ?_
            refine AThen.n ?_
            refine Aw.ret ?_
            refine APost.r ?_
            refine Ret.all [] rfl (.cons (.t (.d _)) .nil) gs_nil (.refl _) (.d _) ⟨congrArg (fun x => AV.d (.int .i64 x)) ?_, rfl⟩
            simp_all [cfgOk] <;> omega
  · refine AL.off rfl rfl rfl rfl rfl (by decide) ?_
    refine AL.off rfl rfl rfl rfl rfl (by decide) ?_
    refine AL.off rfl rfl rfl rfl rfl (by decide) ?_
    refine AL.v rfl rfl (B.pickF rfl rfl (by first | exact .d _ | exact .own _ _ _ | exact .ptr _ _ _ | exact .agg _ | exact .nsl | exact .lent _ _ | exact .vptr _ _ _ | exact .tup _ | exact .nptr | exact .fn _ _ | exact .und) rfl) ?_
    refine AL.v rfl rfl (B.mv (.inl rfl) (by first | exact .d _ | exact .own _ _ _ | exact .ptr _ _ _ | exact .agg _ | exact .nsl | exact .lent _ _ | exact .vptr _ _ _ | exact .tup _ | exact .nptr | exact .fn _ _ | exact .und) rfl) ?_
    refine AL.off rfl rfl rfl rfl rfl (by decide) ?_
    refine AL.off rfl rfl rfl rfl rfl (by decide) ?_
    refine AL.off rfl rfl rfl rfl rfl (by decide) ?_
    refine AL.v rfl rfl (B.pickF rfl rfl (by first | exact .d _ | exact .own _ _ _ | exact .ptr _ _ _ | exact .agg _ | exact .nsl | exact .lent _ _ | exact .vptr _ _ _ | exact .tup _ | exact .nptr | exact .fn _ _ | exact .und) rfl) ?_
    refine AL.v rfl rfl (B.mv (.inl rfl) (by first | exact .d _ | exact .own _ _ _ | exact .ptr _ _ _ | exact .agg _ | exact .nsl | exact .lent _ _ | exact .vptr _ _ _ | exact .tup _ | exact .nptr | exact .fn _ _ | exact .und) rfl) ?_
    refine AL.off rfl rfl rfl rfl rfl (by decide) ?_
    refine AL.off rfl rfl rfl rfl rfl (by decide) ?_
    refine AL.off rfl rfl rfl rfl rfl (by decide) ?_
    refine AL.v rfl rfl (B.pickF rfl rfl (by first | exact .d _ | exact .own _ _ _ | exact .ptr _ _ _ | exact .agg _ | exact .nsl | exact .lent _ _ | exact .vptr _ _ _ | exact .tup _ | exact .nptr | exact .fn _ _ | exact .und) rfl) ?_
    refine AL.v rfl rfl (B.mv (.inl rfl) (by first | exact .d _ | exact .own _ _ _ | exact .ptr _ _ _ | exact .agg _ | exact .nsl | exact .lent _ _ | exact .vptr _ _ _ | exact .tup _ | exact .nptr | exact .fn _ _ | exact .und) rfl) ?_
    refine AL.off rfl rfl rfl rfl rfl (by decide) ?_
    refine AL.off rfl rfl rfl rfl rfl (by decide) ?_
    refine AL.off rfl rfl rfl rfl rfl (by decide) ?_
    refine AL.v rfl rfl (B.pickF rfl rfl (by first | exact .d _ | exact .own _ _ _ | exact .ptr _ _ _ | exact .agg _ | exact .nsl | exact .lent _ _ | exact .vptr _ _ _ | exact .tup _ | exact .nptr | exact .fn _ _ | exact .und) rfl) ?_
    refine AL.v rfl rfl (B.mv (.inr rfl) (by first | exact .d _ | exact .own _ _ _ | exact .ptr _ _ _ | exact .agg _ | exact .nsl | exact .lent _ _ | exact .vptr _ _ _ | exact .tup _ | exact .nptr | exact .fn _ _ | exact .und) rfl) ?_
    refine AL.nil ?_
    refine AThen.n ?_
    refine Aw.seq ?_
    refine Aw.region ?_
    refine AL.v rfl rfl (B.mv (.inl rfl) (by first | exact .d _ | exact .own _ _ _ | exact .ptr _ _ _ | exact .agg _ | exact .nsl | exact .lent _ _ | exact .vptr _ _ _ | exact .tup _ | exact .nptr | exact .fn _ _ | exact .und) rfl) ?_
    refine AL.v rfl rfl (B.mv (.inl rfl) (by first | exact .d _ | exact .own _ _ _ | exact .ptr _ _ _ | exact .agg _ | exact .nsl | exact .lent _ _ | exact .vptr _ _ _ | exact .tup _ | exact .nptr | exact .fn _ _ | exact .und) rfl) ?_
    refine AL.off rfl rfl rfl rfl rfl (by decide) ?_
    refine AL.off rfl rfl rfl rfl rfl (by decide) ?_
    refine AL.off rfl rfl rfl rfl rfl (by decide) ?_
    refine AL.v rfl rfl (B.pickF rfl rfl (by first | exact .d _ | exact .own _ _ _ | exact .ptr _ _ _ | exact .agg _ | exact .nsl | exact .lent _ _ | exact .vptr _ _ _ | exact .tup _ | exact .nptr | exact .fn _ _ | exact .und) rfl) ?_
    refine AL.v rfl rfl (B.mv (.inl rfl) (by first | exact .d _ | exact .own _ _ _ | exact .ptr _ _ _ | exact .agg _ | exact .nsl | exact .lent _ _ | exact .vptr _ _ _ | exact .tup _ | exact .nptr | exact .fn _ _ | exact .und) rfl) ?_
    refine AL.off rfl rfl rfl rfl rfl (by decide) ?_
    refine AL.off rfl rfl rfl rfl rfl (by decide) ?_
    refine AL.off rfl rfl rfl rfl rfl (by decide) ?_
    refine AL.off rfl rfl rfl rfl rfl (by decide) ?_
    refine AL.off rfl rfl rfl rfl rfl (by decide) ?_
    refine AL.v rfl rfl (B.pickF rfl rfl (by first | exact .d _ | exact .own _ _ _ | exact .ptr _ _ _ | exact .agg _ | exact .nsl | exact .lent _ _ | exact .vptr _ _ _ | exact .tup _ | exact .nptr | exact .fn _ _ | exact .und) rfl) ?_
    refine AL.v rfl rfl (B.mv (.inl rfl) (by first | exact .d _ | exact .own _ _ _ | exact .ptr _ _ _ | exact .agg _ | exact .nsl | exact .lent _ _ | exact .vptr _ _ _ | exact .tup _ | exact .nptr | exact .fn _ _ | exact .und) rfl) ?_
    refine AL.off rfl rfl rfl rfl rfl (by decide) ?_
    refine AL.off rfl rfl rfl rfl rfl (by decide) ?_
    refine AL.off rfl rfl rfl rfl rfl (by decide) ?_
    refine AL.v rfl rfl (B.pickF rfl rfl (by first | exact .d _ | exact .own _ _ _ | exact .ptr _ _ _ | exact .agg _ | exact .nsl | exact .lent _ _ | exact .vptr _ _ _ | exact .tup _ | exact .nptr | exact .fn _ _ | exact .und) rfl) ?_
    refine AL.v rfl rfl (B.mv (.inl rfl) (by first | exact .d _ | exact .own _ _ _ | exact .ptr _ _ _ | exact .agg _ | exact .nsl | exact .lent _ _ | exact .vptr _ _ _ | exact .tup _ | exact .nptr | exact .fn _ _ | exact .und) rfl) ?_
    refine AL.off rfl rfl rfl rfl rfl (by decide) ?_
    refine AL.off rfl rfl rfl rfl rfl (by decide) ?_
    refine AL.off rfl rfl rfl rfl rfl (by decide) ?_
    refine AL.v rfl rfl (B.pickF rfl rfl (by first | exact .d _ | exact .own _ _ _ | exact .ptr _ _ _ | exact .agg _ | exact .nsl | exact .lent _ _ | exact .vptr _ _ _ | exact .tup _ | exact .nptr | exact .fn _ _ | exact .und) rfl) ?_
    refine AL.v rfl rfl (B.mv (.inl rfl) (by first | exact .d _ | exact .own _ _ _ | exact .ptr _ _ _ | exact .agg _ | exact .nsl | exact .lent _ _ | exact .vptr _ _ _ | exact .tup _ | exact .nptr | exact .fn _ _ | exact .und) rfl) ?_
    refine AL.off rfl rfl rfl rfl rfl (by decide) ?_
    refine AL.off rfl rfl rfl rfl rfl (by decide) ?_
    refine AL.off rfl rfl rfl rfl rfl (by decide) ?_
    refine AL.v rfl rfl (B.pickF rfl rfl (by first | exact .d _ | exact .own _ _ _ | exact .ptr _ _ _ | exact .agg _ | exact .nsl | exact .lent _ _ | exact .vptr _ _ _ | exact .tup _ | exact .nptr | exact .fn _ _ | exact .und) rfl) ?_
    refine AL.v rfl rfl (B.mv (.inr rfl) (by first | exact .d _ | exact .own _ _ _ | exact .ptr _ _ _ | exact .agg _ | exact .nsl | exact .lent _ _ | exact .vptr _ _ _ | exact .tup _ | exact .nptr | exact .fn _ _ | exact .und) rfl) ?_
    refine AL.nil ?_
    refine AThen.n ?_
    refine Aw.seq ?_
    refine Aw.seq ?_
    refine Aw.region ?_
    refine AL.v rfl rfl (B.mv (.inl rfl) (by first | exact .d _ | exact .own _ _ _ | exact .ptr _ _ _ | exact .agg _ | exact .nsl | exact .lent _ _ | exact .vptr _ _ _ | exact .tup _ | exact .nptr | exact .fn _ _ | exact .und) rfl) ?_
    refine AL.v rfl rfl (B.not rfl rfl rfl) ?_
    refine AL.v rfl rfl (B.mv (.inl rfl) (by first | exact .d _ | exact .own _ _ _ | exact .ptr _ _ _ | exact .agg _ | exact .nsl | exact .lent _ _ | exact .vptr _ _ _ | exact .tup _ | exact .nptr | exact .fn _ _ | exact .und) rfl) ?_
    refine AL.cases (t := 58) rfl (fun hg58 => ?_) (fun hg58 => ?_)
    · refine AL.off rfl rfl rfl rfl rfl (by decide) ?_
      refine AL.off rfl rfl rfl rfl rfl (by decide) ?_
      refine AL.off rfl rfl rfl rfl rfl (by decide) ?_
      refine AL.v rfl rfl (B.pickT rfl rfl (by first | exact .d _ | exact .own _ _ _ | exact .ptr _ _ _ | exact .agg _ | exact .nsl | exact .lent _ _ | exact .vptr _ _ _ | exact .tup _ | exact .nptr | exact .fn _ _ | exact .und) rfl) ?_
      refine AL.v rfl rfl (B.mv (.inl rfl) (by first | exact .d _ | exact .own _ _ _ | exact .ptr _ _ _ | exact .agg _ | exact .nsl | exact .lent _ _ | exact .vptr _ _ _ | exact .tup _ | exact .nptr | exact .fn _ _ | exact .und) rfl) ?_
      refine AL.off rfl rfl rfl rfl rfl (by decide) ?_
      refine AL.off rfl rfl rfl rfl rfl (by decide) ?_
      refine AL.off rfl rfl rfl rfl rfl (by decide) ?_
      refine AL.v rfl rfl (B.pickT rfl rfl (by first | exact .d _ | exact .own _ _ _ | exact .ptr _ _ _ | exact .agg _ | exact .nsl | exact .lent _ _ | exact .vptr _ _ _ | exact .tup _ | exact .nptr | exact .fn _ _ | exact .und) rfl) ?_
      refine AL.nil ?_
      refine AThen.n ?_
      refine Aw.condT rfl (rfl) ?_
      refine Aw.seq ?_
      refine Aw.region ?_
      refine AL.v rfl rfl (B.mv (.inr rfl) (by first | exact .d _ | exact .own _ _ _ | exact .ptr _ _ _ | exact .agg _ | exact .nsl | exact .lent _ _ | exact .vptr _ _ _ | exact .tup _ | exact .nptr | exact .fn _ _ | exact .und) rfl) ?_
      refine AL.nil ?_
      refine AThen.n ?_
      refine Aw.ret ?_
      refine AThen.r ?_
      refine APost.r ?_
      refine Ret.all [] rfl (.cons (.t (.d _)) .nil) gs_nil (.refl _) (.d _) ⟨congrArg (fun x => AV.d (.int .i64 x)) ?_, rfl⟩
      simp_all [cfgOk] <;> omega
    · first | refine AL.gv rfl rfl rfl rfl (B.fld rfl fl_api_Cfg_9 (by decide) rfl rfl) ?_ | refine AL.gv rfl rfl rfl rfl (B.vfld rfl fl_api_Cfg_9 (by decide) rfl rfl) ?_
      refine AL.gv rfl rfl rfl rfl (B.load1 rfl ty_uint64 (by first | exact .v rfl rfl rfl | exact .w rfl rfl | exact .r rfl rfl (by assumption) rfl) rfl) ?_
      refine AL.gv rfl rfl rfl rfl (B.cmp rfl rfl rfl rfl rfl) ?_
      refine AL.v rfl rfl (B.pickF rfl rfl (by first | exact .d _ | exact .own _ _ _ | exact .ptr _ _ _ | exact .agg _ | exact .nsl | exact .lent _ _ | exact .vptr _ _ _ | exact .tup _ | exact .nptr | exact .fn _ _ | exact .und) rfl) ?_
      refine AL.v rfl rfl (B.mv (.inl rfl) (by first | exact .d _ | exact .own _ _ _ | exact .ptr _ _ _ | exact .agg _ | exact .nsl | exact .lent _ _ | exact .vptr _ _ _ | exact .tup _ | exact .nptr | exact .fn _ _ | exact .und) rfl) ?_
      refine AL.cases (t := 63) rfl (fun hg63 => ?_) (fun hg63 => ?_)
      · refine AL.off rfl rfl rfl rfl rfl (by decide) ?_
        refine AL.off rfl rfl rfl rfl rfl (by decide) ?_
        refine AL.off rfl rfl rfl rfl rfl (by decide) ?_
        refine AL.v rfl rfl (B.pickT rfl rfl (by first | exact .d _ | exact .own _ _ _ | exact .ptr _ _ _ | exact .agg _ | exact .nsl | exact .lent _ _ | exact .vptr _ _ _ | exact .tup _ | exact .nptr | exact .fn _ _ | exact .und) rfl) ?_
        refine AL.nil ?_
        refine AThen.n ?_
        refine Aw.condT rfl (rfl) ?_
        refine Aw.seq ?_
        refine Aw.region ?_
        refine AL.v rfl rfl (B.mv (.inr rfl) (by first | exact .d _ | exact .own _ _ _ | exact .ptr _ _ _ | exact .agg _ | exact .nsl | exact .lent _ _ | exact .vptr _ _ _ | exact .tup _ | exact .nptr | exact .fn _ _ | exact .und) rfl) ?_
        refine AL.nil ?_
        refine AThen.n ?_
        refine Aw.ret ?_
        refine AThen.r ?_
        refine APost.r ?_
        refine Ret.all [] rfl (.cons (.t (.d _)) .nil) gs_nil (.refl _) (.d _) ⟨congrArg (fun x => AV.d (.int .i64 x)) ?_, rfl⟩
        simp_all [cfgOk] <;> omega
      · first | refine AL.gv rfl rfl rfl rfl (B.fld rfl fl_api_Cfg_10 (by decide) rfl rfl) ?_ | refine AL.gv rfl rfl rfl rfl (B.vfld rfl fl_api_Cfg_10 (by decide) rfl rfl) ?_
        refine AL.gv rfl rfl rfl rfl (B.load1 rfl ty_uint64 (by first | exact .v rfl rfl rfl | exact .w rfl rfl | exact .r rfl rfl (by assumption) rfl) rfl) ?_
        refine AL.gv rfl rfl rfl rfl (B.cmp rfl rfl rfl rfl rfl) ?_
        refine AL.v rfl rfl (B.pickF rfl rfl (by first | exact .d _ | exact .own _ _ _ | exact .ptr _ _ _ | exact .agg _ | exact .nsl | exact .lent _ _ | exact .vptr _ _ _ | exact .tup _ | exact .nptr | exact .fn _ _ | exact .und) rfl) ?_
        refine AL.nil ?_
        refine AThen.n ?_
        refine Aw.cases (t := 67) rfl (fun hc0 => ?_) (fun hc0 => ?_)
        · refine Aw.condT rfl rfl ?_
          refine Aw.seq ?_
          refine Aw.region ?_
          refine AL.v rfl rfl (B.mv (.inr rfl) (by first | exact .d _ | exact .own _ _ _ | exact .ptr _ _ _ | exact .agg _ | exact .nsl | exact .lent _ _ | exact .vptr _ _ _ | exact .tup _ | exact .nptr | exact .fn _ _ | exact .und) rfl) ?_
          refine AL.nil ?_
          refine AThen.n ?_
          refine Aw.ret ?_
          refine AThen.r ?_
          refine APost.r ?_
          refine Ret.all [] rfl (.cons (.t (.d _)) .nil) gs_nil (.refl _) (.d _) ⟨congrArg (fun x => AV.d (.int .i64 x)) ?_, rfl⟩
          simp_all [cfgOk] <;> omega
        · refine Aw.condF rfl rfl ?_
          refine Aw.skip ?_
          refine AThen.n ?_
          refine Aw.seq ?_
          refine Aw.region ?_
          refine AL.v rfl rfl (B.mv (.inr rfl) (by first | exact .d _ | exact .own _ _ _ | exact .ptr _ _ _ | exact .agg _ | exact .nsl | exact .lent _ _ | exact .vptr _ _ _ | exact .tup _ | exact .nptr | exact .fn _ _ | exact .und) rfl) ?_
          refine AL.nil ?_
          refine AThen.n ?_
          refine Aw.ret ?_
          refine APost.r ?_
          refine Ret.all [] rfl (.cons (.t (.d _)) .nil) gs_nil (.refl _) (.d _) ⟨congrArg (fun x => AV.d (.int .i64 x)) ?_, rfl⟩
          simp_all [cfgOk] <;> omega

set_option maxRecDepth 100000 in
theorem squeue_new (s : Nat) :
    ACalls Try.prog 83 [.d (.int .u64 (s : Nat))] (fun r bs => r = aQueue ⟨s, []⟩ ∧ bs = []) := by
  refine ACalls.of Try.func83 rfl (Nat.le_of_ble_eq_true rfl) ?_
  show Aw _ _ _ _ ⟨_, _⟩
  refine Aw.seq ?_
  refine Aw.region ?_
  refine AL.u rfl rfl (B.alloc (g := 0) rfl zr_api_Queue rfl rfl rfl) ?_
  refine AL.nil ?_
  refine AThen.n ?_
  refine Aw.seq ?_
  refine Aw.region ?_
  refine AL.v rfl rfl (B.mv (.inl rfl) (by first | exact .d _ | exact .own _ _ _ | exact .ptr _ _ _ | exact .agg _ | exact .nsl | exact .lent _ _ | exact .vptr _ _ _ | exact .tup _ | exact .nptr | exact .fn _ _ | exact .und) rfl) ?_
  refine AL.v rfl rfl (B.build rfl bd_api_Queue rfl rfl) ?_
  refine AL.s rfl rfl (B.storeVar rfl ty_api_Queue rfl rfl (FlatV.eq (by first | exact .agg _ | exact .d _ | exact .own _ _ _ | exact .nsl | exact .ptr _ _ _)) (by rfl) (by rfl) (by rfl) rfl) ?_
  refine AL.nil ?_
  refine AThen.n ?_
  refine Aw.ret ?_
  refine APost.r ?_
  refine Ret.all (r1 := aQueue ⟨s, []⟩) [] rfl (.cons (.many ty_api_Queue (by first | exact .v rfl rfl rfl) (by rfl)) .nil) gs_nil (by first | exact .aggL (by repeat (first | exact L2.nil | (apply L2.cons; focus (first | exact .fz0 (by simp) (by rfl) (by first | rfl | (simp; done) | assumption | omega | (simp; omega)) | exact .nsl _ | exact .refl _)))) | exact .tupL (by repeat (first | exact L2.nil | (apply L2.cons; focus (first | exact .aggL (by repeat (first | exact L2.nil | (apply L2.cons; focus (first | exact .fz0 (by simp) (by rfl) (by first | rfl | (simp; done) | assumption | omega | (simp; omega)) | exact .nsl _ | exact .refl _)))) | exact .fz0 (by simp) (by rfl) (by first | rfl | (simp; done) | assumption | omega | (simp; omega)) | exact .nsl _ | exact .refl _)))) | exact .fz0 (by simp) (by rfl) (by first | rfl | (simp; done) | assumption | omega | (simp; omega)) | exact .nsl _ | exact .refl _) (by first | exact .d _ | exact .aggL (by repeat (first | exact L2.nil | (apply L2.cons; focus (first | exact .d _)))) | exact .tupL (by repeat (first | exact L2.nil | (apply L2.cons; focus (first | exact .aggL (by repeat (first | exact L2.nil | (apply L2.cons; focus (first | exact .d _)))) | exact .d _))))) ⟨?_, rfl⟩
  rfl

set_option maxRecDepth 100000 in
theorem smodel_new (c : CfgV) :
    ACalls Try.prog 49 [aCfg c] (fun r bs => r = .tup [aModel (mNew c).1, .d (.int .i64 (mNew c).2)] ∧ bs = []) := by
  refine ACalls.of Try.func49 rfl (Nat.le_of_ble_eq_true rfl) ?_
  show Aw _ _ _ _ ⟨_, _⟩
  refine Aw.seq ?_
  refine Aw.region ?_
  refine AL.u rfl rfl (B.box (g := 0) rfl (FlatV.eq (by first | exact .agg _ | exact .d _ | exact .own _ _ _ | exact .nsl | exact .ptr _ _ _)) (by rfl) rfl rfl) ?_
  refine AL.u rfl rfl (B.alloc (g := 1) rfl zr_api_Model rfl rfl rfl) ?_
  refine AL.v rfl rfl (B.mv (.inr rfl) (by first | exact .d _ | exact .own _ _ _ | exact .ptr _ _ _ | exact .agg _ | exact .nsl | exact .lent _ _ | exact .vptr _ _ _ | exact .tup _ | exact .nptr | exact .fn _ _ | exact .und) rfl) ?_
  refine AL.nil ?_
  refine AThen.n ?_
  refine Aw.seq ?_
  refine Aw.seq ?_
  refine Aw.region ?_
  refine AL.v rfl rfl (B.loadN rfl ty_api_Cfg (by first | exact .v rfl rfl rfl | exact .w rfl rfl | exact .r rfl rfl (by assumption) rfl) (by rfl) rfl) ?_
  refine AL.v rfl rfl (B.call (k := 2) (rb := []) (hc := (key_check c)) rfl en_shallot_key_Check (ArgsA.cons (by first | exact .d _ | exact .lent _ _ | exact .nv _ | exact .nlent _ | exact .nsl | exact .lnd _ _ | exact .own (by simp) rfl rfl | exact .aggL (by repeat (first | exact L2.nil | (apply L2.cons; focus (first | exact .d _ | exact .lent _ _ | exact .nv _ | exact .nlent _ | exact .nsl | exact .lnd _ _ | exact .own (by simp) rfl rfl))))) ArgsA.nil) rfl (by first | exact .d _ | exact .nsl | exact .aggL (by repeat (first | exact L2.nil | (apply L2.cons; focus (first | exact .d _ | exact .nsl)))) | exact .tupL (by repeat (first | exact L2.nil | (apply L2.cons; focus (first | exact .aggL (by repeat (first | exact L2.nil | (apply L2.cons; focus (first | exact .d _ | exact .nsl)))) | exact .d _ | exact .nsl))))) rfl) ?_
  refine AL.v rfl rfl (B.cmp rfl rfl rfl rfl rfl) ?_
  refine AL.nil ?_
  refine AThen.n ?_
  refine Aw.cases (t := 8) rfl (fun hc0 => ?_) (fun hc0 => ?_)
  · have hcf : cfgOk c = false := by
      cases hcc : cfgOk c with
      | false => rfl
      | true => rw [hcc] at hc0; simp at hc0
    refine Aw.condT rfl rfl ?_
    refine Aw.seq ?_
    refine Aw.region ?_
    refine AL.v rfl rfl (B.build rfl bd_api_Model rfl rfl) ?_
    refine AL.s rfl rfl (B.storeVar rfl ty_api_Model rfl rfl (FlatV.eq (by first | exact .agg _ | exact .d _ | exact .own _ _ _ | exact .nsl | exact .ptr _ _ _)) (by rfl) (by rfl) (by rfl) rfl) ?_
    refine AL.v rfl rfl (B.mv (.inr rfl) (by first | exact .d _ | exact .own _ _ _ | exact .ptr _ _ _ | exact .agg _ | exact .nsl | exact .lent _ _ | exact .vptr _ _ _ | exact .tup _ | exact .nptr | exact .fn _ _ | exact .und) rfl) ?_
    refine AL.nil ?_
    refine AThen.n ?_
    refine Aw.ret ?_
    refine AThen.r ?_
    refine APost.r ?_
    refine Ret.all (r1 := .tup [aModel .zero, .d (.int .i64 1)]) [] rfl (.cons (.many ty_api_Model (by first | exact .v rfl rfl rfl) (by rfl)) (.cons (.t (by first | exact .d _ | exact .own _ _ _ | exact .nsl | exact .agg _)) .nil)) gs_nil (by first | exact .aggL (by repeat (first | exact L2.nil | (apply L2.cons; focus (first | exact .fz0 (by simp) (by rfl) (by first | rfl | (simp; done) | assumption | omega | (simp; omega)) | exact .nsl _ | exact .refl _)))) | exact .tupL (by repeat (first | exact L2.nil | (apply L2.cons; focus (first | exact .aggL (by repeat (first | exact L2.nil | (apply L2.cons; focus (first | exact .fz0 (by simp) (by rfl) (by first | rfl | (simp; done) | assumption | omega | (simp; omega)) | exact .nsl _ | exact .refl _)))) | exact .fz0 (by simp) (by rfl) (by first | rfl | (simp; done) | assumption | omega | (simp; omega)) | exact .nsl _ | exact .refl _)))) | exact .fz0 (by simp) (by rfl) (by first | rfl | (simp; done) | assumption | omega | (simp; omega)) | exact .nsl _ | exact .refl _) (by first | exact .d _ | exact .aggL (by repeat (first | exact L2.nil | (apply L2.cons; focus (first | exact .d _)))) | exact .tupL (by repeat (first | exact L2.nil | (apply L2.cons; focus (first | exact .aggL (by repeat (first | exact L2.nil | (apply L2.cons; focus (first | exact .d _)))) | exact .d _))))) ⟨?_, rfl⟩
    rw [show mNew c = (.zero, 1) from by simp [mNew, hcf]]
    rfl
  · have hcf : cfgOk c = true := by
      cases hcc : cfgOk c with
      | true => rfl
      | false => rw [hcc] at hc0; simp at hc0
    obtain ⟨cl, hn, hn8⟩ : ∃ n : Nat, c.Clients = n ∧ n ≤ 8 := by
      simp [cfgOk, inB] at hcf
      exact ⟨c.Clients.toNat, by omega, by omega⟩
    refine Aw.condF rfl rfl ?_
    refine Aw.skip ?_
    refine AThen.n ?_
    refine Aw.seq ?_
    refine Aw.drawn' mixed ?_
    first | refine CD.v rfl rfl (B.fld rfl fl_api_Cfg_3 (by decide) rfl rfl) ?_ | refine CD.v rfl rfl (B.vfld rfl fl_api_Cfg_3 (by decide) rfl rfl) ?_
    refine CD.v rfl rfl (B.load1 rfl ty_int (by first | exact .v rfl rfl rfl | exact .w rfl rfl | exact .r rfl rfl (by assumption) rfl) rfl) ?_
    refine CD.u rfl rfl (B.make (g := 2) (l := cl) (c := cl) rfl el_Lapi_Queue zr_api_Queue (.d (.nsl (sz := 5) .nil)) by_api_Queue (by decide) rfl rfl rfl hn hn (Nat.le_refl _) (by omega) (by unfold maxLen; omega) rfl rfl) ?_
    first | refine CD.v rfl rfl (B.fld rfl fl_api_Cfg_3 (by decide) rfl rfl) ?_ | refine CD.v rfl rfl (B.vfld rfl fl_api_Cfg_3 (by decide) rfl rfl) ?_
    refine CD.v rfl rfl (B.load1 rfl ty_int (by first | exact .v rfl rfl rfl | exact .w rfl rfl | exact .r rfl rfl (by assumption) rfl) rfl) ?_
    refine CD.u rfl rfl (B.make (g := 3) (l := cl) (c := cl) rfl el_Lint zr_int (.d .nil) by_int (by decide) rfl rfl rfl hn hn (Nat.le_refl _) (by omega) (by unfold maxLen; omega) rfl rfl) ?_
    first | refine CD.v rfl rfl (B.fld rfl fl_api_Cfg_3 (by decide) rfl rfl) ?_ | refine CD.v rfl rfl (B.vfld rfl fl_api_Cfg_3 (by decide) rfl rfl) ?_
    refine CD.v rfl rfl (B.load1 rfl ty_int (by first | exact .v rfl rfl rfl | exact .w rfl rfl | exact .r rfl rfl (by assumption) rfl) rfl) ?_
    refine CD.u rfl rfl (B.make (g := 4) (l := cl) (c := cl) rfl el_LLapi_Letter zr_Lapi_Letter (.nsl (sz := 5) .nil) by_Lapi_Letter (by decide) rfl rfl rfl hn hn (Nat.le_refl _) (by omega) (by unfold maxLen; omega) rfl rfl) ?_
    refine CD.v rfl rfl (B.build rfl bd_api_Model rfl rfl) ?_
    refine CD.u rfl rfl (B.alloc (g := 5) rfl zr_api_Model rfl rfl rfl) ?_
    refine CD.s rfl rfl (B.storeVar rfl ty_api_Model rfl rfl (FlatV.eq (by first | exact .agg _ | exact .d _ | exact .own _ _ _ | exact .nsl | exact .ptr _ _ _)) (by rfl) (by rfl) (by rfl) rfl) ?_
    refine CD.nil (by kernel_rfl) ?_
    refine AThen.n ?_
    refine Aw.seq ?_
    refine Aw.seq ?_
    refine Aw.region ?_
    first | refine AL.v rfl rfl (B.fld rfl fl_api_Model_0 (by decide) rfl rfl) ?_ | refine AL.v rfl rfl (B.vfld rfl fl_api_Model_0 (by decide) rfl rfl) ?_
    refine AL.v rfl rfl (B.load1 rfl ty_Lapi_Queue (by first | exact .v rfl rfl rfl | exact .w rfl rfl | exact .r rfl rfl (by assumption) rfl) rfl) ?_
    refine AL.v rfl rfl (B.len rfl Try.underlying56 rfl rfl) ?_
    refine AL.v rfl rfl (B.mv (.inl rfl) (by first | exact .d _ | exact .own _ _ _ | exact .ptr _ _ _ | exact .agg _ | exact .nsl | exact .lent _ _ | exact .vptr _ _ _ | exact .tup _ | exact .nptr | exact .fn _ _ | exact .und) rfl) ?_
    refine AL.nil ?_
    refine AThen.n ?_
    refine Aw.block ?_
    refine Aw.move (σ' := ⟨(upd (upd (upd (upd (upd (fun _ => AV.und) 23 (.d (.int .i64 (0 : Nat)))) 22 (.d (.int .i64 (cl : Nat)))) 4 (.ptr 5 0 0)) 2 (.ptr 1 0 0)) 1 (.ptr 0 0 0)), blksOf [.var 55 [.d (.view 1 (c.Seed.map eByte)), .d (.int .i64 c.Chain), .d (.int .i64 c.Standby), .d (.int .i64 c.Clients), .d (.int .i64 c.Queue), .d (.int .i64 c.Close), .d (.int .i64 c.Long), .d (.int .i64 c.Again), .d (.int .i64 c.Window), .d (.int .u64 (c.Round : Nat)), .d (.int .u64 (c.Seq : Nat))], .var 60 [.nsl, .nsl, .nsl], .row 2 77 (List.replicate 0 (eQueue ⟨c.Seq, []⟩) ++ List.replicate (cl - 0) (eQueue ⟨0, []⟩)), .row 1 3 (List.replicate cl (eInt 0)), .row 1 74 (List.replicate cl (eL_Letter [])), .var 60 [.own 2 0 cl, .own 3 0 cl, .own 4 0 cl]]⟩) (Moved.mk' [] [0, 1, 2, 3, 4, 5] _ (fun g h => by simp at h) (loc_upd (by first | exact .d _ | exact .ptr rfl | exact .own rfl | exact .nsl | exact .nv _ | exact .lent _ _ | exact .fz (by simp) (by rfl) (by first | rfl | (simp; done) | assumption | omega | (simp; omega)) | exact .aggL (by repeat (first | exact L2.nil | (apply L2.cons; focus (first | exact .d _ | exact .ptr rfl | exact .own rfl | exact .nsl | exact .nv _ | exact .lent _ _ | exact .fz (by simp) (by rfl) (by first | rfl | (simp; done) | assumption | omega | (simp; omega))))))) (loc_upd (by first | exact .d _ | exact .ptr rfl | exact .own rfl | exact .nsl | exact .nv _ | exact .lent _ _ | exact .fz (by simp) (by rfl) (by first | rfl | (simp; done) | assumption | omega | (simp; omega)) | exact .aggL (by repeat (first | exact L2.nil | (apply L2.cons; focus (first | exact .d _ | exact .ptr rfl | exact .own rfl | exact .nsl | exact .nv _ | exact .lent _ _ | exact .fz (by simp) (by rfl) (by first | rfl | (simp; done) | assumption | omega | (simp; omega))))))) (loc_upd (by first | exact .d _ | exact .ptr rfl | exact .own rfl | exact .nsl | exact .nv _ | exact .lent _ _ | exact .fz (by simp) (by rfl) (by first | rfl | (simp; done) | assumption | omega | (simp; omega)) | exact .aggL (by repeat (first | exact L2.nil | (apply L2.cons; focus (first | exact .d _ | exact .ptr rfl | exact .own rfl | exact .nsl | exact .nv _ | exact .lent _ _ | exact .fz (by simp) (by rfl) (by first | rfl | (simp; done) | assumption | omega | (simp; omega))))))) (loc_upd (by first | exact .d _ | exact .ptr rfl | exact .own rfl | exact .nsl | exact .nv _ | exact .lent _ _ | exact .fz (by simp) (by rfl) (by first | rfl | (simp; done) | assumption | omega | (simp; omega)) | exact .aggL (by repeat (first | exact L2.nil | (apply L2.cons; focus (first | exact .d _ | exact .ptr rfl | exact .own rfl | exact .nsl | exact .nv _ | exact .lent _ _ | exact .fz (by simp) (by rfl) (by first | rfl | (simp; done) | assumption | omega | (simp; omega))))))) (loc_upd (by first | exact .d _ | exact .ptr rfl | exact .own rfl | exact .nsl | exact .nv _ | exact .lent _ _ | exact .fz (by simp) (by rfl) (by first | rfl | (simp; done) | assumption | omega | (simp; omega)) | exact .aggL (by repeat (first | exact L2.nil | (apply L2.cons; focus (first | exact .d _ | exact .ptr rfl | exact .own rfl | exact .nsl | exact .nv _ | exact .lent _ _ | exact .fz (by simp) (by rfl) (by first | rfl | (simp; done) | assumption | omega | (simp; omega))))))) loc_und))))) rfl (by decide) (by simp) (at_cons (.var rfl rfl (by repeat (first | exact at_nil | refine at_cons (by first | exact .d _ | exact .ptr rfl | exact .own rfl | exact .nsl | exact .nv _ | exact .lent _ _ | exact .fz (by simp) (by rfl) (by first | rfl | (simp; done) | assumption | omega | (simp; omega)) | exact .aggL (by repeat (first | exact L2.nil | (apply L2.cons; focus (first | exact .d _ | exact .ptr rfl | exact .own rfl | exact .nsl | exact .nv _ | exact .lent _ _ | exact .fz (by simp) (by rfl) (by first | rfl | (simp; done) | assumption | omega | (simp; omega))))))) ?_))) (at_cons (.var rfl rfl (by repeat (first | exact at_nil | refine at_cons (by first | exact .d _ | exact .ptr rfl | exact .own rfl | exact .nsl | exact .nv _ | exact .lent _ _ | exact .fz (by simp) (by rfl) (by first | rfl | (simp; done) | assumption | omega | (simp; omega)) | exact .aggL (by repeat (first | exact L2.nil | (apply L2.cons; focus (first | exact .d _ | exact .ptr rfl | exact .own rfl | exact .nsl | exact .nv _ | exact .lent _ _ | exact .fz (by simp) (by rfl) (by first | rfl | (simp; done) | assumption | omega | (simp; omega))))))) ?_))) (at_cons (.row' (by rfl)) (at_cons (.row _ _ _) (at_cons (.row _ _ _) (at_cons (.var rfl rfl (by repeat (first | exact at_nil | refine at_cons (by first | exact .d _ | exact .ptr rfl | exact .own rfl | exact .nsl | exact .nv _ | exact .lent _ _ | exact .fz (by simp) (by rfl) (by first | rfl | (simp; done) | assumption | omega | (simp; omega)) | exact .aggL (by repeat (first | exact L2.nil | (apply L2.cons; focus (first | exact .d _ | exact .ptr rfl | exact .own rfl | exact .nsl | exact .nv _ | exact .lent _ _ | exact .fz (by simp) (by rfl) (by first | rfl | (simp; done) | assumption | omega | (simp; omega))))))) ?_))) at_nil))))))) ?_
    refine Aw.loop (fun n σ => ∃ k, k ≤ cl ∧ n = cl - k ∧ σ = ⟨(upd (upd (upd (upd (upd (fun _ => AV.und) 23 (.d (.int .i64 (k : Nat)))) 22 (.d (.int .i64 (cl : Nat)))) 4 (.ptr 5 0 0)) 2 (.ptr 1 0 0)) 1 (.ptr 0 0 0)), blksOf [.var 55 [.d (.view 1 (c.Seed.map eByte)), .d (.int .i64 c.Chain), .d (.int .i64 c.Standby), .d (.int .i64 c.Clients), .d (.int .i64 c.Queue), .d (.int .i64 c.Close), .d (.int .i64 c.Long), .d (.int .i64 c.Again), .d (.int .i64 c.Window), .d (.int .u64 (c.Round : Nat)), .d (.int .u64 (c.Seq : Nat))], .var 60 [.nsl, .nsl, .nsl], .row 2 77 (List.replicate k (eQueue ⟨c.Seq, []⟩) ++ List.replicate (cl - k) (eQueue ⟨0, []⟩)), .row 1 3 (List.replicate cl (eInt 0)), .row 1 74 (List.replicate cl (eL_Letter [])), .var 60 [.own 2 0 cl, .own 3 0 cl, .own 4 0 cl]]⟩) (cl) ⟨0, Nat.zero_le _, rfl, rfl⟩ ?_
    rintro n σ ⟨k, hk, rfl, rfl⟩
    refine Aw.seq ?_
    refine Aw.region ?_
    refine AL.v rfl rfl (B.cmp rfl rfl rfl rfl rfl) ?_
    refine AL.nil ?_
    refine AThen.n ?_
    refine Aw.seq ?_
    refine Aw.cases (t := 24) rfl (fun hc1 => ?_) (fun hc1 => ?_)
    · refine Aw.condT rfl rfl ?_
      refine Aw.skip ?_
      refine AThen.n ?_
      refine Aw.seq ?_
      refine Aw.block ?_
      refine Aw.seq ?_
      refine Aw.region ?_
      refine AL.v rfl rfl (B.mv (.inl rfl) (by first | exact .d _ | exact .own _ _ _ | exact .ptr _ _ _ | exact .agg _ | exact .nsl | exact .lent _ _ | exact .vptr _ _ _ | exact .tup _ | exact .nptr | exact .fn _ _ | exact .und) rfl) ?_
      refine AL.v rfl rfl (B.mv (.inr rfl) (by first | exact .d _ | exact .own _ _ _ | exact .ptr _ _ _ | exact .agg _ | exact .nsl | exact .lent _ _ | exact .vptr _ _ _ | exact .tup _ | exact .nptr | exact .fn _ _ | exact .und) rfl) ?_
      refine AL.nil ?_
      refine AThen.n ?_
      have hlt : k < cl := by simp at hc1; omega
      refine Aw.drawn' mixed ?_
      first | refine CD.v rfl rfl (B.fld rfl fl_api_Model_0 (by decide) rfl rfl) ?_ | refine CD.v rfl rfl (B.vfld rfl fl_api_Model_0 (by decide) rfl rfl) ?_
      refine CD.v rfl rfl (B.load1 rfl ty_Lapi_Queue (by first | exact .v rfl rfl rfl | exact .w rfl rfl | exact .r rfl rfl (by assumption) rfl) rfl) ?_
      refine CD.v rfl rfl (B.mv (.inl rfl) (by first | exact .d _ | exact .own _ _ _ | exact .ptr _ _ _ | exact .agg _ | exact .nsl | exact .lent _ _ | exact .vptr _ _ _ | exact .tup _ | exact .nptr | exact .fn _ _ | exact .und) rfl) ?_
      first | refine CD.v rfl rfl (B.fld rfl fl_api_Cfg_10 (by decide) rfl rfl) ?_ | refine CD.v rfl rfl (B.vfld rfl fl_api_Cfg_10 (by decide) rfl rfl) ?_
      refine CD.v rfl rfl (B.load1 rfl ty_uint64 (by first | exact .v rfl rfl rfl | exact .w rfl rfl | exact .r rfl rfl (by assumption) rfl) rfl) ?_
      refine CD.v rfl rfl (B.call (k := 6) (rb := []) (hc := (squeue_new c.Seq)) rfl en_shallot_queue_New (ArgsA.cons (by first | exact .d _ | exact .lent _ _ | exact .nv _ | exact .nlent _ | exact .nsl | exact .lnd _ _ | exact .own (by simp) rfl rfl | exact .aggL (by repeat (first | exact L2.nil | (apply L2.cons; focus (first | exact .d _ | exact .lent _ _ | exact .nv _ | exact .nlent _ | exact .nsl | exact .lnd _ _ | exact .own (by simp) rfl rfl))))) ArgsA.nil) rfl (by first | exact .d _ | exact .nsl | exact .aggL (by repeat (first | exact L2.nil | (apply L2.cons; focus (first | exact .d _ | exact .nsl)))) | exact .tupL (by repeat (first | exact L2.nil | (apply L2.cons; focus (first | exact .aggL (by repeat (first | exact L2.nil | (apply L2.cons; focus (first | exact .d _ | exact .nsl)))) | exact .d _ | exact .nsl))))) rfl) ?_
      refine CD.v rfl rfl (B.idxOwn0 rfl el_Lapi_Queue rfl rfl rfl rfl hlt rfl) ?_
      refine CD.s rfl rfl (B.storeRow (ds := (eQueue ⟨c.Seq, []⟩)) rfl ty_api_Queue rfl rfl (repl_at hlt) rfl rfl rfl rfl) ?_
      refine CD.nil (by kernel_rfl) ?_
      refine AIn.n ?_
      refine AThen.n ?_
      refine Aw.region ?_
      refine AL.v rfl rfl (B.arith rfl rfl rfl (arith_add64 (by omega)) rfl) ?_
      refine AL.v rfl rfl (B.mv (.inl rfl) (by first | exact .d _ | exact .own _ _ _ | exact .ptr _ _ _ | exact .agg _ | exact .nsl | exact .lent _ _ | exact .vptr _ _ _ | exact .tup _ | exact .nptr | exact .fn _ _ | exact .und) rfl) ?_
      refine AL.move (σ' := ⟨(upd (upd (upd (upd (upd (fun _ => AV.und) 23 (.d (.int .i64 ((k + 1) : Nat)))) 22 (.d (.int .i64 (cl : Nat)))) 4 (.ptr 5 0 0)) 2 (.ptr 1 0 0)) 1 (.ptr 0 0 0)), blksOf [.var 55 [.d (.view 1 (c.Seed.map eByte)), .d (.int .i64 c.Chain), .d (.int .i64 c.Standby), .d (.int .i64 c.Clients), .d (.int .i64 c.Queue), .d (.int .i64 c.Close), .d (.int .i64 c.Long), .d (.int .i64 c.Again), .d (.int .i64 c.Window), .d (.int .u64 (c.Round : Nat)), .d (.int .u64 (c.Seq : Nat))], .var 60 [.nsl, .nsl, .nsl], .row 2 77 (List.replicate (k + 1) (eQueue ⟨c.Seq, []⟩) ++ List.replicate (cl - (k + 1)) (eQueue ⟨0, []⟩)), .row 1 3 (List.replicate cl (eInt 0)), .row 1 74 (List.replicate cl (eL_Letter [])), .var 60 [.own 2 0 cl, .own 3 0 cl, .own 4 0 cl]]⟩) (Moved.mk' [] [0, 1, 2, 3, 4, 5] _ (fun g h => by simp at h) (loc_upd (by first | exact .d _ | exact .ptr rfl | exact .own rfl | exact .nsl | exact .nv _ | exact .lent _ _ | exact .fz (by simp) (by rfl) (by first | rfl | (simp; done) | assumption | omega | (simp; omega)) | exact .aggL (by repeat (first | exact L2.nil | (apply L2.cons; focus (first | exact .d _ | exact .ptr rfl | exact .own rfl | exact .nsl | exact .nv _ | exact .lent _ _ | exact .fz (by simp) (by rfl) (by first | rfl | (simp; done) | assumption | omega | (simp; omega))))))) (loc_upd (by first | exact .d _ | exact .ptr rfl | exact .own rfl | exact .nsl | exact .nv _ | exact .lent _ _ | exact .fz (by simp) (by rfl) (by first | rfl | (simp; done) | assumption | omega | (simp; omega)) | exact .aggL (by repeat (first | exact L2.nil | (apply L2.cons; focus (first | exact .d _ | exact .ptr rfl | exact .own rfl | exact .nsl | exact .nv _ | exact .lent _ _ | exact .fz (by simp) (by rfl) (by first | rfl | (simp; done) | assumption | omega | (simp; omega))))))) (loc_upd (by first | exact .d _ | exact .ptr rfl | exact .own rfl | exact .nsl | exact .nv _ | exact .lent _ _ | exact .fz (by simp) (by rfl) (by first | rfl | (simp; done) | assumption | omega | (simp; omega)) | exact .aggL (by repeat (first | exact L2.nil | (apply L2.cons; focus (first | exact .d _ | exact .ptr rfl | exact .own rfl | exact .nsl | exact .nv _ | exact .lent _ _ | exact .fz (by simp) (by rfl) (by first | rfl | (simp; done) | assumption | omega | (simp; omega))))))) (loc_upd (by first | exact .d _ | exact .ptr rfl | exact .own rfl | exact .nsl | exact .nv _ | exact .lent _ _ | exact .fz (by simp) (by rfl) (by first | rfl | (simp; done) | assumption | omega | (simp; omega)) | exact .aggL (by repeat (first | exact L2.nil | (apply L2.cons; focus (first | exact .d _ | exact .ptr rfl | exact .own rfl | exact .nsl | exact .nv _ | exact .lent _ _ | exact .fz (by simp) (by rfl) (by first | rfl | (simp; done) | assumption | omega | (simp; omega))))))) (loc_upd (by first | exact .d _ | exact .ptr rfl | exact .own rfl | exact .nsl | exact .nv _ | exact .lent _ _ | exact .fz (by simp) (by rfl) (by first | rfl | (simp; done) | assumption | omega | (simp; omega)) | exact .aggL (by repeat (first | exact L2.nil | (apply L2.cons; focus (first | exact .d _ | exact .ptr rfl | exact .own rfl | exact .nsl | exact .nv _ | exact .lent _ _ | exact .fz (by simp) (by rfl) (by first | rfl | (simp; done) | assumption | omega | (simp; omega))))))) loc_und))))) rfl (by decide) (by simp) (at_cons (.var rfl rfl (by repeat (first | exact at_nil | refine at_cons (by first | exact .d _ | exact .ptr rfl | exact .own rfl | exact .nsl | exact .nv _ | exact .lent _ _ | exact .fz (by simp) (by rfl) (by first | rfl | (simp; done) | assumption | omega | (simp; omega)) | exact .aggL (by repeat (first | exact L2.nil | (apply L2.cons; focus (first | exact .d _ | exact .ptr rfl | exact .own rfl | exact .nsl | exact .nv _ | exact .lent _ _ | exact .fz (by simp) (by rfl) (by first | rfl | (simp; done) | assumption | omega | (simp; omega))))))) ?_))) (at_cons (.var rfl rfl (by repeat (first | exact at_nil | refine at_cons (by first | exact .d _ | exact .ptr rfl | exact .own rfl | exact .nsl | exact .nv _ | exact .lent _ _ | exact .fz (by simp) (by rfl) (by first | rfl | (simp; done) | assumption | omega | (simp; omega)) | exact .aggL (by repeat (first | exact L2.nil | (apply L2.cons; focus (first | exact .d _ | exact .ptr rfl | exact .own rfl | exact .nsl | exact .nv _ | exact .lent _ _ | exact .fz (by simp) (by rfl) (by first | rfl | (simp; done) | assumption | omega | (simp; omega))))))) ?_))) (at_cons (.row' (repl_set hlt)) (at_cons (.row _ _ _) (at_cons (.row _ _ _) (at_cons (.var rfl rfl (by repeat (first | exact at_nil | refine at_cons (by first | exact .d _ | exact .ptr rfl | exact .own rfl | exact .nsl | exact .nv _ | exact .lent _ _ | exact .fz (by simp) (by rfl) (by first | rfl | (simp; done) | assumption | omega | (simp; omega)) | exact .aggL (by repeat (first | exact L2.nil | (apply L2.cons; focus (first | exact .d _ | exact .ptr rfl | exact .own rfl | exact .nsl | exact .nv _ | exact .lent _ _ | exact .fz (by simp) (by rfl) (by first | rfl | (simp; done) | assumption | omega | (simp; omega))))))) ?_))) at_nil))))))) ?_
      refine AL.nil ?_
      refine AThen.n ?_
      exact ⟨cl - (k + 1), by omega, k + 1, by omega, rfl, rfl⟩
    · refine Aw.condF rfl rfl ?_
      refine Aw.exit ?_
      refine AThen.e ?_
      refine AThen.e ?_
      refine AIn.e ?_
      refine AThen.n ?_
      refine Aw.seq ?_
      refine Aw.region ?_
      refine AL.v rfl rfl (B.loadN rfl ty_api_Model (by first | exact .v rfl rfl rfl | exact .w rfl rfl | exact .r rfl rfl (by assumption) rfl) (by rfl) rfl) ?_
      refine AL.s rfl rfl (B.storeVar rfl ty_api_Model rfl rfl (FlatV.eq (by first | exact .agg _ | exact .d _ | exact .own _ _ _ | exact .nsl | exact .ptr _ _ _)) (by rfl) (by rfl) (by rfl) rfl) ?_
      refine AL.v rfl rfl (B.mv (.inr rfl) (by first | exact .d _ | exact .own _ _ _ | exact .ptr _ _ _ | exact .agg _ | exact .nsl | exact .lent _ _ | exact .vptr _ _ _ | exact .tup _ | exact .nptr | exact .fn _ _ | exact .und) rfl) ?_
      refine AL.nil ?_
      refine AThen.n ?_
      refine Aw.ret ?_
      refine APost.r ?_
      refine Ret.all [2, 3, 4] rfl (.cons (.many ty_api_Model (by first | exact .v rfl rfl rfl) (by rfl)) (.cons (.t (by first | exact .d _ | exact .own _ _ _ | exact .nsl | exact .agg _)) .nil)) (gs_cons rfl (gs_cons rfl (gs_cons rfl gs_nil))) (by first | exact .aggL (by repeat (first | exact L2.nil | (apply L2.cons; focus (first | exact .fz0 (by simp) (by rfl) (by first | rfl | (simp; done) | assumption | omega | (simp; omega)) | exact .nsl (sz := 1) | exact .refl _)))) | exact .tupL (by repeat (first | exact L2.nil | (apply L2.cons; focus (first | exact .aggL (by repeat (first | exact L2.nil | (apply L2.cons; focus (first | exact .fz0 (by simp) (by rfl) (by first | rfl | (simp; done) | assumption | omega | (simp; omega)) | exact .nsl (sz := 1) | exact .refl _)))) | exact .fz0 (by simp) (by rfl) (by first | rfl | (simp; done) | assumption | omega | (simp; omega)) | exact .nsl (sz := 1) | exact .refl _)))) | exact .fz0 (by simp) (by rfl) (by first | rfl | (simp; done) | assumption | omega | (simp; omega)) | exact .nsl (sz := 1) | exact .refl _) (by first | exact .d _ | exact .aggL (by repeat (first | exact L2.nil | (apply L2.cons; focus (first | exact .d _)))) | exact .tupL (by repeat (first | exact L2.nil | (apply L2.cons; focus (first | exact .aggL (by repeat (first | exact L2.nil | (apply L2.cons; focus (first | exact .d _)))) | exact .d _))))) ⟨?_, rfl⟩
      have hk2 : k = cl := by simp at hc1; omega
      subst hk2
      rw [show mNew c = (⟨List.replicate k ⟨c.Seq, []⟩, List.replicate k 0, List.replicate k []⟩, 0) from by simp [mNew, hcf, hn]]
      simp only [aModel, List.map_replicate, Nat.sub_self, List.replicate_zero, List.append_nil]

def plainC : CfgV := ⟨[], 2, 1, 2, 3, 4, 20, 5, 4, 1, 1⟩

set_option maxRecDepth 100000 in
theorem lplain :
    ACalls Try.prog 80 [] (fun r bs => r = aCfg plainC ∧ bs = []) := by
  refine ACalls.of Try.func80 rfl (Nat.le_of_ble_eq_true rfl) ?_
  show Aw _ _ _ _ ⟨_, _⟩
  refine Aw.seq ?_
  refine Aw.region ?_
  refine AL.u rfl rfl (B.alloc (g := 0) rfl zr_api_Cfg rfl rfl rfl) ?_
  refine AL.nil ?_
  refine AThen.n ?_
  refine Aw.seq ?_
  refine Aw.region ?_
  refine AL.v rfl rfl (B.build rfl bd_api_Cfg rfl rfl) ?_
  refine AL.s rfl rfl (B.storeVar rfl ty_api_Cfg rfl rfl (FlatV.eq (by first | exact .agg _ | exact .d _ | exact .own _ _ _ | exact .nsl | exact .ptr _ _ _)) (by rfl) (by rfl) (by rfl) rfl) ?_
  refine AL.nil ?_
  refine AThen.n ?_
  refine Aw.ret ?_
  refine APost.r ?_
  refine Ret.all (r1 := aCfg plainC) [] rfl (.cons (.many ty_api_Cfg (by first | exact .v rfl rfl rfl) (by rfl)) .nil) gs_nil (by first | exact .aggL (by repeat (first | exact L2.nil | (apply L2.cons; focus (first | exact .fz0 (by simp) (by rfl) (by first | rfl | (simp; done) | assumption | omega | (simp; omega)) | exact .nsl _ | exact .refl _)))) | exact .tupL (by repeat (first | exact L2.nil | (apply L2.cons; focus (first | exact .aggL (by repeat (first | exact L2.nil | (apply L2.cons; focus (first | exact .fz0 (by simp) (by rfl) (by first | rfl | (simp; done) | assumption | omega | (simp; omega)) | exact .nsl _ | exact .refl _)))) | exact .fz0 (by simp) (by rfl) (by first | rfl | (simp; done) | assumption | omega | (simp; omega)) | exact .nsl _ | exact .refl _)))) | exact .fz0 (by simp) (by rfl) (by first | rfl | (simp; done) | assumption | omega | (simp; omega)) | exact .nsl _ | exact .refl _) (by first | exact .d _ | exact .aggL (by repeat (first | exact L2.nil | (apply L2.cons; focus (first | exact .d _)))) | exact .tupL (by repeat (first | exact L2.nil | (apply L2.cons; focus (first | exact .aggL (by repeat (first | exact L2.nil | (apply L2.cons; focus (first | exact .d _)))) | exact .d _))))) ⟨?_, rfl⟩
  rfl

end Go.Proofs.Ytmkfpfnjimmmaaa
