/- The example, and the law that takes. Printed by sep.py. -/
import Derived.Test.YtmkfpfnjimmmaaaSepQ
namespace Go.Proofs.Ytmkfpfnjimmmaaa
open Go.RowKit
set_option linter.unusedVariables false
set_option linter.unusedSimpArgs false

theorem en_shallot_shallotlaw23_live (us : Array Value) (u : World) : (callFunc 47 us).run Try.prog u = .ok (.enter 47 us) u := by kernel_rfl
theorem en_shallot_shallotref23_Few (us : Array Value) (u : World) : (callFunc 48 us).run Try.prog u = .ok (.enter 48 us) u := by kernel_rfl
theorem en_shallot_model_New (us : Array Value) (u : World) : (callFunc 49 us).run Try.prog u = .ok (.enter 49 us) u := by kernel_rfl
theorem en_shallot_model_Say (us : Array Value) (u : World) : (callFunc 51 us).run Try.prog u = .ok (.enter 51 us) u := by kernel_rfl
theorem en_shallot_model_Waiting (us : Array Value) (u : World) : (callFunc 54 us).run Try.prog u = .ok (.enter 54 us) u := by kernel_rfl
theorem en_shallot_model_Come (us : Array Value) (u : World) : (callFunc 56 us).run Try.prog u = .ok (.enter 56 us) u := by kernel_rfl
theorem en_shallot_model_Gone (us : Array Value) (u : World) : (callFunc 58 us).run Try.prog u = .ok (.enter 58 us) u := by kernel_rfl
theorem en_shallot_model_Take (us : Array Value) (u : World) : (callFunc 60 us).run Try.prog u = .ok (.enter 60 us) u := by kernel_rfl
theorem en_shallot_shallotlaw23_plain (us : Array Value) (u : World) : (callFunc 80 us).run Try.prog u = .ok (.enter 80 us) u := by kernel_rfl


def hiB : List UInt8 := [104, 105]
def hiL : LetterV := ⟨false, 0, 1, 1, hiB⟩
def L0 : ModelV := ⟨[⟨1, []⟩, ⟨1, []⟩], [0, 0], [[], []]⟩
def L1 : ModelV := ⟨[⟨2, [hiL]⟩, ⟨1, []⟩], [0, 0], [[], []]⟩
def L2m : ModelV := ⟨[⟨2, [hiL]⟩, ⟨1, []⟩], [1, 0], [[], [hiL]]⟩
def L3 : ModelV := ⟨[⟨2, []⟩, ⟨1, []⟩], [0, 0], [[], [hiL]]⟩
def L4 : ModelV := ⟨[⟨2, []⟩, ⟨1, []⟩], [0, 0], [[], []]⟩
theorem ok_L0 : okM L0 := ⟨by simp [L0], by simp [L0], by simp [L0], by simp [L0, okL], by simp [L0, okL], by simp [L0]⟩
theorem ok_L1 : okM L1 := ⟨by simp [L1], by simp [L1], by simp [L1], by simp [L1, okL, hiL, hiB], by simp [L1, okL], by simp [L1]⟩
theorem ok_L2 : okM L2m := ⟨by simp [L2m], by simp [L2m], by simp [L2m], by simp [L2m, okL, hiL, hiB], by simp [L2m, okL, hiL, hiB], by simp [L2m]⟩
theorem ok_L3 : okM L3 := ⟨by simp [L3], by simp [L3], by simp [L3], by simp [L3, okL], by simp [L3, okL, hiL, hiB], by simp [L3]⟩
theorem lv0 : ACalls Try.prog 49 [aCfg plainC] (fun r bs => r = .tup [aModel L0, .d (.int .i64 0)] ∧ bs = []) := by
  have h := smodel_new plainC
  rw [show mNew plainC = (L0, 0) from by kernel_rfl] at h; exact h
theorem lv1 : ACalls Try.prog 51 [aCfg plainC, aModel L0, .d (.int .i64 0), .d (.int .i64 1), .d (.view 1 (hiB.map eByte))] (fun r bs => r = .tup [aModel L1, .d (.int .i64 1)] ∧ bs = []) := by
  have h := smodel_say plainC L0 ok_L0 0 1 hiB (by simp [hiB])
  rw [show mSay plainC L0 0 1 hiB = (L1, 1) from by kernel_rfl] at h; exact h
theorem lv2 : ACalls Try.prog 56 [aModel L1, .d (.int .i64 0)] (fun r bs => r = .tup [aModel L2m, .d (.bool true)] ∧ bs = []) := by
  have h := smodel_come L1 ok_L1 0
  rw [show mCome L1 0 = (L2m, true) from by kernel_rfl] at h; exact h
theorem lv3 : ACalls Try.prog 58 [aModel L2m, .d (.int .i64 0)] (fun r bs => r = .tup [aModel L3, .d (.bool true)] ∧ bs = []) := by
  have h := smodel_gone L2m ok_L2 0
  rw [show mGone L2m 0 = (L3, true) from by kernel_rfl] at h; exact h
theorem lv4 : ACalls Try.prog 60 [aModel L3, .d (.int .i64 1)] (fun r bs => r = .tup [aModel L4, aLetter hiL, .d (.bool true)] ∧ bs = []) := by
  have h := smodel_take L3 ok_L3 1
  rw [show mTake L3 1 = (L4, hiL, true) from by kernel_rfl] at h; exact h
theorem lv5 : ACalls Try.prog 54 [aModel L2m, .d (.int .i64 0)] (fun r bs => r = .d (.int .i64 1) ∧ bs = []) := by
  have h := smodel_waiting L2m 0
  rw [show mWaiting L2m 0 = 1 from by kernel_rfl] at h; exact h
theorem lv6 : ACalls Try.prog 54 [aModel L3, .d (.int .i64 0)] (fun r bs => r = .d (.int .i64 0) ∧ bs = []) := by
  have h := smodel_waiting L3 0
  rw [show mWaiting L3 0 = 0 from by kernel_rfl] at h; exact h
theorem lv7 : ACalls Try.prog 26 [.d (.view 1 (hiB.map eByte)), .d (.view 1 (hiB.map eByte))] (fun r bs => r = .d (.bool true) ∧ bs = []) := by
  have h := r01_same hiB hiB
  rw [show (hiB == hiB) = true from by kernel_rfl] at h; exact h

set_option maxRecDepth 100000 in
theorem llive :
    ACalls Try.prog 47 [] (fun r bs => r = .d (.bool true) ∧ bs = []) := by
  refine ACalls.of Try.func47 rfl (Nat.le_of_ble_eq_true rfl) ?_
  show Aw _ _ _ _ ⟨_, _⟩
  refine Aw.seq (Aw.region ?_)
  refine AL.v rfl rfl (B.mA) ?_
  refine AL.nil (AThen.n (Aw.seq (Aw.region ?_)))
  refine AL.v rfl rfl (B.call0 (k := 0) rfl en_shallot_shallotlaw23_plain (lplain) .nil) ?_
  refine AL.v rfl rfl (B.call0 (k := 0) rfl en_shallot_model_New (lv0) (.c .nil)) ?_
  refine AL.v rfl rfl (B.mA) ?_
  refine AL.v rfl rfl (B.xA) ?_
  refine AL.v rfl rfl (B.xA) ?_
  refine AL.u rfl rfl (B.aA (g := 0) zr_api_Model) ?_
  refine AL.s rfl rfl (B.sA ty_api_Model) ?_
  refine AL.v rfl rfl (B.mA) ?_
  refine AL.nil (AThen.n (Aw.seq (Aw.drawn' mixed ?_)))
  refine CD.v rfl rfl (B.call0 (k := 1) rfl en_shallot_shallotlaw23_plain (lplain) .nil) ?_
  refine CD.v rfl rfl (B.lN ty_api_Model) ?_
  refine CD.u rfl rfl (B.bslice (g := 1) rfl el_Luint8 (by rw [zr_uint8]; rfl) (by decide) rfl (by decide) (by decide) rfl rfl rfl rfl) ?_
  refine CD.u rfl rfl (B.mark rfl Try.underlying24 Try.underlying5 rfl rfl rfl (by decide) rfl) ?_
  refine CD.v rfl rfl (B.call0 (k := 2) rfl en_shallot_model_Say (lv1) (.c (.c (.c (.c (.c .nil)))))) ?_
  refine CD.v rfl rfl (B.mA) ?_
  refine CD.v rfl rfl (B.xA) ?_
  refine CD.v rfl rfl (B.xA) ?_
  refine CD.u rfl rfl (B.aA (g := 2) zr_api_Model) ?_
  refine CD.s rfl rfl (B.sA ty_api_Model) ?_
  refine CD.v rfl rfl (B.mA) ?_
  refine CD.nil (by kernel_rfl) ?_
  refine AThen.n (Aw.seq (Aw.region ?_))
  refine AL.v rfl rfl (B.lN ty_api_Model) ?_
  refine AL.v rfl rfl (B.call0 (k := 3) rfl en_shallot_model_Come (lv2) (.c (.c .nil))) ?_
  refine AL.v rfl rfl (B.mA) ?_
  refine AL.v rfl rfl (B.xA) ?_
  refine AL.v rfl rfl (B.xA) ?_
  refine AL.u rfl rfl (B.aA (g := 3) zr_api_Model) ?_
  refine AL.s rfl rfl (B.sA ty_api_Model) ?_
  refine AL.v rfl rfl (B.mA) ?_
  refine AL.nil (AThen.n (Aw.seq (Aw.region ?_)))
  refine AL.v rfl rfl (B.lN ty_api_Model) ?_
  refine AL.v rfl rfl (B.call0 (k := 4) rfl en_shallot_model_Gone (lv3) (.c (.c .nil))) ?_
  refine AL.v rfl rfl (B.mA) ?_
  refine AL.v rfl rfl (B.xA) ?_
  refine AL.v rfl rfl (B.xA) ?_
  refine AL.u rfl rfl (B.aA (g := 4) zr_api_Model) ?_
  refine AL.s rfl rfl (B.sA ty_api_Model) ?_
  refine AL.v rfl rfl (B.mA) ?_
  refine AL.nil (AThen.n (Aw.seq (Aw.region ?_)))
  refine AL.v rfl rfl (B.lN ty_api_Model) ?_
  refine AL.v rfl rfl (B.call0 (k := 5) rfl en_shallot_model_Take (lv4) (.c (.c .nil))) ?_
  refine AL.v rfl rfl (B.mA) ?_
  refine AL.v rfl rfl (B.xA) ?_
  refine AL.v rfl rfl (B.xA) ?_
  refine AL.v rfl rfl (B.xA) ?_
  refine AL.u rfl rfl (B.aA (g := 5) zr_api_Model) ?_
  refine AL.u rfl rfl (B.aA (g := 6) zr_api_Letter) ?_
  refine AL.s rfl rfl (B.sA ty_api_Model) ?_
  refine AL.s rfl rfl (B.sA ty_api_Letter) ?_
  refine AL.v rfl rfl (B.mA) ?_
  refine AL.nil (AThen.n (Aw.seq (Aw.region ?_)))
  refine AL.v rfl rfl (B.mA) ?_
  refine AL.v rfl rfl (B.cmp rfl rfl rfl rfl rfl) ?_
  refine AL.v rfl rfl (B.mA) ?_
  refine AL.cases (t := 43) rfl (fun hg43 => ?_) (fun hg43 => ?_)
  · refine AL.gv rfl rfl rfl rfl (B.mA) ?_
    refine AL.gv rfl rfl rfl rfl (B.cmp rfl rfl rfl rfl rfl) ?_
    refine AL.v rfl rfl (B.pT) ?_
    refine AL.v rfl rfl (B.mA) ?_
    refine AL.cases (t := 47) rfl (fun hg47 => ?_) (fun hg47 => ?_)
    · refine AL.gv rfl rfl rfl rfl (B.mA) ?_
      refine AL.v rfl rfl (B.pT) ?_
      refine AL.v rfl rfl (B.mA) ?_
      refine AL.cases (t := 50) rfl (fun hg50 => ?_) (fun hg50 => ?_)
      · refine AL.gv rfl rfl rfl rfl (B.lN ty_api_Model) ?_
        refine AL.gv rfl rfl rfl rfl (B.call0 (k := 7) rfl en_shallot_model_Waiting (lv5) (.c (.c .nil))) ?_
        refine AL.gv rfl rfl rfl rfl (B.cmp rfl rfl rfl rfl rfl) ?_
        refine AL.v rfl rfl (B.pT) ?_
        refine AL.v rfl rfl (B.mA) ?_
        refine AL.cases (t := 55) rfl (fun hg55 => ?_) (fun hg55 => ?_)
        · refine AL.gv rfl rfl rfl rfl (B.mA) ?_
          refine AL.v rfl rfl (B.pT) ?_
          refine AL.v rfl rfl (B.mA) ?_
          refine AL.cases (t := 58) rfl (fun hg58 => ?_) (fun hg58 => ?_)
          · refine AL.gv rfl rfl rfl rfl (B.lN ty_api_Model) ?_
            refine AL.gv rfl rfl rfl rfl (B.call0 (k := 7) rfl en_shallot_model_Waiting (lv6) (.c (.c .nil))) ?_
            refine AL.gv rfl rfl rfl rfl (B.cmp rfl rfl rfl rfl rfl) ?_
            refine AL.v rfl rfl (B.pT) ?_
            refine AL.v rfl rfl (B.mA) ?_
            refine AL.cases (t := 63) rfl (fun hg63 => ?_) (fun hg63 => ?_)
            · refine AL.gv rfl rfl rfl rfl (B.mA) ?_
              refine AL.v rfl rfl (B.pT) ?_
              refine AL.v rfl rfl (B.mA) ?_
              refine AL.cases (t := 66) rfl (fun hg66 => ?_) (fun hg66 => ?_)
              · refine AL.gv rfl rfl rfl rfl (B.fA fl_api_Letter_4) ?_
                refine AL.gv rfl rfl rfl rfl (B.l1 ty_Luint8) ?_
                refine AL.gu rfl rfl rfl rfl (B.bslice (g := 7) rfl el_Luint8 (by rw [zr_uint8]; rfl) (by decide) rfl (by decide) (by decide) rfl rfl rfl rfl) ?_
                refine AL.gu rfl rfl rfl rfl (B.mark rfl Try.underlying24 Try.underlying5 rfl rfl rfl (by decide) rfl) ?_
                refine AL.gv rfl rfl rfl rfl (B.call0 (k := 8) rfl en_shallot_shallotref01_Same (lv7) (.c (.c .nil))) ?_
                refine AL.v rfl rfl (B.pT) ?_
                refine AL.v rfl rfl (B.mA) ?_
                refine AL.nil (AThen.n (Aw.ret (APost.r ?_)))
                refine Ret.all [] rfl (.cons (.t (.d _)) .nil) gs_nil (.refl _) (.d _) ⟨congrArg (fun b => AV.d (.bool b)) ?_, rfl⟩
                first | rfl | simp_all
              refine AL.off rfl rfl rfl rfl rfl (by decide) ?_
              refine AL.off rfl rfl rfl rfl rfl (by decide) ?_
              refine AL.off rfl rfl rfl rfl rfl (by decide) ?_
              refine AL.off rfl rfl rfl rfl rfl (by decide) ?_
              refine AL.off rfl rfl rfl rfl rfl (by decide) ?_
              refine AL.v rfl rfl (B.pF) ?_
              refine AL.v rfl rfl (B.mA) ?_
              refine AL.nil (AThen.n (Aw.ret (APost.r ?_)))
              refine Ret.all [] rfl (.cons (.t (.d _)) .nil) gs_nil (.refl _) (.d _) ⟨congrArg (fun b => AV.d (.bool b)) ?_, rfl⟩
              first | rfl | simp_all
            refine AL.off rfl rfl rfl rfl rfl (by decide) ?_
            refine AL.v rfl rfl (B.pF) ?_
            refine AL.v rfl rfl (B.mA) ?_
            refine AL.off rfl rfl rfl rfl rfl (by decide) ?_
            refine AL.off rfl rfl rfl rfl rfl (by decide) ?_
            refine AL.off rfl rfl rfl rfl rfl (by decide) ?_
            refine AL.off rfl rfl rfl rfl rfl (by decide) ?_
            refine AL.off rfl rfl rfl rfl rfl (by decide) ?_
            refine AL.v rfl rfl (B.pF) ?_
            refine AL.v rfl rfl (B.mA) ?_
            refine AL.nil (AThen.n (Aw.ret (APost.r ?_)))
            refine Ret.all [] rfl (.cons (.t (.d _)) .nil) gs_nil (.refl _) (.d _) ⟨congrArg (fun b => AV.d (.bool b)) ?_, rfl⟩
            first | rfl | simp_all
          refine AL.off rfl rfl rfl rfl rfl (by decide) ?_
          refine AL.off rfl rfl rfl rfl rfl (by decide) ?_
          refine AL.off rfl rfl rfl rfl rfl (by decide) ?_
          refine AL.v rfl rfl (B.pF) ?_
          refine AL.v rfl rfl (B.mA) ?_
          refine AL.off rfl rfl rfl rfl rfl (by decide) ?_
          refine AL.v rfl rfl (B.pF) ?_
          refine AL.v rfl rfl (B.mA) ?_
          refine AL.off rfl rfl rfl rfl rfl (by decide) ?_
          refine AL.off rfl rfl rfl rfl rfl (by decide) ?_
          refine AL.off rfl rfl rfl rfl rfl (by decide) ?_
          refine AL.off rfl rfl rfl rfl rfl (by decide) ?_
          refine AL.off rfl rfl rfl rfl rfl (by decide) ?_
          refine AL.v rfl rfl (B.pF) ?_
          refine AL.v rfl rfl (B.mA) ?_
          refine AL.nil (AThen.n (Aw.ret (APost.r ?_)))
          refine Ret.all [] rfl (.cons (.t (.d _)) .nil) gs_nil (.refl _) (.d _) ⟨congrArg (fun b => AV.d (.bool b)) ?_, rfl⟩
          first | rfl | simp_all
        refine AL.off rfl rfl rfl rfl rfl (by decide) ?_
        refine AL.v rfl rfl (B.pF) ?_
        refine AL.v rfl rfl (B.mA) ?_
        refine AL.off rfl rfl rfl rfl rfl (by decide) ?_
        refine AL.off rfl rfl rfl rfl rfl (by decide) ?_
        refine AL.off rfl rfl rfl rfl rfl (by decide) ?_
        refine AL.v rfl rfl (B.pF) ?_
        refine AL.v rfl rfl (B.mA) ?_
        refine AL.off rfl rfl rfl rfl rfl (by decide) ?_
        refine AL.v rfl rfl (B.pF) ?_
        refine AL.v rfl rfl (B.mA) ?_
        refine AL.off rfl rfl rfl rfl rfl (by decide) ?_
        refine AL.off rfl rfl rfl rfl rfl (by decide) ?_
        refine AL.off rfl rfl rfl rfl rfl (by decide) ?_
        refine AL.off rfl rfl rfl rfl rfl (by decide) ?_
        refine AL.off rfl rfl rfl rfl rfl (by decide) ?_
        refine AL.v rfl rfl (B.pF) ?_
        refine AL.v rfl rfl (B.mA) ?_
        refine AL.nil (AThen.n (Aw.ret (APost.r ?_)))
        refine Ret.all [] rfl (.cons (.t (.d _)) .nil) gs_nil (.refl _) (.d _) ⟨congrArg (fun b => AV.d (.bool b)) ?_, rfl⟩
        first | rfl | simp_all
      refine AL.off rfl rfl rfl rfl rfl (by decide) ?_
      refine AL.off rfl rfl rfl rfl rfl (by decide) ?_
      refine AL.off rfl rfl rfl rfl rfl (by decide) ?_
      refine AL.v rfl rfl (B.pF) ?_
      refine AL.v rfl rfl (B.mA) ?_
      refine AL.off rfl rfl rfl rfl rfl (by decide) ?_
      refine AL.v rfl rfl (B.pF) ?_
      refine AL.v rfl rfl (B.mA) ?_
      refine AL.off rfl rfl rfl rfl rfl (by decide) ?_
      refine AL.off rfl rfl rfl rfl rfl (by decide) ?_
      refine AL.off rfl rfl rfl rfl rfl (by decide) ?_
      refine AL.v rfl rfl (B.pF) ?_
      refine AL.v rfl rfl (B.mA) ?_
      refine AL.off rfl rfl rfl rfl rfl (by decide) ?_
      refine AL.v rfl rfl (B.pF) ?_
      refine AL.v rfl rfl (B.mA) ?_
      refine AL.off rfl rfl rfl rfl rfl (by decide) ?_
      refine AL.off rfl rfl rfl rfl rfl (by decide) ?_
      refine AL.off rfl rfl rfl rfl rfl (by decide) ?_
      refine AL.off rfl rfl rfl rfl rfl (by decide) ?_
      refine AL.off rfl rfl rfl rfl rfl (by decide) ?_
      refine AL.v rfl rfl (B.pF) ?_
      refine AL.v rfl rfl (B.mA) ?_
      refine AL.nil (AThen.n (Aw.ret (APost.r ?_)))
      refine Ret.all [] rfl (.cons (.t (.d _)) .nil) gs_nil (.refl _) (.d _) ⟨congrArg (fun b => AV.d (.bool b)) ?_, rfl⟩
      first | rfl | simp_all
    refine AL.off rfl rfl rfl rfl rfl (by decide) ?_
    refine AL.v rfl rfl (B.pF) ?_
    refine AL.v rfl rfl (B.mA) ?_
    refine AL.off rfl rfl rfl rfl rfl (by decide) ?_
    refine AL.off rfl rfl rfl rfl rfl (by decide) ?_
    refine AL.off rfl rfl rfl rfl rfl (by decide) ?_
    refine AL.v rfl rfl (B.pF) ?_
    refine AL.v rfl rfl (B.mA) ?_
    refine AL.off rfl rfl rfl rfl rfl (by decide) ?_
    refine AL.v rfl rfl (B.pF) ?_
    refine AL.v rfl rfl (B.mA) ?_
    refine AL.off rfl rfl rfl rfl rfl (by decide) ?_
    refine AL.off rfl rfl rfl rfl rfl (by decide) ?_
    refine AL.off rfl rfl rfl rfl rfl (by decide) ?_
    refine AL.v rfl rfl (B.pF) ?_
    refine AL.v rfl rfl (B.mA) ?_
    refine AL.off rfl rfl rfl rfl rfl (by decide) ?_
    refine AL.v rfl rfl (B.pF) ?_
    refine AL.v rfl rfl (B.mA) ?_
    refine AL.off rfl rfl rfl rfl rfl (by decide) ?_
    refine AL.off rfl rfl rfl rfl rfl (by decide) ?_
    refine AL.off rfl rfl rfl rfl rfl (by decide) ?_
    refine AL.off rfl rfl rfl rfl rfl (by decide) ?_
    refine AL.off rfl rfl rfl rfl rfl (by decide) ?_
    refine AL.v rfl rfl (B.pF) ?_
    refine AL.v rfl rfl (B.mA) ?_
    refine AL.nil (AThen.n (Aw.ret (APost.r ?_)))
    refine Ret.all [] rfl (.cons (.t (.d _)) .nil) gs_nil (.refl _) (.d _) ⟨congrArg (fun b => AV.d (.bool b)) ?_, rfl⟩
    first | rfl | simp_all
  refine AL.off rfl rfl rfl rfl rfl (by decide) ?_
  refine AL.off rfl rfl rfl rfl rfl (by decide) ?_
  refine AL.v rfl rfl (B.pF) ?_
  refine AL.v rfl rfl (B.mA) ?_
  refine AL.off rfl rfl rfl rfl rfl (by decide) ?_
  refine AL.v rfl rfl (B.pF) ?_
  refine AL.v rfl rfl (B.mA) ?_
  refine AL.off rfl rfl rfl rfl rfl (by decide) ?_
  refine AL.off rfl rfl rfl rfl rfl (by decide) ?_
  refine AL.off rfl rfl rfl rfl rfl (by decide) ?_
  refine AL.v rfl rfl (B.pF) ?_
  refine AL.v rfl rfl (B.mA) ?_
  refine AL.off rfl rfl rfl rfl rfl (by decide) ?_
  refine AL.v rfl rfl (B.pF) ?_
  refine AL.v rfl rfl (B.mA) ?_
  refine AL.off rfl rfl rfl rfl rfl (by decide) ?_
  refine AL.off rfl rfl rfl rfl rfl (by decide) ?_
  refine AL.off rfl rfl rfl rfl rfl (by decide) ?_
  refine AL.v rfl rfl (B.pF) ?_
  refine AL.v rfl rfl (B.mA) ?_
  refine AL.off rfl rfl rfl rfl rfl (by decide) ?_
  refine AL.v rfl rfl (B.pF) ?_
  refine AL.v rfl rfl (B.mA) ?_
  refine AL.off rfl rfl rfl rfl rfl (by decide) ?_
  refine AL.off rfl rfl rfl rfl rfl (by decide) ?_
  refine AL.off rfl rfl rfl rfl rfl (by decide) ?_
  refine AL.off rfl rfl rfl rfl rfl (by decide) ?_
  refine AL.off rfl rfl rfl rfl rfl (by decide) ?_
  refine AL.v rfl rfl (B.pF) ?_
  refine AL.v rfl rfl (B.mA) ?_
  refine AL.nil (AThen.n (Aw.ret (APost.r ?_)))
  refine Ret.all [] rfl (.cons (.t (.d _)) .nil) gs_nil (.refl _) (.d _) ⟨congrArg (fun b => AV.d (.bool b)) ?_, rfl⟩
  first | rfl | simp_all


theorem smodel_take' (m : ModelV) (hm : okM m) (k : Int) {m' : ModelV} {l : LetterV} {b : Bool} (h : mTake m k = (m', l, b)) : ACalls Try.prog 60 [aModel m, .d (.int .i64 k)] (fun r bs => r = .tup [aModel m', aLetter l, .d (.bool b)] ∧ bs = []) := by
  have := smodel_take m hm k
  rw [h] at this
  exact this
theorem okL.drop {b : List LetterV} (h : okL b) (j : Nat) : okL (b.drop j) := ⟨by rw [List.length_drop]; have := h.1; omega, fun x hx => h.2 x (List.mem_of_mem_drop hx)⟩
theorem okM.withBox {m : ModelV} (h : okM m) {i : Nat} {b : List LetterV} (hb : okL b) : okM ⟨m.Queues, m.Come, m.Boxes.set i b⟩ :=
  ⟨h.qs, h.cs, by simpa using h.bs, h.q, fun x hx => by
    rcases List.mem_or_eq_of_mem_set hx with h1 | rfl
    · exact h.b x h1
    · exact hb, h.c⟩
theorem set_self {α : Type} {l : List α} {i : Nat} {x : α} (h : l[i]? = some x) : l.set i x = l := by
  obtain ⟨hi, rfl⟩ := List.getElem?_eq_some_iff.1 h
  exact List.set_getElem_self hi
theorem sameL_self (x : LetterV) : sameL x x = true := by simp [sameL]
theorem mWaiting_box {m : ModelV} {i : Nat} {b : List LetterV} (k : Int) : mWaiting ⟨m.Queues, m.Come, m.Boxes.set i b⟩ k = mWaiting m k := by simp [mWaiting, mClient]
theorem take_some {m : ModelV} {i j : Nat} {b : List LetterV} {x : LetterV} (h1 : i < m.Queues.length) (h2 : i < m.Come.length) (hb : m.Boxes[i]? = some b) (hx : b[j]? = some x) :
    mTake ⟨m.Queues, m.Come, m.Boxes.set i (b.drop j)⟩ (i : Int) = (⟨m.Queues, m.Come, m.Boxes.set i (b.drop (j + 1))⟩, x, true) := by
  obtain ⟨hj, rfl⟩ := List.getElem?_eq_some_iff.1 hx
  have hi := (List.getElem?_eq_some_iff.1 hb).1
  have hc : mClient ⟨m.Queues, m.Come, m.Boxes.set i (b.drop j)⟩ (i : Int) = true := by simp [mClient, h1, h2, hi]
  have hd : b.drop j = b[j] :: b.drop (j + 1) := List.drop_eq_getElem_cons hj
  rw [mTake, if_pos hc]
  simp only [Int.toNat_natCast]
  rw [List.getElem?_set_self hi, hd]
  simp only [List.set_set]
theorem take_none {m : ModelV} {i : Nat} {b : List LetterV} (h1 : i < m.Queues.length) (h2 : i < m.Come.length) (hb : m.Boxes[i]? = some b) :
    mTake ⟨m.Queues, m.Come, m.Boxes.set i (b.drop b.length)⟩ (i : Int) = (⟨m.Queues, m.Come, m.Boxes.set i (b.drop b.length)⟩, .zero, false) := by
  have hi := (List.getElem?_eq_some_iff.1 hb).1
  have hc : mClient ⟨m.Queues, m.Come, m.Boxes.set i (b.drop b.length)⟩ (i : Int) = true := by simp [mClient, h1, h2, hi]
  rw [mTake, if_pos hc]
  simp only [Int.toNat_natCast]
  rw [List.getElem?_set_self hi, List.drop_length]

set_option maxRecDepth 100000 in
theorem law_take (m : ModelV) (hm : okM m) (k : Int) :
    ACalls Try.prog 19 [aModel m, .d (.int .i64 k)] (fun r bs => r = .d (.bool true) ∧ bs = []) := by
  refine ACalls.of Try.func19 rfl (Nat.le_of_ble_eq_true rfl) ?_
  show Aw _ _ _ _ ⟨_, _⟩
  refine Aw.seq (Aw.region ?_)
  refine AL.u rfl rfl (B.bA (g := 0)) ?_
  refine AL.v rfl rfl (B.mA) ?_
  refine AL.nil (AThen.n (Aw.seq (Aw.seq (Aw.region ?_))))
  refine AL.v rfl rfl (B.call0 (k := 1) rfl en_shallot_shallotlaw23_live (llive) .nil) ?_
  refine AL.v rfl rfl (B.not rfl rfl rfl) ?_
  refine AL.nil (AThen.n ?_)
  refine Aw.cases (t := 15) rfl (fun hc0 => ?_) (fun hc0 => ?_)
  · refine Aw.condT rfl rfl (Aw.seq (Aw.region ?_))
    refine AL.v rfl rfl (B.mA) ?_
    refine AL.nil (AThen.n (Aw.ret (AThen.r (APost.r ?_))))
    refine Ret.all [] rfl (.cons (.t (.d _)) .nil) gs_nil (.refl _) (.d _) ⟨congrArg (fun b => AV.d (.bool b)) ?_, rfl⟩
    first | rfl | simp_all [sameL_self, mWaiting_box]
  refine Aw.condF rfl rfl (Aw.skip (AThen.n (Aw.seq (Aw.seq (Aw.region ?_)))))
  refine AL.v rfl rfl (B.lN ty_api_Model) ?_
  refine AL.v rfl rfl (B.call0 (k := 1) rfl en_shallot_shallotref23_Few (r23_few m hm) (.c .nil)) ?_
  refine AL.v rfl rfl (B.not rfl rfl rfl) ?_
  refine AL.v rfl rfl (B.mA) ?_
  refine AL.cases (t := 19) rfl (fun hg19 => ?_) (fun hg19 => ?_)
  · refine AL.off rfl rfl rfl rfl rfl (by decide) ?_
    refine AL.off rfl rfl rfl rfl rfl (by decide) ?_
    refine AL.v rfl rfl (B.pT) ?_
    refine AL.v rfl rfl (B.mA) ?_
    refine AL.off rfl rfl rfl rfl rfl (by decide) ?_
    refine AL.off rfl rfl rfl rfl rfl (by decide) ?_
    refine AL.off rfl rfl rfl rfl rfl (by decide) ?_
    refine AL.off rfl rfl rfl rfl rfl (by decide) ?_
    refine AL.off rfl rfl rfl rfl rfl (by decide) ?_
    refine AL.v rfl rfl (B.pT) ?_
    refine AL.v rfl rfl (B.mA) ?_
    refine AL.off rfl rfl rfl rfl rfl (by decide) ?_
    refine AL.off rfl rfl rfl rfl rfl (by decide) ?_
    refine AL.off rfl rfl rfl rfl rfl (by decide) ?_
    refine AL.off rfl rfl rfl rfl rfl (by decide) ?_
    refine AL.off rfl rfl rfl rfl rfl (by decide) ?_
    refine AL.v rfl rfl (B.pT) ?_
    refine AL.v rfl rfl (B.mA) ?_
    refine AL.off rfl rfl rfl rfl rfl (by decide) ?_
    refine AL.off rfl rfl rfl rfl rfl (by decide) ?_
    refine AL.off rfl rfl rfl rfl rfl (by decide) ?_
    refine AL.off rfl rfl rfl rfl rfl (by decide) ?_
    refine AL.off rfl rfl rfl rfl rfl (by decide) ?_
    refine AL.v rfl rfl (B.pT) ?_
    refine AL.nil (AThen.n ?_)
    refine Aw.condT rfl (rfl) ?_
    refine Aw.seq (Aw.region ?_)
    refine AL.v rfl rfl (B.mA) ?_
    refine AL.nil (AThen.n (Aw.ret (AThen.r (APost.r ?_))))
    refine Ret.all [] rfl (.cons (.t (.d _)) .nil) gs_nil (.refl _) (.d _) ⟨congrArg (fun b => AV.d (.bool b)) ?_, rfl⟩
    first | rfl | simp_all [sameL_self, mWaiting_box]
  refine AL.gv rfl rfl rfl rfl (B.mA) ?_
  refine AL.gv rfl rfl rfl rfl (B.cmp rfl rfl rfl rfl rfl) ?_
  refine AL.v rfl rfl (B.pF) ?_
  refine AL.v rfl rfl (B.mA) ?_
  refine AL.cases (t := 23) rfl (fun hg23 => ?_) (fun hg23 => ?_)
  · refine AL.off rfl rfl rfl rfl rfl (by decide) ?_
    refine AL.off rfl rfl rfl rfl rfl (by decide) ?_
    refine AL.off rfl rfl rfl rfl rfl (by decide) ?_
    refine AL.off rfl rfl rfl rfl rfl (by decide) ?_
    refine AL.off rfl rfl rfl rfl rfl (by decide) ?_
    refine AL.v rfl rfl (B.pT) ?_
    refine AL.v rfl rfl (B.mA) ?_
    refine AL.off rfl rfl rfl rfl rfl (by decide) ?_
    refine AL.off rfl rfl rfl rfl rfl (by decide) ?_
    refine AL.off rfl rfl rfl rfl rfl (by decide) ?_
    refine AL.off rfl rfl rfl rfl rfl (by decide) ?_
    refine AL.off rfl rfl rfl rfl rfl (by decide) ?_
    refine AL.v rfl rfl (B.pT) ?_
    refine AL.v rfl rfl (B.mA) ?_
    refine AL.off rfl rfl rfl rfl rfl (by decide) ?_
    refine AL.off rfl rfl rfl rfl rfl (by decide) ?_
    refine AL.off rfl rfl rfl rfl rfl (by decide) ?_
    refine AL.off rfl rfl rfl rfl rfl (by decide) ?_
    refine AL.off rfl rfl rfl rfl rfl (by decide) ?_
    refine AL.v rfl rfl (B.pT) ?_
    refine AL.nil (AThen.n ?_)
    refine Aw.condT rfl (rfl) ?_
    refine Aw.seq (Aw.region ?_)
    refine AL.v rfl rfl (B.mA) ?_
    refine AL.nil (AThen.n (Aw.ret (AThen.r (APost.r ?_))))
    refine Ret.all [] rfl (.cons (.t (.d _)) .nil) gs_nil (.refl _) (.d _) ⟨congrArg (fun b => AV.d (.bool b)) ?_, rfl⟩
    first | rfl | simp_all [sameL_self, mWaiting_box]
  refine AL.gv rfl rfl rfl rfl (B.mA) ?_
  refine AL.gv rfl rfl rfl rfl (B.fA fl_api_Model_2) ?_
  refine AL.gv rfl rfl rfl rfl (B.l1 ty_LLapi_Letter) ?_
  refine AL.gv rfl rfl rfl rfl (B.nA Try.underlying58) ?_
  refine AL.gv rfl rfl rfl rfl (B.cmp rfl rfl rfl rfl rfl) ?_
  refine AL.v rfl rfl (B.pF) ?_
  refine AL.v rfl rfl (B.mA) ?_
  refine AL.cases (t := 30) rfl (fun hg30 => ?_) (fun hg30 => ?_)
  · refine AL.off rfl rfl rfl rfl rfl (by decide) ?_
    refine AL.off rfl rfl rfl rfl rfl (by decide) ?_
    refine AL.off rfl rfl rfl rfl rfl (by decide) ?_
    refine AL.off rfl rfl rfl rfl rfl (by decide) ?_
    refine AL.off rfl rfl rfl rfl rfl (by decide) ?_
    refine AL.v rfl rfl (B.pT) ?_
    refine AL.v rfl rfl (B.mA) ?_
    refine AL.off rfl rfl rfl rfl rfl (by decide) ?_
    refine AL.off rfl rfl rfl rfl rfl (by decide) ?_
    refine AL.off rfl rfl rfl rfl rfl (by decide) ?_
    refine AL.off rfl rfl rfl rfl rfl (by decide) ?_
    refine AL.off rfl rfl rfl rfl rfl (by decide) ?_
    refine AL.v rfl rfl (B.pT) ?_
    refine AL.nil (AThen.n ?_)
    refine Aw.condT rfl (rfl) ?_
    refine Aw.seq (Aw.region ?_)
    refine AL.v rfl rfl (B.mA) ?_
    refine AL.nil (AThen.n (Aw.ret (AThen.r (APost.r ?_))))
    refine Ret.all [] rfl (.cons (.t (.d _)) .nil) gs_nil (.refl _) (.d _) ⟨congrArg (fun b => AV.d (.bool b)) ?_, rfl⟩
    first | rfl | simp_all [sameL_self, mWaiting_box]
  refine AL.gv rfl rfl rfl rfl (B.mA) ?_
  refine AL.gv rfl rfl rfl rfl (B.fA fl_api_Model_0) ?_
  refine AL.gv rfl rfl rfl rfl (B.l1 ty_Lapi_Queue) ?_
  refine AL.gv rfl rfl rfl rfl (B.nA Try.underlying56) ?_
  refine AL.gv rfl rfl rfl rfl (B.cmp rfl rfl rfl rfl rfl) ?_
  refine AL.v rfl rfl (B.pF) ?_
  refine AL.v rfl rfl (B.mA) ?_
  refine AL.cases (t := 37) rfl (fun hg37 => ?_) (fun hg37 => ?_)
  · refine AL.off rfl rfl rfl rfl rfl (by decide) ?_
    refine AL.off rfl rfl rfl rfl rfl (by decide) ?_
    refine AL.off rfl rfl rfl rfl rfl (by decide) ?_
    refine AL.off rfl rfl rfl rfl rfl (by decide) ?_
    refine AL.off rfl rfl rfl rfl rfl (by decide) ?_
    refine AL.v rfl rfl (B.pT) ?_
    refine AL.nil (AThen.n ?_)
    refine Aw.condT rfl (rfl) ?_
    refine Aw.seq (Aw.region ?_)
    refine AL.v rfl rfl (B.mA) ?_
    refine AL.nil (AThen.n (Aw.ret (AThen.r (APost.r ?_))))
    refine Ret.all [] rfl (.cons (.t (.d _)) .nil) gs_nil (.refl _) (.d _) ⟨congrArg (fun b => AV.d (.bool b)) ?_, rfl⟩
    first | rfl | simp_all [sameL_self, mWaiting_box]
  refine AL.gv rfl rfl rfl rfl (B.mA) ?_
  refine AL.gv rfl rfl rfl rfl (B.fA fl_api_Model_1) ?_
  refine AL.gv rfl rfl rfl rfl (B.l1 ty_Lint) ?_
  refine AL.gv rfl rfl rfl rfl (B.nA Try.underlying57) ?_
  refine AL.gv rfl rfl rfl rfl (B.cmp rfl rfl rfl rfl rfl) ?_
  refine AL.v rfl rfl (B.pF) ?_
  refine AL.nil (AThen.n ?_)
  refine Aw.cases (t := 43) rfl (fun hc1 => ?_) (fun hc1 => ?_)
  · refine Aw.condT rfl rfl (Aw.seq (Aw.region ?_))
    refine AL.v rfl rfl (B.mA) ?_
    refine AL.nil (AThen.n (Aw.ret (AThen.r (APost.r ?_))))
    refine Ret.all [] rfl (.cons (.t (.d _)) .nil) gs_nil (.refl _) (.d _) ⟨congrArg (fun b => AV.d (.bool b)) ?_, rfl⟩
    first | rfl | simp_all [sameL_self, mWaiting_box]
  obtain ⟨i, rfl⟩ : ∃ i : Nat, k = i := ⟨k.toNat, by simp at hg23; omega⟩
  have hi3 : i < m.Boxes.length := by simp at hg30; omega
  have hi1 : i < m.Queues.length := by simp at hg37; omega
  have hi2 : i < m.Come.length := by simp at hc1; omega
  obtain ⟨b, hb⟩ : ∃ b, m.Boxes[i]? = some b := ⟨_, List.getElem?_eq_getElem hi3⟩
  have hbo := hm.b b (List.mem_of_getElem? hb)
  refine Aw.condF rfl rfl (Aw.skip (AThen.n (Aw.seq (Aw.region ?_))))
  refine AL.v rfl rfl (B.lN ty_api_Model) ?_
  refine AL.u rfl rfl (B.aA (g := 1) zr_api_Model) ?_
  refine AL.s rfl rfl (B.sA ty_api_Model) ?_
  refine AL.nil (AThen.n (Aw.seq (Aw.seq (Aw.region ?_))))
  refine AL.v rfl rfl (B.fA fl_api_Model_2) ?_
  refine AL.v rfl rfl (B.l1 ty_LLapi_Letter) ?_
  refine AL.v rfl rfl (B.mA) ?_
  refine AL.v rfl rfl (B.idxView (i := i) rfl el_LLapi_Letter (by first | exact .view _ _ | exact .lent _ _) rfl rfl (map_at hb) rfl) ?_
  refine AL.v rfl rfl (B.l1 ty_Lapi_Letter) ?_
  refine AL.v rfl rfl (B.nA Try.underlying74) ?_
  refine AL.v rfl rfl (B.mA) ?_
  refine AL.nil (AThen.n (Aw.block ?_))
  refine Aw.move (σ' := ⟨(upd (upd (upd (upd (upd (upd (fun _ => AV.und) 51 (.d (.int .i64 (0 : Nat)))) 50 (.d (.int .i64 ((b.map eLetter).length : Nat)))) 49 (.d (.view 5 (b.map eLetter)))) 5 (.ptr 1 0 0)) 2 (.ptr 0 0 0)) 1 (.d (.int .i64 (i : Nat)))), blksOf [.var 60 [.d (.view 2 (m.Queues.map eQueue)), .d (.view 1 (m.Come.map eInt)), .d (.view 1 (m.Boxes.map eL_Letter))], .var 60 [.d (.view 2 (m.Queues.map eQueue)), .d (.view 1 (m.Come.map eInt)), .d (.view 1 ((m.Boxes).map eL_Letter))]]⟩) (Moved.mk' [] [0, 1] _ (fun g h => by simp at h) (loc_u (loc_u (loc_u (loc_u (loc_u (loc_u loc_und)))))) rfl (by decide) (by simp) (at_cons (.va) (at_cons (.va) at_nil))) ?_
  refine Aw.loop (fun n σ => ∃ (j : Nat) (bx : List (List LetterV)), j ≤ b.length ∧ n = b.length - j ∧ σ = ⟨(upd (upd (upd (upd (upd (upd (fun _ => AV.und) 51 (.d (.int .i64 (j : Nat)))) 50 (.d (.int .i64 ((b.map eLetter).length : Nat)))) 49 (.d (.view 5 (b.map eLetter)))) 5 (.ptr 1 0 0)) 2 (.ptr 0 0 0)) 1 (.d (.int .i64 (i : Nat)))), blksOf [.var 60 [.d (.view 2 (m.Queues.map eQueue)), .d (.view 1 (m.Come.map eInt)), .d (.view 1 (m.Boxes.map eL_Letter))], .var 60 [.d (.view 2 (m.Queues.map eQueue)), .d (.view 1 (m.Come.map eInt)), .d (.view 1 ((bx).map eL_Letter))]]⟩ ∧ bx = m.Boxes.set i (b.drop j)) (b.length) ⟨0, m.Boxes, Nat.zero_le _, rfl, rfl, (set_self hb).symm⟩ ?_
  rintro n σ ⟨j, bx, hj, rfl, rfl, hxj⟩
  subst hxj
  refine Aw.seq (Aw.region ?_)
  refine AL.v rfl rfl (B.cmp rfl rfl rfl rfl rfl) ?_
  refine AL.nil (AThen.n (Aw.seq ?_))
  refine Aw.cases (t := 52) rfl (fun hc2 => ?_) (fun hc2 => ?_)
  · refine Aw.condT rfl rfl (Aw.skip (AThen.n (Aw.seq (Aw.block (Aw.seq ?_)))))
    have hlt : j < b.length := by simpa using hc2
    obtain ⟨x, hx⟩ : ∃ x, b[j]? = some x := ⟨_, List.getElem?_eq_getElem hlt⟩
    refine Aw.region ?_
    refine AL.v rfl rfl (B.idxView (i := j) rfl el_Lapi_Letter (by first | exact .view _ _ | exact .lent _ _) rfl rfl (map_at hx) rfl) ?_
    refine AL.v rfl rfl (B.lN ty_api_Letter) ?_
    refine AL.u rfl rfl (B.aA (g := 2) zr_api_Letter) ?_
    refine AL.s rfl rfl (B.sA ty_api_Letter) ?_
    refine AL.nil (AThen.n (Aw.seq (Aw.region ?_)))
    refine AL.v rfl rfl (B.lN ty_api_Model) ?_
    refine AL.v rfl rfl (B.mA) ?_
    refine AL.v rfl rfl (B.call0 (k := 3) rfl en_shallot_model_Take (smodel_take' ⟨m.Queues, m.Come, m.Boxes.set i (b.drop j)⟩ (hm.withBox (hbo.drop j)) i (take_some hi1 hi2 hb hx)) (.c (.c .nil))) ?_
    refine AL.v rfl rfl (B.mA) ?_
    refine AL.v rfl rfl (B.xA) ?_
    refine AL.v rfl rfl (B.xA) ?_
    refine AL.v rfl rfl (B.xA) ?_
    refine AL.u rfl rfl (B.aA (g := 3) zr_api_Model) ?_
    refine AL.u rfl rfl (B.aA (g := 4) zr_api_Letter) ?_
    refine AL.s rfl rfl (B.sA ty_api_Model) ?_
    refine AL.s rfl rfl (B.sA ty_api_Letter) ?_
    refine AL.v rfl rfl (B.mA) ?_
    refine AL.nil (AThen.n (Aw.seq (Aw.seq (Aw.drawn' mixed ?_))))
    refine CD.v rfl rfl (B.mA) ?_
    refine CD.v rfl rfl (B.not rfl rfl rfl) ?_
    refine CD.v rfl rfl (B.mA) ?_
    refine CD.cases (t := 64) rfl (fun hg64 => ?_) (fun hg64 => ?_)
    · refine CD.off rfl rfl rfl rfl rfl (by decide) ?_
      refine CD.off rfl rfl rfl rfl rfl (by decide) ?_
      refine CD.off rfl rfl rfl rfl rfl (by decide) ?_
      refine CD.off rfl rfl rfl rfl rfl (by decide) ?_
      refine CD.v rfl rfl (B.pT) ?_
      refine CD.v rfl rfl (B.mA) ?_
      refine CD.off rfl rfl rfl rfl rfl (by decide) ?_
      refine CD.off rfl rfl rfl rfl rfl (by decide) ?_
      refine CD.off rfl rfl rfl rfl rfl (by decide) ?_
      refine CD.off rfl rfl rfl rfl rfl (by decide) ?_
      refine CD.off rfl rfl rfl rfl rfl (by decide) ?_
      refine CD.off rfl rfl rfl rfl rfl (by decide) ?_
      refine CD.off rfl rfl rfl rfl rfl (by decide) ?_
      refine CD.v rfl rfl (B.pT) ?_
      refine CD.nil (by kernel_rfl) ?_
      refine AThen.n ?_
      refine Aw.condT rfl (rfl) ?_
      refine Aw.seq (Aw.region ?_)
      refine AL.v rfl rfl (B.mA) ?_
      refine AL.nil (AThen.n (Aw.ret (AThen.r (AIn.r (AThen.r (AThen.r (AIn.r (AThen.r (APost.r ?_)))))))))
      refine Ret.all [] rfl (.cons (.t (.d _)) .nil) gs_nil (.refl _) (.d _) ⟨congrArg (fun b => AV.d (.bool b)) ?_, rfl⟩
      first | rfl | simp_all [sameL_self, mWaiting_box]
    refine CD.gv rfl rfl rfl rfl (B.lN ty_api_Letter) ?_
    refine CD.gv rfl rfl rfl rfl (B.lN ty_api_Letter) ?_
    refine CD.gv rfl rfl rfl rfl (B.call0 (k := 5) rfl en_shallot_shallotref10_Same (r10_same x x) (.c (.c .nil))) ?_
    refine CD.gv rfl rfl rfl rfl (B.not rfl rfl rfl) ?_
    refine CD.v rfl rfl (B.pF) ?_
    refine CD.v rfl rfl (B.mA) ?_
    refine CD.cases (t := 70) rfl (fun hg70 => ?_) (fun hg70 => ?_)
    · refine CD.off rfl rfl rfl rfl rfl (by decide) ?_
      refine CD.off rfl rfl rfl rfl rfl (by decide) ?_
      refine CD.off rfl rfl rfl rfl rfl (by decide) ?_
      refine CD.off rfl rfl rfl rfl rfl (by decide) ?_
      refine CD.off rfl rfl rfl rfl rfl (by decide) ?_
      refine CD.off rfl rfl rfl rfl rfl (by decide) ?_
      refine CD.off rfl rfl rfl rfl rfl (by decide) ?_
      refine CD.v rfl rfl (B.pT) ?_
      refine CD.nil (by kernel_rfl) ?_
      refine AThen.n ?_
      refine Aw.condT rfl (rfl) ?_
      refine Aw.seq (Aw.region ?_)
      refine AL.v rfl rfl (B.mA) ?_
      refine AL.nil (AThen.n (Aw.ret (AThen.r (AIn.r (AThen.r (AThen.r (AIn.r (AThen.r (APost.r ?_)))))))))
      refine Ret.all [] rfl (.cons (.t (.d _)) .nil) gs_nil (.refl _) (.d _) ⟨congrArg (fun b => AV.d (.bool b)) ?_, rfl⟩
      first | rfl | simp_all [sameL_self, mWaiting_box]
    refine CD.gv rfl rfl rfl rfl (B.lN ty_api_Model) ?_
    refine CD.gv rfl rfl rfl rfl (B.mA) ?_
    refine CD.gv rfl rfl rfl rfl (B.call0 (k := 5) rfl en_shallot_model_Waiting (smodel_waiting ⟨m.Queues, m.Come, m.Boxes.set i (b.drop (j + 1))⟩ i) (.c (.c .nil))) ?_
    refine CD.gv rfl rfl rfl rfl (B.lN ty_api_Model) ?_
    refine CD.gv rfl rfl rfl rfl (B.mA) ?_
    refine CD.gv rfl rfl rfl rfl (B.call0 (k := 5) rfl en_shallot_model_Waiting (smodel_waiting m i) (.c (.c .nil))) ?_
    refine CD.gv rfl rfl rfl rfl (B.cmp rfl rfl rfl rfl rfl) ?_
    refine CD.v rfl rfl (B.pF) ?_
    refine CD.nil (by kernel_rfl) ?_
    refine AThen.n ?_
    refine Aw.cases (t := 78) rfl (fun hc3 => ?_) (fun hc3 => ?_)
    · refine Aw.condT rfl rfl (Aw.seq (Aw.region ?_))
      refine AL.v rfl rfl (B.mA) ?_
      refine AL.nil (AThen.n (Aw.ret (AThen.r (AIn.r (AThen.r (AThen.r (AIn.r (AThen.r (APost.r ?_)))))))))
      refine Ret.all [] rfl (.cons (.t (.d _)) .nil) gs_nil (.refl _) (.d _) ⟨congrArg (fun b => AV.d (.bool b)) ?_, rfl⟩
      first | rfl | simp_all [sameL_self, mWaiting_box]
    refine Aw.condF rfl rfl (Aw.skip (AThen.n (Aw.region ?_)))
    refine AL.v rfl rfl (B.lN ty_api_Model) ?_
    refine AL.s rfl rfl (B.sA ty_api_Model) ?_
    refine AL.nil (AIn.n (AThen.n (Aw.region ?_)))
    refine AL.v rfl rfl (B.arith rfl rfl rfl (arith_add64 (by have := hbo.1; omega)) rfl) ?_
    refine AL.v rfl rfl (B.mA) ?_
    refine AL.move (σ' := ⟨(upd (upd (upd (upd (upd (upd (fun _ => AV.und) 51 (.d (.int .i64 ((j + 1) : Nat)))) 50 (.d (.int .i64 ((b.map eLetter).length : Nat)))) 49 (.d (.view 5 (b.map eLetter)))) 5 (.ptr 1 0 0)) 2 (.ptr 0 0 0)) 1 (.d (.int .i64 (i : Nat)))), blksOf [.var 60 [.d (.view 2 (m.Queues.map eQueue)), .d (.view 1 (m.Come.map eInt)), .d (.view 1 (m.Boxes.map eL_Letter))], .var 60 [.d (.view 2 (m.Queues.map eQueue)), .d (.view 1 (m.Come.map eInt)), .d (.view 1 (((m.Boxes.set i (b.drop (j + 1)))).map eL_Letter))]]⟩) (Moved.mk' [] [0, 1] _ (fun g h => by simp at h) (loc_u (loc_u (loc_u (loc_u (loc_u (loc_u loc_und)))))) rfl (by decide) (by simp) (at_cons (.va) (at_cons (.va) at_nil))) ?_
    refine AL.nil (AThen.n ?_)
    exact ⟨b.length - (j + 1), by omega, j + 1, (m.Boxes.set i (b.drop (j + 1))), by omega, rfl, rfl, rfl⟩
  refine Aw.condF rfl rfl (Aw.exit (AThen.e (AThen.e (AIn.e (AThen.n (Aw.seq ?_))))))
  have hj2 : j = b.length := by simp at hc2; omega
  subst hj2
  refine Aw.region ?_
  refine AL.v rfl rfl (B.lN ty_api_Model) ?_
  refine AL.v rfl rfl (B.mA) ?_
  refine AL.v rfl rfl (B.call0 (k := 2) rfl en_shallot_model_Take (smodel_take' ⟨m.Queues, m.Come, m.Boxes.set i (b.drop b.length)⟩ (hm.withBox (hbo.drop _)) i (take_none hi1 hi2 hb)) (.c (.c .nil))) ?_
  refine AL.v rfl rfl (B.mA) ?_
  refine AL.v rfl rfl (B.xA) ?_
  refine AL.v rfl rfl (B.xA) ?_
  refine AL.v rfl rfl (B.xA) ?_
  refine AL.u rfl rfl (B.aA (g := 2) zr_api_Model) ?_
  refine AL.u rfl rfl (B.aA (g := 3) zr_api_Letter) ?_
  refine AL.s rfl rfl (B.sA ty_api_Model) ?_
  refine AL.s rfl rfl (B.sA ty_api_Letter) ?_
  refine AL.v rfl rfl (B.mA) ?_
  refine AL.nil (AThen.n (Aw.seq (Aw.region ?_)))
  refine AL.v rfl rfl (B.mA) ?_
  refine AL.v rfl rfl (B.not rfl rfl rfl) ?_
  refine AL.v rfl rfl (B.mA) ?_
  refine AL.nil (AThen.n (Aw.ret (APost.r ?_)))
  refine Ret.all [] rfl (.cons (.t (.d _)) .nil) gs_nil (.refl _) (.d _) ⟨congrArg (fun b => AV.d (.bool b)) ?_, rfl⟩
  first | rfl | simp_all [sameL_self, mWaiting_box]

end Go.Proofs.Ytmkfpfnjimmmaaa
