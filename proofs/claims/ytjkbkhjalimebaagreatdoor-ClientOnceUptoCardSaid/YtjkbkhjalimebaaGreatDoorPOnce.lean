/- shallotlaw18.ClientOnce: whatever the input (of a bulk of at most 2^20), the call returns true, and each argument reads as it did. No other condition. -/
import Derived.Test.YtjkbkhjalimebaaGreatDoorPOnce45
import Derived.Test.YtjkbkhjalimebaaGreatDoorRows
import Derived.Test.YtjkbkhjalimebaaGreatDoorCards
import Derived.Test.YtjkbkhjalimebaaGreatDoorTie
import Derived.WalkKit
import Derived.ProofKit
import Derived.OpenShut
import Derived.Deep.DeepHandedRow
import Derived.Lib.LaidTab

namespace Go.Proofs.YtjkbkhjalimebaaGreatDoor.clientOnce
open Go.ChangeShapes Go.WideShapes Go.ChangeAt Go.RowKit DoorU
set_option linter.unusedVariables false
theorem own:ownKnob Tryz.prog.godebug=none:=by kernel_rfl
theorem laidOut:laidOutB Tryz.prog=true:=cl_laidOut
noncomputable def laidWorld (os:Os):World:=
  { World.holding Tryz.prog os ⟨#[],#[],[]⟩ with heap:=(World.holding Tryz.prog os ⟨#[],#[],[]⟩).heap.modify 0 fun
      | .cells _ t frozen=>.cells (DoorU.tabL.map fun z=>Value.int .u32 z).toArray t frozen
      | o=>o }
theorem laid_met (os:Os):laidMet Tryz.prog Rows.clientOnceUptoRow.laid ((laidWorld os).forCall (fun _ _=>0) ⟨#[],#[.agg #[.slice none 0 0,.int .i64 0,.int .i64 0,.int .i64 0,.int .i64 0,.int .i64 0,.int .i64 0,.int .i64 0,.int .i64 0,.int .u64 0,.int .u64 0],.int .i64 0,.slice none 0 0,.slice none 0 0],[]⟩).memory:=
  laidMet_of_run' 8 (by kernel_rfl) (by kernel_rfl)
theorem reads (os:Os) {H:Type} (enc:TypeId×Value→H):∃ places,DataW.whole enc Tryz.prog ((laidWorld os).forCall (fun _ _=>0) ⟨#[],#[.agg #[.slice none 0 0,.int .i64 0,.int .i64 0,.int .i64 0,.int .i64 0,.int .i64 0,.int .i64 0,.int .i64 0,.int .i64 0,.int .u64 0,.int .u64 0],.int .i64 0,.slice none 0 0,.slice none 0 0],[]⟩).memory Tryz.f5.params.toList Rows.clientOnceSpec.vars false (#[.agg #[.slice none 0 0,.int .i64 0,.int .i64 0,.int .i64 0,.int .i64 0,.int .i64 0,.int .i64 0,.int .i64 0,.int .i64 0,.int .u64 0,.int .u64 0],.int .i64 0,.slice none 0 0,.slice none 0 0]:Array Value).toList 8=some ([.agg [.nil,.lit (.int .i64 0),.lit (.int .i64 0),.lit (.int .i64 0),.lit (.int .i64 0),.lit (.int .i64 0),.lit (.int .i64 0),.lit (.int .i64 0),.lit (.int .i64 0),.lit (.int .u64 0),.lit (.int .u64 0)],.lit (.int .i64 0),.nil,.nil],[],places):=
  ⟨[],by kernel_rfl⟩
set_option maxRecDepth 100000 in
theorem lifted (os:Os) (started:os.Started) (H:Type) (enc:TypeId×Value→H) (F:Stop.Interp):
    ReturnsInHanded {} Tryz.checked os 5 .any ((Rows.OpenSpec.upto Rows.clientOnceSpec).preRow enc Tryz.prog Tryz.f5 Rows.clientOnceUptoRow.domain false Rows.clientOnceUptoRow.laid) (((Rows.OpenSpec.upto Rows.clientOnceSpec).at F).post enc Tryz.prog Tryz.f5 false true false false):=by
  obtain ⟨places,hx⟩:=reads os enc
  refine returnsInHanded_of_row (C:=Tryz.checked) (s:=Rows.OpenSpec.upto Rows.clientOnceSpec) own started (by kernel_rfl) Tryz.func5
    (witness_row_at (enc:=enc) (C:=Tryz.checked) false (laidWorld os) #[.agg #[.slice none 0 0,.int .i64 0,.int .i64 0,.int .i64 0,.int .i64 0,.int .i64 0,.int .i64 0,.int .i64 0,.int .i64 0,.int .u64 0,.int .u64 0],.int .i64 0,.slice none 0 0,.slice none 0 0] rfl (by kernel_rfl) (by kernel_rfl) (by kernel_rfl)
      (OpenSpec.preRow_of_cond 8 hx (by kernel_rfl) (fun k hk=>by cases hk;kernel_rfl) (by kernel_rfl) (laid_met os))) ?_
  intro W base args ds gs before hval0 hW _ hcond hsz0 hlaid _ _
  have htab:TabIn W:=tabIn_of hlaid
  have hbulk:Rows.uptoBulkAll (ds++gs)≤1048576:=of_decide_eq_true (hcond _ rfl)
  have hval:∀ (j:Nat) t v,Tryz.f5.params[j]?=some t→args[j]?=some v→Value.okWide Tryz.prog W .any base t v:=hval0
  have hW':=hW
  obtain ⟨p,q,hA0,hV,rfl,hfz,hnd⟩:=hW
  have hA:DataW.TrodAll enc Tryz.prog W 0 (fun _=>true) true Tryz.f5.params.toList args.toList ds p:=hA0
  have hsz:(DataW.weightsEach Tryz.prog (Tryz.f5.params.toList++Rows.clientOnceSpec.plain.varTypes Tryz.prog) (ds++gs)).all (·≤reachBytes)=true:=hsz0
  rw [Tryz.params5] at hA hval hsz
  obtain ⟨v0,vs0,d0,ds0,p0,q0,hargs,rfl,rfl,h0,r0⟩:=trodAll_cons hA
  obtain ⟨v1,vs1,d1,ds1,p1,q1,rfl,rfl,rfl,h1,r1⟩:=trodAll_cons r0
  obtain ⟨v2,vs2,d2,ds2,p2,q2,rfl,rfl,rfl,h2,r2⟩:=trodAll_cons r1
  obtain ⟨v3,vs3,d3,ds3,p3,q3,rfl,rfl,rfl,h3,r3⟩:=trodAll_cons r2
  obtain ⟨rfl,rfl,rfl⟩:=trodAll_nil r3
  obtain rfl:args=#[v0,v1,v2,v3]:=by cases args;simp_all
  obtain ⟨rfl,rfl⟩:=trodVars_none hV
  have lt0:∀ x∈p0,x.block < W.heap.size:=by obtain ⟨m,hm⟩:=h0;exact DataW.trod_lt m _ _ _ hm
  have lt1:∀ x∈p1,x.block < W.heap.size:=by obtain ⟨m,hm⟩:=h1;exact DataW.trod_lt m _ _ _ hm
  have lt2:∀ x∈p2,x.block < W.heap.size:=by obtain ⟨m,hm⟩:=h2;exact DataW.trod_lt m _ _ _ hm
  have lt3:∀ x∈p3,x.block < W.heap.size:=by obtain ⟨m,hm⟩:=h3;exact DataW.trod_lt m _ _ _ hm
  have k0:=h0
  have z0:∀ k∈d0.weights Tryz.prog 25,k≤reachBytes:=fun k hk=>by simpa using List.all_eq_true.1 hsz k (DataW.weights_mem_each (j:=0) rfl rfl k hk)
  obtain ⟨x0,g0,b0⟩:=argU_agg (n:=24) (T:=tC) Tryz.underlying25 (by kernel_rfl) (hval 0 25 v0 rfl rfl) h0 z0
  have k1:=h1
  obtain ⟨a1,rfl,rfl,rfl,w1⟩:=open_int Tryz.underlying3 (hval 1 3 v1 rfl rfl) h1
  have k2:=h2
  have z2:∀ k∈d2.weights Tryz.prog 59,k≤reachBytes:=fun k hk=>by simpa using List.all_eq_true.1 hsz k (DataW.weights_mem_each (j:=2) rfl rfl k hk)
  obtain ⟨x2,g2,b2⟩:=argU_sl (n:=24) (T:=tSt) Tryz.underlying59 (by kernel_rfl) (hval 2 59 v2 rfl rfl) h2 z2
  have k3:=h3
  have z3:∀ k∈d3.weights Tryz.prog 60,k≤reachBytes:=fun k hk=>by simpa using List.all_eq_true.1 hsz k (DataW.weights_mem_each (j:=3) rfl rfl k hk)
  obtain ⟨x3,g3,b3⟩:=argU_sl (n:=24) (T:=tYs) Tryz.underlying60 (by kernel_rfl) (hval 3 60 v3 rfl rfl) h3 z3
  simp only [List.append_nil,Rows.uptoBulkAll] at hbulk
  clear hA0 hval0 hsz0
  refine (SC.law (vs:=[v0,.int .i64 a1,v2,v3]) sc_once rfl rfl (x0,a1,x2,x3,()) ⟨Nat.le_trans (bk_c x0) (Nat.le_trans g0.2 (by omega)),wf_u64 g0.1.2.2.2.2.2.2.2.2.2.2.1,fun s hs=>okT_st (g2.1.2 s hs),fun t ht=>okT_byt (g3.1.2 t ht)⟩ rfl htab rfl rfl rfl (atT_cons (b0 false _ _ _ _ _ _) (atT_cons (.d (.int _ _)) (atT_cons (b2 true _ _ _) (atT_cons (b3 true _ _ _) atT_nil))))).mono fun e W' ⟨he,bel⟩=>?_
  subst he
  exact ⟨_,rfl,_,_,_,[],_,[],hW',trodAll_mk1 (shut_bool Tryz.underlying4 _),(trodAll_cons_mk (Below.trod laidOut (by kernel_rfl) (of_decide_eq_true (by kernel_rfl)) k0 bel lt0) (trodAll_cons_mk (Below.trod laidOut (by kernel_rfl) (of_decide_eq_true (by kernel_rfl)) k1 bel lt1) (trodAll_cons_mk (Below.trod laidOut (by kernel_rfl) (of_decide_eq_true (by kernel_rfl)) k2 bel lt2) (trodAll_cons_mk (Below.trod laidOut (by kernel_rfl) (of_decide_eq_true (by kernel_rfl)) k3 bel lt3) trodAll_mk0)))),rfl,bel.frame _,fun h=>by cases h⟩
set_option maxRecDepth 100000
set_option maxHeartbeats 2000000
theorem closed:joinedFacts Tryz.prog 5 Tryz.f5 Rows.clientOnceSpec Rows.clientOnceUptoRow=true:=
  facts_mk (by as_aux_lemma=>kernel_rfl) cl_laidOut cl_mapsRowed (by as_aux_lemma=>kernel_rfl) (by as_aux_lemma=>kernel_rfl) (by as_aux_lemma=>kernel_rfl) (by as_aux_lemma=>kernel_rfl) (by as_aux_lemma=>kernel_rfl) (by as_aux_lemma=>kernel_rfl) (by as_aux_lemma=>kernel_rfl) (by as_aux_lemma=>kernel_rfl) (by as_aux_lemma=>kernel_rfl) (by as_aux_lemma=>kernel_rfl) (by as_aux_lemma=>kernel_rfl) (by as_aux_lemma=>kernel_rfl) (by as_aux_lemma=>kernel_rfl) (by as_aux_lemma=>kernel_rfl) (by as_aux_lemma=>kernel_rfl) (by as_aux_lemma=>kernel_rfl) (by as_aux_lemma=>kernel_rfl) (by as_aux_lemma=>kernel_rfl) (by as_aux_lemma=>kernel_rfl) cl_plainKeys (by as_aux_lemma=>kernel_rfl) cl_stopsHeard cl_mayEnter cl_liftsFinal cl_make (by as_aux_lemma=>kernel_rfl) (by as_aux_lemma=>kernel_rfl) (by as_aux_lemma=>kernel_rfl) (by as_aux_lemma=>kernel_rfl)
theorem saidUpto:Rows.ClientOnceUptoSaid:=
  OpenClaim.holds_of_cond 5 Tryz.f5 rfl rfl rfl rfl rfl rfl rfl ⟨rfl,rfl,rfl,rfl,rfl⟩ rfl rfl rfl rfl rfl (by kernel_rfl) Tryz.func5 closed
    (of_decide_eq_true (by kernel_rfl)) (by unfold Func.isWrapper;rw [if_neg (of_decide_eq_false (by kernel_rfl))];exact ⟨rfl,rfl⟩)
    (fun os started H enc _ F=>by rw [OpenClaim.pre_eq_preRow];exact lifted os started H enc F)
theorem plain (f : FuncId) (fn : Func) (hf : Tryz.pinned.checked.prog.funcNamed "shallot/shallotlaw18.ClientOnce" = some f) (hfn : Tryz.pinned.checked.prog.funcs[f]? = some fn) :
    false=Tryz.pinned.checked.prog.looks []∧∀ (j:Nat) t,fn.params[j]?=some t→Tryz.pinned.checked.prog.wantsStandIn t=false:=by
  obtain rfl : f = 5 := Option.some.inj ((show Tryz.prog.funcNamed "shallot/shallotlaw18.ClientOnce" = some 5 by kernel_rfl).symm.trans hf) |>.symm
  obtain rfl:fn=Tryz.f5:=(Option.some.inj (Tryz.func5.symm.trans hfn)).symm
  refine ⟨by kernel_rfl,fun j t ht=>?_⟩
  rw [Tryz.params5] at ht
  have hm:=Array.mem_of_getElem? ht
  have hm2:t=25∨t=3∨t=59∨t=60:=by simp at hm;rcases hm with rfl | rfl | rfl | rfl <;> simp
  rcases hm2 with rfl | rfl | rfl | rfl
  · exact (show Tryz.prog.wantsStandIn 25=false by kernel_rfl)
  · exact (show Tryz.prog.wantsStandIn 3=false by kernel_rfl)
  · exact (show Tryz.prog.wantsStandIn 59=false by kernel_rfl)
  · exact (show Tryz.prog.wantsStandIn 60=false by kernel_rfl)
theorem cardUpto:Rows.ClientOnceUptoCardSaid:=
  Claim7.holds_tied_plain_at .later [] _ _ _ _ saidUpto (fun _ h=>by cases h) (by kernel_rfl) (fun _ h=>by cases h) clientOnceUpto_row_tie rfl ⟨rfl,rfl⟩ (by kernel_rfl) rfl plain (by kernel_rfl)
#print axioms cardUpto
end Go.Proofs.YtjkbkhjalimebaaGreatDoor.clientOnce

