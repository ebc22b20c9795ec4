import Derived.Test.YtjkbkhjalimebaaGreatDoorPAlike44
import Derived.Test.YtjkbkhjalimebaaGreatDoorPAlike43
import Derived.JoinedOf
import Derived.Test.YtjkbkhjalimebaaGreatDoorRows
namespace Go.Proofs.YtjkbkhjalimebaaGreatDoor
open Go.RowKit DoorU
set_option linter.unusedVariables false
namespace DoorU
theorem cb_its {l:List Itm} {n:Nat} (h:bkT (.sl tIt) l≤n):bdIts n l:=
  ⟨Nat.le_trans (bk_sl (T:=tIt) (fun x=>Nat.le_add_right 1 _) l) h,fun x hx=>by
    have h1:=bk_mem (T:=tIt) hx
    rw [bk_it] at h1
    have h3:x.2.1.length≤bkT tYs x.2.1:=bk_int (k:=.u8) x.2.1
    omega⟩
theorem cb_bs {l:List (List Int)} {n:Nat} (h:bkT (.sl tYs) l≤n):bdBs n l:=
  ⟨Nat.le_trans (bk_sl (T:=tYs) (fun x=>Nat.le_add_left 1 _) l) h,fun x hx=>by
    have h1:=bk_mem (T:=tYs) hx
    have h3:x.length≤bkT tYs x:=bk_int (k:=.u8) x
    omega⟩
theorem cb_po {p:Pos} {n:Nat} (h:bkT tPo p≤n):bdPo n p:=by
  rw [bk_po,bk_st] at h
  have h1:p.2.1.2.2.1.length≤bkT (.sl tI) p.2.1.2.2.1:=bk_int (k:=.i64) _
  have h2:p.2.2.1.length≤bkT (.sl tPe) p.2.2.1:=bk_sl (T:=tPe) (fun x=>Nat.le_add_right 1 _) _
  refine ⟨by omega,by omega,fun q hq=>?_⟩
  have h3:=bk_mem (T:=tPe) hq
  rw [bk_pe,bk_out,bk_in] at h3
  exact ⟨cb_its (by omega),cb_bs (by omega),cb_its (by omega)⟩
theorem bk_cl (x:Cli):bkT tCl x=1+(bkT tPo x.2.1+(bkT tQu x.2.2.1+(1+(bkT tYs x.2.2.2.2.1+(1+0))))):=rfl
theorem bk_qu (q:Que):bkT tQu q=1+(bkT (.sl tLe) q.2.1+0):=rfl
theorem bk_le (l:Let):bkT tLe l=1+(1+(1+(1+(bkT tYs l.2.2.2.2.1+0)))):=rfl
theorem okQw_of {q:Que} (g:okT tQu q) (b:bkT tQu q≤1048576):okQw q:=by
  rw [bk_qu] at b
  have h2:q.2.1.length≤bkT (.sl tLe) q.2.1:=bk_sl (T:=tLe) (fun x=>Nat.le_add_right 1 _) _
  refine ⟨⟨by omega,fun l hl=>?_⟩,fun l hl=>wf_u64 (g.2.1.2 l hl).2.2.2.1⟩
  have h3:=bk_mem (T:=tLe) hl
  rw [bk_le] at h3
  have h4:l.2.2.2.2.1.length≤bkT tYs l.2.2.2.2.1:=bk_int (k:=.u8) _
  show l.2.2.2.2.1.length≤_
  omega
theorem bdPo_up {p:Pos} {n m:Nat} (h:bdPo n p) (hm:n≤m):bdPo m p:=
  ⟨Nat.le_trans h.1 hm,Nat.le_trans h.2.1 hm,fun q hq=>⟨⟨Nat.le_trans (h.2.2 q hq).1.1 hm,fun x hx=>Nat.le_trans ((h.2.2 q hq).1.2 x hx) hm⟩,⟨Nat.le_trans (h.2.2 q hq).2.1.1 hm,fun x hx=>Nat.le_trans ((h.2.2 q hq).2.1.2 x hx) hm⟩,⟨Nat.le_trans (h.2.2 q hq).2.2.1 hm,fun x hx=>Nat.le_trans ((h.2.2 q hq).2.2.2 x hx) hm⟩⟩⟩
theorem okCl_of {x:Cli} (g:okT tCl x) (b:bkT tCl x≤1048576):okCl x:=by
  rw [bk_cl] at b
  refine ⟨bdPo_up (cb_po (n:=1048576) (by omega)) (by decide),okT_st g.2.1.2.1,fun q hq=>?_,okQw_of g.2.2.1 (by omega),okT_byt g.2.2.2.2.1⟩
  have hh:=g.2.1.2.2.1.2 q hq
  exact ⟨⟨fun x hx=>okT_byt (hh.2.1.2.1.2 x hx).2.1,fun x hx=>okT_byt (hh.2.1.2.2.1.2 x hx)⟩,fun x hx=>okT_byt (hh.2.2.1.2.1.2 x hx).2.1⟩
end DoorU
end Go.Proofs.YtjkbkhjalimebaaGreatDoor
namespace Go.Proofs.YtjkbkhjalimebaaGreatDoor
theorem facts_mk {P:Program} {f:FuncId} {fn:Func} {s:ChangeSpec} {c:OpenClaim}
    (h0:c.wf (OpenSpec.ofChange s)=true)
    (h1:laidOutB P=true)
    (h2:mapsRowed P=true)
    (h3:fn.params.all (P.readableRec ·)=true)
    (h4:namedTie P c.named s.vars=true)
    (h5:(c.stops==[])=true)
    (h6:(P.stops==[])=true)
    (h7:(c.knobs==[])=true)
    (h8:(P.stopKnobs==[])=true)
    (h9:(c.inPlace==P.inPlace f)=true)
    (h10:(c.unfollowed==P.unfollowed f)=true)
    (h11:(c.recurses==P.recurses f)=true)
    (h12:(c.named==P.varsNamed f)=true)
    (h13:(c.maps==(fn.params.toList++s.plain.varTypes P).any (P.mapsRec ·))=true)
    (h14:(c.ifaces==(fn.params.toList++s.plain.varTypes P).any (P.ifacesRec ·))=true)
    (h15:(c.mapsOut==P.mapsAmong fn.resultTypes.toList)=true)
    (h16:(c.loops==(fn.params.toList++s.plain.varTypes P).any (P.loopsFrom ·))=true)
    (h17:(c.wideKeys==(fn.params.toList++s.plain.varTypes P++fn.resultTypes.toList).any (P.wideKeysFrom ·))=true)
    (h18:s.vars.all (P.varReadable ·)=true)
    (h19:fn.resultTypes.all (fun t=>P.readableRec t&&decide (t < P.types.size))=true)
    (h20:(c.ifacesOut==fn.resultTypes.toList.any (P.ifacesRec ·))=true)
    (h21:(c.loopsOut==fn.resultTypes.toList.any (P.loopsFrom ·))=true)
    (h22:(c.plainKeys==P.plainKeys)=true)
    (h23:c.shortTexts.isNone=true)
    (h24:P.stopsHeard=true)
    (h25:P.mayEnter=true)
    (h26:(c.lifted==P.liftsFinal)=true)
    (h27:(P.make==some c.make)=true)
    (h28:(c.kinds==(if c.domain.isEmpty then [] else fn.params.toList.map fun t=>match P.underlying t with | some (.int k)=>some k | _=>none))=true)
    (h29:(c.pinned==c.pinnedBy)=true)
    (h30:(c.veiled==(fn.params.toList++s.plain.varTypes P++fn.resultTypes.toList).any (P.veiledRec ·))=true)
    (h31:c.veiledFits P fn.params.toList (fn.params.toList++s.plain.varTypes P++fn.resultTypes.toList)=true):joinedFacts P f fn s c=true:=by
  unfold joinedFacts
  exact (Bool.and_eq_true_iff.2 ⟨(Bool.and_eq_true_iff.2 ⟨(Bool.and_eq_true_iff.2 ⟨(Bool.and_eq_true_iff.2 ⟨(Bool.and_eq_true_iff.2 ⟨(Bool.and_eq_true_iff.2 ⟨(Bool.and_eq_true_iff.2 ⟨(Bool.and_eq_true_iff.2 ⟨(Bool.and_eq_true_iff.2 ⟨(Bool.and_eq_true_iff.2 ⟨(Bool.and_eq_true_iff.2 ⟨(Bool.and_eq_true_iff.2 ⟨(Bool.and_eq_true_iff.2 ⟨(Bool.and_eq_true_iff.2 ⟨(Bool.and_eq_true_iff.2 ⟨(Bool.and_eq_true_iff.2 ⟨(Bool.and_eq_true_iff.2 ⟨(Bool.and_eq_true_iff.2 ⟨(Bool.and_eq_true_iff.2 ⟨(Bool.and_eq_true_iff.2 ⟨(Bool.and_eq_true_iff.2 ⟨(Bool.and_eq_true_iff.2 ⟨(Bool.and_eq_true_iff.2 ⟨(Bool.and_eq_true_iff.2 ⟨(Bool.and_eq_true_iff.2 ⟨(Bool.and_eq_true_iff.2 ⟨(Bool.and_eq_true_iff.2 ⟨(Bool.and_eq_true_iff.2 ⟨(Bool.and_eq_true_iff.2 ⟨(Bool.and_eq_true_iff.2 ⟨(Bool.and_eq_true_iff.2 ⟨h0,h1⟩),h2⟩),h3⟩),h4⟩),h5⟩),h6⟩),h7⟩),h8⟩),h9⟩),h10⟩),h11⟩),h12⟩),h13⟩),h14⟩),h15⟩),h16⟩),h17⟩),h18⟩),h19⟩),h20⟩),h21⟩),h22⟩),h23⟩),h24⟩),h25⟩),h26⟩),h27⟩),h28⟩),h29⟩),h30⟩),h31⟩)
end Go.Proofs.YtjkbkhjalimebaaGreatDoor
namespace Go.Proofs.YtjkbkhjalimebaaGreatDoor
theorem cl_laidOut:laidOutB Tryz.prog=true:=by kernel_rfl
theorem cl_mapsRowed:mapsRowed Tryz.prog=true:=by kernel_rfl
theorem cl_plainKeys:(Rows.clientKeepsUptoRow.plainKeys==Tryz.prog.plainKeys)=true:=by kernel_rfl
theorem cl_stopsHeard:Tryz.prog.stopsHeard=true:=by kernel_rfl
theorem cl_mayEnter:Tryz.prog.mayEnter=true:=by kernel_rfl
theorem cl_liftsFinal:(Rows.clientKeepsUptoRow.lifted==Tryz.prog.liftsFinal)=true:=by kernel_rfl
theorem cl_make:(Tryz.prog.make==some Rows.clientKeepsUptoRow.make)=true:=by kernel_rfl
end Go.Proofs.YtjkbkhjalimebaaGreatDoor

