import Derived.Test.YtjkbkhjalimebaaGreatDoorPAlike38
import Derived.Deep.RegionWith
import Derived.Deep.DeepCutAuto
namespace Go.Proofs.YtjkbkhjalimebaaGreatDoor
open Go.RowKit DoorU
set_option linter.unusedVariables false
set_option linter.unusedSimpArgs false
set_option maxRecDepth 100000
set_option maxHeartbeats 1000000
abbrev tLe:Ty:=.pair .bool (.pair tI (.pair tI (.pair tW (.pair tYs .unit))))
abbrev tQu:Ty:=.pair tW (.pair (.sl tLe) .unit)
abbrev tCl:Ty:=.pair tI (.pair tPo (.pair tQu (.pair .bool (.pair tYs (.pair tW .unit)))))
abbrev Let:Type:=Bool×Int×Int×Int×List Int×Unit
abbrev Que:Type:=Int×List Let×Unit
abbrev Cli:Type:=Int×Pos×Que×Bool×List Int×Int×Unit
abbrev aLe:Sh:=.agg (shOf true tLe)
abbrev vLe:Sh:=.agg (shOf false tLe)
abbrev aQu:Sh:=.agg (shOf true tQu)
abbrev vQu:Sh:=.agg (shOf false tQu)
abbrev aCl:Sh:=.agg (shOf true tCl)
abbrev vCl:Sh:=.agg (shOf false tCl)
abbrev oLes:Sh:=.own tLe 42
namespace DoorU
def txt (l:Let):List Int:=l.2.2.2.2.1
def zLe:Let:=(false,0,0,0,[],())
def okQu (q:Que):Prop:=q.2.1.length≤1048576∧∀ l∈q.2.1,(txt l).length≤1048576
def qhF (q:Que):Let×Bool×Unit:=match q.2.1 with | l::_=>(l,true,()) | []=>(zLe,false,())
def qoF (q:Que) (s:Int):Que×Bool×Unit:=match q.2.1 with | l::r=>if l.2.2.2.1=s then ((q.1,r,()),true,()) else (q,false,()) | []=>(q,false,())
def mayF (n:Int):Bool:=decide (0≤n)&&decide (n < 8)
def lcF (l:Let):Int:=
  if l.1=true then (if l.2.1≠0∨l.2.2.1≠0∨l.2.2.2.1≠0∨0 < (txt l).length then 1 else 0)
  else if mayF l.2.1=false∨mayF l.2.2.1=false∨l.2.2.2.1=0 then 1 else if 64 < (txt l).length then 2 else 0
def nodeF (c:Cfg) (i:Int):Int:=bif decide (i < 0) then -1 else bif decide (c.2.2.2.1≤i) then -1 else i64 (i64 (1+serversF c)+i)
def onkF (c:Cfg) (n:Int):List Int:=madeF c 2 [n]
def secF (c:Cfg) (n:Int):List Int:=madeF c 3 [n]
def orF:List Int→Int
  | []=>0
  | x::r=>bif x != 0 then x else orF r
def sz1 (n:Nat):Int:=i64 (1+i64 (Int.tdiv n 64))
def fileE (t:List Int) (w:Int):Int:=if w < 1∨255 < w then 1 else if w < t.length then 2 else 0
def filR (t:List Int) (w:Int):List Int:=if fileE t w=0 then (w8 t.length::t)++List.replicate (w.toNat - t.length) 0 else []
end DoorU
def S_qnew:Spec:=⟨.pair nW .unit,.pair vQu .unit,fun _=>True,fun (x:Int×Unit)=>(((x.1,[],()),()):Que×Unit)⟩
def S_qcop:Spec:=⟨.pair aQu .unit,.pair (.agg (.pair nW (.pair oLes .unit))) .unit,fun (x:Que×Unit)=>okQu x.1,fun (x:Que×Unit)=>((x.1,()):Que×Unit)⟩
def A_qcop (x:Que×Unit):Nat→Option LA
  | 0=>some ⟨[14,3],[],.pair nI (.pair oLes .unit),fun (v:Int×List Let×Unit)=>0≤v.1∧v.1≤(x.1.2.1.length:Nat)∧v.2.1=x.1.2.1.take v.1.toNat,fun (v:Int×List Let×Unit)=>((x.1.2.1.length:Nat) - v.1).toNat⟩
  | _=>none
def S_qhead:Spec:=⟨.pair aQu .unit,.pair (.tup (.pair vLe (.pair .bool .unit))) .unit,fun (x:Que×Unit)=>okQu x.1,fun (x:Que×Unit)=>((qhF x.1,()):(Let×Bool×Unit)×Unit)⟩
def S_qpop:Spec:=⟨.pair aQu (.pair nW .unit),.pair (.tup (.pair vQu (.pair .bool .unit))) .unit,fun (x:Que×Int×Unit)=>okQu x.1,fun (x:Que×Int×Unit)=>((qoF x.1 x.2.1,()):(Que×Bool×Unit)×Unit)⟩
def S_lmay:Spec:=⟨.pair nI .unit,.pair .bool .unit,fun _=>True,fun (x:Int×Unit)=>((mayF x.1,()):Bool×Unit)⟩
def S_lchk:Spec:=⟨.pair aLe .unit,.pair nI .unit,fun _=>True,fun (x:Let×Unit)=>((lcF x.1,()):Int×Unit)⟩
def S_node:Spec:=⟨.pair aC (.pair nI .unit),.pair nI .unit,fun _=>True,fun (x:Cfg×Int×Unit)=>((nodeF x.1 x.2.1,()):Int×Unit)⟩
def S_isS:Spec:=⟨.pair aC (.pair nI .unit),.pair .bool .unit,fun _=>True,fun (x:Cfg×Int×Unit)=>((wit x.2.1 1 (serversF x.1),()):Bool×Unit)⟩
def S_onk:Spec:=⟨.pair aC (.pair nI .unit),.pair vY .unit,fun (x:Cfg×Int×Unit)=>x.1.1.length≤1000000000,fun (x:Cfg×Int×Unit)=>((onkF x.1 x.2.1,()):List Int×Unit)⟩
def S_sec:Spec:=⟨.pair aC (.pair nI .unit),.pair vY .unit,fun (x:Cfg×Int×Unit)=>x.1.1.length≤1000000000,fun (x:Cfg×Int×Unit)=>((secF x.1 x.2.1,()):List Int×Unit)⟩
def S_cor:Spec:=⟨.pair lI .unit,.pair nI .unit,fun (x:List Int×Unit)=>True,fun (x:List Int×Unit)=>((orF x.1,()):Int×Unit)⟩
def A_cor (x:List Int×Unit):Nat→Option LA
  | 0=>some ⟨[8],[],.pair nI .unit,fun (v:Int×Unit)=>0≤v.1∧v.1≤(x.1.length:Nat)∧orF (x.1.drop v.1.toNat)=orF x.1,fun (v:Int×Unit)=>((x.1.length:Nat) - v.1).toNat⟩
  | _=>none
def S_wfil:Spec:=⟨.pair lY (.pair nI .unit),.pair (.tup (.pair vY (.pair nI .unit))) .unit,fun _=>True,fun (x:List Int×Int×Unit)=>(((filR x.1 x.2.1,fileE x.1 x.2.1,()),()):(List Int×Int×Unit)×Unit)⟩
theorem vc_qnew:VC Tryz.prog Tryz.f41 (bodyOf Tryz.f41) S_qnew [] (fun _ _=>none)=(∀ (x:Int×Unit),True→
  ((x.fst,([]:List Let),()),())=((x.fst,([]:List Let),()),())):=by kernel_rfl
theorem en_qnew (us:Array Value) (u:World):(callFunc 41 us).run Tryz.prog u=.ok (.enter 41 us) u:=by kernel_rfl
theorem sc_qnew:SC Tryz.prog 41 S_qnew:=by
  refine SC.of Tryz.func41 (c:=bodyOf Tryz.f41) (by kernel_rfl) (by kernel_rfl) (fun x=>(by decide:(1:Nat)≤Tryz.f41.ntmps)) DOk.nil (Eq.mpr vc_qnew ?_)
  rintro x -
  rfl
theorem vc_qcop:VC Tryz.prog Tryz.f37 (bodyOf Tryz.f37) S_qcop [(28,S_scl)] A_qcop=(∀ (x:(Int×List (Bool×Int×Int×Int×List Int×Unit)×Unit)×Unit),okQu x.fst→
  List.length x.fst.snd.fst≤(9223372036854775807:Nat)→
  List.length x.fst.snd.fst≤(9223372036854775807:Nat)→
  (0:Int)≤(0:Int)∧(0:Int)≤IntKind.wrap IntKind.i64 ((↑(List.length x.fst.snd.fst):Int)+(1:Int))∧(56:Int)*IntKind.wrap IntKind.i64 ((↑(List.length x.fst.snd.fst):Int)+(1:Int))≤(281474976710656:Int)∧IntKind.wrap IntKind.i64 ((↑(List.length x.fst.snd.fst):Int)+(1:Int))≤(140737488351232:Int)∧(List.length x.fst.snd.fst≤(9223372036854775807:Nat)→
  ((0:Int)≤(0:Int)∧(0:Int)≤(↑(List.length x.fst.snd.fst):Int)∧[]=List.take (Int.toNat (0:Int)) x.fst.snd.fst)∧∀ (v:Int×List (Bool×Int×Int×Int×List Int×Unit)×Unit),(0:Int)≤v.fst∧v.fst≤(↑(List.length x.fst.snd.fst):Int)∧v.snd.fst=List.take (Int.toNat v.fst) x.fst.snd.fst→
  bif decide (v.fst < (↑(List.length x.fst.snd.fst):Int)) then (0:Int)≤v.fst∧v.fst < (↑(List.length x.fst.snd.fst):Int)∧∀ (c0:Bool×Int×Int×Int×List Int×Unit),x.fst.snd.fst[Int.toNat v.fst]?=some c0→
  List.length c0.snd.snd.snd.snd.fst≤(1000000000000:Nat)∧(List.length v.snd.fst+List.length [c0])*(56:Nat)≤(140737488351232:Nat)∧((0:Int)≤IntKind.wrap IntKind.i64 (v.fst+(1:Int))∧IntKind.wrap IntKind.i64 (v.fst+(1:Int))≤(↑(List.length x.fst.snd.fst):Int)∧v.snd.fst++[c0]=List.take (Int.toNat (IntKind.wrap IntKind.i64 (v.fst+(1:Int)))) x.fst.snd.fst)∧Int.toNat ((↑(List.length x.fst.snd.fst):Int) - IntKind.wrap IntKind.i64 (v.fst+(1:Int))) < Int.toNat ((↑(List.length x.fst.snd.fst):Int) - v.fst) else ((x.fst.fst,v.snd),())=x)):=by kernel_rfl
theorem en_qcop (us:Array Value) (u:World):(callFunc 37 us).run Tryz.prog u=.ok (.enter 37 us) u:=by kernel_rfl
theorem sc_qcop:SC Tryz.prog 37 S_qcop:=by
  refine SC.of Tryz.func37 (c:=bodyOf Tryz.f37) (by kernel_rfl) (by kernel_rfl) (fun x=>(by decide:(1:Nat)≤Tryz.f37.ntmps)) (DOk.cons sc_scl en_scl DOk.nil) (Eq.mpr vc_qcop ?_)
  rintro ⟨⟨nx,l,⟨⟩⟩,⟨⟩⟩ ⟨h1,h2⟩ - -
  dsimp only at h1 h2 ⊢
  have e1:IntKind.i64.wrap ((l.length:Int)+1)=(l.length:Int)+1:=IntWalk.i64_in _ (by omega)
  rw [e1]
  refine ⟨by decide,by omega,by omega,by omega,fun _=>⟨⟨by decide,by omega,rfl⟩,?_⟩⟩
  rintro ⟨i,b,⟨⟩⟩ ⟨h3,h4,h5⟩
  dsimp only at h3 h4 h5 ⊢
  subst h5
  by_cases hc:i < (l.length:Int)
  · rw [decide_eq_true hc,cond_true]
    refine ⟨h3,hc,fun c0 hc0=>?_⟩
    have e2:IntKind.i64.wrap (i+1)=i+1:=IntWalk.i64_in _ (by omega)
    have e3:(i+1).toNat=i.toNat+1:=by omega
    rw [e2,e3]
    have h6:=h2 c0 (List.mem_of_getElem? hc0)
    refine ⟨Nat.le_trans h6 (by decide),by simp only [List.length_append,List.length_take,List.length_cons,List.length_nil];omega,⟨by omega,by omega,?_⟩,by omega⟩
    rw [take_snoc hc0]
  · rw [decide_eq_false hc,cond_false]
    have:i.toNat=l.length:=by omega
    rw [this,List.take_length]
theorem vc_qhead:VC Tryz.prog Tryz.f9 (bodyOf Tryz.f9) S_qhead [(28,S_scl)] (fun _ _=>none)=(∀ (x:(Int×List (Bool×Int×Int×Int×List Int×Unit)×Unit)×Unit),okQu x.fst→
  List.length x.fst.snd.fst≤(9223372036854775807:Nat)→
  List.length x.fst.snd.fst≤(9223372036854775807:Nat)→
  bif (↑(List.length x.fst.snd.fst):Int)==(0:Int) then (((false,(0:Int),(0:Int),(0:Int),[],()),false,()),())=(qhF x.fst,()) else (0:Int)≤(0:Int)∧(0:Int) < (↑(List.length x.fst.snd.fst):Int)∧∀ (c0:Bool×Int×Int×Int×List Int×Unit),x.fst.snd.fst[(0:Nat)]?=some c0→
  List.length c0.snd.snd.snd.snd.fst≤(1000000000000:Nat)∧((c0,true,()),())=(qhF x.fst,())):=by kernel_rfl
theorem en_qhead (us:Array Value) (u:World):(callFunc 9 us).run Tryz.prog u=.ok (.enter 9 us) u:=by kernel_rfl
theorem sc_qhead:SC Tryz.prog 9 S_qhead:=by
  refine SC.of Tryz.func9 (c:=bodyOf Tryz.f9) (by kernel_rfl) (by kernel_rfl) (fun x=>(by decide:(1:Nat)≤Tryz.f9.ntmps)) (DOk.cons sc_scl en_scl DOk.nil) (Eq.mpr vc_qhead ?_)
  rintro ⟨⟨nx,l,⟨⟩⟩,⟨⟩⟩ h1 - -
  dsimp only at h1 ⊢
  cases l with
  | nil=>rfl
  | cons a r =>
    rw [beq_eq_false_iff_ne.2 (by rw [List.length_cons];omega),cond_false]
    refine ⟨by decide,by rw [List.length_cons];omega,fun c0 h0=>?_⟩
    obtain rfl:a=c0:=Option.some.inj h0
    exact ⟨Nat.le_trans (h1.2 a (List.mem_cons_self ..)) (by decide),rfl⟩
theorem vc_qpop:VC Tryz.prog Tryz.f14 (bodyOf Tryz.f14) S_qpop [(37,S_qcop)] (fun _ _=>none)=(∀ (x:(Int×List (Bool×Int×Int×Int×List Int×Unit)×Unit)×Int×Unit),okQu x.fst→
  List.length x.fst.snd.fst≤(9223372036854775807:Nat)→
  List.length x.fst.snd.fst≤(9223372036854775807:Nat)→
  bif (↑(List.length x.fst.snd.fst):Int)==(0:Int) then okQu x.fst∧((x.fst,false,()),())=(qoF x.fst x.snd.fst,()) else (0:Int)≤(0:Int)∧(0:Int) < (↑(List.length x.fst.snd.fst):Int)∧∀ (c0:Bool×Int×Int×Int×List Int×Unit),x.fst.snd.fst[(0:Nat)]?=some c0→
  bif c0.snd.snd.snd.fst != x.snd.fst then okQu x.fst∧((x.fst,false,()),())=(qoF x.fst x.snd.fst,()) else (0:Int)≤(1:Int)∧(1:Int)≤(↑(List.length x.fst.snd.fst):Int)∧(↑(List.length x.fst.snd.fst):Int)≤(↑(List.length x.fst.snd.fst):Int)∧okQu (x.fst.fst,List.take (Int.toNat (↑(List.length x.fst.snd.fst):Int) - (1:Nat)) (List.drop ((1:Nat)) x.fst.snd.fst),())∧(((x.fst.fst,List.take (Int.toNat (↑(List.length x.fst.snd.fst):Int) - (1:Nat)) (List.drop ((1:Nat)) x.fst.snd.fst),()),true,()),())=(qoF x.fst x.snd.fst,())):=by kernel_rfl
theorem en_qpop (us:Array Value) (u:World):(callFunc 14 us).run Tryz.prog u=.ok (.enter 14 us) u:=by kernel_rfl
theorem sc_qpop:SC Tryz.prog 14 S_qpop:=by
  refine SC.of Tryz.func14 (c:=bodyOf Tryz.f14) (by kernel_rfl) (by kernel_rfl) (fun x=>(by decide:(2:Nat)≤Tryz.f14.ntmps)) (DOk.cons sc_qcop en_qcop DOk.nil) (Eq.mpr vc_qpop ?_)
  rintro ⟨⟨nx,l,⟨⟩⟩,s,⟨⟩⟩ h1 - -
  dsimp only at h1 ⊢
  cases l with
  | nil=>exact ⟨h1,rfl⟩
  | cons a r =>
    rw [beq_eq_false_iff_ne.2 (by rw [List.length_cons];omega),cond_false]
    refine ⟨by decide,by rw [List.length_cons];omega,fun c0 h0=>?_⟩
    obtain rfl:a=c0:=Option.some.inj h0
    have e:List.take ((((a::r).length:Nat):Int).toNat - 1) (List.drop 1 (a::r))=r:=by
      rw [List.drop_succ_cons,List.drop_zero]
      exact List.take_of_length_le (by rw [List.length_cons];omega)
    by_cases c:a.2.2.2.1=s
    · rw [bneF c,cond_false,e]
      refine ⟨by decide,by rw [List.length_cons];omega,Int.le_refl _,⟨Nat.le_trans (Nat.le_succ _) h1.1,fun z hz=>h1.2 z (List.mem_cons_of_mem _ hz)⟩,?_⟩
      show _=((if a.2.2.2.1=s then _ else _),())
      rw [if_pos c]
    · rw [bneT c,cond_true]
      refine ⟨h1,?_⟩
      show _=((if a.2.2.2.1=s then _ else _),())
      rw [if_neg c]
theorem vc_lmay:VC Tryz.prog Tryz.f29 (bodyOf Tryz.f29) S_lmay [] (fun _ _=>none)=(∀ (x:Int×Unit),True→
  bif decide ((0:Int)≤x.fst) then (decide (x.fst < (8:Int)),())=(mayF x.fst,()) else (false,())=(mayF x.fst,())):=by kernel_rfl
theorem en_lmay (us:Array Value) (u:World):(callFunc 29 us).run Tryz.prog u=.ok (.enter 29 us) u:=by kernel_rfl
theorem sc_lmay:SC Tryz.prog 29 S_lmay:=by
  refine SC.of Tryz.func29 (c:=bodyOf Tryz.f29) (by kernel_rfl) (by kernel_rfl) (fun x=>(by decide:(1:Nat)≤Tryz.f29.ntmps)) DOk.nil (Eq.mpr vc_lmay ?_)
  rintro ⟨n,⟨⟩⟩ -
  dsimp only [mayF]
  cases decide (0≤n)
  · rfl
  · rfl
theorem vc_lchk:VC Tryz.prog Tryz.f10 (bodyOf Tryz.f10) S_lchk [(29,S_lmay)] (fun _ _=>none)=(∀ (x:(Bool×Int×Int×Int×List Int×Unit)×Unit),True→
  List.length x.fst.snd.snd.snd.snd.fst≤(9223372036854775807:Nat)→
  bif x.fst.fst then bif x.fst.snd.fst != (0:Int) then ((1:Int),())=(lcF x.fst,()) else bif x.fst.snd.snd.fst != (0:Int) then ((1:Int),())=(lcF x.fst,()) else bif x.fst.snd.snd.snd.fst != (0:Int) then ((1:Int),())=(lcF x.fst,()) else List.length x.fst.snd.snd.snd.snd.fst≤(9223372036854775807:Nat)→
  bif decide ((0:Int) < (↑(List.length x.fst.snd.snd.snd.snd.fst):Int)) then ((1:Int),())=(lcF x.fst,()) else ((0:Int),())=(lcF x.fst,()) else True∧bif !mayF x.fst.snd.fst then ((1:Int),())=(lcF x.fst,()) else True∧bif !mayF x.fst.snd.snd.fst then ((1:Int),())=(lcF x.fst,()) else bif x.fst.snd.snd.snd.fst==(0:Int) then ((1:Int),())=(lcF x.fst,()) else List.length x.fst.snd.snd.snd.snd.fst≤(9223372036854775807:Nat)→
  bif decide ((64:Int) < (↑(List.length x.fst.snd.snd.snd.snd.fst):Int)) then ((2:Int),())=(lcF x.fst,()) else ((0:Int),())=(lcF x.fst,())):=by kernel_rfl
theorem en_lchk (us:Array Value) (u:World):(callFunc 10 us).run Tryz.prog u=.ok (.enter 10 us) u:=by kernel_rfl
theorem sc_lchk:SC Tryz.prog 10 S_lchk:=by
  refine SC.of Tryz.func10 (c:=bodyOf Tryz.f10) (by kernel_rfl) (by kernel_rfl) (fun x=>(by decide:(1:Nat)≤Tryz.f10.ntmps)) (DOk.cons sc_lmay en_lmay DOk.nil) (Eq.mpr vc_lchk ?_)
  rintro ⟨⟨cv,fr,t,sq,x,⟨⟩⟩,⟨⟩⟩ - -
  dsimp only
  cases cv
  · rw [cond_false]
    have e:lcF (false,fr,t,sq,x,())=if mayF fr=false∨mayF t=false∨sq=0 then 1 else if 64 < x.length then 2 else 0:=if_neg (fun h=>by cases h)
    rw [e]
    refine ⟨trivial,?_⟩
    cases mayF fr
    · rfl
    rw [Bool.not_true,cond_false]
    refine ⟨trivial,?_⟩
    cases mayF t
    · rfl
    rw [Bool.not_true,cond_false]
    by_cases a:sq=0
    · rw [beq_iff_eq.2 a,cond_true,if_pos (.inr (.inr a))]
    rw [beq_eq_false_iff_ne.2 a,cond_false,if_neg (by rintro (h | h | h);cases h;cases h;exact a h)]
    intro _
    by_cases b:(64:Int) < (x.length:Int)
    · rw [decide_eq_true b,cond_true,if_pos (by omega)]
    · rw [decide_eq_false b,cond_false,if_neg (by omega)]
  · rw [cond_true]
    have e:lcF (true,fr,t,sq,x,())=if fr≠0∨t≠0∨sq≠0∨0 < x.length then 1 else 0:=if_pos rfl
    rw [e]
    by_cases a1:fr=0
    rotate_left 1
    · rw [bneT a1,cond_true,if_pos (.inl a1)]
    rw [bneF a1,cond_false]
    by_cases a2:t=0
    rotate_left 1
    · rw [bneT a2,cond_true,if_pos (.inr (.inl a2))]
    rw [bneF a2,cond_false]
    by_cases a3:sq=0
    rotate_left 1
    · rw [bneT a3,cond_true,if_pos (.inr (.inr (.inl a3)))]
    rw [bneF a3,cond_false]
    intro _
    by_cases b:(0:Int) < (x.length:Int)
    · rw [decide_eq_true b,cond_true,if_pos (.inr (.inr (.inr (by omega))))]
    · rw [decide_eq_false b,cond_false,if_neg]
      rintro (h | h | h | h)
      · exact h a1
      · exact h a2
      · exact h a3
      · omega
theorem vc_node:VC Tryz.prog Tryz.f18 (bodyOf Tryz.f18) S_node [(42,S_serv)] (fun _ _=>none)=(∀ (x:(List Int×Int×Int×Int×Int×Int×Int×Int×Int×Int×Int×Unit)×Int×Unit),True→
  List.length x.fst.fst≤(9223372036854775807:Nat)→
  bif decide (x.snd.fst < (0:Int)) then ((-1:Int),())=(nodeF x.fst x.snd.fst,()) else bif decide (x.fst.snd.snd.snd.fst≤x.snd.fst) then ((-1:Int),())=(nodeF x.fst x.snd.fst,()) else True∧(IntKind.wrap IntKind.i64 (IntKind.wrap IntKind.i64 ((1:Int)+serversF x.fst)+x.snd.fst),())=(nodeF x.fst x.snd.fst,())):=by kernel_rfl
theorem en_node (us:Array Value) (u:World):(callFunc 18 us).run Tryz.prog u=.ok (.enter 18 us) u:=by kernel_rfl
theorem sc_node:SC Tryz.prog 18 S_node:=by
  refine SC.of Tryz.func18 (c:=bodyOf Tryz.f18) (by kernel_rfl) (by kernel_rfl) (fun x=>(by decide:(2:Nat)≤Tryz.f18.ntmps)) (DOk.cons sc_serv en_serv DOk.nil) (Eq.mpr vc_node ?_)
  rintro ⟨c,i,⟨⟩⟩ - -
  dsimp only [nodeF]
  cases decide (i < 0)
  · cases decide (c.2.2.2.1≤i)
    · exact ⟨trivial,rfl⟩
    · rfl
  · rfl
theorem vc_isS:VC Tryz.prog Tryz.f20 (bodyOf Tryz.f20) S_isS [(42,S_serv),(43,S_kwit)] (fun _ _=>none)=(∀ (x:(List Int×Int×Int×Int×Int×Int×Int×Int×Int×Int×Int×Unit)×Int×Unit),True→
  List.length x.fst.fst≤(9223372036854775807:Nat)→
  True∧True∧(wit x.snd.fst (1:Int) (serversF x.fst),())=(wit x.snd.fst (1:Int) (serversF x.fst),())):=by kernel_rfl
theorem en_isS (us:Array Value) (u:World):(callFunc 20 us).run Tryz.prog u=.ok (.enter 20 us) u:=by kernel_rfl
theorem sc_isS:SC Tryz.prog 20 S_isS:=by
  refine SC.of Tryz.func20 (c:=bodyOf Tryz.f20) (by kernel_rfl) (by kernel_rfl) (fun x=>(by decide:(2:Nat)≤Tryz.f20.ntmps)) (DOk.cons sc_serv en_serv (DOk.cons sc_kwit en_kwit DOk.nil)) (Eq.mpr vc_isS ?_)
  rintro x - -
  exact ⟨trivial,trivial,rfl⟩
theorem vc_onk:VC Tryz.prog Tryz.f100 (bodyOf Tryz.f100) S_onk [(82,S_made)] (fun _ _=>none)=(∀ (x:(List Int×Int×Int×Int×Int×Int×Int×Int×Int×Int×Int×Unit)×Int×Unit),List.length x.fst.fst≤(1000000000:Nat)→
  List.length x.fst.fst≤(9223372036854775807:Nat)→
  (List.length x.fst.fst≤(1000000000:Nat)∧List.length [x.snd.fst]≤(1000:Nat))∧(madeF x.fst (2:Int) [x.snd.fst],())=(onkF x.fst x.snd.fst,())):=by kernel_rfl
theorem en_onk (us:Array Value) (u:World):(callFunc 100 us).run Tryz.prog u=.ok (.enter 100 us) u:=by kernel_rfl
theorem sc_onk:SC Tryz.prog 100 S_onk:=by
  refine SC.of Tryz.func100 (c:=bodyOf Tryz.f100) (by kernel_rfl) (by kernel_rfl) (fun x=>(by decide:(2:Nat)≤Tryz.f100.ntmps)) (DOk.cons sc_made en_made DOk.nil) (Eq.mpr vc_onk ?_)
  rintro ⟨c,n,⟨⟩⟩ h -
  exact ⟨⟨h,by show 1≤1000;decide⟩,rfl⟩
theorem vc_sec:VC Tryz.prog Tryz.f99 (bodyOf Tryz.f99) S_sec [(82,S_made)] (fun _ _=>none)=(∀ (x:(List Int×Int×Int×Int×Int×Int×Int×Int×Int×Int×Int×Unit)×Int×Unit),List.length x.fst.fst≤(1000000000:Nat)→
  List.length x.fst.fst≤(9223372036854775807:Nat)→
  (List.length x.fst.fst≤(1000000000:Nat)∧List.length [x.snd.fst]≤(1000:Nat))∧(madeF x.fst (3:Int) [x.snd.fst],())=(secF x.fst x.snd.fst,())):=by kernel_rfl
theorem en_sec (us:Array Value) (u:World):(callFunc 99 us).run Tryz.prog u=.ok (.enter 99 us) u:=by kernel_rfl
theorem sc_sec:SC Tryz.prog 99 S_sec:=by
  refine SC.of Tryz.func99 (c:=bodyOf Tryz.f99) (by kernel_rfl) (by kernel_rfl) (fun x=>(by decide:(2:Nat)≤Tryz.f99.ntmps)) (DOk.cons sc_made en_made DOk.nil) (Eq.mpr vc_sec ?_)
  rintro ⟨c,n,⟨⟩⟩ h -
  exact ⟨⟨h,by show 1≤1000;decide⟩,rfl⟩
theorem vc_cor:VC Tryz.prog Tryz.f126 (bodyOf Tryz.f126) S_cor [] A_cor=(∀ (x:List Int×Unit),True→
  List.length x.fst≤(9223372036854775807:Nat)→
  List.length x.fst≤(9223372036854775807:Nat)→
  ((0:Int)≤(0:Int)∧(0:Int)≤(↑(List.length x.fst):Int)∧orF (List.drop (Int.toNat (0:Int)) x.fst)=orF x.fst)∧∀ (v:Int×Unit),(0:Int)≤v.fst∧v.fst≤(↑(List.length x.fst):Int)∧orF (List.drop (Int.toNat v.fst) x.fst)=orF x.fst→
  bif decide (v.fst < (↑(List.length x.fst):Int)) then (0:Int)≤v.fst∧v.fst < (↑(List.length x.fst):Int)∧∀ (c0:Int),x.fst[Int.toNat v.fst]?=some c0→
  bif c0 != (0:Int) then (c0,())=(orF x.fst,()) else ((0:Int)≤IntKind.wrap IntKind.i64 (v.fst+(1:Int))∧IntKind.wrap IntKind.i64 (v.fst+(1:Int))≤(↑(List.length x.fst):Int)∧orF (List.drop (Int.toNat (IntKind.wrap IntKind.i64 (v.fst+(1:Int)))) x.fst)=orF x.fst)∧Int.toNat ((↑(List.length x.fst):Int) - IntKind.wrap IntKind.i64 (v.fst+(1:Int))) < Int.toNat ((↑(List.length x.fst):Int) - v.fst) else ((0:Int),())=(orF x.fst,())):=by kernel_rfl
theorem en_cor (us:Array Value) (u:World):(callFunc 126 us).run Tryz.prog u=.ok (.enter 126 us) u:=by kernel_rfl
theorem sc_cor:SC Tryz.prog 126 S_cor:=by
  refine SC.of Tryz.func126 (c:=bodyOf Tryz.f126) (by kernel_rfl) (by kernel_rfl) (fun x=>(by decide:(1:Nat)≤Tryz.f126.ntmps)) DOk.nil (Eq.mpr vc_cor ?_)
  rintro ⟨l,⟨⟩⟩ - h1 -
  dsimp only at h1 ⊢
  refine ⟨⟨Int.le_refl 0,by omega,rfl⟩,?_⟩
  rintro ⟨i,⟨⟩⟩ ⟨q0,q1,hg⟩
  dsimp only at q0 q1 hg ⊢
  by_cases hi:i < (l.length:Int)
  · have wi:IntKind.i64.wrap (i+1)=i+1:=IntWalk.i64_in _ (by omega)
    rw [decide_eq_true hi,cond_true,wi]
    refine ⟨q0,hi,fun c hc=>?_⟩
    rw [drop_of hc,orF] at hg
    by_cases e:c=0
    · rw [bneF e,cond_false] at hg ⊢
      exact ⟨⟨by omega,by omega,by rw [show (i+1).toNat=i.toNat+1 by omega];exact hg⟩,by omega⟩
    · rw [bneT e,cond_true] at hg ⊢
      rw [hg]
  · rw [decide_eq_false hi,cond_false,← hg,List.drop_eq_nil_of_le (by omega)]
    rfl
theorem vc_wfil:VC Tryz.prog Tryz.f125 (bodyOf Tryz.f125) S_wfil [] (fun _ _=>none)=(∀ (x:List Int×Int×Unit),True→
  List.length x.fst≤(9223372036854775807:Nat)→
  bif decide (x.snd.fst < (1:Int)) then (([],(1:Int),()),())=((filR x.fst x.snd.fst,fileE x.fst x.snd.fst,()),()) else bif decide ((255:Int) < x.snd.fst) then (([],(1:Int),()),())=((filR x.fst x.snd.fst,fileE x.fst x.snd.fst,()),()) else List.length x.fst≤(9223372036854775807:Nat)→
  bif decide (x.snd.fst < (↑(List.length x.fst):Int)) then (([],(2:Int),()),())=((filR x.fst x.snd.fst,fileE x.fst x.snd.fst,()),()) else (0:Int)≤IntKind.wrap IntKind.i64 ((1:Int)+x.snd.fst)∧IntKind.wrap IntKind.i64 ((1:Int)+x.snd.fst)≤IntKind.wrap IntKind.i64 ((1:Int)+x.snd.fst)∧(1:Int)*IntKind.wrap IntKind.i64 ((1:Int)+x.snd.fst)≤(281474976710656:Int)∧IntKind.wrap IntKind.i64 ((1:Int)+x.snd.fst)≤(140737488351232:Int)∧(List.length x.fst≤(9223372036854775807:Nat)→
  (0:Int)≤(0:Int)∧(0:Int) < (↑(List.length (List.replicate (Int.toNat (IntKind.wrap IntKind.i64 ((1:Int)+x.snd.fst))) (0:Int))):Int)∧(0:Nat) < List.length (List.replicate (Int.toNat (IntKind.wrap IntKind.i64 ((1:Int)+x.snd.fst))) (0:Int))∧∀ (x0:Int),(List.replicate (Int.toNat (IntKind.wrap IntKind.i64 ((1:Int)+x.snd.fst))) (0:Int))[(0:Nat)]?=some x0→
  (0:Int)≤(1:Int)∧(1:Int)≤(↑(List.length (List.set (List.replicate (Int.toNat (IntKind.wrap IntKind.i64 ((1:Int)+x.snd.fst))) (0:Int)) ((0:Nat)) (IntKind.wrap IntKind.u8 (↑(List.length x.fst):Int)))):Int)∧(↑(List.length (List.set (List.replicate (Int.toNat (IntKind.wrap IntKind.i64 ((1:Int)+x.snd.fst))) (0:Int)) ((0:Nat)) (IntKind.wrap IntKind.u8 (↑(List.length x.fst):Int)))):Int)≤(↑(List.length (List.set (List.replicate (Int.toNat (IntKind.wrap IntKind.i64 ((1:Int)+x.snd.fst))) (0:Int)) ((0:Nat)) (IntKind.wrap IntKind.u8 (↑(List.length x.fst):Int)))):Int)∧(1:Nat)+(Int.toNat (↑(List.length (List.set (List.replicate (Int.toNat (IntKind.wrap IntKind.i64 ((1:Int)+x.snd.fst))) (0:Int)) ((0:Nat)) (IntKind.wrap IntKind.u8 (↑(List.length x.fst):Int)))):Int) - (1:Nat))≤List.length (List.set (List.replicate (Int.toNat (IntKind.wrap IntKind.i64 ((1:Int)+x.snd.fst))) (0:Int)) ((0:Nat)) (IntKind.wrap IntKind.u8 (↑(List.length x.fst):Int)))∧((List.take ((1:Nat)) (List.set (List.replicate (Int.toNat (IntKind.wrap IntKind.i64 ((1:Int)+x.snd.fst))) (0:Int)) ((0:Nat)) (IntKind.wrap IntKind.u8 (↑(List.length x.fst):Int)))++List.take (min (Int.toNat (↑(List.length (List.set (List.replicate (Int.toNat (IntKind.wrap IntKind.i64 ((1:Int)+x.snd.fst))) (0:Int)) ((0:Nat)) (IntKind.wrap IntKind.u8 (↑(List.length x.fst):Int)))):Int) - (1:Nat)) (List.length x.fst)) x.fst++List.drop ((1:Nat)+min (Int.toNat (↑(List.length (List.set (List.replicate (Int.toNat (IntKind.wrap IntKind.i64 ((1:Int)+x.snd.fst))) (0:Int)) ((0:Nat)) (IntKind.wrap IntKind.u8 (↑(List.length x.fst):Int)))):Int) - (1:Nat)) (List.length x.fst)) (List.set (List.replicate (Int.toNat (IntKind.wrap IntKind.i64 ((1:Int)+x.snd.fst))) (0:Int)) ((0:Nat)) (IntKind.wrap IntKind.u8 (↑(List.length x.fst):Int))),(0:Int),()),())=((filR x.fst x.snd.fst,fileE x.fst x.snd.fst,()),()))):=by kernel_rfl
theorem en_wfil (us:Array Value) (u:World):(callFunc 125 us).run Tryz.prog u=.ok (.enter 125 us) u:=by kernel_rfl
theorem sc_wfil:SC Tryz.prog 125 S_wfil:=by
  refine SC.of Tryz.func125 (c:=bodyOf Tryz.f125) (by kernel_rfl) (by kernel_rfl) (fun x=>(by decide:(2:Nat)≤Tryz.f125.ntmps)) DOk.nil (Eq.mpr vc_wfil ?_)
  rintro ⟨t,w,⟨⟩⟩ - -
  dsimp only
  by_cases a1:w < 1
  · have hE:fileE t w=1:=by rw [fileE,if_pos (.inl a1)]
    rw [decide_eq_true a1,cond_true,hE,filR,if_neg (by rw [hE];decide)]
  rw [decide_eq_false a1,cond_false]
  by_cases a2:255 < w
  · have hE:fileE t w=1:=by rw [fileE,if_pos (.inr a2)]
    rw [decide_eq_true a2,cond_true,hE,filR,if_neg (by rw [hE];decide)]
  rw [decide_eq_false a2,cond_false]
  intro _
  by_cases a3:w < (t.length:Int)
  · have hE:fileE t w=2:=by rw [fileE,if_neg (by omega),if_pos a3]
    rw [decide_eq_true a3,cond_true,hE,filR,if_neg (by rw [hE];decide)]
  have hE:fileE t w=0:=by rw [fileE,if_neg (by omega),if_neg a3]
  rw [decide_eq_false a3,cond_false,hE,filR,if_pos hE]
  have w1:IntKind.i64.wrap (1+w)=1+w:=IntWalk.i64_in _ (by omega)
  rw [w1]
  generalize hR:List.replicate (1+w).toNat (0:Int)=R
  have hl:R.length=w.toNat+1:=by rw [← hR,List.length_replicate];omega
  refine ⟨by omega,Int.le_refl _,by omega,by omega,fun _=>⟨by decide,by omega,by omega,fun x0 _=>?_⟩⟩
  have hs:(R.set 0 (IntKind.u8.wrap (t.length:Int))).length=w.toNat+1:=by rw [List.length_set,hl]
  refine ⟨by decide,by omega,Int.le_refl _,by omega,?_⟩
  rw [hs]
  have e1:R=0::List.replicate w.toNat 0:=by rw [← hR,show (1+w).toNat=w.toNat+1 by omega,List.replicate_succ]
  rw [e1,List.set_cons_zero,show (((w.toNat+1:Nat):Int).toNat - 1)=w.toNat by omega,show min w.toNat t.length=t.length by omega]
  rw [List.take_length,show (1:Nat)+t.length=t.length+1 by omega,List.drop_succ_cons,List.drop_replicate]
  rfl
end Go.Proofs.YtjkbkhjalimebaaGreatDoor
namespace Go.Proofs.YtjkbkhjalimebaaGreatDoor
open Go.RowKit
theorem heap_setLast (w:World) (o o':Obj):({ w.alloc o with heap:=(w.alloc o).heap.setIfInBounds w.heap.size o' }:World)=w.alloc o':=by
  simp only [World.alloc]
  congr 1
  apply Array.ext
  · simp
  · intro i h1 h2
    rw [Array.getElem_setIfInBounds (by simpa using h1)]
    by_cases h:w.heap.size=i
    · subst h;simp
    · rw [if_neg h]
      simp only [Array.size_setIfInBounds,Array.size_push] at h1
      rw [Array.getElem_push_lt (by omega),Array.getElem_push_lt (by omega)]
theorem heap_last (w:World) (o:Obj):(w.alloc o).heap[w.heap.size]?=some o:=heap_alloc_new w o
theorem run_getObj_map' {P:Program} {w:World} {r:Nat} {es:Array MapEntry} {c:Nat} (h:w.heap[r]?=some (.map es c)):(getObj r).run P w=.ok (.map es c) w:=by
  simp only [getObj,Sem.run,h]
theorem run_setObj_map' {P:Program} {w:World} {r:Nat} {es:Array MapEntry} {c:Nat} {o:Obj} (h:w.heap[r]?=some (.map es c)):(setObj r o).run P w=.ok () { w with heap:=w.heap.setIfInBounds r o }:=by
  simp only [setObj,Sem.run,h]
theorem run_checkKey_int {P:Program} {w:World} {kt:TypeId} {ik:IntKind} {k:Int} {b:Bool} (n:Nat) (hk:P.underlying kt=some (.int ik)):(Instr.checkKey b (n+1) kt (.int ik k)).run P w=.ok () w:=by
  simp [Instr.checkKey,run_underlying hk,Sem.run_pure]
theorem run_findKey_int {P:Program} {w:World} {kt:TypeId} {ik:IntKind} {k:Int} {es:List MapEntry} {r:Option (Nat×Value)} (hk:P.underlying kt=some (.int ik)) (hf:Instr.findNow (.int ik) (.int ik k) es 0=some r):
    (Instr.findKey kt (.int ik k) es).run P w=.ok r w:=by
  simp [Instr.findKey,run_underlying hk,hf,Sem.run_pure]
theorem run_insert_last {P:Program} (w:World) (t kt et:TypeId) (ik:IntKind) (k:Int) (v:Value) (es:Array MapEntry) (c:Nat)
    (ht:P.underlying t=some (.map kt et)) (hk:P.underlying kt=some (.int ik)) (hf:Instr.findNow (.int ik) (.int ik k) es.toList 0=some none):
    (Instr.mapUpdate t (.map (some w.heap.size)) (.int ik k) v).run P (w.alloc (.map es c))=.ok () (w.alloc (.map (es.push { key:=.int ik k,val:=v,born:=c }) (c+1))):=by
  have h1:=run_checkKey_int (P:=P) (w:=w.alloc (.map es c)) (b:=false) (k:=k) 9999 hk
  have h2:=run_findKey_int (P:=P) (w:=w.alloc (.map es c)) hk hf
  have h3:=run_getObj_map' (P:=P) (heap_last w (.map es c))
  have h4:=fun o=>run_setObj_map' (P:=P) (o:=o) (heap_last w (.map es c))
  unfold Instr.mapUpdate
  simp only [Sem.run_bind,run_underlying ht,Result.andThen,h3,h1,h2,h4,heap_setLast]
theorem run_lookup_int {P:Program} (w:World) (t kt et:TypeId) (ik:IntKind) (k:Int) (r:Nat) (es:Array MapEntry) (c:Nat) (z:Value) (x:Option (Nat×Value))
    (ht:P.underlying t=some (.map kt et)) (hk:P.underlying kt=some (.int ik)) (hz:(zeroValue et).run P w=.ok z w) (hr:w.heap[r]?=some (.map es c))
    (hf:Instr.findNow (.int ik) (.int ik k) es.toList 0=some x):
    (Instr.lookup t (.map (some r)) (.int ik k) true).run P w=.ok (.tuple #[(x.map (·.2)).getD z,.bool x.isSome]) w:=by
  have h1:=run_checkKey_int (P:=P) (w:=w) (b:=es.isEmpty) (k:=k) 9999 hk
  have h2:=run_findKey_int (P:=P) (w:=w) hk hf
  have h3:=run_getObj_map' (P:=P) hr
  unfold Instr.lookup
  cases x with
  | none=>simp only [Sem.run_bind,run_underlying ht,Result.andThen,h3,h1,h2,hz,Sem.run_pure];rfl
  | some y=>simp only [Sem.run_bind,run_underlying ht,Result.andThen,h3,h1,h2,Sem.run_pure];rfl
theorem cell_lastAt (w:World) (cs:Array Value) (e:TypeId) {k j:Nat} {v:Value} (hk:k=w.heap.size) (hv:cs[j]?=some v):(w.alloc (.cells cs e)).cell? ⟨k,j,none⟩=some v:=by
  subst hk
  simp only [World.cell?,heap_alloc_new]
  simpa using hv
theorem cell_underAt {w:World} {o:Obj} {a:Addr} {v:Value} (h:w.cell? a=some v):(w.alloc o).cell? a=some v:=by
  have hlt:=World.block_lt_of_cell? _ _ h
  exact (World.cell?_of_block (w:=w) (Below.heap_alloc w o a.block hlt)).trans h
end Go.Proofs.YtjkbkhjalimebaaGreatDoor
namespace Go.Proofs.YtjkbkhjalimebaaGreatDoor
open Go.RowKit
def kindE (k a b:Int) (c:Nat):MapEntry:={ key:=.int .i64 k,val:=.agg #[.int .i64 a,.int .i64 b],born:=c }
def kindEs:Array MapEntry:=#[kindE 1 0 0 0,kindE 2 0 0 1,kindE 3 1 1 2,kindE 4 0 64 3,kindE 5 0 64 4,kindE 6 1 1 5,kindE 7 0 0 6]
theorem ins (w:World) (k a b:Int) (es:Array MapEntry) (c:Nat) (hf:Instr.findNow (.int .i64) (.int .i64 k) es.toList 0=some none):
    (Instr.mapUpdate 170 (.map (some w.heap.size)) (.int .i64 k) (.agg #[.int .i64 a,.int .i64 b])).run Tryz.prog (w.alloc (.map es c))=.ok () (w.alloc (.map (es.push (kindE k a b c)) (c+1))):=
  run_insert_last w _ _ _ _ k _ es c Tryz.underlying170 Tryz.underlying3 hf
set_option maxRecDepth 100000 in
set_option maxHeartbeats 400000 in
theorem kinds_any (w:World):Calls Tryz.prog 97 #[] w fun e w'=>e=.returned (.map (some w.heap.size))∧w'=w.alloc (.map kindEs 7):=by
  have hmm:=@run_makeMap Tryz.prog
  have h1:=ins w 1 0 0 #[] 0 rfl
  have h2:=ins w 2 0 0 #[kindE 1 0 0 0] 1 rfl
  have h3:=ins w 3 1 1 #[kindE 1 0 0 0,kindE 2 0 0 1] 2 rfl
  have h4:=ins w 4 0 64 #[kindE 1 0 0 0,kindE 2 0 0 1,kindE 3 1 1 2] 3 rfl
  have h5:=ins w 5 0 64 #[kindE 1 0 0 0,kindE 2 0 0 1,kindE 3 1 1 2,kindE 4 0 64 3] 4 rfl
  have h6:=ins w 6 1 1 #[kindE 1 0 0 0,kindE 2 0 0 1,kindE 3 1 1 2,kindE 4 0 64 3,kindE 5 0 64 4] 5 rfl
  have h7:=ins w 7 0 0 #[kindE 1 0 0 0,kindE 2 0 0 1,kindE 3 1 1 2,kindE 4 0 64 3,kindE 5 0 64 4,kindE 6 1 1 5] 6 rfl
  go_enter Tryz.func97,Tryz.ntmps97
  go_wp2
  go_ret
  exact ⟨rfl,rfl⟩
end Go.Proofs.YtjkbkhjalimebaaGreatDoor
namespace Go.Proofs.YtjkbkhjalimebaaGreatDoor
open Go.RowKit
def spanOf (k:Int):Int×Int×Bool:=
  if k=1 then (0,0,true) else if k=2 then (0,0,true) else if k=3 then (1,1,true) else if k=4 then (0,64,true) else if k=5 then (0,64,true) else if k=6 then (1,1,true) else if k=7 then (0,0,true) else (0,0,false)
def kindFound (k:Int):Option (Nat×Value):=
  if k=1 then some (0,.agg #[.int .i64 0,.int .i64 0]) else if k=2 then some (1,.agg #[.int .i64 0,.int .i64 0]) else if k=3 then some (2,.agg #[.int .i64 1,.int .i64 1]) else if k=4 then some (3,.agg #[.int .i64 0,.int .i64 64])
  else if k=5 then some (4,.agg #[.int .i64 0,.int .i64 64]) else if k=6 then some (5,.agg #[.int .i64 1,.int .i64 1]) else if k=7 then some (6,.agg #[.int .i64 0,.int .i64 0]) else none
theorem find_kind (k:Int):Instr.findNow (.int .i64) (.int .i64 k) kindEs.toList 0=some (kindFound k):=by
  unfold kindFound
  by_cases h1:k=1
  · subst h1;rfl
  by_cases h2:k=2
  · subst h2;rfl
  by_cases h3:k=3
  · subst h3;rfl
  by_cases h4:k=4
  · subst h4;rfl
  by_cases h5:k=5
  · subst h5;rfl
  by_cases h6:k=6
  · subst h6;rfl
  by_cases h7:k=7
  · subst h7;rfl
  have e1:(k==1)=false:=by simpa using h1
  have e2:(k==2)=false:=by simpa using h2
  have e3:(k==3)=false:=by simpa using h3
  have e4:(k==4)=false:=by simpa using h4
  have e5:(k==5)=false:=by simpa using h5
  have e6:(k==6)=false:=by simpa using h6
  have e7:(k==7)=false:=by simpa using h7
  simp [h1,h2,h3,h4,h5,h6,h7,e1,e2,e3,e4,e5,e6,e7,kindEs,kindE,Instr.findNow,Instr.sameNow]
theorem zero_span (w:World):(zeroValue 168).run Tryz.prog w=.ok (.agg #[.int .i64 0,.int .i64 0]) w:=by kernel_rfl
theorem look_kind (w:World) (k:Int) (r:Nat) (h:w.heap[r]?=some (.map kindEs 7)):
    (Instr.lookup 170 (.map (some r)) (.int .i64 k) true).run Tryz.prog w=.ok (.tuple #[.agg #[.int .i64 (spanOf k).1,.int .i64 (spanOf k).2.1],.bool (spanOf k).2.2]) w:=by
  rw [run_lookup_int w _ _ _ _ k r kindEs 7 _ _ Tryz.underlying170 Tryz.underlying3 (zero_span w) h (find_kind k)]
  unfold kindFound spanOf
  (repeat' split) <;> rfl
theorem ret_int {k:IntKind} {a b:Int} (h:a=b):Ending.returned (.int k a)=.returned (.int k b):=by rw [h]
def noteE {α:Type} (kind hop:Int) (back:Bool) (pp:List (List α)):Int:=
  if (spanOf kind).2.2=false∨(pp.length:Int) < (spanOf kind).1∨(spanOf kind).2.1 < pp.length then 1
  else if (kind=7∧(hop < 0∨7 < hop))∨(kind≠7∧(hop≠0∨back=true)) then 1
  else if ∃ l∈pp,1024 < l.length then 2 else 0
def Looked (kind hop:Int) (back:Bool) (pa:Option Addr) (pn pc:Nat) (w:World) (s3 s4:Value) (wx:World):Prop:=
  ∃ g : Nat, s3 = .pointer (some ⟨g, 0, none⟩) ∧ s4 = .bool (spanOf kind).2.2 ∧ wx.cell? ⟨g, 0, none⟩ = some (.int .i64 (spanOf kind).1) ∧ wx.cell? ⟨g, 1, none⟩ = some (.int .i64 (spanOf kind).2.1) ∧
    Below (w.heap.size+1) (w.alloc (.cells #[.int .i64 kind,.slice pa pn pc,.int .i64 hop,.bool back] 83)) wx
set_option maxRecDepth 100000 in
set_option maxHeartbeats 1600000 in
theorem ncheck_any {kind hop:Int} {back:Bool} {pa:Option Addr} {pn pc:Nat} {pp:List (List Value)} {w:World} (hp:PartsV w pa pn pc pp):
    Calls Tryz.prog 61 #[.agg #[.int .i64 kind,.slice pa pn pc,.int .i64 hop,.bool back]] w fun e w'=>e=.returned (.int .i64 (noteE kind hop back pp))∧Below w.heap.size w w':=by
  obtain ⟨W0,hW0⟩:∃ W0,W0=w.alloc (.cells #[.int .i64 kind,.slice pa pn pc,.int .i64 hop,.bool back] 83):=⟨_,rfl⟩
  have hs0:W0.heap.size=w.heap.size+1:=by rw [hW0];simp
  have hl1:=look_kind (W0.alloc (.map kindEs 7)).drew kind (w.heap.size+1) (by rw [← hs0];exact heap_last _ _)
  have hl2:=look_kind ((W0.alloc (.map kindEs 7)).alloc (.cells #[.int .i64 0,.int .i64 0] 168)).drew kind (w.heap.size+1) (by rw [← hs0];exact (Below.heap_alloc _ _ _ (by simp)).trans (heap_last _ _))
  have hl3:=look_kind ((W0.alloc (.cells #[.int .i64 0,.int .i64 0] 168)).alloc (.map kindEs 7)).drew kind (w.heap.size+1+1) (by rw [← hs0];have:=heap_last (W0.alloc (.cells #[.int .i64 0,.int .i64 0] 168)) (.map kindEs 7);simp only [World.size_alloc] at this;exact this)
  rw [hW0] at hl1 hl2 hl3
  clear hW0 hs0
  have hmx:=hp.le_i64
  go_enter Tryz.func61,Tryz.ntmps61
  go_upto_region 1 with fail
  go_cut [3,4] (fun s3 s4 wx=>Looked kind hop back pa pn pc w s3 s4 wx)
  case first=>
    go_region_with (go_at_call 97;refine (kinds_any _).mono ?_;rintro e w1 ⟨rfl,rfl⟩)
    all_goals
      clear hl1 hl2 hl3
      go_wp2_with fail
      go_meet
      exact ⟨_,rfl,rfl,by first | exact cell_lastAt _ _ _ (by simp) rfl | exact cell_underAt (cell_lastAt _ _ _ (by simp) rfl),by first | exact cell_lastAt _ _ _ (by simp) rfl | exact cell_underAt (cell_lastAt _ _ _ (by simp) rfl),by repeat (first | exact Below.refl _ _ | refine Below.drew ?_ | refine Below.alloc ?_ (by simp) _ | refine Below.setCell ?_ (by simp) _)⟩
  case rest=>
    clear hl1 hl2 hl3
    obtain ⟨g,rfl,rfl,hg0,hg1,hbx⟩:=hcut
    have hb:Below w.heap.size w wc:=((Below.refl w.heap.size w).alloc (Nat.le_refl _) _).trans (hbx.mono (by omega))
    have HP:=Lib.hid (hp.keep hb)
    have hc0:wc.cell? ⟨w.heap.size,0,none⟩=some (.int .i64 kind):=(hbx.cell (p:=⟨w.heap.size,0,none⟩) (Nat.lt_succ_self _)).trans (cell_lastAt _ _ _ rfl rfl)
    have hc1:wc.cell? ⟨w.heap.size,1,none⟩=some (.slice pa pn pc):=(hbx.cell (p:=⟨w.heap.size,1,none⟩) (Nat.lt_succ_self _)).trans (cell_lastAt _ _ _ rfl rfl)
    have hc2:wc.cell? ⟨w.heap.size,2,none⟩=some (.int .i64 hop):=(hbx.cell (p:=⟨w.heap.size,2,none⟩) (Nat.lt_succ_self _)).trans (cell_lastAt _ _ _ rfl rfl)
    have hc3:wc.cell? ⟨w.heap.size,3,none⟩=some (.bool back):=(hbx.cell (p:=⟨w.heap.size,3,none⟩) (Nat.lt_succ_self _)).trans (cell_lastAt _ _ _ rfl rfl)
    have HE:Hid (noteE kind hop back pp=if (spanOf kind).2.2=false∨(pn:Int) < (spanOf kind).1∨(spanOf kind).2.1 < pn then 1
        else if (kind=7∧(hop < 0∨7 < hop))∨(kind≠7∧(hop≠0∨back=true)) then 1
        else if ∃ l∈pp,1024 < l.length then 2 else 0):=by show _=_;rw [noteE,HP.out.len]
    clear hp hbx
    generalize spanOf kind=s at*
    obtain ⟨lo,hi,ok⟩:=s
    dsimp only at hg0 hg1 ⊢
    cases ok with
    | false =>
      go_wp2
      go_ret
      exact ⟨ret_int (by rw [HE.out,if_pos (.inl (by first | rfl | trivial))]),hb⟩
    | true=>
    by_cases h1:(pn:Int) < lo
    · go_wp2
      go_ret
      exact ⟨ret_int (by rw [HE.out,if_pos (.inr (.inl h1))]),hb⟩
    by_cases h2:hi < (pn:Int)
    · go_wp2
      go_ret
      exact ⟨ret_int (by rw [HE.out,if_pos (.inr (.inr h2))]),hb⟩
    have HE2:Hid (¬ (true=false∨(pn:Int) < lo∨hi < (pn:Int))):=by rintro (h | h | h);cases h;exact h1 h;exact h2 h
    by_cases h7:kind=7
    · subst h7
      by_cases h3:hop < 0
      · go_wp2
        go_ret
        exact ⟨ret_int (by rw [HE.out,if_neg HE2.out,if_pos (.inl ⟨(by first | rfl | trivial),.inl h3⟩)]),hb⟩
      by_cases h4:7 < hop
      · go_wp2
        go_ret
        exact ⟨ret_int (by rw [HE.out,if_neg HE2.out,if_pos (.inl ⟨(by first | rfl | trivial),.inr h4⟩)]),hb⟩
      have HE3:Hid (¬ ((((7:Int)=7)∧(hop < 0∨7 < hop))∨((7:Int)≠7∧(hop≠0∨back=true)))):=by
        rintro (⟨_,h | h⟩ | ⟨h,_⟩);exact h3 h;exact h4 h;exact h rfl
      have hlongE:Hid ((∃ l∈pp,1024 < l.length)→2=noteE 7 hop back pp):=fun h=>by rw [HE.out,if_neg HE2.out,if_neg HE3.out,if_pos h]
      have hokE:Hid ((∀ l∈pp,l.length≤1024)→0=noteE 7 hop back pp):=fun h=>by
        rw [HE.out,if_neg HE2.out,if_neg HE3.out,if_neg];rintro ⟨l,hl,h'⟩;have:=h l hl;omega
      go_wp2
      go_loop [53] (fun i=>∃ k:Nat,k≤pn∧i=.int .i64 k∧Hid (∀ l∈pp.take k,l.length≤1024)) (fun i=>pn - (intOf i).toNat)
      case atStart=>exact ⟨0,Nat.zero_le _,rfl,fun l hl=>by simp at hl⟩
      case round=>
        obtain ⟨k,hk,rfl,HA⟩:=hrel
        by_cases hlt:k < pn
        · obtain ⟨l,hl⟩:∃ l,pp[k]?=some l:=⟨_,List.getElem?_eq_getElem (by rw [HP.out.len];exact hlt)⟩
          obtain ⟨b,off,hpa,a',c',hc,hby⟩:=HP.out.part k l hl
          subst hpa
          have HT:=Lib.hid (take_snoc hl)
          have HM:=Lib.hid (List.mem_of_getElem? hl)
          have hml:=hby.1.le_i64.1
          clear hby hl
          by_cases hlong:1024 < l.length
          · go_wp2
            go_ret
            exact ⟨ret_int (hlongE.out ⟨l,HM.out,hlong⟩),hb⟩
          · go_wp2
            refine ⟨⟨k+1,by omega,by go_num,?_⟩,by simp [intOf];omega⟩
            intro x hx
            rw [HT.out] at hx
            rcases List.mem_append.1 hx with h | h
            · exact HA.out x h
            · have:x=l:=by simpa using h
              subst this
              omega
        · go_wp2
          go_ret
          refine ⟨ret_int (hokE.out fun l hl=>HA.out l ?_),hb⟩
          rw [List.take_of_length_le (by rw [HP.out.len];omega)]
          exact hl
    · have h7b:(kind==7)=false:=by simpa using h7
      by_cases h3:hop=0
      · subst h3
        cases back with
        | true =>
          clear h7
          go_wp2
          go_ret
          exact ⟨ret_int (by rw [HE.out,if_neg HE2.out,if_pos (.inr ⟨by simpa using h7b,.inr (by first | rfl | trivial)⟩)]),hb⟩
        | false=>
        have HE3:Hid (¬ ((kind=7∧((0:Int) < 0∨(7:Int) < 0))∨(kind≠7∧((0:Int)≠0∨false=true)))):=by
          rintro (⟨h,_⟩ | ⟨_,h | h⟩);exact h7 h;exact h rfl;cases h
        have hlongE:Hid ((∃ l∈pp,1024 < l.length)→2=noteE kind 0 false pp):=fun h=>by rw [HE.out,if_neg HE2.out,if_neg HE3.out,if_pos h]
        have hokE:Hid ((∀ l∈pp,l.length≤1024)→0=noteE kind 0 false pp):=fun h=>by
          rw [HE.out,if_neg HE2.out,if_neg HE3.out,if_neg];rintro ⟨l,hl,h'⟩;have:=h l hl;omega
        clear h7
        go_wp2
        go_loop [53] (fun i=>∃ k:Nat,k≤pn∧i=.int .i64 k∧Hid (∀ l∈pp.take k,l.length≤1024)) (fun i=>pn - (intOf i).toNat)
        case atStart=>exact ⟨0,Nat.zero_le _,rfl,fun l hl=>by simp at hl⟩
        case round=>
          obtain ⟨k,hk,rfl,HA⟩:=hrel
          by_cases hlt:k < pn
          · obtain ⟨l,hl⟩:∃ l,pp[k]?=some l:=⟨_,List.getElem?_eq_getElem (by rw [HP.out.len];exact hlt)⟩
            obtain ⟨b,off,hpa,a',c',hc,hby⟩:=HP.out.part k l hl
            subst hpa
            have HT:=Lib.hid (take_snoc hl)
            have HM:=Lib.hid (List.mem_of_getElem? hl)
            have hml:=hby.1.le_i64.1
            clear hby hl
            by_cases hlong:1024 < l.length
            · go_wp2
              go_ret
              exact ⟨ret_int (hlongE.out ⟨l,HM.out,hlong⟩),hb⟩
            · go_wp2
              refine ⟨⟨k+1,by omega,by go_num,?_⟩,by simp [intOf];omega⟩
              intro x hx
              rw [HT.out] at hx
              rcases List.mem_append.1 hx with h | h
              · exact HA.out x h
              · have:x=l:=by simpa using h
                subst this
                omega
          · go_wp2
            go_ret
            refine ⟨ret_int (hokE.out fun l hl=>HA.out l ?_),hb⟩
            rw [List.take_of_length_le (by rw [HP.out.len];omega)]
            exact hl
      · have h3b:(hop != 0)=true:=by simpa using h3
        go_wp2
        go_ret
        exact ⟨ret_int (by rw [HE.out,if_neg HE2.out,if_pos (.inr ⟨h7,.inl h3⟩)]),hb⟩
end Go.Proofs.YtjkbkhjalimebaaGreatDoor
namespace Go.Proofs.YtjkbkhjalimebaaGreatDoor
open Go.RowKit
abbrev tNo:Ty:=.pair tI (.pair (.sl tYs) (.pair tI (.pair .bool .unit)))
abbrev Nte:Type:=Int×List (List Int)×Int×Bool×Unit
abbrev aNo:Sh:=.agg (shOf true tNo)
namespace DoorU
def nkE (n:Nte):Int:=noteE n.1 n.2.2.1 n.2.2.2.1 n.2.1
end DoorU
open DoorU
theorem noteE_map (k hop:Int) (back:Bool) (pp:List (List Int)):noteE k hop back (pp.map fun l=>l.map (Value.int .u8))=noteE k hop back pp:=by
  unfold noteE
  rw [List.length_map]
  have e:(∃ l∈pp.map (fun l=>l.map (Value.int .u8)),1024 < l.length)↔∃ l∈pp,1024 < l.length:=by
    constructor
    · rintro ⟨l,h1,h2⟩
      obtain ⟨q,hq,rfl⟩:=List.mem_map.1 h1
      exact ⟨q,hq,by rwa [List.length_map] at h2⟩
    · rintro ⟨l,h1,h2⟩
      exact ⟨_,List.mem_map.2 ⟨l,h1,rfl⟩,by rwa [List.length_map]⟩
  by_cases h:∃ l∈pp,1024 < l.length
  · rw [if_pos h,if_pos (e.2 h)]
  · rw [if_neg h,if_neg (fun g=>h (e.1 g))]
def S_nchk:Spec:=⟨.pair aNo .unit,.pair nI .unit,fun _=>True,fun (x:Nte×Unit)=>((nkE x.1,()):Int×Unit)⟩
theorem sc_nchk:SC Tryz.prog 61 S_nchk:=
  SC.pure rfl (fun _=>rfl) (fun _=>rfl) fun x hx w U E vs hT hl hv=>by
    obtain ⟨⟨k,pp,hop,back,⟨⟩⟩,⟨⟩⟩:=x
    obtain ⟨v,rfl⟩:∃ v,vs=[v]:=by
      match vs,hl with
      | [v],_=>exact ⟨v,rfl⟩
    have h0:VA E w NoF U w.heap.size (.agg [.d (.int .i64 k),denV (fun _=>.free) (.view true tYs pp),.d (.int .i64 hop),.d (.bool back)]) v:=hv 0 _ v rfl rfl
    obtain ⟨a,n,cap,rfl,hp⟩:∃ a n cap,v=.agg #[.int .i64 k,.slice a n cap,.int .i64 hop,.bool back]∧PartsV w a n cap (pp.map fun l=>l.map (Value.int .u8)):=by
      cases h0 with
      | @agg _ us hl h =>
        match us,hl,h with
        | [u0, u1, u2, u3], _, h =>
          have a0:=h 0 _ _ rfl rfl
          have a1:=h 1 _ _ rfl rfl
          have a2:=h 2 _ _ rfl rfl
          have a3:=h 3 _ _ rfl rfl
          obtain ⟨a,n,cap,rfl,hp⟩:=parts_of a1
          cases a0 with
          | d a0 => cases a0; cases a2 with
            | d a2 => cases a2; cases a3 with
              | d a3=>cases a3;exact ⟨_,_,_,rfl,hp⟩
    refine (ncheck_any hp).mono ?_
    rintro e w' ⟨rfl,hb⟩
    refine ⟨_,rfl,hb,?_⟩
    exact Eq.mpr (congrArg (fun z:Int=>VA E w' NoF U w.heap.size (.d (.int .i64 (noteE k hop back pp))) (.int .i64 z)) (noteE_map k hop back pp)) (.d (.int _ _))
theorem en_nchk (us:Array Value) (u:World):(callFunc 61 us).run Tryz.prog u=.ok (.enter 61 us) u:=by kernel_rfl
end Go.Proofs.YtjkbkhjalimebaaGreatDoor
namespace Go.Proofs.YtjkbkhjalimebaaGreatDoor
open Go.RowKit DoorU
set_option linter.unusedVariables false
set_option linter.unusedSimpArgs false
set_option maxRecDepth 100000
set_option maxHeartbeats 1000000
namespace DoorU
def npP (l:List (List Int)):List Int:=l.flatMap fun p=>putR p.length 2++p
def npL (n:Nte):List Int:=([w8 n.1]++putR n.2.1.length 2++npP n.2.1)++(bif n.1==7 then [w8 n.2.2.1,bif n.2.2.2.1 then 1 else 0] else [])
def npF (n:Nte):List Int×Int×Unit:=bif nkE n==0 then (npL n,0,()) else ([],nkE n,())
def ncutF (b:List Int) (n:Int):List Int×List Int×Bool×Unit:=bif decide ((b.length:Int) < n) then ([],[],false,()) else (b.take n.toNat,b.drop n.toNat,true,())
def tnumF (b:List Int):Int×List Int×Bool×Unit:=bif decide ((b.length:Int) < 2) then (0,[],false,()) else (i64 (getR (b.take 2)),b.drop 2,true,())
def tpZ:List (List Int)×List Int×Bool×Unit:=([],[],false,())
def tpGo:Nat→List (List Int)→List Int→List (List Int)×List Int×Bool×Unit
  | 0,ps,r=>(ps,r,true,())
  | n + 1, ps, r => if (tnumF r).2.2.1 = false ∨ 1024 < (tnumF r).1 then tpZ
    else if ((tnumF r).2.1.length:Int) < (tnumF r).1 then tpZ
    else tpGo n (ps++[(tnumF r).2.1.take (tnumF r).1.toNat]) ((tnumF r).2.1.drop (tnumF r).1.toNat)
def tpF (b:List Int):List (List Int)×List Int×Bool×Unit:=if (tnumF b).2.2.1=false∨64 < (tnumF b).1 then tpZ else tpGo (tnumF b).1.toNat [] (tnumF b).2.1
def zNo:Nte:=(0,[],0,false,())
def ntN (b:List Int):Nte:=bif b.getD 0 0==7 then (7,(tpF (b.drop 1)).1,(tpF (b.drop 1)).2.1.getD 0 0,(tpF (b.drop 1)).2.1.getD 1 0==1,()) else (b.getD 0 0,(tpF (b.drop 1)).1,0,false,())
def ntE (b:List Int):Bool:=decide (1≤b.length)&&((tpF (b.drop 1)).2.2.1&&((bif b.getD 0 0==7 then (tpF (b.drop 1)).2.1.length==2&&decide ((tpF (b.drop 1)).2.1.getD 1 0≤1) else (tpF (b.drop 1)).2.1.length==0)&&nkE (ntN b)==0))
def ntF (b:List Int):Nte×Int×Unit:=bif ntE b then (ntN b,0,()) else (zNo,3,())
theorem u64_of {n:Int} (h0:0≤n) (h1:n < 18446744073709551616):IntKind.u64.wrap n=n:=by
  unfold IntKind.wrap
  simp only [IntKind.bits,IntKind.signed,Bool.false_and]
  show n % 18446744073709551616=n
  omega
theorem putR2_len (n:Int):(putR n 2).length≤2:=by
  unfold putR
  split
  · rw [putI_len];exact Nat.le_refl 2
  · exact Nat.zero_le _
theorem npP_len:∀ {l:List (List Int)},(∀ p∈l,p.length≤1024)→(npP l).length≤1026*l.length
  | [],_=>Nat.zero_le _
  | p :: l, h => by
    have h1:=npP_len (l:=l) fun q hq=>h q (List.mem_cons_of_mem _ hq)
    have h2:=h p (List.mem_cons_self ..)
    have h3:=putR2_len p.length
    show ((putR p.length 2++p)++npP l).length≤_
    rw [List.length_append,List.length_append,List.length_cons]
    omega
theorem npP_snoc {l:List (List Int)} {i:Nat} {c:List Int} (h:l[i]?=some c):npP (l.take (i+1))=npP (l.take i)++putR c.length 2++c:=by
  unfold npP
  rw [take_snoc h,List.flatMap_append,List.flatMap_cons,List.flatMap_nil,List.append_nil,List.append_assoc]
theorem span_le (k:Int):(spanOf k).2.1≤64:=by
  unfold spanOf
  (repeat' split) <;> decide
theorem nkE_0 {n:Nte} (h:nkE n=0):n.2.1.length≤64∧∀ p∈n.2.1,p.length≤1024:=by
  unfold nkE noteE at h
  split at h
  · cases h
  split at h
  · cases h
  split at h
  · cases h
  rename_i h1 _ h3
  refine ⟨?_,fun p hp=>?_⟩
  · have:=span_le n.1
    have:¬ (spanOf n.1).2.1 < (n.2.1.length:Nat):=fun g=>h1 (.inr (.inr g))
    omega
  · exact Nat.le_of_not_lt fun g=>h3 ⟨p,hp,g⟩
theorem tnum_bd {b:List Int} (hb:byt b):0≤(tnumF b).1∧(tnumF b).1 < 65536∧byt (tnumF b).2.1:=by
  unfold tnumF
  by_cases h:(b.length:Int) < 2
  · rw [decide_eq_true h,cond_true]
    exact ⟨Int.le_refl _,(by decide:(0:Int) < 65536),fun x hx=>(List.not_mem_nil hx).elim⟩
  · rw [decide_eq_false h,cond_false]
    have e:(b.take 2).length=2:=by rw [List.length_take];omega
    have g:=getI_bd (b.take 2) (byt_take hb 2)
    rw [e] at g
    have g2:getR (b.take 2)=getI (b.take 2):=by
      have ge:getE (b.take 2)=0:=by unfold getE;rw [e];rfl
      unfold getR
      rw [if_pos ge]
    dsimp only
    have g3:getI (b.take 2) < 65536:=g.2
    have w:i64 (getR (b.take 2))=getI (b.take 2):=by rw [g2];exact IntWalk.i64_in _ (by omega)
    rw [w]
    exact ⟨g.1,g3,byt_drop hb 2⟩
theorem ncut_f {b:List Int} {n:Int} (h:(b.length:Int) < n):ncutF b n=([],[],false,()):=by rw [ncutF,decide_eq_true h,cond_true]
theorem ncut_t {b:List Int} {n:Int} (h:¬ (b.length:Int) < n):ncutF b n=(b.take n.toNat,b.drop n.toNat,true,()):=by rw [ncutF,decide_eq_false h,cond_false]
theorem tpGo_byt:∀ (n:Nat) (ps:List (List Int)) (r:List Int),byt r→byt (tpGo n ps r).2.1
  | 0,_,_,h=>h
  | n + 1, ps, r, h => by
    rw [tpGo]
    split
    · exact fun x hx=>(List.not_mem_nil hx).elim
    split
    · exact fun x hx=>(List.not_mem_nil hx).elim
    · exact tpGo_byt n _ _ (byt_drop (tnum_bd h).2.2 _)
theorem tpF_byt {b:List Int} (h:byt b):byt (tpF b).2.1:=by
  unfold tpF
  split
  · exact fun x hx=>(List.not_mem_nil hx).elim
  · exact tpGo_byt _ _ _ (tnum_bd h).2.2
end DoorU
abbrev vNo:Sh:=.agg (shOf false tNo)
def S_num2:Spec:=⟨.pair nI .unit,.pair vY .unit,fun (x:Int×Unit)=>0≤x.1∧x.1 < 65536,fun (x:Int×Unit)=>((putR x.1 2,()):List Int×Unit)⟩
def S_nput:Spec:=⟨.pair aNo .unit,.pair (.tup (.pair vY (.pair nI .unit))) .unit,fun _=>True,fun (x:Nte×Unit)=>((npF x.1,()):(List Int×Int×Unit)×Unit)⟩
def A_nput (x:Nte×Unit):Nat→Option LA
  | 0=>some ⟨[26,5],[],.pair nI (.pair oY .unit),fun (v:Int×List Int×Unit)=>0≤v.1∧v.1≤(x.1.2.1.length:Nat)∧v.2.1=[w8 x.1.1]++putR x.1.2.1.length 2++npP (x.1.2.1.take v.1.toNat),fun (v:Int×List Int×Unit)=>((x.1.2.1.length:Nat) - v.1).toNat⟩
  | _=>none
def S_ncut:Spec:=⟨.pair vY (.pair nI .unit),.pair (.tup (.pair vY (.pair vY (.pair .bool .unit)))) .unit,fun (x:List Int×Int×Unit)=>0≤x.2.1,fun (x:List Int×Int×Unit)=>((ncutF x.1 x.2.1,()):(List Int×List Int×Bool×Unit)×Unit)⟩
def S_tnum:Spec:=⟨.pair vY .unit,.pair (.tup (.pair nI (.pair vY (.pair .bool .unit)))) .unit,fun (x:List Int×Unit)=>byt x.1,fun (x:List Int×Unit)=>((tnumF x.1,()):(Int×List Int×Bool×Unit)×Unit)⟩
def S_tpts:Spec:=⟨.pair vY .unit,.pair (.tup (.pair vYs (.pair vY (.pair .bool .unit)))) .unit,fun (x:List Int×Unit)=>byt x.1,fun (x:List Int×Unit)=>((tpF x.1,()):(List (List Int)×List Int×Bool×Unit)×Unit)⟩
def A_tpts (x:List Int×Unit):Nat→Option LA
  | 0=>some ⟨[21,2,3],[(2,tYs,22)],.pair nI (.pair oYs (.pair vY .unit)),fun (v:Int×List (List Int)×List Int×Unit)=>0≤v.1∧v.1≤(tnumF x.1).1∧v.2.1.length≤v.1.toNat∧byt v.2.2.1∧tpGo ((tnumF x.1).1 - v.1).toNat v.2.1 v.2.2.1=tpF x.1,fun (v:Int×List (List Int)×List Int×Unit)=>((tnumF x.1).1 - v.1).toNat⟩
  | _=>none
def S_ntake:Spec:=⟨.pair vY .unit,.pair (.tup (.pair vNo (.pair nI .unit))) .unit,fun (x:List Int×Unit)=>byt x.1,fun (x:List Int×Unit)=>((ntF x.1,()):(Nte×Int×Unit)×Unit)⟩
theorem vc_num2:VC Tryz.prog Tryz.f105 (bodyOf Tryz.f105) S_num2 [(123,S_put)] (fun _ _=>none)=(∀ (x:Int×Unit),(0:Int)≤x.fst∧x.fst < (65536:Int)→
  ((0:Int)≤IntKind.wrap IntKind.u64 x.fst∧IntKind.wrap IntKind.u64 x.fst < (18446744073709551616:Int))∧(putR (IntKind.wrap IntKind.u64 x.fst) (2:Int),())=(putR x.fst (2:Int),())):=by kernel_rfl
theorem en_num2 (us:Array Value) (u:World):(callFunc 105 us).run Tryz.prog u=.ok (.enter 105 us) u:=by kernel_rfl
theorem sc_num2:SC Tryz.prog 105 S_num2:=by
  refine SC.of Tryz.func105 (c:=bodyOf Tryz.f105) (by kernel_rfl) (by kernel_rfl) (fun x=>(by decide:(1:Nat)≤Tryz.f105.ntmps)) (DOk.cons sc_put en_put DOk.nil) (Eq.mpr vc_num2 ?_)
  rintro ⟨n,⟨⟩⟩ ⟨h0,h1⟩
  dsimp only at h0 h1 ⊢
  have w1:IntKind.u64.wrap n=n:=u64_of (by omega) (by omega)
  rw [w1]
  exact ⟨⟨h0,by omega⟩,rfl⟩
theorem vc_nput:VC Tryz.prog Tryz.f64 (bodyOf Tryz.f64) S_nput [(61,S_nchk),(105,S_num2)] A_nput=(∀ (x:(Int×List (List Int)×Int×Bool×Unit)×Unit),True→
  List.length x.fst.snd.fst≤(9223372036854775807:Nat)→
  True∧bif nkE x.fst != (0:Int) then (([],nkE x.fst,()),())=(npF x.fst,()) else ((0:Int)≤(↑(List.length x.fst.snd.fst):Int)∧(↑(List.length x.fst.snd.fst):Int) < (65536:Int))∧(List.length [IntKind.wrap IntKind.u8 x.fst.fst]+List.length (putR (↑(List.length x.fst.snd.fst):Int) (2:Int)))*(1:Nat)≤(140737488351232:Nat)∧(List.length x.fst.snd.fst≤(9223372036854775807:Nat)→
  ((0:Int)≤(0:Int)∧(0:Int)≤(↑(List.length x.fst.snd.fst):Int)∧[IntKind.wrap IntKind.u8 x.fst.fst]++putR (↑(List.length x.fst.snd.fst):Int) (2:Int)=[w8 x.fst.fst]++putR (↑(List.length x.fst.snd.fst):Int) (2:Int)++npP (List.take (Int.toNat (0:Int)) x.fst.snd.fst))∧∀ (v:Int×List Int×Unit),(0:Int)≤v.fst∧v.fst≤(↑(List.length x.fst.snd.fst):Int)∧v.snd.fst=[w8 x.fst.fst]++putR (↑(List.length x.fst.snd.fst):Int) (2:Int)++npP (List.take (Int.toNat v.fst) x.fst.snd.fst)→
  bif decide (v.fst < (↑(List.length x.fst.snd.fst):Int)) then (0:Int)≤v.fst∧v.fst < (↑(List.length x.fst.snd.fst):Int)∧∀ (c0:List Int),x.fst.snd.fst[Int.toNat v.fst]?=some c0→
  List.length c0≤(9223372036854775807:Nat)→
  ((0:Int)≤(↑(List.length c0):Int)∧(↑(List.length c0):Int) < (65536:Int))∧(List.length v.snd.fst+List.length (putR (↑(List.length c0):Int) (2:Int)))*(1:Nat)≤(140737488351232:Nat)∧(List.length (v.snd.fst++putR (↑(List.length c0):Int) (2:Int))+List.length c0)*(1:Nat)≤(140737488351232:Nat)∧((0:Int)≤IntKind.wrap IntKind.i64 (v.fst+(1:Int))∧IntKind.wrap IntKind.i64 (v.fst+(1:Int))≤(↑(List.length x.fst.snd.fst):Int)∧v.snd.fst++putR (↑(List.length c0):Int) (2:Int)++c0=[w8 x.fst.fst]++putR (↑(List.length x.fst.snd.fst):Int) (2:Int)++npP (List.take (Int.toNat (IntKind.wrap IntKind.i64 (v.fst+(1:Int)))) x.fst.snd.fst))∧Int.toNat ((↑(List.length x.fst.snd.fst):Int) - IntKind.wrap IntKind.i64 (v.fst+(1:Int))) < Int.toNat ((↑(List.length x.fst.snd.fst):Int) - v.fst) else bif x.fst.fst==(7:Int) then bif x.fst.snd.snd.snd.fst then (List.length v.snd.fst+List.length [IntKind.wrap IntKind.u8 x.fst.snd.snd.fst,(1:Int)])*(1:Nat)≤(140737488351232:Nat)∧((v.snd.fst++[IntKind.wrap IntKind.u8 x.fst.snd.snd.fst,(1:Int)],(0:Int),()),())=(npF x.fst,()) else (List.length v.snd.fst+List.length [IntKind.wrap IntKind.u8 x.fst.snd.snd.fst,(0:Int)])*(1:Nat)≤(140737488351232:Nat)∧((v.snd.fst++[IntKind.wrap IntKind.u8 x.fst.snd.snd.fst,(0:Int)],(0:Int),()),())=(npF x.fst,()) else ((v.snd.fst,(0:Int),()),())=(npF x.fst,()))):=by kernel_rfl
theorem en_nput (us:Array Value) (u:World):(callFunc 64 us).run Tryz.prog u=.ok (.enter 64 us) u:=by kernel_rfl
theorem sc_nput:SC Tryz.prog 64 S_nput:=by
  refine SC.of Tryz.func64 (c:=bodyOf Tryz.f64) (by kernel_rfl) (by kernel_rfl) (fun x=>(by decide:(1:Nat)≤Tryz.f64.ntmps)) (DOk.cons sc_nchk en_nchk (DOk.cons sc_num2 en_num2 DOk.nil)) (Eq.mpr vc_nput ?_)
  rintro ⟨⟨k,pp,hop,back,⟨⟩⟩,⟨⟩⟩ - -
  dsimp only
  refine ⟨trivial,?_⟩
  by_cases e:nkE (k,pp,hop,back,())=0
  rotate_left 1
  · rw [bneT e,cond_true,npF,beq_eq_false_iff_ne.2 e,cond_false]
  rw [bneF e,cond_false]
  have hF:npF (k,pp,hop,back,())=(npL (k,pp,hop,back,()),0,()):=by rw [npF,beq_iff_eq.2 e,cond_true]
  rw [hF]
  obtain ⟨n1,n2⟩:=nkE_0 e
  dsimp only at n1 n2
  have p2:=putR2_len (pp.length:Nat)
  refine ⟨⟨by omega,by omega⟩,by rw [List.length_cons,List.length_nil];omega,fun _=>⟨⟨Int.le_refl 0,by omega,?_⟩,?_⟩⟩
  · show _=_++npP []
    rw [show npP []=[] from rfl,List.append_nil]
    rfl
  rintro ⟨i,o,⟨⟩⟩ ⟨h0,h1,ho⟩
  dsimp only at h0 h1 ho ⊢
  have ol:o.length≤70000:=by
    have q:=npP_len (l:=pp.take i.toNat) fun p hp=>n2 p (List.mem_of_mem_take hp)
    have q2:(pp.take i.toNat).length≤64:=by rw [List.length_take];omega
    rw [ho,List.length_append,List.length_append,List.length_cons,List.length_nil]
    omega
  by_cases hi:i < (pp.length:Int)
  · have wi:IntKind.i64.wrap (i+1)=i+1:=IntWalk.i64_in _ (by omega)
    rw [decide_eq_true hi,cond_true,wi]
    refine ⟨h0,hi,fun c hc _=>?_⟩
    have cl:=n2 c (List.mem_of_getElem? hc)
    have p3:=putR2_len (c.length:Nat)
    refine ⟨⟨by omega,by omega⟩,by omega,by rw [List.length_append];omega,⟨by omega,by omega,?_⟩,by omega⟩
    rw [show (i+1).toNat=i.toNat+1 by omega,npP_snoc hc,ho]
    simp only [List.append_assoc]
  · rw [decide_eq_false hi,cond_false]
    have e1:pp.take i.toNat=pp:=List.take_of_length_le (by omega)
    rw [e1] at ho
    by_cases k7:k=7
    · have hL:npL (k,pp,hop,back,())=o++[w8 hop,bif back then 1 else 0]:=by
        unfold npL
        dsimp only
        rw [beq_iff_eq.2 k7,cond_true,ho]
      rw [beq_iff_eq.2 k7,cond_true,hL]
      cases back
      · exact ⟨by rw [List.length_cons,List.length_cons,List.length_nil];omega,rfl⟩
      · exact ⟨by rw [List.length_cons,List.length_cons,List.length_nil];omega,rfl⟩
    · have hL:npL (k,pp,hop,back,())=o:=by
        unfold npL
        dsimp only
        rw [beq_eq_false_iff_ne.2 k7,cond_false,ho,List.append_nil]
      rw [beq_eq_false_iff_ne.2 k7,cond_false,hL]
theorem vc_ncut:VC Tryz.prog Tryz.f59 (bodyOf Tryz.f59) S_ncut [] (fun _ _=>none)=(∀ (x:List Int×Int×Unit),(0:Int)≤x.snd.fst→
  List.length x.fst≤(9223372036854775807:Nat)→
  List.length x.fst≤(9223372036854775807:Nat)→
  bif decide ((↑(List.length x.fst):Int) < x.snd.fst) then ((([]:List Int),([]:List Int),false,()),())=(ncutF x.fst x.snd.fst,()) else (0:Int)≤x.snd.fst∧x.snd.fst≤x.snd.fst∧x.snd.fst≤(↑(List.length x.fst):Int)∧(0:Int)≤x.snd.fst∧x.snd.fst≤(↑(List.length x.fst):Int)∧(↑(List.length x.fst):Int)≤(↑(List.length x.fst):Int)∧((List.take (Int.toNat x.snd.fst) x.fst,List.take (Int.toNat (↑(List.length x.fst):Int) - Int.toNat x.snd.fst) (List.drop (Int.toNat x.snd.fst) x.fst),true,()),())=(ncutF x.fst x.snd.fst,())):=by kernel_rfl
theorem en_ncut (us:Array Value) (u:World):(callFunc 59 us).run Tryz.prog u=.ok (.enter 59 us) u:=by kernel_rfl
theorem sc_ncut:SC Tryz.prog 59 S_ncut:=by
  refine SC.of Tryz.func59 (c:=bodyOf Tryz.f59) (by kernel_rfl) (by kernel_rfl) (fun x=>(by decide:(2:Nat)≤Tryz.f59.ntmps)) DOk.nil (Eq.mpr vc_ncut ?_)
  rintro ⟨b,n,⟨⟩⟩ h0 - -
  dsimp only at h0 ⊢
  by_cases h:(b.length:Int) < n
  · rw [decide_eq_true h,cond_true,ncutF,decide_eq_true h,cond_true]
  · rw [decide_eq_false h,cond_false,ncutF,decide_eq_false h,cond_false,dropU]
    exact ⟨h0,Int.le_refl _,by omega,h0,by omega,Int.le_refl _,rfl⟩
theorem vc_tnum:VC Tryz.prog Tryz.f96 (bodyOf Tryz.f96) S_tnum [(59,S_ncut),(115,S_get)] (fun _ _=>none)=(∀ (x:List Int×Unit),(∀ (x_1:Int),x_1∈x.fst→
  (0:Int)≤x_1∧x_1 < (256:Int))→
  List.length x.fst≤(9223372036854775807:Nat)→
  (0:Int)≤(2:Int)∧bif !(ncutF x.fst (2:Int)).snd.snd.fst then (((0:Int),[],false,()),())=(tnumF x.fst,()) else (∀ (x_1:Int),x_1∈(ncutF x.fst (2:Int)).fst→
  (0:Int)≤x_1∧x_1 < (256:Int))∧((IntKind.wrap IntKind.i64 (getR (ncutF x.fst (2:Int)).fst),(ncutF x.fst (2:Int)).snd.fst,true,()),())=(tnumF x.fst,())):=by kernel_rfl
theorem en_tnum (us:Array Value) (u:World):(callFunc 96 us).run Tryz.prog u=.ok (.enter 96 us) u:=by kernel_rfl
theorem sc_tnum:SC Tryz.prog 96 S_tnum:=by
  refine SC.of Tryz.func96 (c:=bodyOf Tryz.f96) (by kernel_rfl) (by kernel_rfl) (fun x=>(by decide:(1:Nat)≤Tryz.f96.ntmps)) (DOk.cons sc_ncut en_ncut (DOk.cons sc_get en_get DOk.nil)) (Eq.mpr vc_tnum ?_)
  rintro ⟨b,⟨⟩⟩ h -
  dsimp only at h ⊢
  refine ⟨by decide,?_⟩
  by_cases c:(b.length:Int) < 2
  · have e:ncutF b 2=([],[],false,()):=by rw [ncutF,decide_eq_true c,cond_true]
    rw [e,tnumF,decide_eq_true c,cond_true]
    rfl
  · have e:ncutF b 2=(b.take 2,b.drop 2,true,()):=by
      rw [ncutF,decide_eq_false c,cond_false]
      rfl
    rw [e,tnumF,decide_eq_false c,cond_false]
    exact ⟨byt_take h 2,rfl⟩
theorem vc_tpts:VC Tryz.prog Tryz.f60 (bodyOf Tryz.f60) S_tpts [(96,S_tnum),(59,S_ncut),(81,S_bcl)] A_tpts=(∀ (x:List Int×Unit),(∀ (x_1:Int),x_1∈x.fst→
  (0:Int)≤x_1∧x_1 < (256:Int))→
  List.length x.fst≤(9223372036854775807:Nat)→
  (∀ (x_1:Int),x_1∈x.fst→
  (0:Int)≤x_1∧x_1 < (256:Int))∧bif !(tnumF x.fst).snd.snd.fst then (([],[],false,()),())=(tpF x.fst,()) else bif decide ((64:Int) < (tnumF x.fst).fst) then (([],[],false,()),())=(tpF x.fst,()) else ((0:Int)≤(0:Int)∧(0:Int)≤(tnumF x.fst).fst∧List.length ([]:List (List Int))≤Int.toNat (0:Int)∧(∀ (x_1:Int),x_1∈(tnumF x.fst).snd.fst→
  (0:Int)≤x_1∧x_1 < (256:Int))∧tpGo (Int.toNat ((tnumF x.fst).fst - (0:Int))) [] (tnumF x.fst).snd.fst=tpF x.fst)∧∀ (v:Int×List (List Int)×List Int×Unit),(0:Int)≤v.fst∧v.fst≤(tnumF x.fst).fst∧List.length v.snd.fst≤Int.toNat v.fst∧(∀ (x:Int),x∈v.snd.snd.fst→
  (0:Int)≤x∧x < (256:Int))∧tpGo (Int.toNat ((tnumF x.fst).fst - v.fst)) v.snd.fst v.snd.snd.fst=tpF x.fst→
  bif decide (v.fst < (tnumF x.fst).fst) then (∀ (x:Int),x∈v.snd.snd.fst→
  (0:Int)≤x∧x < (256:Int))∧bif !(tnumF v.snd.snd.fst).snd.snd.fst then (([],[],false,()),())=(tpF x.fst,()) else bif decide ((1024:Int) < (tnumF v.snd.snd.fst).fst) then (([],[],false,()),())=(tpF x.fst,()) else (0:Int)≤(tnumF v.snd.snd.fst).fst∧bif !(ncutF (tnumF v.snd.snd.fst).snd.fst (tnumF v.snd.snd.fst).fst).snd.snd.fst then (([],[],false,()),())=(tpF x.fst,()) else List.length (ncutF (tnumF v.snd.snd.fst).snd.fst (tnumF v.snd.snd.fst).fst).fst≤(1000000000000:Nat)∧(List.length v.snd.fst+List.length [(ncutF (tnumF v.snd.snd.fst).snd.fst (tnumF v.snd.snd.fst).fst).fst])*(24:Nat)≤(140737488351232:Nat)∧((0:Int)≤IntKind.wrap IntKind.i64 (v.fst+(1:Int))∧IntKind.wrap IntKind.i64 (v.fst+(1:Int))≤(tnumF x.fst).fst∧List.length (v.snd.fst++[(ncutF (tnumF v.snd.snd.fst).snd.fst (tnumF v.snd.snd.fst).fst).fst])≤Int.toNat (IntKind.wrap IntKind.i64 (v.fst+(1:Int)))∧(∀ (x:Int),x∈(ncutF (tnumF v.snd.snd.fst).snd.fst (tnumF v.snd.snd.fst).fst).snd.fst→
  (0:Int)≤x∧x < (256:Int))∧tpGo (Int.toNat ((tnumF x.fst).fst - IntKind.wrap IntKind.i64 (v.fst+(1:Int)))) (v.snd.fst++[(ncutF (tnumF v.snd.snd.fst).snd.fst (tnumF v.snd.snd.fst).fst).fst]) (ncutF (tnumF v.snd.snd.fst).snd.fst (tnumF v.snd.snd.fst).fst).snd.fst=tpF x.fst)∧Int.toNat ((tnumF x.fst).fst - IntKind.wrap IntKind.i64 (v.fst+(1:Int))) < Int.toNat ((tnumF x.fst).fst - v.fst) else ((v.snd.fst,v.snd.snd.fst,true,()),())=(tpF x.fst,())):=by kernel_rfl
theorem en_tpts (us:Array Value) (u:World):(callFunc 60 us).run Tryz.prog u=.ok (.enter 60 us) u:=by kernel_rfl
theorem sc_tpts:SC Tryz.prog 60 S_tpts:=by
  refine SC.of Tryz.func60 (c:=bodyOf Tryz.f60) (by kernel_rfl) (by kernel_rfl) (fun x=>(by decide:(1:Nat)≤Tryz.f60.ntmps)) (DOk.cons sc_tnum en_tnum (DOk.cons sc_ncut en_ncut (DOk.cons sc_bcl en_bcl DOk.nil))) (Eq.mpr vc_tpts ?_)
  rintro ⟨b,⟨⟩⟩ h -
  dsimp only at h ⊢
  obtain ⟨t0,t1,t2⟩:=tnum_bd h
  refine ⟨h,?_⟩
  cases o1:(tnumF b).2.2.1
  · rw [Bool.not_false,cond_true,tpF,if_pos (.inl o1)]
    rfl
  rw [Bool.not_true,cond_false]
  by_cases o2:64 < (tnumF b).1
  · rw [decide_eq_true o2,cond_true,tpF,if_pos (.inr o2)]
    rfl
  have hF:tpF b=tpGo (tnumF b).1.toNat [] (tnumF b).2.1:=by rw [tpF,if_neg];rw [o1];rintro (g | g);cases g;exact o2 g
  rw [decide_eq_false o2,cond_false]
  refine ⟨⟨Int.le_refl 0,t0,Nat.zero_le _,t2,by rw [hF,Int.sub_zero]⟩,?_⟩
  rintro ⟨i,ps,r,⟨⟩⟩ ⟨h0,h1,hl,hb,hg⟩
  dsimp only at h0 h1 hl hb hg ⊢
  by_cases hi:i < (tnumF b).1
  rotate_left 1
  · rw [decide_eq_false hi,cond_false,← hg,show ((tnumF b).1 - i).toNat=0 by omega]
    rfl
  have wi:IntKind.i64.wrap (i+1)=i+1:=IntWalk.i64_in _ (by omega)
  rw [decide_eq_true hi,cond_true,wi]
  rw [show ((tnumF b).1 - i).toNat=((tnumF b).1 - (i+1)).toNat+1 by omega,tpGo] at hg
  obtain ⟨s0,s1,s2⟩:=tnum_bd hb
  refine ⟨hb,?_⟩
  cases o3:(tnumF r).2.2.1
  · rw [if_pos (.inl o3)] at hg
    rw [Bool.not_false,cond_true,← hg]
    rfl
  rw [Bool.not_true,cond_false]
  by_cases o4:1024 < (tnumF r).1
  · rw [if_pos (.inr o4)] at hg
    rw [decide_eq_true o4,cond_true,← hg]
    rfl
  rw [if_neg (by rw [o3];rintro (g | g);cases g;exact o4 g)] at hg
  rw [decide_eq_false o4,cond_false]
  refine ⟨s0,?_⟩
  by_cases o5:((tnumF r).2.1.length:Int) < (tnumF r).1
  · rw [if_pos o5] at hg
    rw [ncut_f o5,Bool.not_false,cond_true,← hg]
    rfl
  rw [if_neg o5] at hg
  rw [ncut_t o5,Bool.not_true,cond_false]
  dsimp only
  refine ⟨by rw [List.length_take];omega,by rw [List.length_cons,List.length_nil];omega,⟨by omega,by omega,?_,byt_drop s2 _,hg⟩,by omega⟩
  rw [List.length_append,List.length_cons,List.length_nil]
  omega
theorem vc_ntake:VC Tryz.prog Tryz.f31 (bodyOf Tryz.f31) S_ntake [(59,S_ncut),(60,S_tpts),(61,S_nchk)] (fun _ _=>none)=(∀ (x:List Int×Unit),(∀ (x_1:Int),x_1∈x.fst→
  (0:Int)≤x_1∧x_1 < (256:Int))→
  List.length x.fst≤(9223372036854775807:Nat)→
  (0:Int)≤(1:Int)∧bif !(ncutF x.fst (1:Int)).snd.snd.fst then ((((0:Int),[],(0:Int),false,()),(3:Int),()),())=(ntF x.fst,()) else (0:Int)≤(0:Int)∧(0:Int) < (↑(List.length (ncutF x.fst (1:Int)).fst):Int)∧∀ (c0:Int),(ncutF x.fst (1:Int)).fst[(0:Nat)]?=some c0→
  (∀ (x_1:Int),x_1∈(ncutF x.fst (1:Int)).snd.fst→
  (0:Int)≤x_1∧x_1 < (256:Int))∧bif !(tpF (ncutF x.fst (1:Int)).snd.fst).snd.snd.fst then ((((0:Int),[],(0:Int),false,()),(3:Int),()),())=(ntF x.fst,()) else bif IntKind.wrap IntKind.i64 c0==(7:Int) then List.length (tpF (ncutF x.fst (1:Int)).snd.fst).snd.fst≤(9223372036854775807:Nat)→
  bif (↑(List.length (tpF (ncutF x.fst (1:Int)).snd.fst).snd.fst):Int) != (2:Int) then ((((0:Int),[],(0:Int),false,()),(3:Int),()),())=(ntF x.fst,()) else (0:Int)≤(1:Int)∧(1:Int) < (↑(List.length (tpF (ncutF x.fst (1:Int)).snd.fst).snd.fst):Int)∧∀ (c0_1:Int),(tpF (ncutF x.fst (1:Int)).snd.fst).snd.fst[(1:Nat)]?=some c0_1→
  bif decide ((1:Int) < c0_1) then ((((0:Int),[],(0:Int),false,()),(3:Int),()),())=(ntF x.fst,()) else (0:Int)≤(0:Int)∧(0:Int) < (↑(List.length (tpF (ncutF x.fst (1:Int)).snd.fst).snd.fst):Int)∧∀ (c0_2:Int),(tpF (ncutF x.fst (1:Int)).snd.fst).snd.fst[(0:Nat)]?=some c0_2→
  (0:Int)≤(1:Int)∧(1:Int) < (↑(List.length (tpF (ncutF x.fst (1:Int)).snd.fst).snd.fst):Int)∧∀ (c0_3:Int),(tpF (ncutF x.fst (1:Int)).snd.fst).snd.fst[(1:Nat)]?=some c0_3→
  True∧bif nkE (IntKind.wrap IntKind.i64 c0,(tpF (ncutF x.fst (1:Int)).snd.fst).fst,IntKind.wrap IntKind.i64 c0_2,c0_3==(1:Int),()) != (0:Int) then ((((0:Int),[],(0:Int),false,()),(3:Int),()),())=(ntF x.fst,()) else (((IntKind.wrap IntKind.i64 c0,(tpF (ncutF x.fst (1:Int)).snd.fst).fst,IntKind.wrap IntKind.i64 c0_2,c0_3==(1:Int),()),(0:Int),()),())=(ntF x.fst,()) else List.length (tpF (ncutF x.fst (1:Int)).snd.fst).snd.fst≤(9223372036854775807:Nat)→
  bif (↑(List.length (tpF (ncutF x.fst (1:Int)).snd.fst).snd.fst):Int) != (0:Int) then ((((0:Int),[],(0:Int),false,()),(3:Int),()),())=(ntF x.fst,()) else True∧bif nkE (IntKind.wrap IntKind.i64 c0,(tpF (ncutF x.fst (1:Int)).snd.fst).fst,(0:Int),false,()) != (0:Int) then ((((0:Int),[],(0:Int),false,()),(3:Int),()),())=(ntF x.fst,()) else (((IntKind.wrap IntKind.i64 c0,(tpF (ncutF x.fst (1:Int)).snd.fst).fst,(0:Int),false,()),(0:Int),()),())=(ntF x.fst,())):=by kernel_rfl
theorem en_ntake (us:Array Value) (u:World):(callFunc 31 us).run Tryz.prog u=.ok (.enter 31 us) u:=by kernel_rfl
theorem sc_ntake:SC Tryz.prog 31 S_ntake:=by
  refine SC.of Tryz.func31 (c:=bodyOf Tryz.f31) (by kernel_rfl) (by kernel_rfl) (fun x=>(by decide:(1:Nat)≤Tryz.f31.ntmps)) (DOk.cons sc_ncut en_ncut (DOk.cons sc_tpts en_tpts (DOk.cons sc_nchk en_nchk DOk.nil))) (Eq.mpr vc_ntake ?_)
  rintro ⟨b,⟨⟩⟩ h -
  dsimp only at h ⊢
  have hz:ntE b=false→((((0,[],0,false,()),3,()),()):(Nte×Int×Unit)×Unit)=(ntF b,()):=fun e=>by rw [ntF,e];rfl
  have hy:ntE b=true→(((ntN b,0,()),()):(Nte×Int×Unit)×Unit)=(ntF b,()):=fun e=>by rw [ntF,e];rfl
  refine ⟨by decide,?_⟩
  cases b with
  | nil=>exact hz rfl
  | cons k r =>
    have hk:=h k (List.mem_cons_self ..)
    have hr:byt r:=fun x hx=>h x (List.mem_cons_of_mem _ hx)
    have w:IntKind.i64.wrap k=k:=IntWalk.i64_in _ (by omega)
    have e:ncutF (k::r) 1=([k],r,true,()):=ncut_t (by rw [List.length_cons];omega)
    have eE:ntE (k::r)=((tpF r).2.2.1&&((bif k==7 then (tpF r).2.1.length==2&&decide ((tpF r).2.1.getD 1 0≤1) else (tpF r).2.1.length==0)&&nkE (ntN (k::r))==0)):=by
      unfold ntE
      rw [decide_eq_true (by rw [List.length_cons];omega),Bool.true_and]
      rfl
    have eN:ntN (k::r)=bif k==7 then (7,(tpF r).1,(tpF r).2.1.getD 0 0,(tpF r).2.1.getD 1 0==1,()) else (k,(tpF r).1,0,false,()):=rfl
    rw [e]
    dsimp only
    rw [Bool.not_true,cond_false]
    refine ⟨by decide,by show (0:Int) < 1;decide,fun c0 hc0=>⟨hr,?_⟩⟩
    obtain rfl:k=c0:=Option.some.inj hc0
    rw [w]
    cases o1:(tpF r).2.2.1
    · exact hz (by rw [eE,o1];rfl)
    rw [Bool.not_true,cond_false]
    by_cases k7:k=7
    · rw [beq_iff_eq.2 k7,cond_true]
      intro _
      by_cases l2:((tpF r).2.1.length:Int)=2
      rotate_left 1
      · rw [bneT l2,cond_true]
        exact hz (by rw [eE,beq_iff_eq.2 k7,cond_true,beq_eq_false_iff_ne.2 (by omega),Bool.false_and,Bool.false_and,Bool.and_false])
      rw [bneF l2,cond_false]
      refine ⟨by decide,by omega,fun c1 h1=>?_⟩
      have g1:(tpF r).2.1.getD 1 0=c1:=getD_of h1 rfl
      by_cases o2:1 < c1
      · rw [decide_eq_true o2,cond_true]
        exact hz (by rw [eE,beq_iff_eq.2 k7,cond_true,g1,decide_eq_false (by omega),Bool.and_false,Bool.false_and,Bool.and_false])
      rw [decide_eq_false o2,cond_false]
      refine ⟨by decide,by omega,fun c2 h2=>⟨by decide,by omega,fun c3 h3=>⟨trivial,?_⟩⟩⟩
      have g2:(tpF r).2.1.getD 0 0=c2:=getD_of h2 rfl
      obtain rfl:c1=c3:=Option.some.inj (h1.symm.trans h3)
      have hb2:=tpF_byt hr c2 (List.mem_of_getElem? h2)
      have w2:IntKind.i64.wrap c2=c2:=IntWalk.i64_in _ (by omega)
      subst k7
      have eN2:ntN (7::r)=(7,(tpF r).1,c2,c1==1,()):=by rw [eN,g1,g2];rfl
      rw [w2]
      by_cases o3:nkE (7,(tpF r).1,c2,c1==1,())=0
      · rw [bneF o3,cond_false,← eN2]
        exact hy (by rw [eE,o1,beq_self_eq_true,cond_true,beq_iff_eq.2 (by omega),g1,decide_eq_true (by omega),eN2,beq_iff_eq.2 o3];rfl)
      · rw [bneT o3,cond_true]
        exact hz (by rw [eE,o1,beq_self_eq_true,cond_true,eN2,beq_eq_false_iff_ne.2 o3,Bool.and_false,Bool.and_false])
    · rw [beq_eq_false_iff_ne.2 k7,cond_false]
      intro _
      by_cases l0:((tpF r).2.1.length:Int)=0
      rotate_left 1
      · rw [bneT l0,cond_true]
        exact hz (by rw [eE,beq_eq_false_iff_ne.2 k7,cond_false,beq_eq_false_iff_ne.2 (by omega),Bool.false_and,Bool.and_false])
      rw [bneF l0,cond_false]
      refine ⟨trivial,?_⟩
      have eN2:ntN (k::r)=(k,(tpF r).1,0,false,()):=by rw [eN,beq_eq_false_iff_ne.2 k7,cond_false]
      by_cases o3:nkE (k,(tpF r).1,0,false,())=0
      · rw [bneF o3,cond_false,← eN2]
        exact hy (by rw [eE,o1,beq_eq_false_iff_ne.2 k7,cond_false,beq_iff_eq.2 (by omega),eN2,beq_iff_eq.2 o3];rfl)
      · rw [bneT o3,cond_true]
        exact hz (by rw [eE,o1,beq_eq_false_iff_ne.2 k7,cond_false,eN2,beq_eq_false_iff_ne.2 o3,Bool.and_false,Bool.and_false])
end Go.Proofs.YtjkbkhjalimebaaGreatDoor
namespace Go.Proofs.YtjkbkhjalimebaaGreatDoor
open Go.RowKit DoorU
set_option linter.unusedVariables false
namespace DoorU
def numF (n:Int):List Int:=(List.range 8).map fun i:Nat=>IntKind.u8.wrap (shrI .u64 n (56 - 8*(i:Int)))
def strF (k:List Int) (n:Int):List Int:=((List.range ((n.toNat+31) / 32)).flatMap fun i:Nat=>hashF [k,numF i]).take n.toNat
def smF (k:List Int) (n:Int):List Int×Int×Unit:=if n < 0∨1048576 < n then ([],1,()) else (strF k n,0,())
def xorF (a b:List Int):List Int:=List.zipWith (xorI .u8) a b
def hidF (k b:List Int):List Int:=xorF b (strF (tagF k [1]) b.length)
def seB (s n p:List Int):List Int:=n++hidF (tagF s n) p
def seF (s n p:List Int):List Int:=seB s n p++tagF (tagF (tagF s n) [3]) (seB s n p)
def seE (n p:List Int):Int:=if n.length≠16 then 1 else if 2048 < p.length then 2 else 0
def repF (k:List Int) (c:Int):List Int:=tagF k [4,c]
def nonF (k:List Int) (s:Sta):List (List Int):=(List.range s.2.2.1.length).map fun i:Nat=>(tagF k (stL s++[w8 i])).take 16
def onoF (k:List Int) (s:Sta):List (List Int)×Int×Unit:=if stChk s≠0 then ([],1,()) else (nonF k s,0,())
def is16 (l:List Int):Bool:=l.length==16
def owmF (s n:List (List Int)) (b:List Int):Bool:=(decide (1≤s.length)&&(decide (s.length≤8)&&n.length==s.length))&&(n.all is16&&b.length==78)
def wrG (s n:List (List Int)):Nat→List Int→List Int
  | 0,b=>b
  | i+1,b=>wrG s n i (seF (s.getD i []) (n.getD i []) b)
def wrF (s n:List (List Int)) (b:List Int):List Int×Int×Unit:=if owmF s n b=true then (wrG s n s.length b,0,()) else ([],1,())
def lpB (l:Let):List Int:=if l.1=true then List.replicate 78 0 else [[1],putR l.2.1 2,putR l.2.2.1 2,putR l.2.2.2.1 8,filR (txt l) 64].flatten
def lpF (l:Let):List Int×Int×Unit:=if lcF l≠0 then ([],lcF l,()) else (lpB l,0,())
end DoorU
def S_strm:Spec:=⟨.pair vY (.pair nI .unit),.pair (.tup (.pair vY (.pair nI .unit))) .unit,fun (x:List Int×Int×Unit)=>x.1.length≤100000000,fun (x:List Int×Int×Unit)=>((smF x.1 x.2.1,()):(List Int×Int×Unit)×Unit)⟩
def S_wrap:Spec:=⟨.pair lYs (.pair lYs (.pair vY .unit)),.pair (.tup (.pair vY (.pair nI .unit))) .unit,fun (x:List (List Int)×List (List Int)×List Int×Unit)=>∀ k∈x.1,k.length≤1048576,fun (x:List (List Int)×List (List Int)×List Int×Unit)=>((wrF x.1 x.2.1 x.2.2.1,()):(List Int×Int×Unit)×Unit)⟩
def S_xor:Spec:=⟨.pair lY (.pair lY .unit),.pair (.tup (.pair vY (.pair nI .unit))) .unit,fun (x:List Int×List Int×Unit)=>x.1.length≤100000000,fun (x:List Int×List Int×Unit)=>((if x.1.length=x.2.1.length then (xorF x.1 x.2.1,0,()) else ([],1,()),()):(List Int×Int×Unit)×Unit)⟩
def A_xor (x:List Int×List Int×Unit):Nat→Option LA
  | 0=>some ⟨[18,6],[],.pair nI (.pair oY .unit),fun (v:Int×List Int×Unit)=>0≤v.1∧v.1≤(x.1.length:Nat)∧v.2.1.length=x.1.length∧v.2.1.take v.1.toNat=(xorF x.1 x.2.1).take v.1.toNat,fun (v:Int×List Int×Unit)=>((x.1.length:Nat) - v.1).toNat⟩
  | _=>none
def S_lkey:Spec:=⟨.pair lY (.pair lY .unit),.pair vY .unit,fun (x:List Int×List Int×Unit)=>x.1.length≤1000000000∧x.2.1.length≤100000000,fun (x:List Int×List Int×Unit)=>((tagF x.1 x.2.1,()):List Int×Unit)⟩
def S_lrep:Spec:=⟨.pair lY (.pair nY .unit),.pair vY .unit,fun (x:List Int×Int×Unit)=>x.1.length≤1000000000,fun (x:List Int×Int×Unit)=>((repF x.1 x.2.1,()):List Int×Unit)⟩
def S_hide:Spec:=⟨.pair lY (.pair lY .unit),.pair (.tup (.pair vY (.pair nI .unit))) .unit,fun (x:List Int×List Int×Unit)=>x.1.length≤1048576∧x.2.1.length≤1048576,fun (x:List Int×List Int×Unit)=>(((hidF x.1 x.2.1,0,()),()):(List Int×Int×Unit)×Unit)⟩
def S_seal:Spec:=⟨.pair lY (.pair vY (.pair lY .unit)),.pair (.tup (.pair vY (.pair nI .unit))) .unit,fun (x:List Int×List Int×List Int×Unit)=>x.1.length≤1048576,fun (x:List Int×List Int×List Int×Unit)=>((if seE x.2.1 x.2.2.1=0 then (seF x.1 x.2.1 x.2.2.1,0,()) else ([],seE x.2.1 x.2.2.1,()),()):(List Int×Int×Unit)×Unit)⟩
def S_onon:Spec:=⟨.pair lY (.pair aSt .unit),.pair (.tup (.pair vYs (.pair nI .unit))) .unit,fun (x:List Int×Sta×Unit)=>x.1.length≤1048576∧okSt x.2.1,fun (x:List Int×Sta×Unit)=>((onoF x.1 x.2.1,()):(List (List Int)×Int×Unit)×Unit)⟩
def A_onon (x:List Int×Sta×Unit):Nat→Option LA
  | 0=>some ⟨[28,8],[],.pair nI (.pair oYs .unit),fun (v:Int×List (List Int)×Unit)=>0≤v.1∧v.1≤(x.2.1.2.2.1.length:Nat)∧v.2.1.length=x.2.1.2.2.1.length∧v.2.1.take v.1.toNat=(nonF x.1 x.2.1).take v.1.toNat,fun (v:Int×List (List Int)×Unit)=>((x.2.1.2.2.1.length:Nat) - v.1).toNat⟩
  | _=>none
def S_omay:Spec:=⟨.pair lYs (.pair lYs (.pair lY .unit)),.pair .bool .unit,fun _=>True,fun (x:List (List Int)×List (List Int)×List Int×Unit)=>((owmF x.1 x.2.1 x.2.2.1,()):Bool×Unit)⟩
def A_omay (x:List (List Int)×List (List Int)×List Int×Unit):Nat→Option LA
  | 0=>some ⟨[26],[],.pair nI .unit,fun (v:Int×Unit)=>0≤v.1∧v.1≤(x.2.1.length:Nat)∧(x.2.1.take v.1.toNat).all is16=true,fun (v:Int×Unit)=>((x.2.1.length:Nat) - v.1).toNat⟩
  | _=>none
def S_lput:Spec:=⟨.pair aLe .unit,.pair (.tup (.pair vY (.pair nI .unit))) .unit,fun (x:Let×Unit)=>okW x.1.2.2.2.1,fun (x:Let×Unit)=>((lpF x.1,()):(List Int×Int×Unit)×Unit)⟩
end Go.Proofs.YtjkbkhjalimebaaGreatDoor

