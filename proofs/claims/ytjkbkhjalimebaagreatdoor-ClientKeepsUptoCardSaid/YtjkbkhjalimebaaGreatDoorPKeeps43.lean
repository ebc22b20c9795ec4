import Derived.Test.YtjkbkhjalimebaaGreatDoorPKeeps42
namespace Go.Proofs.YtjkbkhjalimebaaGreatDoor
open Go.RowKit DoorU
set_option linter.unusedVariables false
set_option linter.unusedSimpArgs false
set_option maxRecDepth 100000
set_option maxHeartbeats 1000000
namespace DoorU
def itSum:Int→List Itm→Int
  | s,[]=>s
  | s,x::r=>itSum (i64 (s+sz1 x.2.1.length)) r
def bsSum:Int→List (List Int)→Int
  | s,[]=>s
  | s,x::r=>bsSum (i64 (s+sz1 x.length)) r
def fewO (o:Ouq):Bool:=decide (bsSum (itSum 0 o.2.1) o.2.2.1≤150)
def fewI (i:Inq):Bool:=decide (itSum 0 i.2.1≤150)
def fewPe (q:Pee):Bool:=fewO q.2.1&&(fewI q.2.2.1 && !decide (30 < (q.2.1.2.1.length:Int)))
def fewP (p:Pos):Bool:=p.2.2.1.all fewPe&&(decide ((p.2.2.1.length:Int)≤8)&&decide ((p.2.1.2.2.1.length:Int)≤60))
def plainC:Cfg:=([],2,1,2,3,4,20,5,4,1,1,())
theorem byt_app {a b:List Int} (ha:byt a) (hb:byt b):byt (a++b):=fun x hx=>(List.mem_append.1 hx).elim (ha x) (hb x)
theorem w8_byt (n:Int):byt [w8 n]:=fun x hx=>by
  rw [List.mem_singleton] at hx
  subst hx
  show 0≤IntKind.u8.wrap n∧IntKind.u8.wrap n < 256
  rw [w8_of]
  omega
theorem frHd_byt {f:Fra} (hb:byt f.2.2.2.2.2.1):byt (frHd f):=by
  unfold frHd stL
  refine byt_app (byt_app (byt_app (byt_app (byt_app (byt_app (w8_byt _) (w8_byt _)) (byt_app (byt_app (byt_app (putI_byt _ _) (putI_byt _ _)) (w8_byt _)) fun x hx=>?_)) (w8_byt _)) (putI_byt _ _)) (putI_byt _ _)) hb
  obtain ⟨y,_,rfl⟩:=List.mem_map.1 hx
  exact w8_byt y _ (List.mem_singleton.2 rfl)
theorem frPutF_byt (k:List Int) {f:Fra} (hb:byt f.2.2.2.2.2.1):byt (frPutF k f):=by
  unfold frPutF
  split
  · exact byt_app (frHd_byt hb) (tagF_byt _ _)
  · exact fun x hx=>by cases hx
theorem frPutF_len (k:List Int) {f:Fra} (h:frChk f=0):(frPutF k f).length=60+f.2.2.1.2.2.1.length+f.2.2.2.2.2.1.length:=by
  rw [frPutF,if_pos h,List.length_append,frHd_len,tagF_len]
  omega
noncomputable def sIts (a b:List Itm):Bool:=@decide (a=b) (Classical.propDecidable _)
theorem sIts_t {a b:List Itm} (h:a=b):sIts a b=true:=@decide_eq_true _ (Classical.propDecidable _) h
theorem sIts_f {a b:List Itm} (h:¬ a=b):sIts a b=false:=@decide_eq_false _ (Classical.propDecidable _) h
noncomputable def sBs (a b:List (List Int)):Bool:=@decide (a=b) (Classical.propDecidable _)
theorem sBs_t {a b:List (List Int)} (h:a=b):sBs a b=true:=@decide_eq_true _ (Classical.propDecidable _) h
theorem sBs_f {a b:List (List Int)} (h:¬ a=b):sBs a b=false:=@decide_eq_false _ (Classical.propDecidable _) h
noncomputable def sOut (a b:Ouq):Bool:=@decide (a=b) (Classical.propDecidable _)
theorem sOut_t {a b:Ouq} (h:a=b):sOut a b=true:=@decide_eq_true _ (Classical.propDecidable _) h
theorem sOut_f {a b:Ouq} (h:¬ a=b):sOut a b=false:=@decide_eq_false _ (Classical.propDecidable _) h
noncomputable def sIn (a b:Inq):Bool:=@decide (a=b) (Classical.propDecidable _)
theorem sIn_t {a b:Inq} (h:a=b):sIn a b=true:=@decide_eq_true _ (Classical.propDecidable _) h
theorem sIn_f {a b:Inq} (h:¬ a=b):sIn a b=false:=@decide_eq_false _ (Classical.propDecidable _) h
noncomputable def sPos (a b:Pos):Bool:=@decide (a=b) (Classical.propDecidable _)
theorem sPos_t {a b:Pos} (h:a=b):sPos a b=true:=@decide_eq_true _ (Classical.propDecidable _) h
theorem sPos_f {a b:Pos} (h:¬ a=b):sPos a b=false:=@decide_eq_false _ (Classical.propDecidable _) h
noncomputable def sLet (a b:Let):Bool:=@decide (a=b) (Classical.propDecidable _)
theorem sLet_t {a b:Let} (h:a=b):sLet a b=true:=@decide_eq_true _ (Classical.propDecidable _) h
theorem sLet_f {a b:Let} (h:¬ a=b):sLet a b=false:=@decide_eq_false _ (Classical.propDecidable _) h
noncomputable def sLs (a b:List Let):Bool:=@decide (a=b) (Classical.propDecidable _)
theorem sLs_t {a b:List Let} (h:a=b):sLs a b=true:=@decide_eq_true _ (Classical.propDecidable _) h
theorem sLs_f {a b:List Let} (h:¬ a=b):sLs a b=false:=@decide_eq_false _ (Classical.propDecidable _) h
noncomputable def sQu (a b:Que):Bool:=@decide (a=b) (Classical.propDecidable _)
theorem sQu_t {a b:Que} (h:a=b):sQu a b=true:=@decide_eq_true _ (Classical.propDecidable _) h
theorem sQu_f {a b:Que} (h:¬ a=b):sQu a b=false:=@decide_eq_false _ (Classical.propDecidable _) h
noncomputable def sCl (a b:Cli):Bool:=@decide (a=b) (Classical.propDecidable _)
theorem sCl_t {a b:Cli} (h:a=b):sCl a b=true:=@decide_eq_true _ (Classical.propDecidable _) h
theorem sCl_f {a b:Cli} (h:¬ a=b):sCl a b=false:=@decide_eq_false _ (Classical.propDecidable _) h
def lSum:Int→List Let→Int
  | s,[]=>s
  | s,x::r=>lSum (i64 (s+sz1 (txt x).length)) r
def fewQ (q:Que):Bool:=decide (lSum 0 q.2.1≤150)
def fewC (x:Cli):Bool:=fewP x.2.1&&(fewQ x.2.2.1&&decide ((x.2.2.2.2.1.length:Int)≤200))
def mayC (c:Cfg) (x:Cli):Bool:=kchkF c==0&&fewC x
def bytQu (q:Que):Prop:=bytLs q.2.1
def bytCl (x:Cli):Prop:=bytPo x.2.1∧bytQu x.2.2.1∧byt x.2.2.2.2.1
end DoorU
abbrev lLes:Sh:=.view true tLe
def S_rwit:Spec:=⟨.pair nI (.pair nI (.pair nI .unit)),.pair .bool .unit,fun _=>True,fun (x:Int×Int×Int×Unit)=>((wit x.1 x.2.1 x.2.2.1,()):Bool×Unit)⟩
def S_rchk:Spec:=⟨.pair aC .unit,.pair nI .unit,fun _=>True,fun (x:Cfg×Unit)=>((kchkF x.1,()):Int×Unit)⟩
def S_fewo:Spec:=⟨.pair aOut .unit,.pair .bool .unit,fun (x:Ouq×Unit)=>x.1.2.1.length≤big∧x.1.2.2.1.length≤big,fun (x:Ouq×Unit)=>((fewO x.1,()):Bool×Unit)⟩
def A_fewo (x:Ouq×Unit):Nat→Option LA
  | 0=>some ⟨[11,3],[],.pair nI (.pair nI .unit),fun (v:Int×Int×Unit)=>0≤v.1∧v.1≤(x.1.2.1.length:Nat)∧itSum v.2.1 (x.1.2.1.drop v.1.toNat)=itSum 0 x.1.2.1,fun (v:Int×Int×Unit)=>((x.1.2.1.length:Nat) - v.1).toNat⟩
  | 1=>some ⟨[26,3],[],.pair nI (.pair nI .unit),fun (v:Int×Int×Unit)=>0≤v.1∧v.1≤(x.1.2.2.1.length:Nat)∧bsSum v.2.1 (x.1.2.2.1.drop v.1.toNat)=bsSum (itSum 0 x.1.2.1) x.1.2.2.1,fun (v:Int×Int×Unit)=>((x.1.2.2.1.length:Nat) - v.1).toNat⟩
  | _=>none
def S_fewi:Spec:=⟨.pair aIn .unit,.pair .bool .unit,fun (x:Inq×Unit)=>x.1.2.1.length≤big,fun (x:Inq×Unit)=>((fewI x.1,()):Bool×Unit)⟩
def A_fewi (x:Inq×Unit):Nat→Option LA
  | 0=>some ⟨[9,3],[],.pair nI (.pair nI .unit),fun (v:Int×Int×Unit)=>0≤v.1∧v.1≤(x.1.2.1.length:Nat)∧itSum v.2.1 (x.1.2.1.drop v.1.toNat)=itSum 0 x.1.2.1,fun (v:Int×Int×Unit)=>((x.1.2.1.length:Nat) - v.1).toNat⟩
  | _=>none
def S_few:Spec:=⟨.pair aPo .unit,.pair .bool .unit,fun (x:Pos×Unit)=>okPo x.1,fun (x:Pos×Unit)=>((fewP x.1,()):Bool×Unit)⟩
def A_few (x:Pos×Unit):Nat→Option LA
  | 0=>some ⟨[8],[],.pair nI .unit,fun (v:Int×Unit)=>0≤v.1∧v.1≤(x.1.2.2.1.length:Nat)∧(x.1.2.2.1.drop v.1.toNat).all fewPe=x.1.2.2.1.all fewPe,fun (v:Int×Unit)=>((x.1.2.2.1.length:Nat) - v.1).toNat⟩
  | _=>none
def LA_eq {α:Type} (s:Nat) (a b:List α):LA:=⟨[s],[],.pair nI .unit,fun (v:Int×Unit)=>0≤v.1∧v.1≤(a.length:Nat)∧a.length=b.length∧a.take v.1.toNat=b.take v.1.toNat,fun (v:Int×Unit)=>((a.length:Nat) - v.1).toNat⟩
def A_rints (x:List Int×List Int×Unit):Nat→Option LA
  | 0=>some (LA_eq 13 x.1 x.2.1)
  | _=>none
noncomputable def S_ritm:Spec:=⟨.pair (.view true tIt) (.pair (.view true tIt) .unit),.pair .bool .unit,fun (x:List Itm×List Itm×Unit)=>bytIts x.1∧bytIts x.2.1,fun (x:List Itm×List Itm×Unit)=>((sIts x.1 x.2.1,()):Bool×Unit)⟩
def A_ritm (x:List Itm×List Itm×Unit):Nat→Option LA
  | 0=>some (LA_eq 13 x.1 x.2.1)
  | _=>none
noncomputable def S_rpts:Spec:=⟨.pair (.view true tYs) (.pair (.view true tYs) .unit),.pair .bool .unit,fun (x:List (List Int)×List (List Int)×Unit)=>bytBs x.1∧bytBs x.2.1,fun (x:List (List Int)×List (List Int)×Unit)=>((sBs x.1 x.2.1,()):Bool×Unit)⟩
def A_rpts (x:List (List Int)×List (List Int)×Unit):Nat→Option LA
  | 0=>some (LA_eq 13 x.1 x.2.1)
  | _=>none
noncomputable def S_rout:Spec:=⟨.pair aOut (.pair aOut .unit),.pair .bool .unit,fun (x:Ouq×Ouq×Unit)=>bytOut x.1∧bytOut x.2.1,fun (x:Ouq×Ouq×Unit)=>((sOut x.1 x.2.1,()):Bool×Unit)⟩
noncomputable def S_rin:Spec:=⟨.pair aIn (.pair aIn .unit),.pair .bool .unit,fun (x:Inq×Inq×Unit)=>bytIn x.1∧bytIn x.2.1,fun (x:Inq×Inq×Unit)=>((sIn x.1 x.2.1,()):Bool×Unit)⟩
noncomputable def S_rpo:Spec:=⟨.pair aPo (.pair aPo .unit),.pair .bool .unit,fun (x:Pos×Pos×Unit)=>bytPo x.1∧bytPo x.2.1,fun (x:Pos×Pos×Unit)=>((sPos x.1 x.2.1,()):Bool×Unit)⟩
def A_rpo (x:Pos×Pos×Unit):Nat→Option LA
  | 0=>some (LA_eq 31 x.1.2.2.1 x.2.1.2.2.1)
  | _=>none
noncomputable def S_rlet:Spec:=⟨.pair aLe (.pair aLe .unit),.pair .bool .unit,fun (x:Let×Let×Unit)=>byt (txt x.1)∧byt (txt x.2.1),fun (x:Let×Let×Unit)=>((sLet x.1 x.2.1,()):Bool×Unit)⟩
noncomputable def S_rlts:Spec:=⟨.pair lLes (.pair lLes .unit),.pair .bool .unit,fun (x:List Let×List Let×Unit)=>bytLs x.1∧bytLs x.2.1,fun (x:List Let×List Let×Unit)=>((sLs x.1 x.2.1,()):Bool×Unit)⟩
def A_rlts (x:List Let×List Let×Unit):Nat→Option LA
  | 0=>some (LA_eq 13 x.1 x.2.1)
  | _=>none
noncomputable def S_rque:Spec:=⟨.pair aQu (.pair aQu .unit),.pair .bool .unit,fun (x:Que×Que×Unit)=>bytQu x.1∧bytQu x.2.1,fun (x:Que×Que×Unit)=>((sQu x.1 x.2.1,()):Bool×Unit)⟩
noncomputable def S_rcl:Spec:=⟨.pair aCl (.pair aCl .unit),.pair .bool .unit,fun (x:Cli×Cli×Unit)=>bytCl x.1∧bytCl x.2.1,fun (x:Cli×Cli×Unit)=>((sCl x.1 x.2.1,()):Bool×Unit)⟩
def S_fewq:Spec:=⟨.pair aQu .unit,.pair .bool .unit,fun (x:Que×Unit)=>x.1.2.1.length≤big,fun (x:Que×Unit)=>((fewQ x.1,()):Bool×Unit)⟩
def A_fewq (x:Que×Unit):Nat→Option LA
  | 0=>some ⟨[9,3],[],.pair nI (.pair nI .unit),fun (v:Int×Int×Unit)=>0≤v.1∧v.1≤(x.1.2.1.length:Nat)∧lSum v.2.1 (x.1.2.1.drop v.1.toNat)=lSum 0 x.1.2.1,fun (v:Int×Int×Unit)=>((x.1.2.1.length:Nat) - v.1).toNat⟩
  | _=>none
def S_fewc:Spec:=⟨.pair aCl .unit,.pair .bool .unit,fun (x:Cli×Unit)=>okPo x.1.2.1∧x.1.2.2.1.2.1.length≤big,fun (x:Cli×Unit)=>((fewC x.1,()):Bool×Unit)⟩
abbrev vC:Sh:=.agg (shOf false tC)
def S_plain:Spec:=⟨.unit,.pair vC .unit,fun _=>True,fun (x:Unit)=>((plainC,()):Cfg×Unit)⟩
def S_may:Spec:=⟨.pair aC (.pair aCl .unit),.pair .bool .unit,fun (x:Cfg×Cli×Unit)=>okPo x.2.1.2.1∧x.2.1.2.2.1.2.1.length≤big,fun (x:Cfg×Cli×Unit)=>((mayC x.1 x.2.1,()):Bool×Unit)⟩
theorem vc_rwit:VC Tryz.prog Tryz.f39 (bodyOf Tryz.f39) S_rwit [] (fun _ _=>none)=(∀ (x:Int×Int×Int×Unit),True→
  bif decide (x.snd.fst≤x.fst) then (decide (x.fst≤x.snd.snd.fst),())=(wit x.fst x.snd.fst x.snd.snd.fst,()) else (false,())=(wit x.fst x.snd.fst x.snd.snd.fst,())):=by kernel_rfl
theorem en_rwit (us:Array Value) (u:World):(callFunc 39 us).run Tryz.prog u=.ok (.enter 39 us) u:=by kernel_rfl
theorem sc_rwit:SC Tryz.prog 39 S_rwit:=by
  refine SC.of Tryz.func39 (c:=bodyOf Tryz.f39) (by kernel_rfl) (by kernel_rfl) (fun x=>(by decide:(3:Nat)≤Tryz.f39.ntmps)) DOk.nil (Eq.mpr vc_rwit ?_)
  rintro ⟨n,a,b,⟨⟩⟩ -
  dsimp only [wit]
  cases decide (a≤n) <;> rfl
theorem vc_rchk:VC Tryz.prog Tryz.f16 (bodyOf Tryz.f16) S_rchk [(39,S_rwit)] (fun _ _=>none)=(∀ (x:(List Int×Int×Int×Int×Int×Int×Int×Int×Int×Int×Int×Unit)×Unit),True→
  List.length x.fst.fst≤(9223372036854775807:Nat)→
  List.length x.fst.fst≤(9223372036854775807:Nat)→
  bif decide ((↑(List.length x.fst.fst):Int)≤(64:Int)) then True∧bif wit x.fst.snd.fst (1:Int) (8:Int) then True∧bif wit x.fst.snd.snd.fst (0:Int) (8:Int) then True∧bif wit x.fst.snd.snd.snd.fst (1:Int) (8:Int) then True∧bif wit x.fst.snd.snd.snd.snd.fst (1:Int) (64:Int) then True∧bif wit x.fst.snd.snd.snd.snd.snd.fst (1:Int) (10000:Int) then bif decide (x.fst.snd.snd.snd.snd.snd.fst < x.fst.snd.snd.snd.snd.snd.snd.fst) then bif decide (x.fst.snd.snd.snd.snd.snd.snd.fst≤(10000:Int)) then True∧bif wit x.fst.snd.snd.snd.snd.snd.snd.snd.fst (1:Int) (10000:Int) then True∧bif !wit x.fst.snd.snd.snd.snd.snd.snd.snd.snd.fst (1:Int) (64:Int) then ((1:Int),())=(kchkF x.fst,()) else bif decide (x.fst.snd.snd.snd.snd.snd.snd.snd.snd.snd.fst < (1:Int)) then ((1:Int),())=(kchkF x.fst,()) else bif decide (x.fst.snd.snd.snd.snd.snd.snd.snd.snd.snd.snd.fst < (1:Int)) then ((1:Int),())=(kchkF x.fst,()) else ((0:Int),())=(kchkF x.fst,()) else ((1:Int),())=(kchkF x.fst,()) else ((1:Int),())=(kchkF x.fst,()) else ((1:Int),())=(kchkF x.fst,()) else ((1:Int),())=(kchkF x.fst,()) else ((1:Int),())=(kchkF x.fst,()) else ((1:Int),())=(kchkF x.fst,()) else ((1:Int),())=(kchkF x.fst,()) else ((1:Int),())=(kchkF x.fst,()) else ((1:Int),())=(kchkF x.fst,())):=by kernel_rfl
theorem en_rchk (us:Array Value) (u:World):(callFunc 16 us).run Tryz.prog u=.ok (.enter 16 us) u:=by kernel_rfl
theorem sc_rchk:SC Tryz.prog 16 S_rchk:=by
  refine SC.of Tryz.func16 (c:=bodyOf Tryz.f16) (by kernel_rfl) (by kernel_rfl) (fun x=>(by decide:(1:Nat)≤Tryz.f16.ntmps)) (DOk.cons sc_rwit en_rwit DOk.nil) (Eq.mpr vc_rchk ?_)
  rintro ⟨⟨sd,ch,st,cl,qu,cs,lo,ag,wn,ro,sq,⟨⟩⟩,⟨⟩⟩ - - -
  have kc:∀ c:Cfg,kchkF c=bif okC c then 0 else 1:=fun c=>by
    unfold kchkF
    cases okC c <;> rfl
  rw [kc]
  dsimp only [okC]
  by_cases h1:sd.length≤64
  rotate_left 1
  · rw [decide_eq_false (by omega:¬ (sd.length:Int)≤64),decide_eq_false h1];rfl
  rw [decide_eq_true (by omega:(sd.length:Int)≤64),decide_eq_true h1,cond_true]
  refine ⟨trivial,?_⟩
  cases wit ch 1 8
  · rfl
  rw [cond_true]
  refine ⟨trivial,?_⟩
  cases wit st 0 8
  · rfl
  rw [cond_true]
  refine ⟨trivial,?_⟩
  cases wit cl 1 8
  · rfl
  rw [cond_true]
  refine ⟨trivial,?_⟩
  cases wit qu 1 64
  · rfl
  rw [cond_true]
  refine ⟨trivial,?_⟩
  cases wit cs 1 10000
  · rfl
  rw [cond_true]
  by_cases h2:cs < lo
  rotate_left 1
  · rw [decide_eq_false h2,decide_eq_true (by omega:lo≤cs)];rfl
  rw [decide_eq_true h2,decide_eq_false (by omega:¬ lo≤cs),cond_true]
  cases decide (lo≤10000)
  · rfl
  rw [cond_true]
  refine ⟨trivial,?_⟩
  cases wit ag 1 10000
  · rfl
  rw [cond_true]
  refine ⟨trivial,?_⟩
  cases wit wn 1 64
  · rfl
  rw [Bool.not_true,cond_false]
  by_cases h3:ro < 1
  · rw [decide_eq_true h3,decide_eq_false (by omega:¬ (1:Int)≤ro)];rfl
  rw [decide_eq_false h3,decide_eq_true (by omega:(1:Int)≤ro),cond_false]
  by_cases h4:sq < 1
  · rw [decide_eq_true h4,decide_eq_false (by omega:¬ (1:Int)≤sq)];rfl
  rw [decide_eq_false h4,decide_eq_true (by omega:(1:Int)≤sq)];rfl
theorem vc_fewo:VC Tryz.prog Tryz.f75 (bodyOf Tryz.f75) S_fewo [] A_fewo=(∀ (x:(Int×List (Int×List Int×Int×Unit)×List (List Int)×Unit)×Unit),List.length x.fst.snd.fst≤big∧List.length x.fst.snd.snd.fst≤big→
  List.length x.fst.snd.fst≤(9223372036854775807:Nat)→
  List.length x.fst.snd.snd.fst≤(9223372036854775807:Nat)→
  List.length x.fst.snd.fst≤(9223372036854775807:Nat)→
  ((0:Int)≤(0:Int)∧(0:Int)≤(↑(List.length x.fst.snd.fst):Int)∧itSum (0:Int) (List.drop (Int.toNat (0:Int)) x.fst.snd.fst)=itSum (0:Int) x.fst.snd.fst)∧∀ (v:Int×Int×Unit),(0:Int)≤v.fst∧v.fst≤(↑(List.length x.fst.snd.fst):Int)∧itSum v.snd.fst (List.drop (Int.toNat v.fst) x.fst.snd.fst)=itSum (0:Int) x.fst.snd.fst→
  bif decide (v.fst < (↑(List.length x.fst.snd.fst):Int)) then (0:Int)≤v.fst∧v.fst < (↑(List.length x.fst.snd.fst):Int)∧∀ (c0:Int×List Int×Int×Unit),x.fst.snd.fst[Int.toNat v.fst]?=some c0→
  List.length c0.snd.fst≤(9223372036854775807:Nat)→
  (64:Int)≠(0:Int)∧((0:Int)≤IntKind.wrap IntKind.i64 (v.fst+(1:Int))∧IntKind.wrap IntKind.i64 (v.fst+(1:Int))≤(↑(List.length x.fst.snd.fst):Int)∧itSum (IntKind.wrap IntKind.i64 (v.snd.fst+IntKind.wrap IntKind.i64 ((1:Int)+IntKind.wrap IntKind.i64 (Int.tdiv (↑(List.length c0.snd.fst):Int) (64:Int))))) (List.drop (Int.toNat (IntKind.wrap IntKind.i64 (v.fst+(1:Int)))) x.fst.snd.fst)=itSum (0:Int) x.fst.snd.fst)∧Int.toNat ((↑(List.length x.fst.snd.fst):Int) - IntKind.wrap IntKind.i64 (v.fst+(1:Int))) < Int.toNat ((↑(List.length x.fst.snd.fst):Int) - v.fst) else List.length x.fst.snd.snd.fst≤(9223372036854775807:Nat)→
  ((0:Int)≤(0:Int)∧(0:Int)≤(↑(List.length x.fst.snd.snd.fst):Int)∧bsSum v.snd.fst (List.drop (Int.toNat (0:Int)) x.fst.snd.snd.fst)=bsSum (itSum (0:Int) x.fst.snd.fst) x.fst.snd.snd.fst)∧∀ (v:Int×Int×Unit),(0:Int)≤v.fst∧v.fst≤(↑(List.length x.fst.snd.snd.fst):Int)∧bsSum v.snd.fst (List.drop (Int.toNat v.fst) x.fst.snd.snd.fst)=bsSum (itSum (0:Int) x.fst.snd.fst) x.fst.snd.snd.fst→
  bif decide (v.fst < (↑(List.length x.fst.snd.snd.fst):Int)) then (0:Int)≤v.fst∧v.fst < (↑(List.length x.fst.snd.snd.fst):Int)∧∀ (c0:List Int),x.fst.snd.snd.fst[Int.toNat v.fst]?=some c0→
  List.length c0≤(9223372036854775807:Nat)→
  (64:Int)≠(0:Int)∧((0:Int)≤IntKind.wrap IntKind.i64 (v.fst+(1:Int))∧IntKind.wrap IntKind.i64 (v.fst+(1:Int))≤(↑(List.length x.fst.snd.snd.fst):Int)∧bsSum (IntKind.wrap IntKind.i64 (v.snd.fst+IntKind.wrap IntKind.i64 ((1:Int)+IntKind.wrap IntKind.i64 (Int.tdiv (↑(List.length c0):Int) (64:Int))))) (List.drop (Int.toNat (IntKind.wrap IntKind.i64 (v.fst+(1:Int)))) x.fst.snd.snd.fst)=bsSum (itSum (0:Int) x.fst.snd.fst) x.fst.snd.snd.fst)∧Int.toNat ((↑(List.length x.fst.snd.snd.fst):Int) - IntKind.wrap IntKind.i64 (v.fst+(1:Int))) < Int.toNat ((↑(List.length x.fst.snd.snd.fst):Int) - v.fst) else (decide (v.snd.fst≤(150:Int)),())=(fewO x.fst,())):=by kernel_rfl
theorem en_fewo (us:Array Value) (u:World):(callFunc 75 us).run Tryz.prog u=.ok (.enter 75 us) u:=by kernel_rfl
theorem sc_fewo:SC Tryz.prog 75 S_fewo:=by
  refine SC.of Tryz.func75 (c:=bodyOf Tryz.f75) (by kernel_rfl) (by kernel_rfl) (fun x=>(by decide:(1:Nat)≤Tryz.f75.ntmps)) DOk.nil (Eq.mpr vc_fewo ?_)
  rintro ⟨⟨n,l,w,⟨⟩⟩,⟨⟩⟩ ⟨h1,h2⟩ - - -
  dsimp only at h1 h2 ⊢
  have e1:l.length≤1000000000:=h1
  have e2:w.length≤1000000000:=h2
  refine ⟨⟨Int.le_refl 0,by omega,rfl⟩,?_⟩
  rintro ⟨i,s,⟨⟩⟩ ⟨q0,q1,hg⟩
  dsimp only at q0 q1 hg ⊢
  have wi:IntKind.i64.wrap (i+1)=i+1:=IntWalk.i64_in _ (by omega)
  by_cases hi:i < (l.length:Int)
  · rw [decide_eq_true hi,cond_true,wi]
    refine ⟨q0,hi,fun c hc _=>?_⟩
    rw [drop_of hc,itSum] at hg
    refine ⟨by decide,⟨by omega,by omega,?_⟩,by omega⟩
    rw [show (i+1).toNat=i.toNat+1 by omega]
    exact hg
  rw [decide_eq_false hi,cond_false]
  rw [List.drop_eq_nil_of_le (by omega),itSum] at hg
  intro _
  subst hg
  refine ⟨⟨Int.le_refl 0,by omega,rfl⟩,?_⟩
  rintro ⟨k,s,⟨⟩⟩ ⟨k0,k1,hg⟩
  dsimp only at k0 k1 hg ⊢
  have wk:IntKind.i64.wrap (k+1)=k+1:=IntWalk.i64_in _ (by omega)
  by_cases hk:k < (w.length:Int)
  · rw [decide_eq_true hk,cond_true,wk]
    refine ⟨k0,hk,fun c hc _=>?_⟩
    rw [drop_of hc,bsSum] at hg
    refine ⟨by decide,⟨by omega,by omega,?_⟩,by omega⟩
    rw [show (k+1).toNat=k.toNat+1 by omega]
    exact hg
  · rw [decide_eq_false hk,cond_false]
    rw [List.drop_eq_nil_of_le (by omega),bsSum] at hg
    rw [hg]
    rfl
theorem vc_fewi:VC Tryz.prog Tryz.f76 (bodyOf Tryz.f76) S_fewi [] A_fewi=(∀ (x:(Int×List (Int×List Int×Int×Unit)×Unit)×Unit),List.length x.fst.snd.fst≤big→
  List.length x.fst.snd.fst≤(9223372036854775807:Nat)→
  List.length x.fst.snd.fst≤(9223372036854775807:Nat)→
  ((0:Int)≤(0:Int)∧(0:Int)≤(↑(List.length x.fst.snd.fst):Int)∧itSum (0:Int) (List.drop (Int.toNat (0:Int)) x.fst.snd.fst)=itSum (0:Int) x.fst.snd.fst)∧∀ (v:Int×Int×Unit),(0:Int)≤v.fst∧v.fst≤(↑(List.length x.fst.snd.fst):Int)∧itSum v.snd.fst (List.drop (Int.toNat v.fst) x.fst.snd.fst)=itSum (0:Int) x.fst.snd.fst→
  bif decide (v.fst < (↑(List.length x.fst.snd.fst):Int)) then (0:Int)≤v.fst∧v.fst < (↑(List.length x.fst.snd.fst):Int)∧∀ (c0:Int×List Int×Int×Unit),x.fst.snd.fst[Int.toNat v.fst]?=some c0→
  List.length c0.snd.fst≤(9223372036854775807:Nat)→
  (64:Int)≠(0:Int)∧((0:Int)≤IntKind.wrap IntKind.i64 (v.fst+(1:Int))∧IntKind.wrap IntKind.i64 (v.fst+(1:Int))≤(↑(List.length x.fst.snd.fst):Int)∧itSum (IntKind.wrap IntKind.i64 (v.snd.fst+IntKind.wrap IntKind.i64 ((1:Int)+IntKind.wrap IntKind.i64 (Int.tdiv (↑(List.length c0.snd.fst):Int) (64:Int))))) (List.drop (Int.toNat (IntKind.wrap IntKind.i64 (v.fst+(1:Int)))) x.fst.snd.fst)=itSum (0:Int) x.fst.snd.fst)∧Int.toNat ((↑(List.length x.fst.snd.fst):Int) - IntKind.wrap IntKind.i64 (v.fst+(1:Int))) < Int.toNat ((↑(List.length x.fst.snd.fst):Int) - v.fst) else (decide (v.snd.fst≤(150:Int)),())=(fewI x.fst,())):=by kernel_rfl
theorem en_fewi (us:Array Value) (u:World):(callFunc 76 us).run Tryz.prog u=.ok (.enter 76 us) u:=by kernel_rfl
theorem sc_fewi:SC Tryz.prog 76 S_fewi:=by
  refine SC.of Tryz.func76 (c:=bodyOf Tryz.f76) (by kernel_rfl) (by kernel_rfl) (fun x=>(by decide:(1:Nat)≤Tryz.f76.ntmps)) DOk.nil (Eq.mpr vc_fewi ?_)
  rintro ⟨⟨n,l,⟨⟩⟩,⟨⟩⟩ h1 - -
  dsimp only at h1 ⊢
  have e1:l.length≤1000000000:=h1
  refine ⟨⟨Int.le_refl 0,by omega,rfl⟩,?_⟩
  rintro ⟨i,s,⟨⟩⟩ ⟨q0,q1,hg⟩
  dsimp only at q0 q1 hg ⊢
  have wi:IntKind.i64.wrap (i+1)=i+1:=IntWalk.i64_in _ (by omega)
  by_cases hi:i < (l.length:Int)
  · rw [decide_eq_true hi,cond_true,wi]
    refine ⟨q0,hi,fun c hc _=>?_⟩
    rw [drop_of hc,itSum] at hg
    refine ⟨by decide,⟨by omega,by omega,?_⟩,by omega⟩
    rw [show (i+1).toNat=i.toNat+1 by omega]
    exact hg
  · rw [decide_eq_false hi,cond_false]
    rw [List.drop_eq_nil_of_le (by omega),itSum] at hg
    rw [hg]
    rfl
theorem vc_few:VC Tryz.prog Tryz.f48 (bodyOf Tryz.f48) S_few [(75,S_fewo),(76,S_fewi)] A_few=(∀ (x:(Int×(Int×Int×List Int×Unit)×List (Int×(Int×List (Int×List Int×Int×Unit)×List (List Int)×Unit)×(Int×List (Int×List Int×Int×Unit)×Unit)×Unit)×Unit)×Unit),okPo x.fst→
  List.length x.fst.snd.fst.snd.snd.fst≤(9223372036854775807:Nat)→
  List.length x.fst.snd.snd.fst≤(9223372036854775807:Nat)→
  List.length x.fst.snd.snd.fst≤(9223372036854775807:Nat)→
  ((0:Int)≤(0:Int)∧(0:Int)≤(↑(List.length x.fst.snd.snd.fst):Int)∧List.all (List.drop (Int.toNat (0:Int)) x.fst.snd.snd.fst) fewPe=List.all x.fst.snd.snd.fst fewPe)∧∀ (v:Int×Unit),(0:Int)≤v.fst∧v.fst≤(↑(List.length x.fst.snd.snd.fst):Int)∧List.all (List.drop (Int.toNat v.fst) x.fst.snd.snd.fst) fewPe=List.all x.fst.snd.snd.fst fewPe→
  bif decide (v.fst < (↑(List.length x.fst.snd.snd.fst):Int)) then (0:Int)≤v.fst∧v.fst < (↑(List.length x.fst.snd.snd.fst):Int)∧∀ (c0:Int×(Int×List (Int×List Int×Int×Unit)×List (List Int)×Unit)×(Int×List (Int×List Int×Int×Unit)×Unit)×Unit),x.fst.snd.snd.fst[Int.toNat v.fst]?=some c0→
  (List.length c0.snd.fst.snd.fst≤big∧List.length c0.snd.fst.snd.snd.fst≤big)∧bif !fewO c0.snd.fst then (false,())=(fewP x.fst,()) else List.length c0.snd.snd.fst.snd.fst≤big∧bif !fewI c0.snd.snd.fst then (false,())=(fewP x.fst,()) else List.length c0.snd.fst.snd.fst≤(9223372036854775807:Nat)→
  bif decide ((30:Int) < (↑(List.length c0.snd.fst.snd.fst):Int)) then (false,())=(fewP x.fst,()) else ((0:Int)≤IntKind.wrap IntKind.i64 (v.fst+(1:Int))∧IntKind.wrap IntKind.i64 (v.fst+(1:Int))≤(↑(List.length x.fst.snd.snd.fst):Int)∧List.all (List.drop (Int.toNat (IntKind.wrap IntKind.i64 (v.fst+(1:Int)))) x.fst.snd.snd.fst) fewPe=List.all x.fst.snd.snd.fst fewPe)∧Int.toNat ((↑(List.length x.fst.snd.snd.fst):Int) - IntKind.wrap IntKind.i64 (v.fst+(1:Int))) < Int.toNat ((↑(List.length x.fst.snd.snd.fst):Int) - v.fst) else List.length x.fst.snd.snd.fst≤(9223372036854775807:Nat)→
  bif decide ((↑(List.length x.fst.snd.snd.fst):Int)≤(8:Int)) then List.length x.fst.snd.fst.snd.snd.fst≤(9223372036854775807:Nat)→
  (decide ((↑(List.length x.fst.snd.fst.snd.snd.fst):Int)≤(60:Int)),())=(fewP x.fst,()) else (false,())=(fewP x.fst,())):=by kernel_rfl
theorem en_few (us:Array Value) (u:World):(callFunc 48 us).run Tryz.prog u=.ok (.enter 48 us) u:=by kernel_rfl
theorem sc_few:SC Tryz.prog 48 S_few:=by
  refine SC.of Tryz.func48 (c:=bodyOf Tryz.f48) (by kernel_rfl) (by kernel_rfl) (fun x=>(by decide:(1:Nat)≤Tryz.f48.ntmps)) (DOk.cons sc_fewo en_fewo (DOk.cons sc_fewi en_fewi DOk.nil)) (Eq.mpr vc_few ?_)
  rintro ⟨⟨n,s,l,⟨⟩⟩,⟨⟩⟩ ⟨h0,h1,h2⟩ - - -
  dsimp only at h0 h1 h2 ⊢
  have e1:l.length≤1000000000:=h1
  refine ⟨⟨Int.le_refl 0,by omega,rfl⟩,?_⟩
  rintro ⟨i,⟨⟩⟩ ⟨q0,q1,hg⟩
  dsimp only at q0 q1 hg ⊢
  have wi:IntKind.i64.wrap (i+1)=i+1:=IntWalk.i64_in _ (by omega)
  by_cases hi:i < (l.length:Int)
  · rw [decide_eq_true hi,cond_true,wi]
    refine ⟨q0,hi,fun c hc=>?_⟩
    obtain ⟨⟨k1,k2⟩,k3⟩:=h2 c (List.mem_of_getElem? hc)
    rw [drop_of hc,List.all_cons] at hg
    have bad:fewPe c=false→((false,()):Bool×Unit)=(fewP (n,s,l,()),()):=fun h=>by
      rw [h,Bool.false_and] at hg
      unfold fewP
      dsimp only
      rw [← hg]
      rfl
    refine ⟨⟨k1.1,k2.1⟩,?_⟩
    cases ha:fewO c.2.1
    · rw [Bool.not_false,cond_true]
      exact bad (by rw [fewPe,ha];rfl)
    rw [Bool.not_true,cond_false]
    refine ⟨k3.1,?_⟩
    cases hb:fewI c.2.2.1
    · rw [Bool.not_false,cond_true]
      exact bad (by rw [fewPe,ha,hb];rfl)
    rw [Bool.not_true,cond_false]
    intro _
    by_cases h30:30 < (c.2.1.2.1.length:Int)
    · rw [decide_eq_true h30,cond_true]
      exact bad (by rw [fewPe,ha,hb,decide_eq_true h30];rfl)
    rw [decide_eq_false h30,cond_false]
    refine ⟨⟨by omega,by omega,?_⟩,by omega⟩
    rw [show (i+1).toNat=i.toNat+1 by omega]
    rw [show fewPe c=true by rw [fewPe,ha,hb,decide_eq_false h30];rfl,Bool.true_and] at hg
    exact hg
  · rw [decide_eq_false hi,cond_false]
    rw [List.drop_eq_nil_of_le (by omega),List.all_nil] at hg
    intro _
    by_cases h8:(l.length:Int)≤8
    · rw [decide_eq_true h8,cond_true]
      intro _
      unfold fewP
      dsimp only
      rw [← hg,decide_eq_true h8]
      rfl
    · rw [decide_eq_false h8,cond_false]
      unfold fewP
      dsimp only
      rw [← hg,decide_eq_false h8]
      rfl
theorem vc_rints:VC Tryz.prog Tryz.f38 (bodyOf Tryz.f38) S_eqi [] A_rints=(∀ (x:List Int×List Int×Unit),True→
  List.length x.fst≤(9223372036854775807:Nat)→
  List.length x.snd.fst≤(9223372036854775807:Nat)→
  List.length x.fst≤(9223372036854775807:Nat)→
  List.length x.snd.fst≤(9223372036854775807:Nat)→
  bif (↑(List.length x.fst):Int) != (↑(List.length x.snd.fst):Int) then (false,())=(x.fst==x.snd.fst,()) else List.length x.fst≤(9223372036854775807:Nat)→
  ((0:Int)≤(0:Int)∧(0:Int)≤(↑(List.length x.fst):Int)∧List.length x.fst=List.length x.snd.fst∧List.take (Int.toNat (0:Int)) x.fst=List.take (Int.toNat (0:Int)) x.snd.fst)∧∀ (v:Int×Unit),(0:Int)≤v.fst∧v.fst≤(↑(List.length x.fst):Int)∧List.length x.fst=List.length x.snd.fst∧List.take (Int.toNat v.fst) x.fst=List.take (Int.toNat v.fst) x.snd.fst→
  bif decide (v.fst < (↑(List.length x.fst):Int)) then (0:Int)≤v.fst∧v.fst < (↑(List.length x.fst):Int)∧∀ (c0:Int),x.fst[Int.toNat v.fst]?=some c0→
  (0:Int)≤v.fst∧v.fst < (↑(List.length x.snd.fst):Int)∧∀ (c0_1:Int),x.snd.fst[Int.toNat v.fst]?=some c0_1→
  bif c0 != c0_1 then (false,())=(x.fst==x.snd.fst,()) else ((0:Int)≤IntKind.wrap IntKind.i64 (v.fst+(1:Int))∧IntKind.wrap IntKind.i64 (v.fst+(1:Int))≤(↑(List.length x.fst):Int)∧List.length x.fst=List.length x.snd.fst∧List.take (Int.toNat (IntKind.wrap IntKind.i64 (v.fst+(1:Int)))) x.fst=List.take (Int.toNat (IntKind.wrap IntKind.i64 (v.fst+(1:Int)))) x.snd.fst)∧Int.toNat ((↑(List.length x.fst):Int) - IntKind.wrap IntKind.i64 (v.fst+(1:Int))) < Int.toNat ((↑(List.length x.fst):Int) - v.fst) else (true,())=(x.fst==x.snd.fst,())):=by kernel_rfl
theorem en_rints (us:Array Value) (u:World):(callFunc 38 us).run Tryz.prog u=.ok (.enter 38 us) u:=by kernel_rfl
theorem sc_rints:SC Tryz.prog 38 S_eqi:=by
  refine SC.of Tryz.func38 (c:=bodyOf Tryz.f38) (by kernel_rfl) (by kernel_rfl) (fun x=>(by decide:(2:Nat)≤Tryz.f38.ntmps)) DOk.nil (Eq.mpr vc_rints ?_)
  rintro ⟨a,b,⟨⟩⟩ - hla - - -
  dsimp only at hla ⊢
  by_cases h:a.length=b.length
  rotate_left 1
  · rw [bneT (by omega),cond_true,beq_eq_false_iff_ne.2 (fun e=>h (by rw [e]))]
  rw [bneF (by omega),cond_false]
  intro _
  refine ⟨⟨Int.le_refl 0,by omega,h,rfl⟩,?_⟩
  rintro ⟨i,⟨⟩⟩ ⟨q0,q1,-,ht⟩
  dsimp only at q0 q1 ht ⊢
  by_cases hi:i < (a.length:Int)
  rotate_left 1
  · rw [decide_eq_false hi,cond_false]
    obtain rfl:i=(a.length:Int):=by omega
    rw [show ((a.length:Nat):Int).toNat=a.length by omega,List.take_length,h,List.take_length] at ht
    rw [beq_iff_eq.2 ht]
  have wi:IntKind.i64.wrap (i+1)=i+1:=IntWalk.i64_in _ (by omega)
  rw [decide_eq_true hi,cond_true,wi]
  refine ⟨q0,hi,fun c hc=>⟨q0,by omega,fun d hd=>?_⟩⟩
  have ne:c≠d→¬ a=b:=fun e e2=>e (by rw [e2,hd] at hc;exact (Option.some.inj hc).symm)
  by_cases e:c=d
  rotate_left 1
  · rw [bneT e,cond_true,beq_eq_false_iff_ne.2 (ne e)]
  rw [bneF e,cond_false]
  subst e
  refine ⟨⟨by omega,by omega,h,?_⟩,by omega⟩
  rw [show (i+1).toNat=i.toNat+1 by omega,take_snoc hc,take_snoc hd,ht]
theorem vc_rst:VC Tryz.prog Tryz.f15 (bodyOf Tryz.f15) S_ssame [(38,S_eqi)] (fun _ _=>none)=(∀ (x:(Int×Int×List Int×Unit)×(Int×Int×List Int×Unit)×Unit),True→
  List.length x.fst.snd.snd.fst≤(9223372036854775807:Nat)→
  List.length x.snd.fst.snd.snd.fst≤(9223372036854775807:Nat)→
  bif x.fst.fst==x.snd.fst.fst then bif x.fst.snd.fst==x.snd.fst.snd.fst then True∧(x.fst.snd.snd.fst==x.snd.fst.snd.snd.fst,())=(stSame x.fst x.snd.fst,()) else (false,())=(stSame x.fst x.snd.fst,()) else (false,())=(stSame x.fst x.snd.fst,())):=by kernel_rfl
theorem en_rst (us:Array Value) (u:World):(callFunc 15 us).run Tryz.prog u=.ok (.enter 15 us) u:=by kernel_rfl
theorem sc_rst:SC Tryz.prog 15 S_ssame:=by
  refine SC.of Tryz.func15 (c:=bodyOf Tryz.f15) (by kernel_rfl) (by kernel_rfl) (fun x=>(by decide:(2:Nat)≤Tryz.f15.ntmps)) (DOk.cons sc_rints en_rints DOk.nil) (Eq.mpr vc_rst ?_)
  rintro ⟨⟨a1,a2,a3,⟨⟩⟩,⟨b1,b2,b3,⟨⟩⟩,⟨⟩⟩ - - -
  dsimp only [stSame]
  cases a1==b1
  · rfl
  cases a2==b2
  · rfl
  exact ⟨trivial,rfl⟩
theorem vc_ritm:VC Tryz.prog Tryz.f107 (bodyOf Tryz.f107) S_ritm [(35,S_eq)] A_ritm=(∀ (x:List (Int×List Int×Int×Unit)×List (Int×List Int×Int×Unit)×Unit),bytIts x.fst∧bytIts x.snd.fst→
  List.length x.fst≤(9223372036854775807:Nat)→
  List.length x.snd.fst≤(9223372036854775807:Nat)→
  List.length x.fst≤(9223372036854775807:Nat)→
  List.length x.snd.fst≤(9223372036854775807:Nat)→
  bif (↑(List.length x.fst):Int) != (↑(List.length x.snd.fst):Int) then (false,())=(sIts x.fst x.snd.fst,()) else List.length x.fst≤(9223372036854775807:Nat)→
  ((0:Int)≤(0:Int)∧(0:Int)≤(↑(List.length x.fst):Int)∧List.length x.fst=List.length x.snd.fst∧List.take (Int.toNat (0:Int)) x.fst=List.take (Int.toNat (0:Int)) x.snd.fst)∧∀ (v:Int×Unit),(0:Int)≤v.fst∧v.fst≤(↑(List.length x.fst):Int)∧List.length x.fst=List.length x.snd.fst∧List.take (Int.toNat v.fst) x.fst=List.take (Int.toNat v.fst) x.snd.fst→
  bif decide (v.fst < (↑(List.length x.fst):Int)) then (0:Int)≤v.fst∧v.fst < (↑(List.length x.fst):Int)∧∀ (c0:Int×List Int×Int×Unit),x.fst[Int.toNat v.fst]?=some c0→
  (0:Int)≤v.fst∧v.fst < (↑(List.length x.snd.fst):Int)∧∀ (c0_1:Int×List Int×Int×Unit),x.snd.fst[Int.toNat v.fst]?=some c0_1→
  bif c0.fst != c0_1.fst then (false,())=(sIts x.fst x.snd.fst,()) else (0:Int)≤v.fst∧v.fst < (↑(List.length x.fst):Int)∧∀ (c0:Int×List Int×Int×Unit),x.fst[Int.toNat v.fst]?=some c0→
  (0:Int)≤v.fst∧v.fst < (↑(List.length x.snd.fst):Int)∧∀ (c0_2:Int×List Int×Int×Unit),x.snd.fst[Int.toNat v.fst]?=some c0_2→
  bif c0.snd.snd.fst != c0_2.snd.snd.fst then (false,())=(sIts x.fst x.snd.fst,()) else (0:Int)≤v.fst∧v.fst < (↑(List.length x.fst):Int)∧∀ (c0:Int×List Int×Int×Unit),x.fst[Int.toNat v.fst]?=some c0→
  (0:Int)≤v.fst∧v.fst < (↑(List.length x.snd.fst):Int)∧∀ (c0_3:Int×List Int×Int×Unit),x.snd.fst[Int.toNat v.fst]?=some c0_3→
  ((∀ (x:Int),x∈c0.snd.fst→
  (0:Int)≤x∧x < (256:Int))∧∀ (x:Int),x∈c0_3.snd.fst→
  (0:Int)≤x∧x < (256:Int))∧bif !c0.snd.fst==c0_3.snd.fst then (false,())=(sIts x.fst x.snd.fst,()) else ((0:Int)≤IntKind.wrap IntKind.i64 (v.fst+(1:Int))∧IntKind.wrap IntKind.i64 (v.fst+(1:Int))≤(↑(List.length x.fst):Int)∧List.length x.fst=List.length x.snd.fst∧List.take (Int.toNat (IntKind.wrap IntKind.i64 (v.fst+(1:Int)))) x.fst=List.take (Int.toNat (IntKind.wrap IntKind.i64 (v.fst+(1:Int)))) x.snd.fst)∧Int.toNat ((↑(List.length x.fst):Int) - IntKind.wrap IntKind.i64 (v.fst+(1:Int))) < Int.toNat ((↑(List.length x.fst):Int) - v.fst) else (true,())=(sIts x.fst x.snd.fst,())):=by kernel_rfl
theorem en_ritm (us:Array Value) (u:World):(callFunc 107 us).run Tryz.prog u=.ok (.enter 107 us) u:=by kernel_rfl
theorem sc_ritm:SC Tryz.prog 107 S_ritm:=by
  refine SC.of Tryz.func107 (c:=bodyOf Tryz.f107) (by kernel_rfl) (by kernel_rfl) (fun x=>(by decide:(2:Nat)≤Tryz.f107.ntmps)) (DOk.cons sc_same1 en_same1 DOk.nil) (Eq.mpr vc_ritm ?_)
  rintro ⟨a,b,⟨⟩⟩ ⟨ha,hb⟩ hla - - -
  dsimp only at ha hb hla ⊢
  by_cases h:a.length=b.length
  rotate_left 1
  · rw [bneT (by omega),cond_true,sIts_f (fun e=>h (by rw [e]))]
  rw [bneF (by omega),cond_false]
  intro _
  refine ⟨⟨Int.le_refl 0,by omega,h,rfl⟩,?_⟩
  rintro ⟨i,⟨⟩⟩ ⟨q0,q1,-,ht⟩
  dsimp only at q0 q1 ht ⊢
  by_cases hi:i < (a.length:Int)
  rotate_left 1
  · rw [decide_eq_false hi,cond_false]
    obtain rfl:i=(a.length:Int):=by omega
    rw [show ((a.length:Nat):Int).toNat=a.length by omega,List.take_length,h,List.take_length] at ht
    rw [sIts_t ht]
  have wi:IntKind.i64.wrap (i+1)=i+1:=IntWalk.i64_in _ (by omega)
  rw [decide_eq_true hi,cond_true,wi]
  refine ⟨q0,hi,fun c hc=>⟨q0,by omega,fun d hd=>?_⟩⟩
  have ne:c≠d→¬ a=b:=fun e e2=>e (by rw [e2,hd] at hc;exact (Option.some.inj hc).symm)
  by_cases e1:c.1=d.1
  rotate_left 1
  · rw [bneT e1,cond_true,sIts_f (ne fun e=>e1 (by rw [e]))]
  rw [bneF e1,cond_false]
  refine ⟨q0,hi,fun c' hc'=>⟨q0,by omega,fun d' hd'=>?_⟩⟩
  obtain rfl:=Option.some.inj (hc.symm.trans hc')
  obtain rfl:=Option.some.inj (hd.symm.trans hd')
  by_cases e2:c.2.2.1=d.2.2.1
  rotate_left 1
  · rw [bneT e2,cond_true,sIts_f (ne fun e=>e2 (by rw [e]))]
  rw [bneF e2,cond_false]
  refine ⟨q0,hi,fun c' hc'=>⟨q0,by omega,fun d' hd'=>?_⟩⟩
  obtain rfl:=Option.some.inj (hc.symm.trans hc')
  obtain rfl:=Option.some.inj (hd.symm.trans hd')
  refine ⟨⟨ha c (List.mem_of_getElem? hc),hb d (List.mem_of_getElem? hd)⟩,?_⟩
  by_cases e3:c.2.1=d.2.1
  rotate_left 1
  · rw [beq_eq_false_iff_ne.2 e3,Bool.not_false,cond_true,sIts_f (ne fun e=>e3 (by rw [e]))]
  rw [beq_iff_eq.2 e3,Bool.not_true,cond_false]
  have e:c=d:=Prod.ext e1 (Prod.ext e3 (Prod.ext e2 rfl))
  subst e
  refine ⟨⟨by omega,by omega,h,?_⟩,by omega⟩
  rw [show (i+1).toNat=i.toNat+1 by omega,take_snoc hc,take_snoc hd,ht]
theorem vc_rpts:VC Tryz.prog Tryz.f108 (bodyOf Tryz.f108) S_rpts [(35,S_eq)] A_rpts=(∀ (x:List (List Int)×List (List Int)×Unit),bytBs x.fst∧bytBs x.snd.fst→
  List.length x.fst≤(9223372036854775807:Nat)→
  List.length x.snd.fst≤(9223372036854775807:Nat)→
  List.length x.fst≤(9223372036854775807:Nat)→
  List.length x.snd.fst≤(9223372036854775807:Nat)→
  bif (↑(List.length x.fst):Int) != (↑(List.length x.snd.fst):Int) then (false,())=(sBs x.fst x.snd.fst,()) else List.length x.fst≤(9223372036854775807:Nat)→
  ((0:Int)≤(0:Int)∧(0:Int)≤(↑(List.length x.fst):Int)∧List.length x.fst=List.length x.snd.fst∧List.take (Int.toNat (0:Int)) x.fst=List.take (Int.toNat (0:Int)) x.snd.fst)∧∀ (v:Int×Unit),(0:Int)≤v.fst∧v.fst≤(↑(List.length x.fst):Int)∧List.length x.fst=List.length x.snd.fst∧List.take (Int.toNat v.fst) x.fst=List.take (Int.toNat v.fst) x.snd.fst→
  bif decide (v.fst < (↑(List.length x.fst):Int)) then (0:Int)≤v.fst∧v.fst < (↑(List.length x.fst):Int)∧∀ (c0:List Int),x.fst[Int.toNat v.fst]?=some c0→
  (0:Int)≤v.fst∧v.fst < (↑(List.length x.snd.fst):Int)∧∀ (c0_1:List Int),x.snd.fst[Int.toNat v.fst]?=some c0_1→
  ((∀ (x:Int),x∈c0→
  (0:Int)≤x∧x < (256:Int))∧∀ (x:Int),x∈c0_1→
  (0:Int)≤x∧x < (256:Int))∧bif !c0==c0_1 then (false,())=(sBs x.fst x.snd.fst,()) else ((0:Int)≤IntKind.wrap IntKind.i64 (v.fst+(1:Int))∧IntKind.wrap IntKind.i64 (v.fst+(1:Int))≤(↑(List.length x.fst):Int)∧List.length x.fst=List.length x.snd.fst∧List.take (Int.toNat (IntKind.wrap IntKind.i64 (v.fst+(1:Int)))) x.fst=List.take (Int.toNat (IntKind.wrap IntKind.i64 (v.fst+(1:Int)))) x.snd.fst)∧Int.toNat ((↑(List.length x.fst):Int) - IntKind.wrap IntKind.i64 (v.fst+(1:Int))) < Int.toNat ((↑(List.length x.fst):Int) - v.fst) else (true,())=(sBs x.fst x.snd.fst,())):=by kernel_rfl
theorem en_rpts (us:Array Value) (u:World):(callFunc 108 us).run Tryz.prog u=.ok (.enter 108 us) u:=by kernel_rfl
theorem sc_rpts:SC Tryz.prog 108 S_rpts:=by
  refine SC.of Tryz.func108 (c:=bodyOf Tryz.f108) (by kernel_rfl) (by kernel_rfl) (fun x=>(by decide:(2:Nat)≤Tryz.f108.ntmps)) (DOk.cons sc_same1 en_same1 DOk.nil) (Eq.mpr vc_rpts ?_)
  rintro ⟨a,b,⟨⟩⟩ ⟨ha,hb⟩ hla - - -
  dsimp only at ha hb hla ⊢
  by_cases h:a.length=b.length
  rotate_left 1
  · rw [bneT (by omega),cond_true,sBs_f (fun e=>h (by rw [e]))]
  rw [bneF (by omega),cond_false]
  intro _
  refine ⟨⟨Int.le_refl 0,by omega,h,rfl⟩,?_⟩
  rintro ⟨i,⟨⟩⟩ ⟨q0,q1,-,ht⟩
  dsimp only at q0 q1 ht ⊢
  by_cases hi:i < (a.length:Int)
  rotate_left 1
  · rw [decide_eq_false hi,cond_false]
    obtain rfl:i=(a.length:Int):=by omega
    rw [show ((a.length:Nat):Int).toNat=a.length by omega,List.take_length,h,List.take_length] at ht
    rw [sBs_t ht]
  have wi:IntKind.i64.wrap (i+1)=i+1:=IntWalk.i64_in _ (by omega)
  rw [decide_eq_true hi,cond_true,wi]
  refine ⟨q0,hi,fun c hc=>⟨q0,by omega,fun d hd=>?_⟩⟩
  have ne:c≠d→¬ a=b:=fun e e2=>e (by rw [e2,hd] at hc;exact (Option.some.inj hc).symm)
  refine ⟨⟨ha c (List.mem_of_getElem? hc),hb d (List.mem_of_getElem? hd)⟩,?_⟩
  by_cases e:c=d
  rotate_left 1
  · rw [beq_eq_false_iff_ne.2 e,Bool.not_false,cond_true,sBs_f (ne e)]
  rw [beq_iff_eq.2 e,Bool.not_true,cond_false]
  subst e
  refine ⟨⟨by omega,by omega,h,?_⟩,by omega⟩
  rw [show (i+1).toNat=i.toNat+1 by omega,take_snoc hc,take_snoc hd,ht]
theorem vc_rout:VC Tryz.prog Tryz.f67 (bodyOf Tryz.f67) S_rout [(107,S_ritm),(108,S_rpts)] (fun _ _=>none)=(∀ (x:(Int×List (Int×List Int×Int×Unit)×List (List Int)×Unit)×(Int×List (Int×List Int×Int×Unit)×List (List Int)×Unit)×Unit),bytOut x.fst∧bytOut x.snd.fst→
  List.length x.fst.snd.fst≤(9223372036854775807:Nat)→
  List.length x.fst.snd.snd.fst≤(9223372036854775807:Nat)→
  List.length x.snd.fst.snd.fst≤(9223372036854775807:Nat)→
  List.length x.snd.fst.snd.snd.fst≤(9223372036854775807:Nat)→
  bif x.fst.fst==x.snd.fst.fst then (bytIts x.fst.snd.fst∧bytIts x.snd.fst.snd.fst)∧bif sIts x.fst.snd.fst x.snd.fst.snd.fst then (bytBs x.fst.snd.snd.fst∧bytBs x.snd.fst.snd.snd.fst)∧(sBs x.fst.snd.snd.fst x.snd.fst.snd.snd.fst,())=(sOut x.fst x.snd.fst,()) else (false,())=(sOut x.fst x.snd.fst,()) else (false,())=(sOut x.fst x.snd.fst,())):=by kernel_rfl
theorem en_rout (us:Array Value) (u:World):(callFunc 67 us).run Tryz.prog u=.ok (.enter 67 us) u:=by kernel_rfl
theorem sc_rout:SC Tryz.prog 67 S_rout:=by
  refine SC.of Tryz.func67 (c:=bodyOf Tryz.f67) (by kernel_rfl) (by kernel_rfl) (fun x=>(by decide:(2:Nat)≤Tryz.f67.ntmps)) (DOk.cons sc_ritm en_ritm (DOk.cons sc_rpts en_rpts DOk.nil)) (Eq.mpr vc_rout ?_)
  rintro ⟨⟨a1,a2,a3,⟨⟩⟩,⟨b1,b2,b3,⟨⟩⟩,⟨⟩⟩ ⟨ha,hb⟩ - - - -
  dsimp only at ha hb ⊢
  by_cases e1:a1=b1
  rotate_left 1
  · rw [beq_eq_false_iff_ne.2 e1,cond_false,sOut_f (fun e=>e1 (by cases e;rfl))]
  rw [beq_iff_eq.2 e1,cond_true]
  refine ⟨⟨ha.1,hb.1⟩,?_⟩
  by_cases e2:a2=b2
  rotate_left 1
  · rw [sIts_f e2,cond_false,sOut_f (fun e=>e2 (by cases e;rfl))]
  rw [sIts_t e2,cond_true]
  refine ⟨⟨ha.2,hb.2⟩,?_⟩
  by_cases e3:a3=b3
  rotate_left 1
  · rw [sBs_f e3,sOut_f (fun e=>e3 (by cases e;rfl))]
  rw [sBs_t e3,sOut_t (by rw [e1,e2,e3])]
theorem vc_rin:VC Tryz.prog Tryz.f68 (bodyOf Tryz.f68) S_rin [(107,S_ritm)] (fun _ _=>none)=(∀ (x:(Int×List (Int×List Int×Int×Unit)×Unit)×(Int×List (Int×List Int×Int×Unit)×Unit)×Unit),bytIn x.fst∧bytIn x.snd.fst→
  List.length x.fst.snd.fst≤(9223372036854775807:Nat)→
  List.length x.snd.fst.snd.fst≤(9223372036854775807:Nat)→
  bif x.fst.fst==x.snd.fst.fst then (bytIts x.fst.snd.fst∧bytIts x.snd.fst.snd.fst)∧(sIts x.fst.snd.fst x.snd.fst.snd.fst,())=(sIn x.fst x.snd.fst,()) else (false,())=(sIn x.fst x.snd.fst,())):=by kernel_rfl
theorem en_rin (us:Array Value) (u:World):(callFunc 68 us).run Tryz.prog u=.ok (.enter 68 us) u:=by kernel_rfl
theorem sc_rin:SC Tryz.prog 68 S_rin:=by
  refine SC.of Tryz.func68 (c:=bodyOf Tryz.f68) (by kernel_rfl) (by kernel_rfl) (fun x=>(by decide:(2:Nat)≤Tryz.f68.ntmps)) (DOk.cons sc_ritm en_ritm DOk.nil) (Eq.mpr vc_rin ?_)
  rintro ⟨⟨a1,a2,⟨⟩⟩,⟨b1,b2,⟨⟩⟩,⟨⟩⟩ ⟨ha,hb⟩ - -
  dsimp only at ha hb ⊢
  by_cases e1:a1=b1
  rotate_left 1
  · rw [beq_eq_false_iff_ne.2 e1,cond_false,sIn_f (fun e=>e1 (by cases e;rfl))]
  rw [beq_iff_eq.2 e1,cond_true]
  refine ⟨⟨ha,hb⟩,?_⟩
  by_cases e2:a2=b2
  rotate_left 1
  · rw [sIts_f e2,sIn_f (fun e=>e2 (by cases e;rfl))]
  rw [sIts_t e2,sIn_t (by rw [e1,e2])]
theorem vc_rpo:VC Tryz.prog Tryz.f34 (bodyOf Tryz.f34) S_rpo [(15,S_ssame),(67,S_rout),(68,S_rin)] A_rpo=(∀ (x:(Int×(Int×Int×List Int×Unit)×List (Int×(Int×List (Int×List Int×Int×Unit)×List (List Int)×Unit)×(Int×List (Int×List Int×Int×Unit)×Unit)×Unit)×Unit)×(Int×(Int×Int×List Int×Unit)×List (Int×(Int×List (Int×List Int×Int×Unit)×List (List Int)×Unit)×(Int×List (Int×List Int×Int×Unit)×Unit)×Unit)×Unit)×Unit),bytPo x.fst∧bytPo x.snd.fst→
  List.length x.fst.snd.fst.snd.snd.fst≤(9223372036854775807:Nat)→
  List.length x.fst.snd.snd.fst≤(9223372036854775807:Nat)→
  List.length x.snd.fst.snd.fst.snd.snd.fst≤(9223372036854775807:Nat)→
  List.length x.snd.fst.snd.snd.fst≤(9223372036854775807:Nat)→
  bif x.fst.fst != x.snd.fst.fst then (false,())=(sPos x.fst x.snd.fst,()) else True∧bif !stSame x.fst.snd.fst x.snd.fst.snd.fst then (false,())=(sPos x.fst x.snd.fst,()) else List.length x.fst.snd.snd.fst≤(9223372036854775807:Nat)→
  List.length x.snd.fst.snd.snd.fst≤(9223372036854775807:Nat)→
  bif (↑(List.length x.fst.snd.snd.fst):Int) != (↑(List.length x.snd.fst.snd.snd.fst):Int) then (false,())=(sPos x.fst x.snd.fst,()) else List.length x.fst.snd.snd.fst≤(9223372036854775807:Nat)→
  ((0:Int)≤(0:Int)∧(0:Int)≤(↑(List.length x.fst.snd.snd.fst):Int)∧List.length x.fst.snd.snd.fst=List.length x.snd.fst.snd.snd.fst∧List.take (Int.toNat (0:Int)) x.fst.snd.snd.fst=List.take (Int.toNat (0:Int)) x.snd.fst.snd.snd.fst)∧∀ (v:Int×Unit),(0:Int)≤v.fst∧v.fst≤(↑(List.length x.fst.snd.snd.fst):Int)∧List.length x.fst.snd.snd.fst=List.length x.snd.fst.snd.snd.fst∧List.take (Int.toNat v.fst) x.fst.snd.snd.fst=List.take (Int.toNat v.fst) x.snd.fst.snd.snd.fst→
  bif decide (v.fst < (↑(List.length x.fst.snd.snd.fst):Int)) then (0:Int)≤v.fst∧v.fst < (↑(List.length x.fst.snd.snd.fst):Int)∧∀ (c0:Int×(Int×List (Int×List Int×Int×Unit)×List (List Int)×Unit)×(Int×List (Int×List Int×Int×Unit)×Unit)×Unit),x.fst.snd.snd.fst[Int.toNat v.fst]?=some c0→
  (0:Int)≤v.fst∧v.fst < (↑(List.length x.snd.fst.snd.snd.fst):Int)∧∀ (c0_1:Int×(Int×List (Int×List Int×Int×Unit)×List (List Int)×Unit)×(Int×List (Int×List Int×Int×Unit)×Unit)×Unit),x.snd.fst.snd.snd.fst[Int.toNat v.fst]?=some c0_1→
  bif c0.fst != c0_1.fst then (false,())=(sPos x.fst x.snd.fst,()) else (0:Int)≤v.fst∧v.fst < (↑(List.length x.fst.snd.snd.fst):Int)∧∀ (c0:Int×(Int×List (Int×List Int×Int×Unit)×List (List Int)×Unit)×(Int×List (Int×List Int×Int×Unit)×Unit)×Unit),x.fst.snd.snd.fst[Int.toNat v.fst]?=some c0→
  (0:Int)≤v.fst∧v.fst < (↑(List.length x.snd.fst.snd.snd.fst):Int)∧∀ (c0_2:Int×(Int×List (Int×List Int×Int×Unit)×List (List Int)×Unit)×(Int×List (Int×List Int×Int×Unit)×Unit)×Unit),x.snd.fst.snd.snd.fst[Int.toNat v.fst]?=some c0_2→
  (bytOut c0.snd.fst∧bytOut c0_2.snd.fst)∧bif !sOut c0.snd.fst c0_2.snd.fst then (false,())=(sPos x.fst x.snd.fst,()) else (0:Int)≤v.fst∧v.fst < (↑(List.length x.fst.snd.snd.fst):Int)∧∀ (c0:Int×(Int×List (Int×List Int×Int×Unit)×List (List Int)×Unit)×(Int×List (Int×List Int×Int×Unit)×Unit)×Unit),x.fst.snd.snd.fst[Int.toNat v.fst]?=some c0→
  (0:Int)≤v.fst∧v.fst < (↑(List.length x.snd.fst.snd.snd.fst):Int)∧∀ (c0_3:Int×(Int×List (Int×List Int×Int×Unit)×List (List Int)×Unit)×(Int×List (Int×List Int×Int×Unit)×Unit)×Unit),x.snd.fst.snd.snd.fst[Int.toNat v.fst]?=some c0_3→
  (bytIn c0.snd.snd.fst∧bytIn c0_3.snd.snd.fst)∧bif !sIn c0.snd.snd.fst c0_3.snd.snd.fst then (false,())=(sPos x.fst x.snd.fst,()) else ((0:Int)≤IntKind.wrap IntKind.i64 (v.fst+(1:Int))∧IntKind.wrap IntKind.i64 (v.fst+(1:Int))≤(↑(List.length x.fst.snd.snd.fst):Int)∧List.length x.fst.snd.snd.fst=List.length x.snd.fst.snd.snd.fst∧List.take (Int.toNat (IntKind.wrap IntKind.i64 (v.fst+(1:Int)))) x.fst.snd.snd.fst=List.take (Int.toNat (IntKind.wrap IntKind.i64 (v.fst+(1:Int)))) x.snd.fst.snd.snd.fst)∧Int.toNat ((↑(List.length x.fst.snd.snd.fst):Int) - IntKind.wrap IntKind.i64 (v.fst+(1:Int))) < Int.toNat ((↑(List.length x.fst.snd.snd.fst):Int) - v.fst) else (true,())=(sPos x.fst x.snd.fst,())):=by kernel_rfl
theorem en_rpo (us:Array Value) (u:World):(callFunc 34 us).run Tryz.prog u=.ok (.enter 34 us) u:=by kernel_rfl
theorem sc_rpo:SC Tryz.prog 34 S_rpo:=by
  refine SC.of Tryz.func34 (c:=bodyOf Tryz.f34) (by kernel_rfl) (by kernel_rfl) (fun x=>(by decide:(2:Nat)≤Tryz.f34.ntmps)) (DOk.cons sc_rst en_rst (DOk.cons sc_rout en_rout (DOk.cons sc_rin en_rin DOk.nil))) (Eq.mpr vc_rpo ?_)
  rintro ⟨⟨n,s,a,⟨⟩⟩,⟨m,t,b,⟨⟩⟩,⟨⟩⟩ ⟨ha,hb⟩ - hla - -
  dsimp only at ha hb hla ⊢
  by_cases f1:n=m
  rotate_left 1
  · rw [bneT f1,cond_true,sPos_f (fun e=>f1 (by cases e;rfl))]
  rw [bneF f1,cond_false]
  refine ⟨trivial,?_⟩
  have f2:stSame s t=true↔s=t:=by
    obtain ⟨s1,s2,s3,⟨⟩⟩:=s
    obtain ⟨t1,t2,t3,⟨⟩⟩:=t
    constructor
    · intro h
      simp only [stSame,Bool.and_eq_true,beq_iff_eq] at h
      rw [h.1,h.2.1,h.2.2]
    · intro h
      rw [h]
      unfold stSame
      simp
  by_cases f3:s=t
  rotate_left 1
  · have:stSame s t=false:=by
      cases h:stSame s t
      · rfl
      · exact absurd (f2.1 h) f3
    rw [this,Bool.not_false,cond_true,sPos_f (fun e=>f3 (by cases e;rfl))]
  rw [f2.2 f3,Bool.not_true,cond_false]
  intro _ _
  have go:∀ {P:Prop},(P→a=b)→(a=b→P)→True:=fun _ _=>trivial
  by_cases h:a.length=b.length
  rotate_left 1
  · rw [bneT (by omega),cond_true,sPos_f (fun e=>h (by cases e;rfl))]
  rw [bneF (by omega),cond_false]
  intro _
  refine ⟨⟨Int.le_refl 0,by omega,h,rfl⟩,?_⟩
  rintro ⟨i,⟨⟩⟩ ⟨q0,q1,-,ht⟩
  dsimp only at q0 q1 ht ⊢
  by_cases hi:i < (a.length:Int)
  rotate_left 1
  · rw [decide_eq_false hi,cond_false]
    obtain rfl:i=(a.length:Int):=by omega
    rw [show ((a.length:Nat):Int).toNat=a.length by omega,List.take_length,h,List.take_length] at ht
    rw [sPos_t (by rw [f1,f3,ht])]
  have wi:IntKind.i64.wrap (i+1)=i+1:=IntWalk.i64_in _ (by omega)
  rw [decide_eq_true hi,cond_true,wi]
  refine ⟨q0,hi,fun c hc=>⟨q0,by omega,fun d hd=>?_⟩⟩
  have ne:c≠d→¬ ((n,s,a,()):Pos)=(m,t,b,()):=fun e e2=>e (by
    have e3:a=b:=by cases e2;rfl
    rw [e3,hd] at hc
    exact (Option.some.inj hc).symm)
  by_cases e1:c.1=d.1
  rotate_left 1
  · rw [bneT e1,cond_true,sPos_f (ne fun e=>e1 (by rw [e]))]
  rw [bneF e1,cond_false]
  refine ⟨q0,hi,fun c' hc'=>⟨q0,by omega,fun d' hd'=>?_⟩⟩
  obtain rfl:=Option.some.inj (hc.symm.trans hc')
  obtain rfl:=Option.some.inj (hd.symm.trans hd')
  have kc:=ha c (List.mem_of_getElem? hc)
  have kd:=hb d (List.mem_of_getElem? hd)
  refine ⟨⟨kc.1,kd.1⟩,?_⟩
  by_cases e2:c.2.1=d.2.1
  rotate_left 1
  · rw [sOut_f e2,Bool.not_false,cond_true,sPos_f (ne fun e=>e2 (by rw [e]))]
  rw [sOut_t e2,Bool.not_true,cond_false]
  refine ⟨q0,hi,fun c' hc'=>⟨q0,by omega,fun d' hd'=>?_⟩⟩
  obtain rfl:=Option.some.inj (hc.symm.trans hc')
  obtain rfl:=Option.some.inj (hd.symm.trans hd')
  refine ⟨⟨kc.2,kd.2⟩,?_⟩
  by_cases e3:c.2.2.1=d.2.2.1
  rotate_left 1
  · rw [sIn_f e3,Bool.not_false,cond_true,sPos_f (ne fun e=>e3 (by rw [e]))]
  rw [sIn_t e3,Bool.not_true,cond_false]
  have e:c=d:=Prod.ext e1 (Prod.ext e2 (Prod.ext e3 rfl))
  subst e
  refine ⟨⟨by omega,by omega,h,?_⟩,by omega⟩
  rw [show (i+1).toNat=i.toNat+1 by omega,take_snoc hc,take_snoc hd,ht]
theorem vc_rlet:VC Tryz.prog Tryz.f69 (bodyOf Tryz.f69) S_rlet [(35,S_eq)] (fun _ _=>none)=(∀ (x:(Bool×Int×Int×Int×List Int×Unit)×(Bool×Int×Int×Int×List Int×Unit)×Unit),((∀ (x_1:Int),x_1∈txt x.fst→
  (0:Int)≤x_1∧x_1 < (256:Int))∧∀ (x_1:Int),x_1∈txt x.snd.fst→
  (0:Int)≤x_1∧x_1 < (256:Int))→
  List.length x.fst.snd.snd.snd.snd.fst≤(9223372036854775807:Nat)→
  List.length x.snd.fst.snd.snd.snd.snd.fst≤(9223372036854775807:Nat)→
  bif x.fst.fst==x.snd.fst.fst then bif x.fst.snd.fst==x.snd.fst.snd.fst then bif x.fst.snd.snd.fst==x.snd.fst.snd.snd.fst then bif x.fst.snd.snd.snd.fst==x.snd.fst.snd.snd.snd.fst then ((∀ (x_1:Int),x_1∈x.fst.snd.snd.snd.snd.fst→
  (0:Int)≤x_1∧x_1 < (256:Int))∧∀ (x_1:Int),x_1∈x.snd.fst.snd.snd.snd.snd.fst→
  (0:Int)≤x_1∧x_1 < (256:Int))∧(x.fst.snd.snd.snd.snd.fst==x.snd.fst.snd.snd.snd.snd.fst,())=(sLet x.fst x.snd.fst,()) else (false,())=(sLet x.fst x.snd.fst,()) else (false,())=(sLet x.fst x.snd.fst,()) else (false,())=(sLet x.fst x.snd.fst,()) else (false,())=(sLet x.fst x.snd.fst,())):=by kernel_rfl
theorem en_rlet (us:Array Value) (u:World):(callFunc 69 us).run Tryz.prog u=.ok (.enter 69 us) u:=by kernel_rfl
theorem sc_rlet:SC Tryz.prog 69 S_rlet:=by
  refine SC.of Tryz.func69 (c:=bodyOf Tryz.f69) (by kernel_rfl) (by kernel_rfl) (fun x=>(by decide:(2:Nat)≤Tryz.f69.ntmps)) (DOk.cons sc_same1 en_same1 DOk.nil) (Eq.mpr vc_rlet ?_)
  rintro ⟨⟨a1,a2,a3,a4,a5,⟨⟩⟩,⟨b1,b2,b3,b4,b5,⟨⟩⟩,⟨⟩⟩ ⟨ha,hb⟩ - -
  dsimp only [txt] at ha hb ⊢
  by_cases e1:a1=b1
  rotate_left 1
  · rw [beq_eq_false_iff_ne.2 e1,cond_false,sLet_f (by rintro h;cases h;exact e1 rfl)]
  rw [beq_iff_eq.2 e1,cond_true]
  by_cases e2:a2=b2
  rotate_left 1
  · rw [beq_eq_false_iff_ne.2 e2,cond_false,sLet_f (by rintro h;cases h;exact e2 rfl)]
  rw [beq_iff_eq.2 e2,cond_true]
  by_cases e3:a3=b3
  rotate_left 1
  · rw [beq_eq_false_iff_ne.2 e3,cond_false,sLet_f (by rintro h;cases h;exact e3 rfl)]
  rw [beq_iff_eq.2 e3,cond_true]
  by_cases e4:a4=b4
  rotate_left 1
  · rw [beq_eq_false_iff_ne.2 e4,cond_false,sLet_f (by rintro h;cases h;exact e4 rfl)]
  rw [beq_iff_eq.2 e4,cond_true]
  refine ⟨⟨ha,hb⟩,?_⟩
  by_cases e5:a5=b5
  · rw [beq_iff_eq.2 e5,sLet_t (by rw [e1,e2,e3,e4,e5])]
  · rw [beq_eq_false_iff_ne.2 e5,sLet_f (by rintro h;cases h;exact e5 rfl)]
theorem vc_rlts:VC Tryz.prog Tryz.f36 (bodyOf Tryz.f36) S_rlts [(69,S_rlet)] A_rlts=(∀ (x:List (Bool×Int×Int×Int×List Int×Unit)×List (Bool×Int×Int×Int×List Int×Unit)×Unit),bytLs x.fst∧bytLs x.snd.fst→
  List.length x.fst≤(9223372036854775807:Nat)→
  List.length x.snd.fst≤(9223372036854775807:Nat)→
  List.length x.fst≤(9223372036854775807:Nat)→
  List.length x.snd.fst≤(9223372036854775807:Nat)→
  bif (↑(List.length x.fst):Int) != (↑(List.length x.snd.fst):Int) then (false,())=(sLs x.fst x.snd.fst,()) else List.length x.fst≤(9223372036854775807:Nat)→
  ((0:Int)≤(0:Int)∧(0:Int)≤(↑(List.length x.fst):Int)∧List.length x.fst=List.length x.snd.fst∧List.take (Int.toNat (0:Int)) x.fst=List.take (Int.toNat (0:Int)) x.snd.fst)∧∀ (v:Int×Unit),(0:Int)≤v.fst∧v.fst≤(↑(List.length x.fst):Int)∧List.length x.fst=List.length x.snd.fst∧List.take (Int.toNat v.fst) x.fst=List.take (Int.toNat v.fst) x.snd.fst→
  bif decide (v.fst < (↑(List.length x.fst):Int)) then (0:Int)≤v.fst∧v.fst < (↑(List.length x.fst):Int)∧∀ (c0:Bool×Int×Int×Int×List Int×Unit),x.fst[Int.toNat v.fst]?=some c0→
  (0:Int)≤v.fst∧v.fst < (↑(List.length x.snd.fst):Int)∧∀ (c0_1:Bool×Int×Int×Int×List Int×Unit),x.snd.fst[Int.toNat v.fst]?=some c0_1→
  ((∀ (x:Int),x∈txt c0→
  (0:Int)≤x∧x < (256:Int))∧∀ (x:Int),x∈txt c0_1→
  (0:Int)≤x∧x < (256:Int))∧bif !sLet c0 c0_1 then (false,())=(sLs x.fst x.snd.fst,()) else ((0:Int)≤IntKind.wrap IntKind.i64 (v.fst+(1:Int))∧IntKind.wrap IntKind.i64 (v.fst+(1:Int))≤(↑(List.length x.fst):Int)∧List.length x.fst=List.length x.snd.fst∧List.take (Int.toNat (IntKind.wrap IntKind.i64 (v.fst+(1:Int)))) x.fst=List.take (Int.toNat (IntKind.wrap IntKind.i64 (v.fst+(1:Int)))) x.snd.fst)∧Int.toNat ((↑(List.length x.fst):Int) - IntKind.wrap IntKind.i64 (v.fst+(1:Int))) < Int.toNat ((↑(List.length x.fst):Int) - v.fst) else (true,())=(sLs x.fst x.snd.fst,())):=by kernel_rfl
theorem en_rlts (us:Array Value) (u:World):(callFunc 36 us).run Tryz.prog u=.ok (.enter 36 us) u:=by kernel_rfl
theorem sc_rlts:SC Tryz.prog 36 S_rlts:=by
  refine SC.of Tryz.func36 (c:=bodyOf Tryz.f36) (by kernel_rfl) (by kernel_rfl) (fun x=>(by decide:(2:Nat)≤Tryz.f36.ntmps)) (DOk.cons sc_rlet en_rlet DOk.nil) (Eq.mpr vc_rlts ?_)
  rintro ⟨a,b,⟨⟩⟩ ⟨ha,hb⟩ hla hlb - -
  dsimp only at ha hb hla hlb ⊢
  by_cases hn:a.length=b.length
  rotate_left 1
  · rw [bneT (by omega),cond_true,sLs_f (by rintro h;exact hn (by rw [h]))]
  rw [bneF (by omega),cond_false]
  intro _
  refine ⟨⟨Int.le_refl 0,by omega,hn,rfl⟩,?_⟩
  rintro ⟨i,⟨⟩⟩ ⟨h0,h1,-,ht⟩
  dsimp only at h0 h1 ht ⊢
  by_cases hi:i < (a.length:Int)
  · have wi:IntKind.i64.wrap (i+1)=i+1:=IntWalk.i64_in _ (by omega)
    rw [decide_eq_true hi,cond_true,wi]
    refine ⟨h0,hi,fun c hc=>⟨h0,by omega,fun d hd=>⟨⟨ha c (List.mem_of_getElem? hc),hb d (List.mem_of_getElem? hd)⟩,?_⟩⟩⟩
    by_cases e:c=d
    · rw [sLet_t e,Bool.not_true,cond_false]
      refine ⟨⟨by omega,by omega,hn,?_⟩,by omega⟩
      rw [show (i+1).toNat=i.toNat+1 by omega,take_snoc hc,take_snoc hd,ht,e]
    · rw [sLet_f e,Bool.not_false,cond_true,sLs_f]
      rintro rfl
      exact e (Option.some.inj (hc.symm.trans hd))
  · rw [decide_eq_false hi,cond_false,sLs_t]
    rw [List.take_of_length_le (by omega),List.take_of_length_le (by omega)] at ht
    exact ht
theorem vc_rque:VC Tryz.prog Tryz.f13 (bodyOf Tryz.f13) S_rque [(36,S_rlts)] (fun _ _=>none)=(∀ (x:(Int×List (Bool×Int×Int×Int×List Int×Unit)×Unit)×(Int×List (Bool×Int×Int×Int×List Int×Unit)×Unit)×Unit),bytQu x.fst∧bytQu x.snd.fst→
  List.length x.fst.snd.fst≤(9223372036854775807:Nat)→
  List.length x.snd.fst.snd.fst≤(9223372036854775807:Nat)→
  bif x.fst.fst==x.snd.fst.fst then (bytLs x.fst.snd.fst∧bytLs x.snd.fst.snd.fst)∧(sLs x.fst.snd.fst x.snd.fst.snd.fst,())=(sQu x.fst x.snd.fst,()) else (false,())=(sQu x.fst x.snd.fst,())):=by kernel_rfl
theorem en_rque (us:Array Value) (u:World):(callFunc 13 us).run Tryz.prog u=.ok (.enter 13 us) u:=by kernel_rfl
theorem sc_rque:SC Tryz.prog 13 S_rque:=by
  refine SC.of Tryz.func13 (c:=bodyOf Tryz.f13) (by kernel_rfl) (by kernel_rfl) (fun x=>(by decide:(2:Nat)≤Tryz.f13.ntmps)) (DOk.cons sc_rlts en_rlts DOk.nil) (Eq.mpr vc_rque ?_)
  rintro ⟨⟨a1,a2,⟨⟩⟩,⟨b1,b2,⟨⟩⟩,⟨⟩⟩ ⟨ha,hb⟩ - -
  dsimp only at ha hb ⊢
  by_cases e1:a1=b1
  rotate_left 1
  · rw [beq_eq_false_iff_ne.2 e1,cond_false,sQu_f (by rintro h;cases h;exact e1 rfl)]
  rw [beq_iff_eq.2 e1,cond_true]
  refine ⟨⟨ha,hb⟩,?_⟩
  by_cases e2:a2=b2
  · rw [sLs_t e2,sQu_t (by rw [e1,e2])]
  · rw [sLs_f e2,sQu_f (by rintro h;cases h;exact e2 rfl)]
theorem vc_rcl:VC Tryz.prog Tryz.f12 (bodyOf Tryz.f12) S_rcl [(34,S_rpo),(13,S_rque),(35,S_eq)] (fun _ _=>none)=(∀ (x:(Int×(Int×(Int×Int×List Int×Unit)×List (Int×(Int×List (Int×List Int×Int×Unit)×List (List Int)×Unit)×(Int×List (Int×List Int×Int×Unit)×Unit)×Unit)×Unit)×(Int×List (Bool×Int×Int×Int×List Int×Unit)×Unit)×Bool×List Int×Int×Unit)×(Int×(Int×(Int×Int×List Int×Unit)×List (Int×(Int×List (Int×List Int×Int×Unit)×List (List Int)×Unit)×(Int×List (Int×List Int×Int×Unit)×Unit)×Unit)×Unit)×(Int×List (Bool×Int×Int×Int×List Int×Unit)×Unit)×Bool×List Int×Int×Unit)×Unit),bytCl x.fst∧bytCl x.snd.fst→
  List.length x.fst.snd.fst.snd.fst.snd.snd.fst≤(9223372036854775807:Nat)→
  List.length x.fst.snd.fst.snd.snd.fst≤(9223372036854775807:Nat)→
  List.length x.fst.snd.snd.fst.snd.fst≤(9223372036854775807:Nat)→
  List.length x.fst.snd.snd.snd.snd.fst≤(9223372036854775807:Nat)→
  List.length x.snd.fst.snd.fst.snd.fst.snd.snd.fst≤(9223372036854775807:Nat)→
  List.length x.snd.fst.snd.fst.snd.snd.fst≤(9223372036854775807:Nat)→
  List.length x.snd.fst.snd.snd.fst.snd.fst≤(9223372036854775807:Nat)→
  List.length x.snd.fst.snd.snd.snd.snd.fst≤(9223372036854775807:Nat)→
  bif x.fst.fst==x.snd.fst.fst then (bytPo x.fst.snd.fst∧bytPo x.snd.fst.snd.fst)∧bif sPos x.fst.snd.fst x.snd.fst.snd.fst then (bytQu x.fst.snd.snd.fst∧bytQu x.snd.fst.snd.snd.fst)∧bif sQu x.fst.snd.snd.fst x.snd.fst.snd.snd.fst then bif x.fst.snd.snd.snd.fst==x.snd.fst.snd.snd.snd.fst then ((∀ (x_1:Int),x_1∈x.fst.snd.snd.snd.snd.fst→
  (0:Int)≤x_1∧x_1 < (256:Int))∧∀ (x_1:Int),x_1∈x.snd.fst.snd.snd.snd.snd.fst→
  (0:Int)≤x_1∧x_1 < (256:Int))∧bif x.fst.snd.snd.snd.snd.fst==x.snd.fst.snd.snd.snd.snd.fst then (x.fst.snd.snd.snd.snd.snd.fst==x.snd.fst.snd.snd.snd.snd.snd.fst,())=(sCl x.fst x.snd.fst,()) else (false,())=(sCl x.fst x.snd.fst,()) else (false,())=(sCl x.fst x.snd.fst,()) else (false,())=(sCl x.fst x.snd.fst,()) else (false,())=(sCl x.fst x.snd.fst,()) else (false,())=(sCl x.fst x.snd.fst,())):=by kernel_rfl
theorem en_rcl (us:Array Value) (u:World):(callFunc 12 us).run Tryz.prog u=.ok (.enter 12 us) u:=by kernel_rfl
theorem sc_rcl:SC Tryz.prog 12 S_rcl:=by
  refine SC.of Tryz.func12 (c:=bodyOf Tryz.f12) (by kernel_rfl) (by kernel_rfl) (fun x=>(by decide:(2:Nat)≤Tryz.f12.ntmps)) (DOk.cons sc_rpo en_rpo (DOk.cons sc_rque en_rque (DOk.cons sc_same1 en_same1 DOk.nil))) (Eq.mpr vc_rcl ?_)
  rintro ⟨⟨a1,a2,a3,a4,a5,a6,⟨⟩⟩,⟨b1,b2,b3,b4,b5,b6,⟨⟩⟩,⟨⟩⟩ ⟨⟨ha1,ha2,ha3⟩,hb1,hb2,hb3⟩ - - - - - - - -
  dsimp only at ha1 ha2 ha3 hb1 hb2 hb3 ⊢
  by_cases e1:a1=b1
  rotate_left 1
  · rw [beq_eq_false_iff_ne.2 e1,cond_false,sCl_f (by rintro h;cases h;exact e1 rfl)]
  rw [beq_iff_eq.2 e1,cond_true]
  refine ⟨⟨ha1,hb1⟩,?_⟩
  by_cases e2:a2=b2
  rotate_left 1
  · rw [sPos_f e2,cond_false,sCl_f (by rintro h;cases h;exact e2 rfl)]
  rw [sPos_t e2,cond_true]
  refine ⟨⟨ha2,hb2⟩,?_⟩
  by_cases e3:a3=b3
  rotate_left 1
  · rw [sQu_f e3,cond_false,sCl_f (by rintro h;cases h;exact e3 rfl)]
  rw [sQu_t e3,cond_true]
  by_cases e4:a4=b4
  rotate_left 1
  · rw [beq_eq_false_iff_ne.2 e4,cond_false,sCl_f (by rintro h;cases h;exact e4 rfl)]
  rw [beq_iff_eq.2 e4,cond_true]
  refine ⟨⟨ha3,hb3⟩,?_⟩
  by_cases e5:a5=b5
  rotate_left 1
  · rw [beq_eq_false_iff_ne.2 e5,cond_false,sCl_f (by rintro h;cases h;exact e5 rfl)]
  rw [beq_iff_eq.2 e5,cond_true]
  by_cases e6:a6=b6
  · rw [beq_iff_eq.2 e6,sCl_t (by rw [e1,e2,e3,e4,e5,e6])]
  · rw [beq_eq_false_iff_ne.2 e6,sCl_f (by rintro h;cases h;exact e6 rfl)]
theorem vc_fewq:VC Tryz.prog Tryz.f8 (bodyOf Tryz.f8) S_fewq [] A_fewq=(∀ (x:(Int×List (Bool×Int×Int×Int×List Int×Unit)×Unit)×Unit),List.length x.fst.snd.fst≤big→
  List.length x.fst.snd.fst≤(9223372036854775807:Nat)→
  List.length x.fst.snd.fst≤(9223372036854775807:Nat)→
  ((0:Int)≤(0:Int)∧(0:Int)≤(↑(List.length x.fst.snd.fst):Int)∧lSum (0:Int) (List.drop (Int.toNat (0:Int)) x.fst.snd.fst)=lSum (0:Int) x.fst.snd.fst)∧∀ (v:Int×Int×Unit),(0:Int)≤v.fst∧v.fst≤(↑(List.length x.fst.snd.fst):Int)∧lSum v.snd.fst (List.drop (Int.toNat v.fst) x.fst.snd.fst)=lSum (0:Int) x.fst.snd.fst→
  bif decide (v.fst < (↑(List.length x.fst.snd.fst):Int)) then (0:Int)≤v.fst∧v.fst < (↑(List.length x.fst.snd.fst):Int)∧∀ (c0:Bool×Int×Int×Int×List Int×Unit),x.fst.snd.fst[Int.toNat v.fst]?=some c0→
  List.length c0.snd.snd.snd.snd.fst≤(9223372036854775807:Nat)→
  (64:Int)≠(0:Int)∧((0:Int)≤IntKind.wrap IntKind.i64 (v.fst+(1:Int))∧IntKind.wrap IntKind.i64 (v.fst+(1:Int))≤(↑(List.length x.fst.snd.fst):Int)∧lSum (IntKind.wrap IntKind.i64 (v.snd.fst+IntKind.wrap IntKind.i64 ((1:Int)+IntKind.wrap IntKind.i64 (Int.tdiv (↑(List.length c0.snd.snd.snd.snd.fst):Int) (64:Int))))) (List.drop (Int.toNat (IntKind.wrap IntKind.i64 (v.fst+(1:Int)))) x.fst.snd.fst)=lSum (0:Int) x.fst.snd.fst)∧Int.toNat ((↑(List.length x.fst.snd.fst):Int) - IntKind.wrap IntKind.i64 (v.fst+(1:Int))) < Int.toNat ((↑(List.length x.fst.snd.fst):Int) - v.fst) else (decide (v.snd.fst≤(150:Int)),())=(fewQ x.fst,())):=by kernel_rfl
theorem en_fewq (us:Array Value) (u:World):(callFunc 8 us).run Tryz.prog u=.ok (.enter 8 us) u:=by kernel_rfl
theorem sc_fewq:SC Tryz.prog 8 S_fewq:=by
  refine SC.of Tryz.func8 (c:=bodyOf Tryz.f8) (by kernel_rfl) (by kernel_rfl) (fun x=>(by decide:(1:Nat)≤Tryz.f8.ntmps)) DOk.nil (Eq.mpr vc_fewq ?_)
  rintro ⟨⟨n,l,⟨⟩⟩,⟨⟩⟩ h1 - -
  dsimp only at h1 ⊢
  have e1:l.length≤1000000000:=h1
  refine ⟨⟨Int.le_refl 0,by omega,rfl⟩,?_⟩
  rintro ⟨i,s,⟨⟩⟩ ⟨q0,q1,hg⟩
  dsimp only at q0 q1 hg ⊢
  have wi:IntKind.i64.wrap (i+1)=i+1:=IntWalk.i64_in _ (by omega)
  by_cases hi:i < (l.length:Int)
  · rw [decide_eq_true hi,cond_true,wi]
    refine ⟨q0,hi,fun c hc _=>?_⟩
    rw [drop_of hc,lSum] at hg
    refine ⟨by decide,⟨by omega,by omega,?_⟩,by omega⟩
    rw [show (i+1).toNat=i.toNat+1 by omega]
    exact hg
  · rw [decide_eq_false hi,cond_false]
    rw [List.drop_eq_nil_of_le (by omega),lSum] at hg
    rw [hg]
    rfl
theorem vc_fewc:VC Tryz.prog Tryz.f27 (bodyOf Tryz.f27) S_fewc [(48,S_few),(8,S_fewq)] (fun _ _=>none)=(∀ (x:(Int×(Int×(Int×Int×List Int×Unit)×List (Int×(Int×List (Int×List Int×Int×Unit)×List (List Int)×Unit)×(Int×List (Int×List Int×Int×Unit)×Unit)×Unit)×Unit)×(Int×List (Bool×Int×Int×Int×List Int×Unit)×Unit)×Bool×List Int×Int×Unit)×Unit),okPo x.fst.snd.fst∧List.length x.fst.snd.snd.fst.snd.fst≤big→
  List.length x.fst.snd.fst.snd.fst.snd.snd.fst≤(9223372036854775807:Nat)→
  List.length x.fst.snd.fst.snd.snd.fst≤(9223372036854775807:Nat)→
  List.length x.fst.snd.snd.fst.snd.fst≤(9223372036854775807:Nat)→
  List.length x.fst.snd.snd.snd.snd.fst≤(9223372036854775807:Nat)→
  okPo x.fst.snd.fst∧bif fewP x.fst.snd.fst then List.length x.fst.snd.snd.fst.snd.fst≤big∧bif fewQ x.fst.snd.snd.fst then List.length x.fst.snd.snd.snd.snd.fst≤(9223372036854775807:Nat)→
  (decide ((↑(List.length x.fst.snd.snd.snd.snd.fst):Int)≤(200:Int)),())=(fewC x.fst,()) else (false,())=(fewC x.fst,()) else (false,())=(fewC x.fst,())):=by kernel_rfl
theorem en_fewc (us:Array Value) (u:World):(callFunc 27 us).run Tryz.prog u=.ok (.enter 27 us) u:=by kernel_rfl
theorem sc_fewc:SC Tryz.prog 27 S_fewc:=by
  refine SC.of Tryz.func27 (c:=bodyOf Tryz.f27) (by kernel_rfl) (by kernel_rfl) (fun x=>(by decide:(1:Nat)≤Tryz.f27.ntmps)) (DOk.cons sc_few en_few (DOk.cons sc_fewq en_fewq DOk.nil)) (Eq.mpr vc_fewc ?_)
  rintro ⟨⟨w,p,q,sd,wn,sq,⟨⟩⟩,⟨⟩⟩ ⟨h1,h2⟩ - - - -
  dsimp only [fewC] at h1 h2 ⊢
  refine ⟨h1,?_⟩
  cases fewP p
  · rfl
  rw [cond_true]
  refine ⟨h2,?_⟩
  cases fewQ q
  · rfl
  rw [cond_true]
  exact fun _=>rfl
theorem vc_plain:VC Tryz.prog Tryz.f25 (bodyOf Tryz.f25) S_plain [] (fun _ _=>none)=(∀ (x:Unit),True→
  (([],(2:Int),(1:Int),(2:Int),(3:Int),(4:Int),(20:Int),(5:Int),(4:Int),(1:Int),(1:Int),()),())=(plainC,())):=by kernel_rfl
theorem en_plain (us:Array Value) (u:World):(callFunc 25 us).run Tryz.prog u=.ok (.enter 25 us) u:=by kernel_rfl
theorem sc_plain:SC Tryz.prog 25 S_plain:=by
  refine SC.of Tryz.func25 (c:=bodyOf Tryz.f25) (by kernel_rfl) (by kernel_rfl) (fun x=>(by decide:(0:Nat)≤Tryz.f25.ntmps)) DOk.nil (Eq.mpr vc_plain ?_)
  intro x _
  rfl
theorem vc_may:VC Tryz.prog Tryz.f7 (bodyOf Tryz.f7) S_may [(16,S_rchk),(27,S_fewc)] (fun _ _=>none)=(∀ (x:(List Int×Int×Int×Int×Int×Int×Int×Int×Int×Int×Int×Unit)×(Int×(Int×(Int×Int×List Int×Unit)×List (Int×(Int×List (Int×List Int×Int×Unit)×List (List Int)×Unit)×(Int×List (Int×List Int×Int×Unit)×Unit)×Unit)×Unit)×(Int×List (Bool×Int×Int×Int×List Int×Unit)×Unit)×Bool×List Int×Int×Unit)×Unit),okPo x.snd.fst.snd.fst∧List.length x.snd.fst.snd.snd.fst.snd.fst≤big→
  List.length x.fst.fst≤(9223372036854775807:Nat)→
  List.length x.snd.fst.snd.fst.snd.fst.snd.snd.fst≤(9223372036854775807:Nat)→
  List.length x.snd.fst.snd.fst.snd.snd.fst≤(9223372036854775807:Nat)→
  List.length x.snd.fst.snd.snd.fst.snd.fst≤(9223372036854775807:Nat)→
  List.length x.snd.fst.snd.snd.snd.snd.fst≤(9223372036854775807:Nat)→
  True∧bif kchkF x.fst==(0:Int) then (okPo x.snd.fst.snd.fst∧List.length x.snd.fst.snd.snd.fst.snd.fst≤big)∧(fewC x.snd.fst,())=(mayC x.fst x.snd.fst,()) else (false,())=(mayC x.fst x.snd.fst,())):=by kernel_rfl
theorem en_may (us:Array Value) (u:World):(callFunc 7 us).run Tryz.prog u=.ok (.enter 7 us) u:=by kernel_rfl
theorem sc_may:SC Tryz.prog 7 S_may:=by
  refine SC.of Tryz.func7 (c:=bodyOf Tryz.f7) (by kernel_rfl) (by kernel_rfl) (fun x=>(by decide:(2:Nat)≤Tryz.f7.ntmps)) (DOk.cons sc_rchk en_rchk (DOk.cons sc_fewc en_fewc DOk.nil)) (Eq.mpr vc_may ?_)
  rintro ⟨c,x,⟨⟩⟩ h - - - - -
  dsimp only [mayC] at h ⊢
  refine ⟨trivial,?_⟩
  cases kchkF c==0
  · rfl
  · exact ⟨h,rfl⟩
end Go.Proofs.YtjkbkhjalimebaaGreatDoor
namespace Go.Proofs.YtjkbkhjalimebaaGreatDoor
open Go.RowKit DoorU
set_option linter.unusedVariables false
set_option linter.unusedSimpArgs false
set_option maxRecDepth 100000
namespace DoorU
def anFr (node:Int) (s:Sta):Fra:=(0,node,s,1,0,anB,())
def ackFr (node:Int) (s:Sta):Fra:=(node,0,s,2,1,[],())
def pe0:Pee:=(0,(0,[],[],()),(1,[],()),())
def pe1 (n:Int) (b:List Int) (now:Int):Pee:=(n,(1,[itm 0 b now],[],()),(0,[],()),())
theorem kchk_ok {c:Cfg} (h:kchkF c=0):okC c=true:=by
  unfold kchkF at h
  split at h
  · assumption
  · cases h
theorem okC_in {c:Cfg} (h:kchkF c=0):c.1.length≤64∧(1≤c.2.1∧c.2.1≤8)∧(0≤c.2.2.1∧c.2.2.1≤8)∧(1≤c.2.2.2.1∧c.2.2.2.1≤8)∧(1≤winC c∧winC c≤64)∧1≤c.2.2.2.2.2.2.2.2.2.2.1:=by
  have h:=kchk_ok h
  unfold okC wit at h
  simp only [Bool.and_eq_true,decide_eq_true_eq] at h
  obtain ⟨h1,h2,h3,h4,_,_,_,_,_,h10,_,h12⟩:=h
  exact ⟨h1,h2,h3,h4,h10,h12⟩
theorem serv_in {c:Cfg} (h:kchkF c=0):serversF c=c.2.1+c.2.2.1∧nodesF c=1+c.2.1+c.2.2.1+c.2.2.2.1:=by
  obtain ⟨_,h2,h3,h4,_⟩:=okC_in h
  have e1:serversF c=c.2.1+c.2.2.1:=by unfold serversF;exact IntWalk.i64_in _ (by omega)
  refine ⟨e1,?_⟩
  unfold nodesF
  rw [e1,IntWalk.i64_in (1+(c.2.1+c.2.2.1)) (by omega),IntWalk.i64_in _ (by omega)]
  omega
theorem node_in {c:Cfg} (h:kchkF c=0) {w:Int} (h0:¬ nodeF c w < 0):0≤w∧w < c.2.2.2.1∧nodeF c w=1+c.2.1+c.2.2.1+w:=by
  obtain ⟨_,h2,h3,h4,_⟩:=okC_in h
  obtain ⟨e1,_⟩:=serv_in h
  unfold nodeF at h0 ⊢
  by_cases a1:w < 0
  · rw [decide_eq_true a1,cond_true] at h0
    exact absurd (by decide) h0
  rw [decide_eq_false a1,cond_false] at h0 ⊢
  by_cases a2:c.2.2.2.1≤w
  · rw [decide_eq_true a2,cond_true] at h0
    exact absurd (by decide) h0
  rw [decide_eq_false a2,cond_false] at h0 ⊢
  refine ⟨by omega,by omega,?_⟩
  unfold i64
  rw [e1,IntWalk.i64_in (1+(c.2.1+c.2.2.1)) (by omega),IntWalk.i64_in _ (by omega)]
  omega
theorem frChk_of {a b:Int} {s:Sta} {k q:Int} {bd:List Int} (ha:0≤a∧a≤24) (hb:0≤b∧b≤24) (hab:a≠b) (hs:stChk s=0) (hq:0≤q∧q≤2147483647) (hk:(k=1∧bd.length≤65536)∨(k=2∧bd.length=0)):frChk (a,b,s,k,q,bd,())=0:=by
  unfold frChk
  dsimp only
  rw [if_neg (by omega),if_neg (by omega),if_neg (by omega),if_neg (by omega),if_neg hab,if_pos hs,if_neg (by omega),if_neg (by omega)]
  rcases hk with ⟨h1,h2⟩ | ⟨h1,h2⟩
  · rw [if_pos h1,if_neg (by omega)]
  · rw [if_neg (by omega),if_pos h1,if_neg (by omega)]
theorem nt_an:ntF anB=((1,[],0,false,()),0,()):=by decide
theorem tak_new {w:Int} (h1:1≤w) (h2:w≤64):takF (0,[],()) 0 anB w=((1,[],()),[anB],1,()):=by
  have hw:i64 (0+w)=w:=by unfold i64;rw [Int.zero_add];exact IntWalk.i64_in _ (by omega)
  have ht:tkH (0,[],()) 0 w=true:=by
    unfold tkH
    dsimp only
    rw [hw,decide_eq_true (Int.le_refl 0),decide_eq_true (by omega:(0:Int) < w)]
    rfl
  have hL:tkL (0,[],()) 0 anB w=[itm 0 anB 0]:=by unfold tkL;rw [if_pos ht];rfl
  have hM:tkM (0,[],()) 0 w=[(0,0)]:=by unfold tkM;rw [if_pos ht];rfl
  have hE:tkE (0,[],()) 0 anB w=(1,[true],[anB]):=by unfold tkE;rw [hL,hM];rfl
  unfold takF
  rw [hE,hL]
  rfl
theorem okSt_S {s:Sta} (h:stChk s=0):1≤s.2.2.1.length∧s.2.2.1.length≤8:=okS_len (stChk_0 h)
theorem pt_an {c:Cfg} (hc:kchkF c=0) {P:Pos} {s:Sta} (now:Int) (hn:0 < P.1∧P.1≤24) (hs:stChk s=0) (ho:okSt s):ptF c P 0 (anBt c 0 P.1 s 0) now=ptG c P 0 (anFr P.1 s) now:=by
  obtain ⟨e1,e2⟩:=serv_in hc
  obtain ⟨_,h2,h3,h4,_⟩:=okC_in hc
  have hi:isNodeF c 0=true:=by
    unfold isNodeF
    rw [e2,decide_eq_true (Int.le_refl 0),decide_eq_true (by omega)]
    rfl
  have hf:frChk (anFr P.1 s)=0:=frChk_of (by omega) (by omega) (by omega) hs (by omega) (.inl ⟨rfl,by decide⟩)
  obtain ⟨t0,t1⟩:=frTk_put (pairF c 0 P.1) (f:=anFr P.1 s) hf ho
  unfold ptF
  rw [if_neg (by rw [hi];rintro (h | h);cases h;omega),show anBt c 0 P.1 s 0=frPutF (pairF c 0 P.1) (anFr P.1 s) from rfl,if_neg (fun h=>h t0),t1]
theorem pt_new {c:Cfg} (hc:kchkF c=0) {P:Pos} {s:Sta} (now:Int) (hn:0 < P.1∧P.1≤24) (hs:stChk s=0) (ho:okSt s) (hb:0 < stCmp s P.2.1):ptF c P 0 (anBt c 0 P.1 s 0) now=((P.1,s,[pe0],()),[anB],[(0,frPutF (pairF c P.1 0) (ackFr P.1 s),false,())],0,()):=by
  obtain ⟨_,_,_,_,hw,_⟩:=okC_in hc
  have hg:goF P s=(P.1,s,[],()):=by rw [goF,if_neg (by omega)]
  have hE:linkE (P.1,s,[],()) 0=newPe 0:=rfl
  have hT:tkT c P 0 (anFr P.1 s)=((1,[],()),[anB],1,()):=by
    unfold tkT
    rw [show (anFr P.1 s).2.2.1=s from rfl,hg,hE]
    exact tak_new hw.1 hw.2
  have hP:tkTP c P 0 (anFr P.1 s)=(P.1,s,[pe0],()):=by
    unfold tkTP
    rw [hT,show (anFr P.1 s).2.2.1=s from rfl,hg,hE]
    rfl
  rw [pt_an hc now hn hs ho,ptG,if_neg (by rintro (h | h);exact h rfl;exact h rfl),if_neg (by rw [show (anFr P.1 s).2.2.1=s from rfl];omega),if_neg (by show ¬ (1:Int)=2;decide),hT,hP,show (anFr P.1 s).2.2.1=s from rfl,hg]
  dsimp only
  rw [parF,if_pos (frChk_of (by omega) (by omega) (by omega) hs (by omega) (.inr ⟨rfl,rfl⟩))]
  rfl
theorem cmp_0 {a b:Int} (h:a=b):cmpF a b=0:=by unfold cmpF;rw [if_neg (by omega),if_neg (by omega)]
theorem stCmp_ne {s t:Sta} (h:stCmp s t≠0):s.1≠t.1∨s.2.1≠t.2.1:=by
  by_cases e1:s.1=t.1
  · by_cases e2:s.2.1=t.2.1
    · exfalso
      apply h
      unfold stCmp
      rw [if_pos (cmp_0 e1),cmp_0 e2]
    · exact .inr e2
  · exact .inl e1
theorem wrG_len {s n:List (List Int)} (hn:∀ c∈n,c.length=16):∀ (L:Nat) (b:List Int),L≤n.length→(wrG s n L b).length=b.length+48*L
  | 0,b,_=>rfl
  | L + 1, b, h => by
    rw [wrG,wrG_len hn L _ (by omega),seF_len,List.getD_eq_getElem?_getD,List.getElem?_eq_getElem (by omega),show (some (n[L]'(by omega))).getD []=n[L]'(by omega) from rfl,hn _ (List.getElem_mem _)]
    omega
theorem non_16 {k:List Int} {s:Sta}:∀ c∈nonF k s,c.length=16:=fun c hc=>by
  have:=List.all_eq_true.1 (non16 k s) c hc
  unfold is16 at this
  exact eq_of_beq this
theorem onB_len {c:Cfg} {x:Cli} {s:Sta} (hl:lcF (hdL x.2.2.1)=0):(onB c x s).length=78+48*s.2.2.1.length:=by
  unfold onB onnF
  rw [wrG_len non_16 _ _ (by rw [nonF_len];exact Nat.le_refl _),lpB_len hl]
theorem hid_byt (k b:List Int):byt (hidF k b):=fun x hx=>by
  unfold hidF xorF at hx
  rw [List.zipWith_eq_zipWith_take_min] at hx
  obtain ⟨i,hi⟩:=List.getElem?_of_mem hx
  rw [List.getElem?_zipWith] at hi
  have key:∀ a b:Int,0≤xorI .u8 a b∧xorI .u8 a b < 256:=fun a b=>by unfold xorI;rw [w8_of];omega
  split at hi
  · cases hi
    exact key _ _
  · cases hi
theorem se_byt {s n p:List Int} (hn:byt n):byt (seF s n p):=by
  unfold seF seB
  exact byt_app (byt_app hn (hid_byt _ _)) (tagF_byt _ _)
theorem wrG_byt {s n:List (List Int)} (hn:∀ c∈n,byt c):∀ (L:Nat) (b:List Int),1≤L→L≤n.length→byt (wrG s n L b)
  | 1, b, _, h => by
    rw [wrG,wrG]
    refine se_byt ?_
    rw [List.getD_eq_getElem?_getD,List.getElem?_eq_getElem (by omega)]
    exact hn _ (List.getElem_mem _)
  | L + 2, b, _, h => by
    rw [wrG]
    exact wrG_byt hn (L+1) _ (by omega) (by omega)
theorem non_byt {k:List Int} {s:Sta}:∀ c∈nonF k s,byt c:=fun c hc=>by
  unfold nonF at hc
  obtain ⟨i,_,rfl⟩:=List.mem_map.1 hc
  exact byt_take (tagF_byt _ _) 16
theorem putR_byt (n w:Int):byt (putR n w):=by
  unfold putR
  split
  · exact putI_byt _ _
  · exact fun x hx=>(List.not_mem_nil hx).elim
def subL (o:List Int):List Int:=([w8 3]++putR 1 2)++(putR o.length 2++o)
theorem sub_eq {o:List Int} (ho:o.length≤1024):npF (3,[o],0,false,())=(subL o,0,())∧(subL o).length=5+o.length:=by
  have hE:nkE (3,[o],0,false,())=0:=by
    unfold nkE noteE
    dsimp only
    have hS:spanOf 3=(1,1,true):=by decide
    rw [hS,if_neg (by rintro (h | h | h);cases h;(simp at h);(simp at h)),if_neg (by rintro (⟨h,_⟩ | ⟨_,h⟩);cases h;(rcases h with h | h;exact h rfl;cases h)),if_neg]
    rintro ⟨l,h1,h2⟩
    rw [List.mem_singleton] at h1
    subst h1
    omega
  refine ⟨?_,?_⟩
  · rw [npF,beq_iff_eq.2 hE,cond_true]
    unfold npL subL npP
    simp only [List.flatMap_cons,List.flatMap_nil,List.append_nil]
    rw [show ((3:Int)==7)=false from rfl,cond_false,List.append_nil]
    rfl
  · unfold subL
    rw [List.length_append,List.length_append,List.length_append,putR2 (n:=1) (by decide) (by decide),putR2 (n:=(o.length:Nat)) (by omega) (by omega),putI_len,putI_len]
    show 1+2+(2+o.length)=_
    omega
end DoorU
end Go.Proofs.YtjkbkhjalimebaaGreatDoor
namespace Go.Proofs.YtjkbkhjalimebaaGreatDoor
open Go.RowKit DoorU
set_option linter.unusedVariables false
set_option linter.unusedSimpArgs false
set_option maxRecDepth 100000
namespace DoorU
theorem link_1 {n:Int} (hn:0 < n):lnkL [pe0] n=[pe0,newPe n]∧lnkI [pe0] n=1:=by
  have e1:eqAt [pe0] n=1:=by
    unfold eqAt
    rw [List.findIdx_cons,show (pe0.1==n)=false from beq_eq_false_iff_ne.2 (by show (0:Int)≠n;omega)]
    rfl
  have e2:gtAt [pe0] n=1:=by
    unfold gtAt
    rw [List.findIdx_cons,show decide (n < pe0.1)=false from decide_eq_false (by show ¬ n < 0;omega)]
    rfl
  unfold lnkL lnkI
  rw [e1,e2]
  exact ⟨rfl,rfl⟩
theorem ps_new {c:Cfg} (hc:kchkF c=0) {n n0 now:Int} {s:Sta} {b:List Int} (hn:0 < n∧n≤24) (h0:isSv c n0=true) (hne:n0≠n) (hs:stChk s=0) (hb:b.length≤65536):
    psF c (n,s,[pe0],()) n0 b now=((n,s,[pe0,pe1 n0 b now],()),[(n0,frPutF (pairF c n n0) (n,n0,s,1,0,b,()),true,())],0,())∧(frPutF (pairF c n n0) (n,n0,s,1,0,b,())).length=60+s.2.2.1.length+b.length:=by
  obtain ⟨e1,e2⟩:=serv_in hc
  obtain ⟨_,h2,h3,h4,hw,_⟩:=okC_in hc
  unfold isSv wit at h0
  rw [e1,Bool.and_eq_true,decide_eq_true_eq,decide_eq_true_eq] at h0
  have hi:isNodeF c n0=true:=by
    unfold isNodeF
    rw [e2,decide_eq_true (by omega),decide_eq_true (by omega)]
    rfl
  obtain ⟨l1,l2⟩:=link_1 (n:=n0) (by omega)
  have hE:linkE (n,s,[pe0],()) n0=newPe n0:=by unfold linkE;dsimp only;rw [l1,l2];rfl
  have hQ:sndQ c (n,s,[pe0],()) n0 b now=((1,[itm 0 b now],[],()),[itm 0 b now],()):=by
    unfold sndQ
    rw [hE]
    unfold sendF
    rw [if_neg (by show ¬ winC c≤((0:Nat):Int);omega)]
    rfl
  have hP:sndP c (n,s,[pe0],()) n0 b now=(n,s,[pe0,pe1 n0 b now],()):=by
    unfold sndP
    rw [hQ,hE]
    unfold putPe
    dsimp only
    rw [l1,l2]
    rfl
  have hf:frChk (n,n0,s,1,0,b,())=0:=frChk_of (by omega) (by omega) (by omega) hs (by omega) (.inl ⟨rfl,hb⟩)
  refine ⟨?_,frPutF_len _ hf⟩
  unfold psF
  rw [if_neg (by rw [hi];rintro (h | h | h);cases h;exact hne h;exact h hs),if_neg (by omega),hP,hQ]
  have eI:iparF c (n,s,[pe0,pe1 n0 b now],()) n0 [itm 0 b now] true=[(n0,frPutF (pairF c n n0) (n,n0,s,1,0,b,()),true,())]:=by
    unfold iparF
    rw [List.flatMap_cons,List.flatMap_nil,List.append_nil]
    show parF c (n,n0,s,1,0,b,()) true=_
    rw [parF,if_pos hf]
  exact congrArg (fun z=>((n,s,[pe0,pe1 n0 b now],()),z,0,())) eI
theorem hear_new {c:Cfg} (hc:kchkF c=0) {x:Cli} {s:Sta} (now:Int) (hw:¬ nodeF c x.1 < 0) (hx:x.2.1.1=nodeF c x.1) (hs:stChk s=0) (ho:okSt s) (hv:s.2.2.1.all (isSv c)=true) (hq:lcF (hdL x.2.2.1)=0) (hb:0 < stCmp s x.2.1.2.1):
    ∃ (n0 : Int) (b ab pb want : List Int) (sq : Int) (r : List Int), s.2.2.1 = n0 :: r ∧ isSv c n0 = true ∧ b.length ≤ 65536 ∧ byt b ∧ byt want ∧ ((hdL x.2.2.1).1 = true → want = []) ∧ pb.length = 60 + s.2.2.1.length + 5 + (78 + 48 * s.2.2.1.length) ∧
      hrF c x 0 (anBt c 0 x.2.1.1 s 0) now=((x.1,(x.2.1.1,s,[pe0,pe1 n0 b now],()),x.2.2.1,true,want,sq,()),[(0,ab,false,()),(n0,pb,true,())],0,()):=by
  obtain ⟨l1,l8⟩:=okSt_S hs
  obtain ⟨w0,w1,w2⟩:=node_in hc hw
  obtain ⟨e1,e2⟩:=serv_in hc
  obtain ⟨_,h2,h3,h4,_⟩:=okC_in hc
  have hn:0 < x.2.1.1∧x.2.1.1≤24:=by rw [hx,w2];omega
  obtain ⟨n0,r,hch⟩:∃ n0 r,s.2.2.1=n0::r:=by
    cases h:s.2.2.1 with
    | nil=>rw [h] at l1;simp at l1
    | cons a r=>exact ⟨a,r,rfl⟩
  have hSv:isSv c n0=true:=List.all_eq_true.1 hv n0 (by rw [hch];exact List.mem_cons_self ..)
  have h0':=hSv
  unfold isSv wit at h0'
  rw [e1,Bool.and_eq_true,decide_eq_true_eq,decide_eq_true_eq] at h0'
  have hne:n0≠x.2.1.1:=by rw [hx,w2];omega
  have eP:hrP c x 0 (anBt c 0 x.2.1.1 s 0) now=((x.2.1.1,s,[pe0],()),[anB],[(0,frPutF (pairF c x.2.1.1 0) (ackFr x.2.1.1 s),false,())],0,()):=pt_new hc now hn hs ho hb
  have hN:hrN x (x.2.1.1,s,[pe0],())=true:=by
    unfold hrN
    rcases stCmp_ne (s:=s) (t:=x.2.1.2.1) (by omega) with h | h
    · rw [bneT h,Bool.true_or]
    · rw [bneT h,Bool.or_true]
  obtain ⟨ab,hab⟩:∃ ab,frPutF (pairF c x.2.1.1 0) (ackFr x.2.1.1 s)=ab:=⟨_,rfl⟩
  rw [hab] at eP
  let x0:Cli:=(x.1,(x.2.1.1,s,[pe0],()),x.2.2.1,false,[],0,())
  let h0:Hea:=(x0,c,0,now,[(0,ab,false,())],())
  have eO:anO h0=(onB c x0 s,onW c x0 s,0,()):=by
    have hE:onE c x0 s=0:=by
      unfold onE
      rw [if_neg (by rintro (h | h | h);exact hw h;exact h hs;(rw [hv] at h;cases h))]
      exact hq
    show oniF c x0 s=_
    unfold oniF
    rw [if_neg (by rw [hE];decide)]
  have ol:(onB c x0 s).length=78+48*s.2.2.1.length:=onB_len hq
  obtain ⟨sb1,sb2⟩:=sub_eq (o:=onB c x0 s) (by omega)
  have eN:anN h0=(subL (onB c x0 s),0,()):=by
    unfold anN
    rw [eO]
    exact sb1
  have eF:firF h0=(n0,true,()):=by
    unfold firF heS heP
    show (match s.2.2.1 with | x::_=>(x,true,()) | []=>(0,false,()))=_
    rw [hch]
  obtain ⟨eS,eL⟩:=ps_new (now:=now) hc hn hSv hne hs (b:=subL (onB c x0 s)) (by omega)
  have eS':anS h0=((x.2.1.1,s,[pe0,pe1 n0 (subL (onB c x0 s)) now],()),[(n0,frPutF (pairF c x.2.1.1 n0) (x.2.1.1,n0,s,1,0,subL (onB c x0 s),()),true,())],0,()):=by
    unfold anS
    rw [eF,eN]
    exact eS
  have eY:anY h0=true:=by
    unfold anY
    rw [eF]
    rfl
  have eA:annF h0=((x.1,(x.2.1.1,s,[pe0,pe1 n0 (subL (onB c x0 s)) now],()),x.2.2.1,true,onW c x0 s,(qhF x.2.2.1).1.2.2.2.1,()),c,0,now,[(0,ab,false,()),(n0,frPutF (pairF c x.2.1.1 n0) (x.2.1.1,n0,s,1,0,subL (onB c x0 s),()),true,())],()):=by
    unfold annF
    rw [if_neg (by rw [eY];decide),eO,if_neg (fun h=>h rfl),eN,if_neg (fun h=>h rfl),eS',if_neg (fun h=>h rfl)]
    rfl
  refine ⟨n0,subL (onB c x0 s),ab,frPutF (pairF c x.2.1.1 n0) (x.2.1.1,n0,s,1,0,subL (onB c x0 s),()),onW c x0 s,(qhF x.2.2.1).1.2.2.2.1,r,hch,hSv,by omega,?_,onW_byt _ _ _,fun h=>?_,by rw [eL,sb2,ol];omega,?_⟩
  · unfold subL
    refine byt_app (byt_app (w8_byt _) (putR_byt _ _)) (byt_app (putR_byt _ _) ?_)
    unfold onB onnF
    exact wrG_byt non_byt _ _ l1 (by rw [nonF_len];exact Nat.le_refl _)
  · unfold onW
    rw [if_pos h]
  · unfold hrF hrH
    rw [eP,if_neg (fun h=>h rfl)]
    have e0:hr0 c x 0 now (x.2.1.1,s,[pe0],()) [(0,ab,false,())]=h0:=by
      unfold hr0
      rw [hN]
      rfl
    dsimp only
    rw [e0]
    have eG:hrGo [anB] h0=annF h0:=by
      show hrS h0 anB=_
      unfold hrS
      rw [nt_an,if_neg (by decide),if_pos rfl]
    rw [eG,eA]
end DoorU
end Go.Proofs.YtjkbkhjalimebaaGreatDoor
namespace Go.Proofs.YtjkbkhjalimebaaGreatDoor
open Go.RowKit DoorU
set_option linter.unusedVariables false
set_option linter.unusedSimpArgs false
set_option maxRecDepth 100000
namespace DoorU
theorem stSame_refl (s:Sta):stSame s s=true:=by
  unfold stSame
  rw [beq_self_eq_true,beq_self_eq_true,beq_self_eq_true]
  rfl
theorem stCmp_eq {s t:Sta} (h1:s.1=t.1) (h2:s.2.1=t.2.1):stCmp s t=0:=by
  unfold stCmp
  rw [if_pos (cmp_0 h1),cmp_0 h2]
theorem pt_sta {c:Cfg} {p:Pos} {n:Int} {b:List Int} {now:Int} (h:(ptF c p n b now).2.2.2.1=0):(ptF c p n b now).1.2.1=p.2.1∨0 < stCmp (ptF c p n b now).1.2.1 p.2.1:=by
  have g:∀ s:Sta,(goF p s).2.1=p.2.1∨0 < stCmp (goF p s).2.1 p.2.1:=fun s=>by
    unfold goF
    split
    · exact .inl rfl
    · exact .inr (by show 0 < stCmp s p.2.1;omega)
  unfold ptF at h ⊢
  split at h
  · cases h
  rename_i a1
  rw [if_neg a1]
  split at h
  · rename_i a2
    exact absurd h a2
  rename_i a2
  rw [if_neg a2]
  generalize frTkF (pairF c n p.1) b=f at h ⊢
  unfold ptG at h ⊢
  split at h
  · cases h
  rename_i a3
  rw [if_neg a3]
  split at h
  · cases h
  rename_i a4
  rw [if_neg a4]
  split
  · exact g _
  · exact g _
theorem ann_f0 {h:Hea} {r:List Int} (hS:(heS h).2.2.1=h.2.2.1::r):annF h=h:=by
  by_cases a1:anY h=false
  · exact ann_n a1
  have e0:h.2.2.1=0:=by
    unfold anY at a1
    cases e:(h.2.2.1==0)
    · rw [e,Bool.false_and,Bool.and_false] at a1
      exact absurd rfl a1
    · exact eq_of_beq e
  have e1:onE h.2.1 h.1 (heS h)=1:=by
    unfold onE
    rw [if_pos]
    refine .inr (.inr ?_)
    rw [hS,List.all_cons,e0]
    unfold isSv wit
    rw [show decide ((1:Int)≤0)=false from rfl,Bool.false_and,Bool.false_and]
  have e2:(anO h).2.2.1=1:=by
    show (oniF h.2.1 h.1 (heS h)).2.2.1=1
    unfold oniF
    rw [if_pos (by rw [e1];decide)]
    exact e1
  rw [annF,if_neg a1,if_pos (by rw [e2];decide)]
theorem ann_q {h:Hea}:heQ (annF h)=heQ h∧heS (annF h)=heS h∧(annF h).2.2.1=h.2.2.1∧(annF h).1.1=h.1.1∧(annF h).2.1=h.2.1:=by
  unfold annF
  split
  · exact ⟨rfl,rfl,rfl,rfl,rfl⟩
  split
  · exact ⟨rfl,rfl,rfl,rfl,rfl⟩
  split
  · exact ⟨rfl,rfl,rfl,rfl,rfl⟩
  split
  · exact ⟨rfl,rfl,rfl,rfl,rfl⟩
  rename_i a4
  exact ⟨rfl,ann_sta (Decidable.not_not.1 a4),rfl,rfl,rfl⟩
def KJ (q0:Que) (w0:List Int) (s0:Int) (S0:Sta) (fr:Int) (h:Hea):Prop:=
  h.2.2.1=fr∧heS h=S0∧((heQ h=q0∧((∃ r,S0.2.2.1=fr::r)→heW h=w0∧h.1.2.2.2.2.2.1=s0))∨((∃ r,S0.2.2.1=fr::r)∧w0≠[]∧heQ h=(qoF q0 s0).1∧heW h=[]))
theorem fir_cons {h:Hea} (e:(firF h).2.1=true):∃ r,(heS h).2.2.1=(firF h).1::r:=by
  unfold firF at e ⊢
  split at e
  · rename_i a r e1
    rw [e1]
    exact ⟨r,rfl⟩
  · cases e
theorem KJ_step {q0:Que} {w0:List Int} {s0:Int} {S0:Sta} {fr:Int} {h:Hea} (k:KJ q0 w0 s0 S0 fr h) (b:List Int):KJ q0 w0 s0 S0 fr (hrS h b):=by
  unfold hrS
  split
  · exact k
  split
  · obtain ⟨k1,k2,k3⟩:=k
    by_cases e:∃ r,S0.2.2.1=fr::r
    · obtain ⟨r,e⟩:=e
      rw [ann_f0 (r:=r) (by rw [k2,k1];exact e)]
      exact ⟨k1,k2,k3⟩
    · obtain ⟨a1,a2,a3,_⟩:=ann_q (h:=h)
      rcases k3 with ⟨k3,_⟩ | ⟨k3,_⟩
      · exact ⟨a3.trans k1,a2.trans k2,.inl ⟨a1.trans k3,fun h=>(e h).elim⟩⟩
      · exact (e k3).elim
  split
  · unfold recF
    split
    · exact k
    rename_i a
    obtain ⟨k1,k2,k3⟩:=k
    have a:=(Bool.not_eq_false _).mp a
    unfold rcY at a
    rw [Bool.and_eq_true,Bool.and_eq_true,Bool.and_eq_true] at a
    obtain ⟨b1,b2,b3,_⟩:=a
    obtain ⟨r,e⟩:=fir_cons b1
    rw [← eq_of_beq b2,k1,k2] at e
    have w:heW h≠[]:=fun hh=>by rw [hh] at b3;cases b3
    rcases k3 with ⟨k3,k4⟩ | ⟨_,_,_,k4⟩
    · obtain ⟨k5,k6⟩:=k4 ⟨r,e⟩
      exact ⟨k1,k2,.inr ⟨⟨r,e⟩,k5▸w,by show (qoF (heQ h) _).1=_;rw [k3,k6],rfl⟩⟩
    · exact absurd k4 w
  · exact k
theorem KJ_go {q0:Que} {w0:List Int} {s0:Int} {S0:Sta} {fr:Int}:∀ (l:List (List Int)) {h:Hea},KJ q0 w0 s0 S0 fr h→KJ q0 w0 s0 S0 fr (hrGo l h)
  | [],_,k=>k
  | b::l,_,k=>KJ_go l (KJ_step k b)
theorem hear_q {c:Cfg} {x:Cli} {fr:Int} {b:List Int} {now:Int} (he:(hrP c x fr b now).2.2.2.1=0):
    (hrF c x fr b now).1.2.2.1=x.2.2.1∨((∃ r,x.2.1.2.1.2.2.1=fr::r)∧(hrF c x fr b now).1.2.1.2.1=x.2.1.2.1∧x.2.2.2.2.1≠[]∧(hrF c x fr b now).1.2.2.2.2.1=[]∧(hrF c x fr b now).1.2.2.1=(qoF x.2.2.1 x.2.2.2.2.2.1).1):=by
  have hs:=pt_sta he
  have e:(hrF c x fr b now).1=(hrH c x fr b now).1:=by unfold hrF;rw [if_neg (fun h=>h he)]
  rw [e]
  unfold hrH
  have he':(ptF c x.2.1 fr b now)=hrP c x fr b now:=rfl
  rw [he'] at hs
  generalize hrP c x fr b now=P at hs ⊢
  by_cases hN:hrN x P.1=true
  · have k:KJ x.2.2.1 [] 0 P.1.2.1 fr (hr0 c x fr now P.1 P.2.2.1):=by
      unfold hr0
      rw [hN]
      exact ⟨rfl,rfl,.inl ⟨rfl,fun _=>⟨rfl,rfl⟩⟩⟩
    rcases (KJ_go P.2.1 k).2.2 with ⟨k1,_⟩ | ⟨_,k2,_⟩
    · exact .inl k1
    · exact absurd rfl k2
  · have hN:=(Bool.not_eq_true _).mp hN
    have hS:P.1.2.1=x.2.1.2.1:=by
      rcases hs with h | h
      · exact h
      · exfalso
        unfold hrN at hN
        rw [Bool.or_eq_false_iff,bne_eq_false_iff_eq,bne_eq_false_iff_eq] at hN
        rw [stCmp_eq hN.1 hN.2] at h
        omega
    have k:KJ x.2.2.1 x.2.2.2.2.1 x.2.2.2.2.2.1 P.1.2.1 fr (hr0 c x fr now P.1 P.2.2.1):=by
      unfold hr0
      rw [hN]
      exact ⟨rfl,rfl,.inl ⟨rfl,fun _=>⟨rfl,rfl⟩⟩⟩
    obtain ⟨_,k2,k3⟩:=KJ_go P.2.1 k
    rcases k3 with ⟨k3,_⟩ | ⟨k3,k4,k5,k6⟩
    · exact .inl k3
    · rw [hS] at k2 k3
      exact .inr ⟨k3,k2,k4,k6,k5⟩
theorem qo_ne {q:Que} {s:Int} (h:(qoF q s).1≠q):(qhF q).2.1=true∧(qoF q s).2.1=true∧(qhF q).1.2.2.2.1=s:=by
  unfold qoF qhF at*
  split
  · rename_i l r e
    rw [e] at h
    dsimp only at h
    split at h
    · rename_i e2
      rw [if_pos e2]
      exact ⟨rfl,rfl,e2⟩
    · exact absurd rfl h
  · rename_i e
    rw [e] at h
    exact absurd rfl h
end DoorU
end Go.Proofs.YtjkbkhjalimebaaGreatDoor
namespace Go.Proofs.YtjkbkhjalimebaaGreatDoor
open Go.RowKit DoorU
set_option linter.unusedVariables false
set_option linter.unusedSimpArgs false
set_option maxRecDepth 100000
set_option maxHeartbeats 1000000
theorem SC.re {P:Program} {f:FuncId} {sig fin:Sh} {pre pre':sig.V→Prop} {fn fn':sig.V→fin.V} (h:SC P f ⟨sig,fin,pre,fn⟩) (hp:∀ x,pre' x→pre x∧fn x=fn' x):SC P f ⟨sig,fin,pre',fn'⟩:=fun hn x hx=>by
  have h1:=h hn x (hp x hx).1
  have e:=(hp x hx).2
  dsimp only at h1 ⊢
  rw [e] at h1
  exact h1
namespace DoorU
def xL:Cli:=(0,(4,(0,0,[],()),[],()),(1,[],()),false,[],0,())
def sL:Sta:=(1,1,[1,2],())
def bL:List Int:=anBt plainC 0 4 sL 0
theorem hearL:∃ (P:Pos) (ab pb:List Int) (sq:Int),hrF plainC xL 0 bL 1=((0,P,(1,[],()),true,[],sq,()),[(0,ab,false,()),(1,pb,true,())],0,()):=by
  obtain ⟨n0,b,ab,pb,want,sq,r,h1,h2,h3,h4,h5,h6,h7,h8⟩:=hear_new (c:=plainC) (x:=xL) (s:=sL) (by decide) 1 (by decide) (by decide) (by decide) (by unfold okSt okW;decide) (by decide) (by decide) (by decide)
  have e:(1:Int)=n0:=(List.cons.inj h1).1
  subst e
  obtain rfl:=h6 rfl
  exact ⟨_,_,_,_,h8⟩
noncomputable def lvP:Pos:=hearL.choose
noncomputable def lvA:List Int:=hearL.choose_spec.choose
noncomputable def lvB:List Int:=hearL.choose_spec.choose_spec.choose
noncomputable def lvS:Int:=hearL.choose_spec.choose_spec.choose_spec.choose
theorem hearL_eq:hrF plainC xL 0 bL 1=((0,lvP,(1,[],()),true,[],lvS,()),[(0,lvA,false,()),(1,lvB,true,())],0,()):=hearL.choose_spec.choose_spec.choose_spec.choose_spec
end DoorU
def S_cnewL:Spec:=⟨.pair aC (.pair nI .unit),.pair (.tup (.pair vCl (.pair nI .unit))) .unit,fun (x:Cfg×Int×Unit)=>x=(plainC,0,()),fun (x:Cfg×Int×Unit)=>(((((0,(4,(0,0,[],()),[],()),(1,[],()),false,[],0,()),0,()),()):(Cli×Int×Unit)×Unit))⟩
theorem sc_cnewL:SC Tryz.prog 17 S_cnewL:=SC.re sc_cnew fun x hx=>⟨trivial,by
  have h:@Eq (Cfg×Int×Unit) x (plainC,0,()):=hx
  subst h
  rfl⟩
theorem en_cnewL (us:Array Value) (u:World):(callFunc 17 us).run Tryz.prog u=.ok (.enter 17 us) u:=by kernel_rfl
def S_firstL:Spec:=⟨.pair aC .unit,.pair vSt .unit,fun (x:Cfg×Unit)=>x=(plainC,()),fun (x:Cfg×Unit)=>((sL,()):Sta×Unit)⟩
theorem sc_firstL:SC Tryz.prog 26 S_firstL:=SC.re sc_first fun x hx=>⟨trivial,by
  have h:@Eq (Cfg×Unit) x (plainC,()):=hx
  subst h
  rfl⟩
theorem en_firstL (us:Array Value) (u:World):(callFunc 26 us).run Tryz.prog u=.ok (.enter 26 us) u:=by kernel_rfl
def S_anncL:Spec:=⟨.pair aC (.pair aCl (.pair aSt .unit)),.pair vY .unit,fun (x:Cfg×Cli×Sta×Unit)=>x=(plainC,xL,sL,()),fun (x:Cfg×Cli×Sta×Unit)=>((bL,()):List Int×Unit)⟩
theorem sc_anncL:SC Tryz.prog 22 S_anncL:=SC.re sc_annc fun x hx=>by
  have h:@Eq (Cfg×Cli×Sta×Unit) x (plainC,xL,sL,()):=hx
  subst h
  exact ⟨⟨by decide,by unfold okSt okW;decide,by decide⟩,rfl⟩
theorem en_anncL (us:Array Value) (u:World):(callFunc 22 us).run Tryz.prog u=.ok (.enter 22 us) u:=by kernel_rfl
noncomputable def S_hearL:Spec:=⟨.pair vCf (.pair vCl (.pair nI (.pair vY (.pair nI .unit)))),.pair (.tup (.pair vCl (.pair vPas (.pair nI .unit)))) .unit,fun (x:Cfg×Cli×Int×List Int×Int×Unit)=>x=(plainC,xL,0,bL,1,()),fun (x:Cfg×Cli×Int×List Int×Int×Unit)=>((((0,lvP,(1,[],()),true,[],lvS,()),[(0,lvA,false,()),(1,lvB,true,())],0,()),()):(Cli×List Par×Int×Unit)×Unit)⟩
theorem okCl_L:okCl xL:=by
  refine ⟨⟨Nat.zero_le _,Nat.zero_le _,fun q h=>(List.not_mem_nil h).elim⟩,?_,fun q h=>(List.not_mem_nil h).elim,⟨⟨Nat.zero_le _,fun q h=>(List.not_mem_nil h).elim⟩,fun q h=>(List.not_mem_nil h).elim⟩,fun q h=>(List.not_mem_nil h).elim⟩
  unfold okSt okW
  decide
theorem an_byt (c:Cfg) (n:Int) (s:Sta):byt (anBt c 0 n s 0):=by
  unfold anBt
  refine frPutF_byt _ ?_
  intro y hy
  have:y∈([1,0,0]:List Int):=hy
  simp only [List.mem_cons,List.not_mem_nil,or_false] at this
  omega
theorem an_len {c:Cfg} {n:Int} {s:Sta} (h:frChk (anFr n s)=0):(anBt c 0 n s 0).length=63+s.2.2.1.length:=by
  unfold anBt
  rw [show ((0,n,s,1,0,anB,()):Fra)=anFr n s from rfl,frPutF_len _ h]
  show 60+s.2.2.1.length+3=_
  omega
theorem sc_hearL:SC Tryz.prog 11 S_hearL:=SC.re sc_hear fun x hx=>by
  have h:@Eq (Cfg×Cli×Int×List Int×Int×Unit) x (plainC,xL,0,bL,1,()):=hx
  subst h
  refine ⟨⟨by decide,okCl_L,?_,(show byt bL from an_byt _ _ _)⟩,?_⟩
  · have e:bL.length=65:=an_len (by decide)
    show bL.length≤_
    omega
  · exact congrArg (fun z:Cli×List Par×Int×Unit=>(z,())) hearL_eq
theorem en_hearL (us:Array Value) (u:World):(callFunc 11 us).run Tryz.prog u=.ok (.enter 11 us) u:=by kernel_rfl
def S_live:Spec:=⟨.unit,.pair .bool .unit,fun _=>True,fun (x:Unit)=>((true,()):Bool×Unit)⟩
def S_keeps:Spec:=⟨.pair vCf (.pair vCl (.pair nI (.pair vY (.pair nI .unit)))),.pair .bool .unit,fun (x:Cfg×Cli×Int×List Int×Int×Unit)=>x.1.1.length≤1048576∧okCl x.2.1∧bytQu x.2.1.2.2.1∧x.2.2.2.1.length≤1048576∧byt x.2.2.2.1,fun _=>((true,()):Bool×Unit)⟩
theorem vc_live:VC Tryz.prog Tryz.f6 (bodyOf Tryz.f6) S_live [(25,S_plain),(17,S_cnewL),(26,S_firstL),(22,S_anncL),(11,S_hearL)] (fun _ _=>none)=(∀ (x:Unit),True→
  True∧(([],(2:Int),(1:Int),(2:Int),(3:Int),(4:Int),(20:Int),(5:Int),(4:Int),(1:Int),(1:Int),()),(0:Int),())=(plainC,(0:Int),())∧True∧True∧True∧(([],(2:Int),(1:Int),(2:Int),(3:Int),(4:Int),(20:Int),(5:Int),(4:Int),(1:Int),(1:Int),()),())=(plainC,())∧(([],(2:Int),(1:Int),(2:Int),(3:Int),(4:Int),(20:Int),(5:Int),(4:Int),(1:Int),(1:Int),()),((0:Int),((4:Int),((0:Int),(0:Int),[],()),[],()),((1:Int),[],()),false,[],(0:Int),()),((1:Int),(1:Int),[(1:Int),(2:Int)],()),())=(plainC,xL,sL,())∧(([],(2:Int),(1:Int),(2:Int),(3:Int),(4:Int),(20:Int),(5:Int),(4:Int),(1:Int),(1:Int),()),((0:Int),((4:Int),((0:Int),(0:Int),[],()),[],()),((1:Int),[],()),false,[],(0:Int),()),(0:Int),bL,(1:Int),())=(plainC,xL,(0:Int),bL,(1:Int),())∧bif (0:Int)==(0:Int) then bif (4:Int)==(4:Int) then bif (0:Int)==(0:Int) then List.length [((0:Int),lvA,false,()),((1:Int),lvB,true,())]≤(9223372036854775807:Nat)→
  bif (↑(List.length [((0:Int),lvA,false,()),((1:Int),lvB,true,())]):Int)==(2:Int) then (0:Int)≤(0:Int)∧(0:Int) < (↑(List.length [((0:Int),lvA,false,()),((1:Int),lvB,true,())]):Int)∧∀ (c0:Int×List Int×Bool×Unit),[((0:Int),lvA,false,()),((1:Int),lvB,true,())][(0:Nat)]?=some c0→
  bif c0.fst==(0:Int) then (0:Int)≤(1:Int)∧(1:Int) < (↑(List.length [((0:Int),lvA,false,()),((1:Int),lvB,true,())]):Int)∧∀ (c0:Int×List Int×Bool×Unit),[((0:Int),lvA,false,()),((1:Int),lvB,true,())][(1:Nat)]?=some c0→
  bif c0.fst==(1:Int) then (0:Int)≤(1:Int)∧(1:Int) < (↑(List.length [((0:Int),lvA,false,()),((1:Int),lvB,true,())]):Int)∧∀ (c0:Int×List Int×Bool×Unit),[((0:Int),lvA,false,()),((1:Int),lvB,true,())][(1:Nat)]?=some c0→
  bif c0.snd.snd.fst then List.length ([]:List Int)≤(9223372036854775807:Nat)→
  ((↑(List.length ([]:List Int)):Int)==(0:Int),())=(true,()) else (false,())=(true,()) else (false,())=(true,()) else (false,())=(true,()) else (false,())=(true,()) else (false,())=(true,()) else (false,())=(true,()) else (false,())=(true,())):=by kernel_rfl
theorem en_live (us:Array Value) (u:World):(callFunc 6 us).run Tryz.prog u=.ok (.enter 6 us) u:=by kernel_rfl
theorem sc_live:SC Tryz.prog 6 S_live:=by
  refine SC.of Tryz.func6 (c:=bodyOf Tryz.f6) (by kernel_rfl) (by kernel_rfl) (fun x=>(by decide:(0:Nat)≤Tryz.f6.ntmps)) (DOk.cons sc_plain en_plain (DOk.cons sc_cnewL en_cnewL (DOk.cons sc_firstL en_firstL (DOk.cons sc_anncL en_anncL (DOk.cons sc_hearL en_hearL DOk.nil))))) (Eq.mpr vc_live ?_)
  rintro ⟨⟩ -
  refine ⟨trivial,rfl,trivial,trivial,trivial,rfl,rfl,rfl,?_⟩
  rw [show ((0:Int)==0)=true from rfl,cond_true,show ((4:Int)==4)=true from rfl,cond_true,cond_true]
  intro _
  rw [show (((List.length [((0:Int),lvA,false,()),((1:Int),lvB,true,())]:Nat):Int)==2)=true from rfl,cond_true]
  refine ⟨by decide,by decide,fun c0 h0=>?_⟩
  obtain rfl:=Option.some.inj h0
  dsimp only
  rw [show ((0:Int)==0)=true from rfl,cond_true]
  refine ⟨by decide,by decide,fun c0 h0=>?_⟩
  obtain rfl:=Option.some.inj h0
  dsimp only
  rw [show ((1:Int)==1)=true from rfl,cond_true]
  refine ⟨by decide,by decide,fun c0 h0=>?_⟩
  obtain rfl:=Option.some.inj h0
  dsimp only
  rw [cond_true]
  intro _
  rfl
theorem vc_keeps:VC Tryz.prog Tryz.f4 (bodyOf Tryz.f4) S_keeps [(6,S_live),(7,S_may),(11,S_hear),(12,S_rcl),(13,S_rque),(9,S_qhead),(14,S_qpop),(15,S_ssame)] (fun _ _=>none)=(∀ (x:(List Int×Int×Int×Int×Int×Int×Int×Int×Int×Int×Int×Unit)×(Int×(Int×(Int×Int×List Int×Unit)×List (Int×(Int×List (Int×List Int×Int×Unit)×List (List Int)×Unit)×(Int×List (Int×List Int×Int×Unit)×Unit)×Unit)×Unit)×(Int×List (Bool×Int×Int×Int×List Int×Unit)×Unit)×Bool×List Int×Int×Unit)×Int×List Int×Int×Unit),(List.length x.fst.fst≤(1048576:Nat)∧okCl x.snd.fst∧bytQu x.snd.fst.snd.snd.fst∧List.length x.snd.snd.snd.fst≤(1048576:Nat)∧∀ (x_1:Int),x_1∈x.snd.snd.snd.fst→
  (0:Int)≤x_1∧x_1 < (256:Int))→
  List.length x.fst.fst≤(9223372036854775807:Nat)→
  List.length x.snd.fst.snd.fst.snd.fst.snd.snd.fst≤(9223372036854775807:Nat)→
  List.length x.snd.fst.snd.fst.snd.snd.fst≤(9223372036854775807:Nat)→
  List.length x.snd.fst.snd.snd.fst.snd.fst≤(9223372036854775807:Nat)→
  List.length x.snd.fst.snd.snd.snd.snd.fst≤(9223372036854775807:Nat)→
  List.length x.snd.snd.snd.fst≤(9223372036854775807:Nat)→
  True∧(okPo x.snd.fst.snd.fst∧List.length x.snd.fst.snd.snd.fst.snd.fst≤big)∧bif !mayC x.fst x.snd.fst then (true,())=(true,()) else List.length x.snd.snd.snd.fst≤(9223372036854775807:Nat)→
  bif decide ((1500:Int) < (↑(List.length x.snd.snd.snd.fst):Int)) then (true,())=(true,()) else (List.length x.fst.fst≤(1048576:Nat)∧okCl x.snd.fst∧List.length x.snd.snd.snd.fst≤(1048576:Nat)∧∀ (x_1:Int),x_1∈x.snd.snd.snd.fst→
  (0:Int)≤x_1∧x_1 < (256:Int))∧bif (hrF x.fst x.snd.fst x.snd.snd.fst x.snd.snd.snd.fst x.snd.snd.snd.snd.fst).snd.snd.fst != (0:Int) then (bytCl (hrF x.fst x.snd.fst x.snd.snd.fst x.snd.snd.snd.fst x.snd.snd.snd.snd.fst).fst∧bytCl ((0:Int),((0:Int),((0:Int),(0:Int),[],()),[],()),((0:Int),[],()),false,[],(0:Int),()))∧(sCl (hrF x.fst x.snd.fst x.snd.snd.fst x.snd.snd.snd.fst x.snd.snd.snd.snd.fst).fst ((0:Int),((0:Int),((0:Int),(0:Int),[],()),[],()),((0:Int),[],()),false,[],(0:Int),()),())=(true,()) else (bytQu (hrF x.fst x.snd.fst x.snd.snd.fst x.snd.snd.snd.fst x.snd.snd.snd.snd.fst).fst.snd.snd.fst∧bytQu x.snd.fst.snd.snd.fst)∧bif sQu (hrF x.fst x.snd.fst x.snd.snd.fst x.snd.snd.snd.fst x.snd.snd.snd.snd.fst).fst.snd.snd.fst x.snd.fst.snd.snd.fst then (true,())=(true,()) else okQu x.snd.fst.snd.snd.fst∧okQu x.snd.fst.snd.snd.fst∧bif (qhF x.snd.fst.snd.snd.fst).snd.fst then bif (qoF x.snd.fst.snd.snd.fst x.snd.fst.snd.snd.snd.snd.snd.fst).snd.fst then bif (qhF x.snd.fst.snd.snd.fst).fst.snd.snd.snd.fst==x.snd.fst.snd.snd.snd.snd.snd.fst then (bytQu (qoF x.snd.fst.snd.snd.fst x.snd.fst.snd.snd.snd.snd.snd.fst).fst∧bytQu (hrF x.fst x.snd.fst x.snd.snd.fst x.snd.snd.snd.fst x.snd.snd.snd.snd.fst).fst.snd.snd.fst)∧bif sQu (qoF x.snd.fst.snd.snd.fst x.snd.fst.snd.snd.snd.snd.snd.fst).fst (hrF x.fst x.snd.fst x.snd.snd.fst x.snd.snd.snd.fst x.snd.snd.snd.snd.fst).fst.snd.snd.fst then List.length x.snd.fst.snd.snd.snd.snd.fst≤(9223372036854775807:Nat)→
  bif decide ((0:Int) < (↑(List.length x.snd.fst.snd.snd.snd.snd.fst):Int)) then List.length (hrF x.fst x.snd.fst x.snd.snd.fst x.snd.snd.snd.fst x.snd.snd.snd.snd.fst).fst.snd.snd.snd.snd.fst≤(9223372036854775807:Nat)→
  bif (↑(List.length (hrF x.fst x.snd.fst x.snd.snd.fst x.snd.snd.snd.fst x.snd.snd.snd.snd.fst).fst.snd.snd.snd.snd.fst):Int)==(0:Int) then True∧bif stSame (hrF x.fst x.snd.fst x.snd.snd.fst x.snd.snd.snd.fst x.snd.snd.snd.snd.fst).fst.snd.fst.snd.fst x.snd.fst.snd.fst.snd.fst then List.length x.snd.fst.snd.fst.snd.fst.snd.snd.fst≤(9223372036854775807:Nat)→
  bif decide ((0:Int) < (↑(List.length x.snd.fst.snd.fst.snd.fst.snd.snd.fst):Int)) then (0:Int)≤(0:Int)∧(0:Int) < (↑(List.length x.snd.fst.snd.fst.snd.fst.snd.snd.fst):Int)∧∀ (c0:Int),x.snd.fst.snd.fst.snd.fst.snd.snd.fst[(0:Nat)]?=some c0→
  (x.snd.snd.fst==c0,())=(true,()) else (false,())=(true,()) else (false,())=(true,()) else (false,())=(true,()) else (false,())=(true,()) else (false,())=(true,()) else (false,())=(true,()) else (false,())=(true,()) else (false,())=(true,())):=by kernel_rfl
theorem sc_keeps:SC Tryz.prog 4 S_keeps:=by
  refine SC.of Tryz.func4 (c:=bodyOf Tryz.f4) (by kernel_rfl) (by kernel_rfl) (fun x=>(by decide:(5:Nat)≤Tryz.f4.ntmps)) (DOk.cons sc_live en_live (DOk.cons sc_may en_may (DOk.cons sc_hear en_hear (DOk.cons sc_rcl en_rcl (DOk.cons sc_rque en_rque (DOk.cons sc_qhead en_qhead (DOk.cons sc_qpop en_qpop (DOk.cons sc_rst en_rst DOk.nil)))))))) (Eq.mpr vc_keeps ?_)
  rintro ⟨c,x,fr,b,now,⟨⟩⟩ ⟨hc,hx,hq,hb,hy⟩ - - - - - -
  dsimp only at hc hx hq hb hy ⊢
  have okp:okPo x.2.1:=bdPo_ok hx.1 (by decide)
  refine ⟨trivial,⟨okp,Nat.le_trans hx.2.2.2.1.1.1 (by decide)⟩,?_⟩
  cases mayC c x
  · rfl
  rw [Bool.not_true,cond_false]
  intro _
  by_cases a1:(1500:Int) < (b.length:Nat)
  · rw [decide_eq_true a1,cond_true]
  rw [decide_eq_false a1,cond_false]
  refine ⟨⟨hc,hx,hb,hy⟩,?_⟩
  by_cases a2:(hrP c x fr b now).2.2.2.1=0
  rotate_left 1
  · have e:hrF c x fr b now=(zCl,[],(hrP c x fr b now).2.2.2.1,()):=by unfold hrF;rw [if_pos a2]
    have z:bytCl zCl:=⟨fun q h=>(List.not_mem_nil h).elim,fun q h=>(List.not_mem_nil h).elim,fun q h=>(List.not_mem_nil h).elim⟩
    rw [e,bneT a2,cond_true]
    exact ⟨⟨z,z⟩,congrArg (fun z=>(z,())) (sCl_t rfl)⟩
  have e:(hrF c x fr b now).2.2.1=0:=by unfold hrF;rw [if_neg (fun h=>h a2)]
  rw [bneF e,cond_false]
  have k:=hear_q a2
  have qo:∀ s,bytQu (qoF x.2.2.1 s).1:=fun s l hl=>hq l (qo_mem l hl)
  have yq:bytQu (hrF c x fr b now).1.2.2.1:=by
    rcases k with k | ⟨_,_,_,_,k⟩
    · rw [k];exact hq
    · rw [k];exact qo _
  refine ⟨⟨yq,hq⟩,?_⟩
  by_cases a3:(hrF c x fr b now).1.2.2.1=x.2.2.1
  · rw [sQu_t a3,cond_true]
  rw [sQu_f a3,cond_false]
  rcases k with k | ⟨⟨r,k1⟩,k2,k3,k4,k5⟩
  · exact absurd k a3
  obtain ⟨q1,q2,q3⟩:=qo_ne (by rw [← k5];exact a3)
  refine ⟨hx.2.2.2.1.1,hx.2.2.2.1.1,?_⟩
  rw [q1,cond_true,q2,cond_true,beq_iff_eq.2 q3,cond_true]
  refine ⟨⟨qo _,yq⟩,?_⟩
  rw [sQu_t k5.symm,cond_true]
  intro _
  have w0:0 < ((x.2.2.2.2.1.length:Nat):Int):=by
    have:=List.length_pos_iff.2 k3
    omega
  rw [decide_eq_true w0,cond_true]
  intro _
  rw [k4,show (((([]:List Int).length:Nat):Int)==0)=true from rfl,cond_true,k2,stSame_refl,cond_true]
  refine ⟨trivial,?_⟩
  intro _
  have w1:0 < ((x.2.1.2.1.2.2.1.length:Nat):Int):=by rw [k1,List.length_cons];omega
  rw [decide_eq_true w1,cond_true]
  refine ⟨Int.le_refl 0,w1,fun c0 h0=>?_⟩
  rw [k1] at h0
  obtain rfl:=Option.some.inj h0
  exact congrArg (fun z=>(z,())) (beq_self_eq_true _)
end Go.Proofs.YtjkbkhjalimebaaGreatDoor
namespace Go.Proofs.YtjkbkhjalimebaaGreatDoor
open Go.RowKit DoorU
set_option linter.unusedVariables false
set_option linter.unusedSimpArgs false
set_option maxRecDepth 100000
namespace DoorU
end DoorU
end Go.Proofs.YtjkbkhjalimebaaGreatDoor
namespace Go.Proofs.YtjkbkhjalimebaaGreatDoor
open Go.RowKit DoorU
set_option linter.unusedVariables false
set_option linter.unusedSimpArgs false
set_option maxRecDepth 100000
set_option maxHeartbeats 1000000
end Go.Proofs.YtjkbkhjalimebaaGreatDoor

