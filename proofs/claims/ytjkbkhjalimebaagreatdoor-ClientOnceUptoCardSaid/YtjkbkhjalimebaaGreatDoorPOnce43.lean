import Derived.Test.YtjkbkhjalimebaaGreatDoorPOnce42
namespace Go.Proofs.YtjkbkhjalimebaaGreatDoor
open Go.RowKit DoorU
set_option linter.unusedVariables false
set_option linter.unusedSimpArgs false
set_option maxRecDepth 100000
set_option maxHeartbeats 1000000
abbrev lSts:Sh:=.view true tSt
abbrev pCl:Sh:=.var 36 (shOf false tCl)
abbrev pSt:Sh:=.var 28 (shOf true tSt)
def S_once:Spec:=⟨.pair vCf (.pair nI (.pair lSts (.pair lYs .unit))),.pair .bool .unit,fun (x:Cfg×Int×List Sta×List (List Int)×Unit)=>x.1.1.length≤1048576∧okW x.1.2.2.2.2.2.2.2.2.2.2.1∧(∀ s∈x.2.2.1,okSt s)∧∀ t∈x.2.2.2.1,byt t,fun _=>((true,()):Bool×Unit)⟩
def A_once (x:Cfg×Int×List Sta×List (List Int)×Unit):Nat→Option LA
  | 0=>some ⟨[53,9,11],[],.pair nI (.pair pCl (.pair pSt .unit)),fun (v:Int×Cli×Sta×Unit)=>0≤v.1∧¬ nodeF x.1 x.2.1 < 0∧onceI x.1 x.2.1 v.2.1 v.2.2.1,fun (v:Int×Cli×Sta×Unit)=>((x.2.2.1.length:Nat) - v.1).toNat⟩
  | 1=>some ⟨[72,13,70,71],[],.pair nI (.pair pSt (.pair (.view true tI) (.pair nI .unit))),fun (v:Int×Sta×List Int×Int×Unit)=>0≤v.1∧v.1≤(v.2.2.1.length:Nat)∧v.2.2.1=v.2.1.2.2.1∧v.2.2.2.1=(v.2.1.2.2.1.length:Nat)∧okSt v.2.1∧stChk v.2.1=0∧(v.2.1.2.2.1.length:Int)=x.1.2.1∧(v.2.1.2.2.1.take v.1.toNat).all (isSv x.1)=true,fun (v:Int×Sta×List Int×Int×Unit)=>((v.2.1.2.2.1.length:Nat) - v.1).toNat⟩
  | 2=>some ⟨[121,20,17,119,120,13,16,18,19,9,11],[],.pair nI (.pair nI (.pair vPas (.pair vPas (.pair nI (.pair pSt (.pair pCl (.pair nI (.pair .bool (.pair pCl (.pair pSt .unit)))))))))),fun (v:Int×Int×List Par×List Par×Int×Sta×Cli×Int×Bool×Cli×Sta×Unit)=>onceJ x.1 x.2.1 v,fun (v:Int×Int×List Par×List Par×Int×Sta×Cli×Int×Bool×Cli×Sta×Unit)=>((v.2.2.1.length:Nat) - v.1).toNat⟩
  | _=>none
def OnceRest (x:Cfg×Int×List Sta×List (List Int)×Unit) (i:Int):Prop:=∀ (v_2:Int×Int×List (Int×List Int×Bool×Unit)×List (Int×List Int×Bool×Unit)×Int×(Int×Int×List Int×Unit)×(Int×(Int×(Int×Int×List Int×Unit)×List (Int×(Int×List (Int×List Int×Int×Unit)×List (List Int)×Unit)×(Int×List (Int×List Int×Int×Unit)×Unit)×Unit)×Unit)×(Int×List (Bool×Int×Int×Int×List Int×Unit)×Unit)×Bool×List Int×Int×Unit)×Int×Bool×(Int×(Int×(Int×Int×List Int×Unit)×List (Int×(Int×List (Int×List Int×Int×Unit)×List (List Int)×Unit)×(Int×List (Int×List Int×Int×Unit)×Unit)×Unit)×Unit)×(Int×List (Bool×Int×Int×Int×List Int×Unit)×Unit)×Bool×List Int×Int×Unit)×(Int×Int×List Int×Unit)×Unit),onceJ x.fst x.snd.fst v_2→
  bif decide (v_2.fst < v_2.snd.snd.snd.snd.fst) then (0:Int)≤v_2.fst∧v_2.fst < (↑(List.length v_2.snd.snd.snd.fst):Int)∧∀ (c0:Int×List Int×Bool×Unit),v_2.snd.snd.snd.fst[Int.toNat v_2.fst]?=some c0→
  bif c0.snd.snd.fst then (0:Int)≤(0:Int)∧(0:Int) < (↑(List.length v_2.snd.snd.snd.snd.snd.fst.snd.snd.fst):Int)∧∀ (c0_3:Int),v_2.snd.snd.snd.snd.snd.fst.snd.snd.fst[(0:Nat)]?=some c0_3→
  bif c0.fst != c0_3 then (false,())=(true,()) else True∧bif (↑(List.length c0.snd.fst):Int) != IntKind.wrap IntKind.i64 (IntKind.wrap IntKind.i64 (IntKind.wrap IntKind.i64 ((60:Int)+x.fst.snd.fst)+(5:Int))+olnF x.fst.snd.fst) then (false,())=(true,()) else onceJ x.fst x.snd.fst (IntKind.wrap IntKind.i64 (v_2.fst+(1:Int)),IntKind.wrap IntKind.i64 (v_2.snd.fst+(1:Int)),v_2.snd.snd)∧Int.toNat ((↑(List.length v_2.snd.snd.fst):Int) - IntKind.wrap IntKind.i64 (v_2.fst+(1:Int))) < Int.toNat ((↑(List.length v_2.snd.snd.fst):Int) - v_2.fst) else onceJ x.fst x.snd.fst (IntKind.wrap IntKind.i64 (v_2.fst+(1:Int)),v_2.snd)∧Int.toNat ((↑(List.length v_2.snd.snd.fst):Int) - IntKind.wrap IntKind.i64 (v_2.fst+(1:Int))) < Int.toNat ((↑(List.length v_2.snd.snd.fst):Int) - v_2.fst) else bif v_2.snd.snd.snd.snd.snd.snd.snd.snd.fst then bif v_2.snd.snd.snd.snd.snd.snd.snd.fst != (0:Int) then (false,())=(true,()) else bif v_2.snd.fst != (1:Int) then (false,())=(true,()) else bif v_2.snd.snd.snd.snd.snd.snd.snd.fst==(0:Int) then ((0:Int)≤IntKind.wrap IntKind.i64 (i+(1:Int))∧¬nodeF x.fst x.snd.fst < (0:Int)∧onceI x.fst x.snd.fst v_2.snd.snd.snd.snd.snd.snd.fst v_2.snd.snd.snd.snd.snd.fst)∧Int.toNat ((↑(List.length x.snd.snd.fst):Int) - IntKind.wrap IntKind.i64 (i+(1:Int))) < Int.toNat ((↑(List.length x.snd.snd.fst):Int) - i) else ((0:Int)≤IntKind.wrap IntKind.i64 (i+(1:Int))∧¬nodeF x.fst x.snd.fst < (0:Int)∧onceI x.fst x.snd.fst v_2.snd.snd.snd.snd.snd.snd.snd.snd.snd.fst v_2.snd.snd.snd.snd.snd.fst)∧Int.toNat ((↑(List.length x.snd.snd.fst):Int) - IntKind.wrap IntKind.i64 (i+(1:Int))) < Int.toNat ((↑(List.length x.snd.snd.fst):Int) - i) else bif v_2.snd.fst != (0:Int) then (false,())=(true,()) else bif v_2.snd.snd.snd.snd.snd.snd.snd.fst != (0:Int) then bif v_2.snd.snd.snd.snd.snd.snd.snd.fst != (6:Int) then (false,())=(true,()) else bif v_2.snd.snd.snd.snd.snd.snd.snd.fst==(0:Int) then ((0:Int)≤IntKind.wrap IntKind.i64 (i+(1:Int))∧¬nodeF x.fst x.snd.fst < (0:Int)∧onceI x.fst x.snd.fst v_2.snd.snd.snd.snd.snd.snd.fst v_2.snd.snd.snd.snd.snd.snd.snd.snd.snd.snd.fst)∧Int.toNat ((↑(List.length x.snd.snd.fst):Int) - IntKind.wrap IntKind.i64 (i+(1:Int))) < Int.toNat ((↑(List.length x.snd.snd.fst):Int) - i) else ((0:Int)≤IntKind.wrap IntKind.i64 (i+(1:Int))∧¬nodeF x.fst x.snd.fst < (0:Int)∧onceI x.fst x.snd.fst v_2.snd.snd.snd.snd.snd.snd.snd.snd.snd.fst v_2.snd.snd.snd.snd.snd.snd.snd.snd.snd.snd.fst)∧Int.toNat ((↑(List.length x.snd.snd.fst):Int) - IntKind.wrap IntKind.i64 (i+(1:Int))) < Int.toNat ((↑(List.length x.snd.snd.fst):Int) - i) else bif v_2.snd.snd.snd.snd.snd.snd.snd.fst==(0:Int) then ((0:Int)≤IntKind.wrap IntKind.i64 (i+(1:Int))∧¬nodeF x.fst x.snd.fst < (0:Int)∧onceI x.fst x.snd.fst v_2.snd.snd.snd.snd.snd.snd.fst v_2.snd.snd.snd.snd.snd.snd.snd.snd.snd.snd.fst)∧Int.toNat ((↑(List.length x.snd.snd.fst):Int) - IntKind.wrap IntKind.i64 (i+(1:Int))) < Int.toNat ((↑(List.length x.snd.snd.fst):Int) - i) else ((0:Int)≤IntKind.wrap IntKind.i64 (i+(1:Int))∧¬nodeF x.fst x.snd.fst < (0:Int)∧onceI x.fst x.snd.fst v_2.snd.snd.snd.snd.snd.snd.snd.snd.snd.fst v_2.snd.snd.snd.snd.snd.snd.snd.snd.snd.snd.fst)∧Int.toNat ((↑(List.length x.snd.snd.fst):Int) - IntKind.wrap IntKind.i64 (i+(1:Int))) < Int.toNat ((↑(List.length x.snd.snd.fst):Int) - i)
theorem once_rest {x:Cfg×Int×List Sta×List (List Int)×Unit} {i:Int} (hw:¬ nodeF x.1 x.2.1 < 0) (h0:0≤i) (h1:i < (x.2.2.1.length:Nat)) (h2:x.2.2.1.length≤9223372036854775807):OnceRest x i:=by
  rintro ⟨idx,first,l0,l,n,s,y,f,ab,z,best,⟨⟩⟩ ⟨j0,j1,j2,j3,j4,hc,hs,hI,hC⟩
  dsimp only at j0 j1 j2 j3 j4 hs hI hC ⊢
  subst j2 j3
  have wi:IntKind.i64.wrap (i+1)=i+1:=IntWalk.i64_in _ (by omega)
  obtain ⟨l1,l8⟩:=okSt_S hs.k
  have hn:=hs.n
  have wl:IntKind.i64.wrap (IntKind.i64.wrap (IntKind.i64.wrap (60+x.1.2.1)+5)+olnF x.1.2.1)=60+(s.2.2.1.length:Nat)+5+(78+48*(s.2.2.1.length:Nat)):=by
    have e:olnF x.1.2.1=78+x.1.2.1*48:=by unfold olnF;rw [if_neg (by omega)]
    rw [e,IntWalk.i64_in (60+x.1.2.1) (by omega),IntWalk.i64_in (60+x.1.2.1+5) (by omega),IntWalk.i64_in _ (by omega),← hn]
    omega
  have me:((x.2.2.1.length:Nat) - (i+1)).toNat < (((x.2.2.1.length:Nat):Int) - i).toNat:=by omega
  by_cases hi:idx < (l.length:Nat)
  · have wx:IntKind.i64.wrap (idx+1)=idx+1:=IntWalk.i64_in _ (by omega)
    rw [decide_eq_true hi,cond_true,wx,wl]
    refine ⟨j0,hi,fun p hp=>?_⟩
    rcases hC with ⟨rfl,rfl,hI2,⟨n0,r,a,pb,g1,g2,rfl⟩,rfl⟩ | ⟨rfl,rfl,hF,hR⟩
    · have hi2:idx < 2:=hi
      by_cases e0:idx=0
      · subst e0
        obtain rfl:=Option.some.inj hp
        dsimp only
        rw [cond_false]
        exact ⟨⟨by show (0:Int)≤0+1;decide,by show (0:Int)+1≤2;decide,rfl,rfl,j4,hc,hs,hI,.inl ⟨rfl,rfl,hI2,⟨n0,r,a,pb,g1,g2,rfl⟩,rfl⟩⟩,by show ((2:Int) - (0+1)).toNat < ((2:Int) - 0).toNat;decide⟩
      · obtain rfl:idx=1:=by omega
        obtain rfl:=Option.some.inj hp
        dsimp only
        rw [cond_true]
        refine ⟨Int.le_refl 0,by omega,fun q hq=>?_⟩
        rw [g1] at hq
        obtain rfl:=Option.some.inj hq
        rw [bneF rfl,cond_false]
        refine ⟨trivial,?_⟩
        rw [bneF (by rw [g2];omega),cond_false]
        exact ⟨⟨by show (0:Int)≤1+1;decide,by show (1:Int)+1≤2;decide,rfl,rfl,j4,hc,hs,hI,.inl ⟨rfl,rfl,hI2,⟨n0,r,a,pb,g1,g2,rfl⟩,by show IntKind.i64.wrap ((if (2:Int)≤1 then 1 else 0)+1)=(if (2:Int)≤1+1 then 1 else 0);decide⟩⟩,by show ((2:Int) - (1+1)).toNat < ((2:Int) - 1).toNat;decide⟩
    · rw [hF p (List.mem_of_getElem? hp),cond_false]
      exact ⟨⟨by show 0≤idx+1;omega,by show idx+1≤(l.length:Nat);omega,rfl,rfl,j4,hc,hs,hI,.inr ⟨rfl,rfl,hF,hR⟩⟩,by omega⟩
  · rw [decide_eq_false hi,cond_false,wi]
    rcases hC with ⟨rfl,rfl,hI2,⟨n0,r,a,pb,g1,g2,rfl⟩,rfl⟩ | ⟨rfl,rfl,hF,hR⟩
    · have hi2:¬ idx < 2:=hi
      rw [if_pos (by omega),cond_true,bneF rfl,cond_false,bneF rfl,cond_false,show ((0:Int)==0)=true from rfl,cond_true]
      exact ⟨⟨by omega,hw,hI2⟩,me⟩
    · rw [cond_false,bneF rfl,cond_false]
      rcases hR with ⟨rfl,rfl⟩ | rfl
      · rw [bneF rfl,cond_false,show ((0:Int)==0)=true from rfl,cond_true]
        exact ⟨⟨by omega,hw,hI⟩,me⟩
      · rw [bneT (by decide),cond_true,bneF rfl,cond_false,show ((6:Int)==0)=false from rfl,cond_false]
        exact ⟨⟨by omega,hw,hI⟩,me⟩
theorem once_go {x:Cfg×Int×List Sta×List (List Int)×Unit} (hc:kchkF x.1=0) (hl:x.1.1.length≤1048576) (hw:¬ nodeF x.1 x.2.1 < 0) {i:Int} (h0:0≤i) (h1:i < (x.2.2.1.length:Nat)) (h2:x.2.2.1.length≤9223372036854775807) {z:Cli} {best:Sta} (hI:onceI x.1 x.2.1 z best) {s:Sta} (hs:OnS x.1 s):
    (x.1.1.length≤1000000000∧okSt s∧frChk (0,z.2.1.1,s,1,0,anB,())=0)∧(x.1.1.length≤1048576∧okCl z∧(anBt x.1 0 z.2.1.1 s 0).length≤1048576∧byt (anBt x.1 0 z.2.1.1 s 0))∧True∧((hrF x.1 z 0 (anBt x.1 0 z.2.1.1 s 0) i).2.1.length≤9223372036854775807→
      onceJ x.1 x.2.1 (0,0,(hrF x.1 z 0 (anBt x.1 0 z.2.1.1 s 0) i).2.1,(hrF x.1 z 0 (anBt x.1 0 z.2.1.1 s 0) i).2.1,((hrF x.1 z 0 (anBt x.1 0 z.2.1.1 s 0) i).2.1.length:Nat),s,(hrF x.1 z 0 (anBt x.1 0 z.2.1.1 s 0) i).1,(hrF x.1 z 0 (anBt x.1 0 z.2.1.1 s 0) i).2.2.1,decide (0 < stCmp s best),z,best,())∧OnceRest x i):=by
  have fr:=once_fr hc hw hI hs
  have al:=an_len (c:=x.1) fr
  have l8:=(okSt_S hs.k).2
  refine ⟨⟨by omega,hs.o,fr⟩,⟨hl,once_cl hI,by omega,an_byt _ _ _⟩,trivial,fun hy=>⟨?_,once_rest hw h0 h1 h2⟩⟩
  obtain ⟨y,l,f,e,hC⟩:=once_hear hc hw hI hs i
  rw [e] at hy ⊢
  exact ⟨Int.le_refl 0,Int.natCast_nonneg _,rfl,rfl,hy,hc,hs,hI,hC⟩
theorem vc_once:VC Tryz.prog Tryz.f5 (bodyOf Tryz.f5) S_once [(6,S_live),(16,S_rchk),(17,S_cnew),(18,S_node),(19,S_schk),(20,S_isS),(21,S_csay),(22,S_annc),(11,S_hear),(23,S_scmp),(24,S_olen)] A_once=(∀ (x:(List Int×Int×Int×Int×Int×Int×Int×Int×Int×Int×Int×Unit)×Int×List (Int×Int×List Int×Unit)×List (List Int)×Unit),(List.length x.fst.fst≤(1048576:Nat)∧okW x.fst.snd.snd.snd.snd.snd.snd.snd.snd.snd.snd.fst∧(∀ (s:Int×Int×List Int×Unit),s∈x.snd.snd.fst→
  okSt s)∧∀ (t:List Int),t∈x.snd.snd.snd.fst→
  ∀ (x:Int),x∈t→
  (0:Int)≤x∧x < (256:Int))→
  List.length x.fst.fst≤(9223372036854775807:Nat)→
  List.length x.snd.snd.fst≤(9223372036854775807:Nat)→
  List.length x.snd.snd.snd.fst≤(9223372036854775807:Nat)→
  True∧True∧bif kchkF x.fst != (0:Int) then (true,())=(true,()) else List.length x.snd.snd.fst≤(9223372036854775807:Nat)→
  bif decide ((12:Int) < (↑(List.length x.snd.snd.fst):Int)) then (true,())=(true,()) else List.length x.snd.snd.snd.fst≤(9223372036854775807:Nat)→
  bif decide ((12:Int) < (↑(List.length x.snd.snd.snd.fst):Int)) then (true,())=(true,()) else True∧bif (cnwF x.fst x.snd.fst).snd.fst != (0:Int) then True∧(decide (nodeF x.fst x.snd.fst < (0:Int)),())=(true,()) else List.length x.snd.snd.fst≤(9223372036854775807:Nat)→
  ((0:Int)≤(0:Int)∧¬nodeF x.fst x.snd.fst < (0:Int)∧onceI x.fst x.snd.fst (cnwF x.fst x.snd.fst).fst ((0:Int),(0:Int),[],()))∧∀ (v:Int×(Int×(Int×(Int×Int×List Int×Unit)×List (Int×(Int×List (Int×List Int×Int×Unit)×List (List Int)×Unit)×(Int×List (Int×List Int×Int×Unit)×Unit)×Unit)×Unit)×(Int×List (Bool×Int×Int×Int×List Int×Unit)×Unit)×Bool×List Int×Int×Unit)×(Int×Int×List Int×Unit)×Unit),(0:Int)≤v.fst∧¬nodeF x.fst x.snd.fst < (0:Int)∧onceI x.fst x.snd.fst v.snd.fst v.snd.snd.fst→
  bif decide (v.fst < (↑(List.length x.snd.snd.fst):Int)) then (0:Int)≤v.fst∧v.fst < (↑(List.length x.snd.snd.fst):Int)∧∀ (c0:Int×Int×List Int×Unit),x.snd.snd.fst[Int.toNat v.fst]?=some c0→
  True∧bif stChk c0 != (0:Int) then (true,())=(true,()) else List.length c0.snd.snd.fst≤(9223372036854775807:Nat)→
  bif (↑(List.length c0.snd.snd.fst):Int) != x.fst.snd.fst then (true,())=(true,()) else List.length c0.snd.snd.fst≤(9223372036854775807:Nat)→
  ((0:Int)≤(0:Int)∧(0:Int)≤(↑(List.length c0.snd.snd.fst):Int)∧c0.snd.snd.fst=c0.snd.snd.fst∧(↑(List.length c0.snd.snd.fst):Int)=(↑(List.length c0.snd.snd.fst):Int)∧okSt c0∧stChk c0=(0:Int)∧(↑(List.length c0.snd.snd.fst):Int)=x.fst.snd.fst∧true=true)∧∀ (v_1:Int×(Int×Int×List Int×Unit)×List Int×Int×Unit),(0:Int)≤v_1.fst∧v_1.fst≤(↑(List.length v_1.snd.snd.fst):Int)∧v_1.snd.snd.fst=v_1.snd.fst.snd.snd.fst∧v_1.snd.snd.snd.fst=(↑(List.length v_1.snd.fst.snd.snd.fst):Int)∧okSt v_1.snd.fst∧stChk v_1.snd.fst=(0:Int)∧(↑(List.length v_1.snd.fst.snd.snd.fst):Int)=x.fst.snd.fst∧List.all (List.take (Int.toNat v_1.fst) v_1.snd.fst.snd.snd.fst) (isSv x.fst)=true→
  bif decide (v_1.fst < v_1.snd.snd.snd.fst) then (0:Int)≤v_1.fst∧v_1.fst < (↑(List.length v_1.snd.snd.fst):Int)∧∀ (c0:Int),v_1.snd.snd.fst[Int.toNat v_1.fst]?=some c0→
  True∧bif !wit c0 (1:Int) (serversF x.fst) then (true,())=(true,()) else ((0:Int)≤IntKind.wrap IntKind.i64 (v_1.fst+(1:Int))∧IntKind.wrap IntKind.i64 (v_1.fst+(1:Int))≤(↑(List.length v_1.snd.snd.fst):Int)∧v_1.snd.snd.fst=v_1.snd.fst.snd.snd.fst∧v_1.snd.snd.snd.fst=(↑(List.length v_1.snd.fst.snd.snd.fst):Int)∧okSt v_1.snd.fst∧stChk v_1.snd.fst=(0:Int)∧(↑(List.length v_1.snd.fst.snd.snd.fst):Int)=x.fst.snd.fst∧List.all (List.take (Int.toNat (IntKind.wrap IntKind.i64 (v_1.fst+(1:Int)))) v_1.snd.fst.snd.snd.fst) (isSv x.fst)=true)∧Int.toNat ((↑(List.length v_1.snd.fst.snd.snd.fst):Int) - IntKind.wrap IntKind.i64 (v_1.fst+(1:Int))) < Int.toNat ((↑(List.length v_1.snd.fst.snd.snd.fst):Int) - v_1.fst) else List.length x.snd.snd.snd.fst≤(9223372036854775807:Nat)→
  bif decide (v.fst < (↑(List.length x.snd.snd.snd.fst):Int)) then (0:Int)≤v.fst∧v.fst < (↑(List.length x.snd.snd.snd.fst):Int)∧∀ (c0_1:List Int),x.snd.snd.snd.fst[Int.toNat v.fst]?=some c0_1→
  List.length c0_1≤(9223372036854775807:Nat)→
  bif decide ((↑(List.length c0_1):Int)≤(100:Int)) then (0:Int)≤v.fst∧v.fst < (↑(List.length x.snd.snd.snd.fst):Int)∧∀ (c0_2:List Int),x.snd.snd.snd.fst[Int.toNat v.fst]?=some c0_2→
  (okQu v.snd.fst.snd.snd.fst∧List.length c0_2≤(1048576:Nat))∧(List.length x.fst.fst≤(1000000000:Nat)∧okSt v_1.snd.fst∧frChk ((0:Int),(sayF x.fst v.snd.fst (0:Int) c0_2).fst.snd.fst.fst,v_1.snd.fst,(1:Int),(0:Int),anB,())=(0:Int))∧(List.length x.fst.fst≤(1048576:Nat)∧okCl (sayF x.fst v.snd.fst (0:Int) c0_2).fst∧List.length (anBt x.fst (0:Int) (sayF x.fst v.snd.fst (0:Int) c0_2).fst.snd.fst.fst v_1.snd.fst (0:Int))≤(1048576:Nat)∧∀ (x_1:Int),x_1∈anBt x.fst (0:Int) (sayF x.fst v.snd.fst (0:Int) c0_2).fst.snd.fst.fst v_1.snd.fst (0:Int)→
  (0:Int)≤x_1∧x_1 < (256:Int))∧True∧(List.length (hrF x.fst (sayF x.fst v.snd.fst (0:Int) c0_2).fst (0:Int) (anBt x.fst (0:Int) (sayF x.fst v.snd.fst (0:Int) c0_2).fst.snd.fst.fst v_1.snd.fst (0:Int)) v.fst).snd.fst≤(9223372036854775807:Nat)→
  onceJ x.fst x.snd.fst ((0:Int),(0:Int),(hrF x.fst (sayF x.fst v.snd.fst (0:Int) c0_2).fst (0:Int) (anBt x.fst (0:Int) (sayF x.fst v.snd.fst (0:Int) c0_2).fst.snd.fst.fst v_1.snd.fst (0:Int)) v.fst).snd.fst,(hrF x.fst (sayF x.fst v.snd.fst (0:Int) c0_2).fst (0:Int) (anBt x.fst (0:Int) (sayF x.fst v.snd.fst (0:Int) c0_2).fst.snd.fst.fst v_1.snd.fst (0:Int)) v.fst).snd.fst,(↑(List.length (hrF x.fst (sayF x.fst v.snd.fst (0:Int) c0_2).fst (0:Int) (anBt x.fst (0:Int) (sayF x.fst v.snd.fst (0:Int) c0_2).fst.snd.fst.fst v_1.snd.fst (0:Int)) v.fst).snd.fst):Int),v_1.snd.fst,(hrF x.fst (sayF x.fst v.snd.fst (0:Int) c0_2).fst (0:Int) (anBt x.fst (0:Int) (sayF x.fst v.snd.fst (0:Int) c0_2).fst.snd.fst.fst v_1.snd.fst (0:Int)) v.fst).fst,(hrF x.fst (sayF x.fst v.snd.fst (0:Int) c0_2).fst (0:Int) (anBt x.fst (0:Int) (sayF x.fst v.snd.fst (0:Int) c0_2).fst.snd.fst.fst v_1.snd.fst (0:Int)) v.fst).snd.snd.fst,decide ((0:Int) < stCmp v_1.snd.fst v.snd.snd.fst),(sayF x.fst v.snd.fst (0:Int) c0_2).fst,v.snd.snd)∧OnceRest x v.fst) else (List.length x.fst.fst≤(1000000000:Nat)∧okSt v_1.snd.fst∧frChk ((0:Int),v.snd.fst.snd.fst.fst,v_1.snd.fst,(1:Int),(0:Int),anB,())=(0:Int))∧(List.length x.fst.fst≤(1048576:Nat)∧okCl v.snd.fst∧List.length (anBt x.fst (0:Int) v.snd.fst.snd.fst.fst v_1.snd.fst (0:Int))≤(1048576:Nat)∧∀ (x_1:Int),x_1∈anBt x.fst (0:Int) v.snd.fst.snd.fst.fst v_1.snd.fst (0:Int)→
  (0:Int)≤x_1∧x_1 < (256:Int))∧True∧(List.length (hrF x.fst v.snd.fst (0:Int) (anBt x.fst (0:Int) v.snd.fst.snd.fst.fst v_1.snd.fst (0:Int)) v.fst).snd.fst≤(9223372036854775807:Nat)→
  onceJ x.fst x.snd.fst ((0:Int),(0:Int),(hrF x.fst v.snd.fst (0:Int) (anBt x.fst (0:Int) v.snd.fst.snd.fst.fst v_1.snd.fst (0:Int)) v.fst).snd.fst,(hrF x.fst v.snd.fst (0:Int) (anBt x.fst (0:Int) v.snd.fst.snd.fst.fst v_1.snd.fst (0:Int)) v.fst).snd.fst,(↑(List.length (hrF x.fst v.snd.fst (0:Int) (anBt x.fst (0:Int) v.snd.fst.snd.fst.fst v_1.snd.fst (0:Int)) v.fst).snd.fst):Int),v_1.snd.fst,(hrF x.fst v.snd.fst (0:Int) (anBt x.fst (0:Int) v.snd.fst.snd.fst.fst v_1.snd.fst (0:Int)) v.fst).fst,(hrF x.fst v.snd.fst (0:Int) (anBt x.fst (0:Int) v.snd.fst.snd.fst.fst v_1.snd.fst (0:Int)) v.fst).snd.snd.fst,decide ((0:Int) < stCmp v_1.snd.fst v.snd.snd.fst),v.snd)∧OnceRest x v.fst) else (List.length x.fst.fst≤(1000000000:Nat)∧okSt v_1.snd.fst∧frChk ((0:Int),v.snd.fst.snd.fst.fst,v_1.snd.fst,(1:Int),(0:Int),anB,())=(0:Int))∧(List.length x.fst.fst≤(1048576:Nat)∧okCl v.snd.fst∧List.length (anBt x.fst (0:Int) v.snd.fst.snd.fst.fst v_1.snd.fst (0:Int))≤(1048576:Nat)∧∀ (x_1:Int),x_1∈anBt x.fst (0:Int) v.snd.fst.snd.fst.fst v_1.snd.fst (0:Int)→
  (0:Int)≤x_1∧x_1 < (256:Int))∧True∧(List.length (hrF x.fst v.snd.fst (0:Int) (anBt x.fst (0:Int) v.snd.fst.snd.fst.fst v_1.snd.fst (0:Int)) v.fst).snd.fst≤(9223372036854775807:Nat)→
  onceJ x.fst x.snd.fst ((0:Int),(0:Int),(hrF x.fst v.snd.fst (0:Int) (anBt x.fst (0:Int) v.snd.fst.snd.fst.fst v_1.snd.fst (0:Int)) v.fst).snd.fst,(hrF x.fst v.snd.fst (0:Int) (anBt x.fst (0:Int) v.snd.fst.snd.fst.fst v_1.snd.fst (0:Int)) v.fst).snd.fst,(↑(List.length (hrF x.fst v.snd.fst (0:Int) (anBt x.fst (0:Int) v.snd.fst.snd.fst.fst v_1.snd.fst (0:Int)) v.fst).snd.fst):Int),v_1.snd.fst,(hrF x.fst v.snd.fst (0:Int) (anBt x.fst (0:Int) v.snd.fst.snd.fst.fst v_1.snd.fst (0:Int)) v.fst).fst,(hrF x.fst v.snd.fst (0:Int) (anBt x.fst (0:Int) v.snd.fst.snd.fst.fst v_1.snd.fst (0:Int)) v.fst).snd.snd.fst,decide ((0:Int) < stCmp v_1.snd.fst v.snd.snd.fst),v.snd)∧OnceRest x v.fst) else (true,())=(true,())):=by kernel_rfl
theorem sc_once:SC Tryz.prog 5 S_once:=by
  refine SC.of Tryz.func5 (c:=bodyOf Tryz.f5) (by kernel_rfl) (by kernel_rfl) (fun x=>(by decide:(4:Nat)≤Tryz.f5.ntmps)) (DOk.cons sc_live en_live (DOk.cons sc_rchk en_rchk (DOk.cons sc_cnew en_cnew (DOk.cons sc_node en_node (DOk.cons sc_schk en_schk (DOk.cons sc_isS en_isS (DOk.cons sc_csay en_csay (DOk.cons sc_annc en_annc (DOk.cons sc_hear en_hear (DOk.cons sc_scmp en_scmp (DOk.cons sc_olen en_olen DOk.nil))))))))))) (Eq.mpr vc_once ?_)
  rintro ⟨c,who,st,tx,⟨⟩⟩ ⟨hl,hsq,hst,htx⟩ - hls hlt
  dsimp only at hl hsq hst htx hls hlt ⊢
  refine ⟨trivial,trivial,?_⟩
  by_cases hc:kchkF c=0
  rotate_left 1
  · rw [bneT hc,cond_true]
  rw [bneF hc,cond_false]
  intro _
  by_cases a1:(12:Int) < (st.length:Nat)
  · rw [decide_eq_true a1,cond_true]
  rw [decide_eq_false a1,cond_false]
  intro _
  by_cases a2:(12:Int) < (tx.length:Nat)
  · rw [decide_eq_true a2,cond_true]
  rw [decide_eq_false a2,cond_false]
  refine ⟨trivial,?_⟩
  by_cases a3:(cnwF c who).2.1=0
  rotate_left 1
  · rw [bneT a3,cond_true]
    exact ⟨trivial,by rw [decide_eq_true (once_err hc a3)]⟩
  rw [bneF a3,cond_false]
  intro _
  obtain ⟨hw,hN⟩:=once_new hc hsq a3
  refine ⟨⟨Int.le_refl 0,hw,hN⟩,?_⟩
  rintro ⟨i,z,best,⟨⟩⟩ ⟨h0,-,hI⟩
  dsimp only at h0 hI ⊢
  by_cases hi:i < (st.length:Nat)
  rotate_left 1
  · rw [decide_eq_false hi,cond_false]
  rw [decide_eq_true hi,cond_true]
  refine ⟨h0,hi,fun s hs=>?_⟩
  refine ⟨trivial,?_⟩
  by_cases a4:stChk s=0
  rotate_left 1
  · rw [bneT a4,cond_true]
  rw [bneF a4,cond_false]
  intro _
  by_cases a5:((s.2.2.1.length:Nat):Int)=c.2.1
  rotate_left 1
  · rw [bneT a5,cond_true]
  rw [bneF a5,cond_false]
  intro _
  refine ⟨⟨Int.le_refl 0,Int.natCast_nonneg _,rfl,rfl,hst s (List.mem_of_getElem? hs),a4,a5,rfl⟩,?_⟩
  rintro ⟨j,s,ch,n,⟨⟩⟩ ⟨j0,j1,j2,j3,j4,j5,j6,j7⟩
  dsimp only at j0 j1 j2 j3 j4 j5 j6 j7 ⊢
  subst j2 j3
  by_cases hj:j < (s.2.2.1.length:Nat)
  · have l8:=(okSt_S j5).2
    have wj:IntKind.i64.wrap (j+1)=j+1:=IntWalk.i64_in _ (by omega)
    rw [decide_eq_true hj,cond_true,wj]
    refine ⟨j0,hj,fun a ha=>⟨trivial,?_⟩⟩
    cases e:wit a 1 (serversF c)
    · rfl
    rw [Bool.not_true,cond_false]
    refine ⟨⟨by omega,by omega,rfl,rfl,j4,j5,j6,?_⟩,by omega⟩
    rw [show (j+1).toNat=j.toNat+1 by omega,take_snoc ha,List.all_append,j7]
    show (isSv c a&&true)=true
    rw [Bool.and_true]
    exact e
  rw [decide_eq_false hj,cond_false]
  rw [List.take_of_length_le (by omega)] at j7
  have hs:OnS c s:=⟨j5,j4,j6,j7⟩
  have go:=fun {z:Cli} (hI:onceI c who z best)=>once_go (x:=(c,who,st,tx,())) hc hl hw h0 hi hls hI hs
  intro _
  by_cases b1:i < (tx.length:Nat)
  rotate_left 1
  · rw [decide_eq_false b1,cond_false]
    exact go hI
  rw [decide_eq_true b1,cond_true]
  refine ⟨h0,b1,fun t ht=>?_⟩
  intro _
  by_cases b2:((t.length:Nat):Int)≤100
  rotate_left 1
  · rw [decide_eq_false b2,cond_false]
    exact go hI
  rw [decide_eq_true b2,cond_true]
  refine ⟨h0,b1,fun t2 ht2=>?_⟩
  obtain rfl:=Option.some.inj (ht.symm.trans ht2)
  exact ⟨⟨(okLq_w hI.2.2.2.1 (by decide)).1,by omega⟩,go (once_say hc hw hI (htx t (List.mem_of_getElem? ht)))⟩
end Go.Proofs.YtjkbkhjalimebaaGreatDoor

