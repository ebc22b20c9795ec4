import Derived.Test.YtjkbkhjalimebaaGreatDoorPAlike42
namespace Go.Proofs.YtjkbkhjalimebaaGreatDoor
open Go.RowKit DoorU
set_option linter.unusedVariables false
set_option linter.unusedSimpArgs false
set_option maxRecDepth 100000
set_option maxHeartbeats 1000000
theorem SC.re {P:Program} {f:FuncId} {sig fin:Sh} {pre pre':sig.V→Prop} {fn fn':sig.V→fin.V} (h:SC P f ⟨sig,fin,pre,fn⟩) (hp:∀ x,pre' x→pre x∧fn x=fn' x):SC P f ⟨sig,fin,pre',fn'⟩:=fun hn x hx=>by
  have h1:=h hn x (hp x hx).1
  have e:=(hp x hx).2
  dsimp only at h1 ⊢
  rw [e] at h1
  exact h1
namespace DoorU
def xL:Cli:=(0,(4,(0,0,[],()),[],()),(1,[],()),false,[],0,())
def sL:Sta:=(1,1,[1,2],())
def bL:List Int:=anBt plainC 0 4 sL 0
theorem hearL:∃ (P:Pos) (ab pb:List Int) (sq:Int),hrF plainC xL 0 bL 1=((0,P,(1,[],()),true,[],sq,()),[(0,ab,false,()),(1,pb,true,())],0,()):=by
  obtain ⟨n0,b,ab,pb,want,sq,r,h1,h2,h3,h4,h5,h6,h7,h8⟩:=hear_new (c:=plainC) (x:=xL) (s:=sL) (by decide) 1 (by decide) (by decide) (by decide) (by unfold okSt okW;decide) (by decide) (by decide) (by decide)
  have e:(1:Int)=n0:=(List.cons.inj h1).1
  subst e
  obtain rfl:=h6 rfl
  exact ⟨_,_,_,_,h8⟩
noncomputable def lvP:Pos:=hearL.choose
noncomputable def lvA:List Int:=hearL.choose_spec.choose
noncomputable def lvB:List Int:=hearL.choose_spec.choose_spec.choose
noncomputable def lvS:Int:=hearL.choose_spec.choose_spec.choose_spec.choose
theorem hearL_eq:hrF plainC xL 0 bL 1=((0,lvP,(1,[],()),true,[],lvS,()),[(0,lvA,false,()),(1,lvB,true,())],0,()):=hearL.choose_spec.choose_spec.choose_spec.choose_spec
end DoorU
def S_cnewL:Spec:=⟨.pair aC (.pair nI .unit),.pair (.tup (.pair vCl (.pair nI .unit))) .unit,fun (x:Cfg×Int×Unit)=>x=(plainC,0,()),fun (x:Cfg×Int×Unit)=>(((((0,(4,(0,0,[],()),[],()),(1,[],()),false,[],0,()),0,()),()):(Cli×Int×Unit)×Unit))⟩
theorem sc_cnewL:SC Tryz.prog 17 S_cnewL:=SC.re sc_cnew fun x hx=>⟨trivial,by
  have h:@Eq (Cfg×Int×Unit) x (plainC,0,()):=hx
  subst h
  rfl⟩
theorem en_cnewL (us:Array Value) (u:World):(callFunc 17 us).run Tryz.prog u=.ok (.enter 17 us) u:=by kernel_rfl
def S_firstL:Spec:=⟨.pair aC .unit,.pair vSt .unit,fun (x:Cfg×Unit)=>x=(plainC,()),fun (x:Cfg×Unit)=>((sL,()):Sta×Unit)⟩
theorem sc_firstL:SC Tryz.prog 26 S_firstL:=SC.re sc_first fun x hx=>⟨trivial,by
  have h:@Eq (Cfg×Unit) x (plainC,()):=hx
  subst h
  rfl⟩
theorem en_firstL (us:Array Value) (u:World):(callFunc 26 us).run Tryz.prog u=.ok (.enter 26 us) u:=by kernel_rfl
def S_anncL:Spec:=⟨.pair aC (.pair aCl (.pair aSt .unit)),.pair vY .unit,fun (x:Cfg×Cli×Sta×Unit)=>x=(plainC,xL,sL,()),fun (x:Cfg×Cli×Sta×Unit)=>((bL,()):List Int×Unit)⟩
theorem sc_anncL:SC Tryz.prog 22 S_anncL:=SC.re sc_annc fun x hx=>by
  have h:@Eq (Cfg×Cli×Sta×Unit) x (plainC,xL,sL,()):=hx
  subst h
  exact ⟨⟨by decide,by unfold okSt okW;decide,by decide⟩,rfl⟩
theorem en_anncL (us:Array Value) (u:World):(callFunc 22 us).run Tryz.prog u=.ok (.enter 22 us) u:=by kernel_rfl
noncomputable def S_hearL:Spec:=⟨.pair vCf (.pair vCl (.pair nI (.pair vY (.pair nI .unit)))),.pair (.tup (.pair vCl (.pair vPas (.pair nI .unit)))) .unit,fun (x:Cfg×Cli×Int×List Int×Int×Unit)=>x=(plainC,xL,0,bL,1,()),fun (x:Cfg×Cli×Int×List Int×Int×Unit)=>((((0,lvP,(1,[],()),true,[],lvS,()),[(0,lvA,false,()),(1,lvB,true,())],0,()),()):(Cli×List Par×Int×Unit)×Unit)⟩
theorem okCl_L:okCl xL:=by
  refine ⟨⟨Nat.zero_le _,Nat.zero_le _,fun q h=>(List.not_mem_nil h).elim⟩,?_,fun q h=>(List.not_mem_nil h).elim,⟨⟨Nat.zero_le _,fun q h=>(List.not_mem_nil h).elim⟩,fun q h=>(List.not_mem_nil h).elim⟩,fun q h=>(List.not_mem_nil h).elim⟩
  unfold okSt okW
  decide
theorem an_byt (c:Cfg) (n:Int) (s:Sta):byt (anBt c 0 n s 0):=by
  unfold anBt
  refine frPutF_byt _ ?_
  intro y hy
  have:y∈([1,0,0]:List Int):=hy
  simp only [List.mem_cons,List.not_mem_nil,or_false] at this
  omega
theorem an_len {c:Cfg} {n:Int} {s:Sta} (h:frChk (anFr n s)=0):(anBt c 0 n s 0).length=63+s.2.2.1.length:=by
  unfold anBt
  rw [show ((0,n,s,1,0,anB,()):Fra)=anFr n s from rfl,frPutF_len _ h]
  show 60+s.2.2.1.length+3=_
  omega
theorem sc_hearL:SC Tryz.prog 11 S_hearL:=SC.re sc_hear fun x hx=>by
  have h:@Eq (Cfg×Cli×Int×List Int×Int×Unit) x (plainC,xL,0,bL,1,()):=hx
  subst h
  refine ⟨⟨by decide,okCl_L,?_,(show byt bL from an_byt _ _ _)⟩,?_⟩
  · have e:bL.length=65:=an_len (by decide)
    show bL.length≤_
    omega
  · exact congrArg (fun z:Cli×List Par×Int×Unit=>(z,())) hearL_eq
theorem en_hearL (us:Array Value) (u:World):(callFunc 11 us).run Tryz.prog u=.ok (.enter 11 us) u:=by kernel_rfl
def S_live:Spec:=⟨.unit,.pair .bool .unit,fun _=>True,fun (x:Unit)=>((true,()):Bool×Unit)⟩
theorem vc_live:VC Tryz.prog Tryz.f6 (bodyOf Tryz.f6) S_live [(25,S_plain),(17,S_cnewL),(26,S_firstL),(22,S_anncL),(11,S_hearL)] (fun _ _=>none)=(∀ (x:Unit),True→
  True∧(([],(2:Int),(1:Int),(2:Int),(3:Int),(4:Int),(20:Int),(5:Int),(4:Int),(1:Int),(1:Int),()),(0:Int),())=(plainC,(0:Int),())∧True∧True∧True∧(([],(2:Int),(1:Int),(2:Int),(3:Int),(4:Int),(20:Int),(5:Int),(4:Int),(1:Int),(1:Int),()),())=(plainC,())∧(([],(2:Int),(1:Int),(2:Int),(3:Int),(4:Int),(20:Int),(5:Int),(4:Int),(1:Int),(1:Int),()),((0:Int),((4:Int),((0:Int),(0:Int),[],()),[],()),((1:Int),[],()),false,[],(0:Int),()),((1:Int),(1:Int),[(1:Int),(2:Int)],()),())=(plainC,xL,sL,())∧(([],(2:Int),(1:Int),(2:Int),(3:Int),(4:Int),(20:Int),(5:Int),(4:Int),(1:Int),(1:Int),()),((0:Int),((4:Int),((0:Int),(0:Int),[],()),[],()),((1:Int),[],()),false,[],(0:Int),()),(0:Int),bL,(1:Int),())=(plainC,xL,(0:Int),bL,(1:Int),())∧bif (0:Int)==(0:Int) then bif (4:Int)==(4:Int) then bif (0:Int)==(0:Int) then List.length [((0:Int),lvA,false,()),((1:Int),lvB,true,())]≤(9223372036854775807:Nat)→
  bif (↑(List.length [((0:Int),lvA,false,()),((1:Int),lvB,true,())]):Int)==(2:Int) then (0:Int)≤(0:Int)∧(0:Int) < (↑(List.length [((0:Int),lvA,false,()),((1:Int),lvB,true,())]):Int)∧∀ (c0:Int×List Int×Bool×Unit),[((0:Int),lvA,false,()),((1:Int),lvB,true,())][(0:Nat)]?=some c0→
  bif c0.fst==(0:Int) then (0:Int)≤(1:Int)∧(1:Int) < (↑(List.length [((0:Int),lvA,false,()),((1:Int),lvB,true,())]):Int)∧∀ (c0:Int×List Int×Bool×Unit),[((0:Int),lvA,false,()),((1:Int),lvB,true,())][(1:Nat)]?=some c0→
  bif c0.fst==(1:Int) then (0:Int)≤(1:Int)∧(1:Int) < (↑(List.length [((0:Int),lvA,false,()),((1:Int),lvB,true,())]):Int)∧∀ (c0:Int×List Int×Bool×Unit),[((0:Int),lvA,false,()),((1:Int),lvB,true,())][(1:Nat)]?=some c0→
  bif c0.snd.snd.fst then List.length ([]:List Int)≤(9223372036854775807:Nat)→
  ((↑(List.length ([]:List Int)):Int)==(0:Int),())=(true,()) else (false,())=(true,()) else (false,())=(true,()) else (false,())=(true,()) else (false,())=(true,()) else (false,())=(true,()) else (false,())=(true,()) else (false,())=(true,())):=by kernel_rfl
theorem en_live (us:Array Value) (u:World):(callFunc 6 us).run Tryz.prog u=.ok (.enter 6 us) u:=by kernel_rfl
theorem sc_live:SC Tryz.prog 6 S_live:=by
  refine SC.of Tryz.func6 (c:=bodyOf Tryz.f6) (by kernel_rfl) (by kernel_rfl) (fun x=>(by decide:(0:Nat)≤Tryz.f6.ntmps)) (DOk.cons sc_plain en_plain (DOk.cons sc_cnewL en_cnewL (DOk.cons sc_firstL en_firstL (DOk.cons sc_anncL en_anncL (DOk.cons sc_hearL en_hearL DOk.nil))))) (Eq.mpr vc_live ?_)
  rintro ⟨⟩ -
  refine ⟨trivial,rfl,trivial,trivial,trivial,rfl,rfl,rfl,?_⟩
  rw [show ((0:Int)==0)=true from rfl,cond_true,show ((4:Int)==4)=true from rfl,cond_true,cond_true]
  intro _
  rw [show (((List.length [((0:Int),lvA,false,()),((1:Int),lvB,true,())]:Nat):Int)==2)=true from rfl,cond_true]
  refine ⟨by decide,by decide,fun c0 h0=>?_⟩
  obtain rfl:=Option.some.inj h0
  dsimp only
  rw [show ((0:Int)==0)=true from rfl,cond_true]
  refine ⟨by decide,by decide,fun c0 h0=>?_⟩
  obtain rfl:=Option.some.inj h0
  dsimp only
  rw [show ((1:Int)==1)=true from rfl,cond_true]
  refine ⟨by decide,by decide,fun c0 h0=>?_⟩
  obtain rfl:=Option.some.inj h0
  dsimp only
  rw [cond_true]
  intro _
  rfl
end Go.Proofs.YtjkbkhjalimebaaGreatDoor
namespace Go.Proofs.YtjkbkhjalimebaaGreatDoor
open Go.RowKit DoorU
set_option linter.unusedVariables false
set_option linter.unusedSimpArgs false
set_option maxRecDepth 100000
namespace DoorU
def pv (l:List Par):List (Int×Bool×Nat):=l.map fun p=>(p.1,p.2.2.1,p.2.1.length)
theorem frChk_like {a b:Int} {s:Sta} {k q:Int} {x y:List Int} (h:x.length=y.length):frChk (a,b,s,k,q,x,())=frChk (a,b,s,k,q,y,()):=by
  unfold frChk
  dsimp only
  rw [h]
theorem par_like {c:Cfg} {a b:Int} {s:Sta} {k q:Int} {x y:List Int} {t:Bool} (h:x.length=y.length):pv (parF c (a,b,s,k,q,x,()) t)=pv (parF c (a,b,s,k,q,y,()) t):=by
  have e:=frChk_like (a:=a) (b:=b) (s:=s) (k:=k) (q:=q) h
  unfold parF
  rw [e]
  split
  · rename_i e2
    have n1:=frPutF_len (pairF c a b) (f:=(a,b,s,k,q,x,())) (e.trans e2)
    have n2:=frPutF_len (pairF c a b) (f:=(a,b,s,k,q,y,())) e2
    dsimp only at n1 n2
    show [(_,_,_)]=[(_,_,_)]
    dsimp only
    rw [n1,n2,h]
  · rfl
theorem ps_like {c:Cfg} {p:Pos} {tn:Int} {x y:List Int} {now:Int} (h:x.length=y.length):(psF c p tn x now).2.2.1=(psF c p tn y now).2.2.1∧pv (psF c p tn x now).2.1=pv (psF c p tn y now).2.1:=by
  unfold psF
  rw [h]
  split
  · exact ⟨rfl,rfl⟩
  split
  · exact ⟨rfl,rfl⟩
  refine ⟨rfl,?_⟩
  have e:∀ z:List Int,iparF c (sndP c p tn z now) tn (sndQ c p tn z now).2.1 true=if winC c≤((linkE p tn).2.1.2.1.length:Nat) then [] else parF c (p.1,tn,p.2.1,1,(linkE p tn).2.1.1,z,()) true:=fun z=>by
    unfold sndQ sendF
    split
    · rfl
    · show iparF c (sndP c p tn z now) tn [itm (linkE p tn).2.1.1 z now] true=_
      unfold iparF
      rw [List.flatMap_cons,List.flatMap_nil,List.append_nil]
      rfl
  dsimp only
  rw [e,e]
  split
  · rfl
  · exact par_like h
structure Lk (h k:Hea):Prop where
  cfg:h.2.1=k.2.1
  fr:h.2.2.1=k.2.2.1
  now:h.2.2.2.1=k.2.2.2.1
  who:h.1.1=k.1.1
  dn:heD h=heD k
  st:heS h=heS k
  po:heD h=false→heP h=heP k
  pa:pv h.2.2.2.2.1=pv k.2.2.2.2.1
theorem rec_f {h:Hea} {p:List Int} (e:¬ ∃ r,(heS h).2.2.1=h.2.2.1::r):recF h p=h:=by
  unfold recF
  split
  · rfl
  rename_i a
  have a:=(Bool.not_eq_false _).mp a
  unfold rcY at a
  rw [Bool.and_eq_true,Bool.and_eq_true] at a
  obtain ⟨b1,b2,_⟩:=a
  obtain ⟨r,e1⟩:=fir_cons b1
  exact (e ⟨r,by rw [e1,eq_of_beq b2]⟩).elim
theorem fir_like {h k:Hea} (e:heS h=heS k):firF h=firF k:=by unfold firF;rw [e]
theorem anO_0 {h:Hea} (e:onE h.2.1 h.1 (heS h)=0) (hq:lcF (hdL (heQ h))=0):(anO h).2.2.1=0∧(anN h).2.1=0∧(anN h).1.length=5+(78+48*(heS h).2.2.1.length):=by
  have hs:stChk (heS h)=0:=by
    unfold onE at e
    split at e
    · cases e
    · rename_i a
      exact Decidable.not_not.1 fun hh=>a (.inr (.inl hh))
  obtain ⟨_,l8⟩:=okSt_S hs
  have e1:anO h=(onB h.2.1 h.1 (heS h),onW h.2.1 h.1 (heS h),0,()):=by
    show oniF h.2.1 h.1 (heS h)=_
    unfold oniF
    rw [if_neg (by rw [e];decide)]
  have ol:(onB h.2.1 h.1 (heS h)).length=78+48*(heS h).2.2.1.length:=onB_len hq
  obtain ⟨s1,s2⟩:=sub_eq (o:=onB h.2.1 h.1 (heS h)) (by omega)
  have e2:anN h=(subL (onB h.2.1 h.1 (heS h)),0,()):=by
    unfold anN
    rw [e1]
    exact s1
  rw [e2,e1]
  exact ⟨rfl,rfl,by show (subL _).length=_;rw [s2,ol]⟩
theorem ann_e {g:Hea} (e:onE g.2.1 g.1 (heS g)≠0):annF g=g:=by
  have e2:(anO g).2.2.1≠0:=by
    show (oniF g.2.1 g.1 (heS g)).2.2.1≠0
    unfold oniF
    rw [if_pos e]
    exact e
  by_cases a:anY g=false
  · exact ann_n a
  · rw [annF,if_neg a,if_pos e2]
theorem ann_s {g:Hea} (g2:(anO g).2.2.1=0) (g3:(anN g).2.1=0) (g4:(anS g).2.2.1≠0):annF g=g:=by
  by_cases a:anY g=false
  · exact ann_n a
  · rw [annF,if_neg a,if_neg (fun h=>h g2),if_neg (fun h=>h g3),if_pos g4]
theorem ann_go {g:Hea} (g1:¬ anY g=false) (g2:(anO g).2.2.1=0) (g3:(anN g).2.1=0) (g4:(anS g).2.2.1=0):annF g=((g.1.1,(anS g).1,heQ g,true,(anO g).2.1,(qhF (heQ g)).1.2.2.2.1,()),g.2.1,g.2.2.1,g.2.2.2.1,g.2.2.2.2.1++(anS g).2.1,()):=by
  rw [annF,if_neg g1,if_neg (fun h=>h g2),if_neg (fun h=>h g3),if_neg (fun h=>h g4)]
theorem pv_app (l m:List Par):pv (l++m)=pv l++pv m:=by unfold pv;rw [List.map_append]
theorem Lk_go {h k:Hea} (L:Lk h k) {P Q:Pos} {q1 q2:Que} {w1 w2:List Int} {s1 s2:Int} {l m:List Par} (hs:P.2.1=Q.2.1) (hp:pv l=pv m):
    Lk ((h.1.1,P,q1,true,w1,s1,()),h.2.1,h.2.2.1,h.2.2.2.1,h.2.2.2.2.1++l,()) ((k.1.1,Q,q2,true,w2,s2,()),k.2.1,k.2.2.1,k.2.2.2.1,k.2.2.2.2.1++m,()):=by
  obtain ⟨c1,c2,c3,c4,c5,c6,c7,c8⟩:=L
  refine ⟨c1,c2,c3,c4,rfl,hs,(fun e=>by cases e),?_⟩
  show pv (h.2.2.2.2.1++l)=pv (k.2.2.2.2.1++m)
  rw [pv_app,pv_app,c8,hp]
theorem anY_d {h:Hea} (a1:¬ anY h=false):heD h=false:=by
  unfold anY at a1
  cases e:heD h
  · rfl
  · rw [e,Bool.not_true,Bool.and_false,Bool.and_false] at a1
    exact absurd rfl a1
theorem anY_like {h k:Hea} (L:Lk h k):anY k=anY h:=by unfold anY;rw [fir_like L.st,L.fr,L.dn]
theorem onE_like {h k:Hea} (L:Lk h k) (q1:lcF (hdL (heQ h))=0) (q2:lcF (hdL (heQ k))=0):onE k.2.1 k.1 (heS k)=onE h.2.1 h.1 (heS h):=by
  unfold onE
  rw [L.cfg,L.st,L.who,show lcF (hdL k.1.2.2.1)=0 from q2,show lcF (hdL h.1.2.2.1)=0 from q1]
theorem anS_st {h:Hea} (e:(anS h).2.2.1=0):(anS h).1.2.1=(heP h).2.1:=by
  unfold anS at e ⊢
  exact ann_sta e
theorem anS_like {h k:Hea} (L:Lk h k) (hd:heD h=false) (ln:(anN h).1.length=(anN k).1.length):(anS h).2.2.1=(anS k).2.2.1∧pv (anS h).2.1=pv (anS k).2.1:=by
  have e:=ps_like (c:=k.2.1) (p:=heP k) (tn:=(firF k).1) (now:=k.2.2.2.1) ln
  have eS:anS h=psF k.2.1 (heP k) (firF k).1 (anN h).1 k.2.2.2.1:=by unfold anS;rw [L.cfg,L.po hd,fir_like L.st,L.now]
  have eK:anS k=psF k.2.1 (heP k) (firF k).1 (anN k).1 k.2.2.2.1:=by unfold anS;rfl
  rw [eS,eK]
  exact e
theorem ann_like {h k:Hea} (L:Lk h k) (q1:lcF (hdL (heQ h))=0) (q2:lcF (hdL (heQ k))=0):Lk (annF h) (annF k):=by
  have eY:=anY_like L
  by_cases a1:anY h=false
  · rw [ann_n a1,ann_n (eY.trans a1)]
    exact L
  have hd:=anY_d a1
  have eE:=onE_like L q1 q2
  by_cases a2:onE h.2.1 h.1 (heS h)=0
  rotate_left 1
  · rw [ann_e a2,ann_e (g:=k) (by rw [eE];exact a2)]
    exact L
  obtain ⟨h1,h2,h3⟩:=anO_0 a2 q1
  obtain ⟨k1,k2,k3⟩:=anO_0 (eE.trans a2) q2
  have ln:(anN h).1.length=(anN k).1.length:=by rw [h3,k3,L.st]
  obtain ⟨p1,p2⟩:=anS_like L hd ln
  by_cases a3:(anS k).2.2.1=0
  · have a4:=p1.trans a3
    rw [ann_go a1 h1 h2 a4,ann_go (g:=k) (by rw [eY];exact a1) k1 k2 a3]
    exact Lk_go L (by rw [anS_st a4,anS_st a3,L.po hd]) p2
  · rw [ann_s h1 h2 (by rw [p1];exact a3),ann_s k1 k2 a3]
    exact L
theorem hrS_f {S0:Sta} {fr:Int} {r:List Int} (hS:S0.2.2.1=fr::r) {h:Hea} (h1:heS h=S0) (h2:h.2.2.1=fr) (b:List Int):heS (hrS h b)=S0∧(hrS h b).2=h.2:=by
  unfold hrS
  split
  · exact ⟨h1,rfl⟩
  split
  · rw [ann_f0 (r:=r) (by rw [h1,h2];exact hS)]
    exact ⟨h1,rfl⟩
  split
  · unfold recF
    split
    · exact ⟨h1,rfl⟩
    · exact ⟨h1,rfl⟩
  · exact ⟨h1,rfl⟩
theorem hrGo_f {S0:Sta} {fr:Int} {r:List Int} (hS:S0.2.2.1=fr::r):∀ (l:List (List Int)) {h:Hea},heS h=S0→h.2.2.1=fr→(hrGo l h).2=h.2
  | [],_,_,_=>rfl
  | b :: l, h, h1, h2 => by
    obtain ⟨e1,e2⟩:=hrS_f hS h1 h2 b
    show (hrGo l (hrS h b)).2=_
    rw [hrGo_f hS l e1 (by rw [e2];exact h2),e2]
theorem hrS_like {h k:Hea} (L:Lk h k) (hf:¬ ∃ r,(heS h).2.2.1=h.2.2.1::r) (q1:lcF (hdL (heQ h))=0) (q2:lcF (hdL (heQ k))=0) (b:List Int):
    Lk (hrS h b) (hrS k b)∧(¬ ∃ r,(heS (hrS h b)).2.2.1=(hrS h b).2.2.1::r)∧lcF (hdL (heQ (hrS h b)))=0∧lcF (hdL (heQ (hrS k b)))=0:=by
  unfold hrS
  split
  · exact ⟨L,hf,q1,q2⟩
  split
  · obtain ⟨h1,h2,h3,_⟩:=ann_q (h:=h)
    obtain ⟨k1,_⟩:=ann_q (h:=k)
    refine ⟨ann_like L q1 q2,?_,by rw [h1];exact q1,by rw [k1];exact q2⟩
    rw [h2,h3]
    exact hf
  split
  · rw [rec_f hf,rec_f (by rw [← L.st,← L.fr];exact hf)]
    exact ⟨L,hf,q1,q2⟩
  · exact ⟨L,hf,q1,q2⟩
theorem hrGo_like:∀ (l:List (List Int)) {h k:Hea},Lk h k→(¬ ∃ r,(heS h).2.2.1=h.2.2.1::r)→lcF (hdL (heQ h))=0→lcF (hdL (heQ k))=0→Lk (hrGo l h) (hrGo l k)
  | [],_,_,L,_,_,_=>L
  | b :: l, _, _, L, hf, q1, q2 => by
    obtain ⟨a,b,c,d⟩:=hrS_like L hf q1 q2 b
    exact hrGo_like l a b c d
theorem hear_like {c:Cfg} {x:Cli} {q:Que} {fr:Int} {b:List Int} {now:Int} (q1:lcF (hdL x.2.2.1)=0) (q2:lcF (hdL q)=0):
    (hrF c x fr b now).2.2.1=(hrF c (x.1,x.2.1,q,x.2.2.2) fr b now).2.2.1∧pv (hrF c x fr b now).2.1=pv (hrF c (x.1,x.2.1,q,x.2.2.2) fr b now).2.1:=by
  have e:hrP c (x.1,x.2.1,q,x.2.2.2) fr b now=hrP c x fr b now:=rfl
  unfold hrF
  rw [e]
  split
  · exact ⟨rfl,rfl⟩
  refine ⟨rfl,?_⟩
  show pv (hrH c x fr b now).2.2.2.2.1=pv (hrH c (x.1,x.2.1,q,x.2.2.2) fr b now).2.2.2.2.1
  unfold hrH
  rw [e]
  generalize hrP c x fr b now=P
  have eN:hrN (x.1,x.2.1,q,x.2.2.2) P.1=hrN x P.1:=rfl
  have c0:∀ y:Cli,(hr0 c y fr now P.1 P.2.2.1).2=(c,fr,now,P.2.2.1,())∧heS (hr0 c y fr now P.1 P.2.2.1)=P.1.2.1∧heP (hr0 c y fr now P.1 P.2.2.1)=P.1∧heQ (hr0 c y fr now P.1 P.2.2.1)=y.2.2.1∧(hr0 c y fr now P.1 P.2.2.1).1.1=y.1∧heD (hr0 c y fr now P.1 P.2.2.1)=bif hrN y P.1 then false else y.2.2.2.1:=fun y=>by
    unfold hr0
    cases hrN y P.1
    · exact ⟨rfl,rfl,rfl,rfl,rfl,rfl⟩
    · exact ⟨rfl,rfl,rfl,rfl,rfl,rfl⟩
  obtain ⟨x1,x2,x3,x4,x5,x6⟩:=c0 x
  obtain ⟨y1,y2,y3,y4,y5,y6⟩:=c0 (x.1,x.2.1,q,x.2.2.2)
  by_cases hf:∃ r,P.1.2.1.2.2.1=fr::r
  · obtain ⟨r,hf⟩:=hf
    rw [hrGo_f hf P.2.1 x2 (by rw [x1]),hrGo_f hf P.2.1 y2 (by rw [y1]),x1,y1]
  · refine (hrGo_like P.2.1 ⟨?_,?_,?_,?_,?_,?_,?_,?_⟩ ?_ ?_ ?_).pa
    · rw [x1,y1]
    · rw [x1,y1]
    · rw [x1,y1]
    · rw [x5,y5]
    · rw [x6,y6,eN]
    · rw [x2,y2]
    · intro _
      rw [x3,y3]
    · rw [x1,y1]
    · rw [x2,x1]
      exact hf
    · rw [x4]
      exact q1
    · rw [y4]
      exact q2
theorem pv_at {l m:List Par} (h:pv l=pv m):l.length=m.length∧∀ {i:Nat} {a b:Par},l[i]?=some a→m[i]?=some b→a.1=b.1∧a.2.2.1=b.2.2.1∧a.2.1.length=b.2.1.length:=by
  refine ⟨?_,?_⟩
  · have:=congrArg List.length h
    unfold pv at this
    rwa [List.length_map,List.length_map] at this
  · intro i a b ha hb
    have e:=congrArg (fun z=>z[i]?) h
    unfold pv at e
    rw [List.getElem?_map,List.getElem?_map,ha,hb] at e
    have e:=Option.some.inj e
    exact ⟨congrArg (·.1) e,congrArg (·.2.1) e,congrArg (·.2.2) e⟩
end DoorU
end Go.Proofs.YtjkbkhjalimebaaGreatDoor
namespace Go.Proofs.YtjkbkhjalimebaaGreatDoor
open Go.RowKit DoorU
set_option linter.unusedVariables false
set_option linter.unusedSimpArgs false
set_option maxRecDepth 100000
set_option maxHeartbeats 1000000
def S_alike:Spec:=⟨.pair vCf (.pair vCl (.pair vQu (.pair nI (.pair vY (.pair nI .unit))))),.pair .bool .unit,fun (x:Cfg×Cli×Que×Int×List Int×Int×Unit)=>x.1.1.length≤1048576∧okCl x.2.1∧okQw x.2.2.1∧x.2.2.2.2.1.length≤1048576∧byt x.2.2.2.2.1,fun _=>((true,()):Bool×Unit)⟩
def A_alike (x:Cfg×Cli×Que×Int×List Int×Int×Unit):Nat→Option LA
  | 0=>some ⟨[46],[],.pair nI .unit,fun (v:Int×Unit)=>0≤v.1∧v.1≤2∧(1≤v.1→lcF (hdL x.2.1.2.2.1)=0)∧(2≤v.1→lcF (hdL x.2.2.1)=0),fun (v:Int×Unit)=>(2 - v.1).toNat⟩
  | 1=>some ⟨[101],[],.pair nI .unit,fun (v:Int×Unit)=>0≤v.1,fun (v:Int×Unit)=>((hrF x.1 x.2.1 x.2.2.2.1 x.2.2.2.2.1 x.2.2.2.2.2.1).2.1.length - v.1).toNat⟩
  | _=>none
theorem vc_alike:VC Tryz.prog Tryz.f3 (bodyOf Tryz.f3) S_alike [(6,S_live),(7,S_may),(8,S_fewq),(9,S_qhead),(10,S_lchk),(11,S_hear)] A_alike=(∀ (x:(List Int×Int×Int×Int×Int×Int×Int×Int×Int×Int×Int×Unit)×(Int×(Int×(Int×Int×List Int×Unit)×List (Int×(Int×List (Int×List Int×Int×Unit)×List (List Int)×Unit)×(Int×List (Int×List Int×Int×Unit)×Unit)×Unit)×Unit)×(Int×List (Bool×Int×Int×Int×List Int×Unit)×Unit)×Bool×List Int×Int×Unit)×(Int×List (Bool×Int×Int×Int×List Int×Unit)×Unit)×Int×List Int×Int×Unit),(List.length x.fst.fst≤(1048576:Nat)∧okCl x.snd.fst∧okQw x.snd.snd.fst∧List.length x.snd.snd.snd.snd.fst≤(1048576:Nat)∧∀ (x_1:Int),x_1∈x.snd.snd.snd.snd.fst→
  (0:Int)≤x_1∧x_1 < (256:Int))→
  List.length x.fst.fst≤(9223372036854775807:Nat)→
  List.length x.snd.fst.snd.fst.snd.fst.snd.snd.fst≤(9223372036854775807:Nat)→
  List.length x.snd.fst.snd.fst.snd.snd.fst≤(9223372036854775807:Nat)→
  List.length x.snd.fst.snd.snd.fst.snd.fst≤(9223372036854775807:Nat)→
  List.length x.snd.fst.snd.snd.snd.snd.fst≤(9223372036854775807:Nat)→
  List.length x.snd.snd.fst.snd.fst≤(9223372036854775807:Nat)→
  List.length x.snd.snd.snd.snd.fst≤(9223372036854775807:Nat)→
  True∧(okPo x.snd.fst.snd.fst∧List.length x.snd.fst.snd.snd.fst.snd.fst≤big)∧bif !mayC x.fst x.snd.fst then (true,())=(true,()) else List.length x.snd.snd.fst.snd.fst≤big∧bif !fewQ x.snd.snd.fst then (true,())=(true,()) else List.length x.snd.snd.snd.snd.fst≤(9223372036854775807:Nat)→
  bif decide ((1500:Int) < (↑(List.length x.snd.snd.snd.snd.fst):Int)) then (true,())=(true,()) else ((0:Int)≤(0:Int)∧(0:Int)≤(2:Int)∧((1:Int)≤(0:Int)→
  lcF (hdL x.snd.fst.snd.snd.fst)=(0:Int))∧((2:Int)≤(0:Int)→
  lcF (hdL x.snd.snd.fst)=(0:Int)))∧∀ (v:Int×Unit),(0:Int)≤v.fst∧v.fst≤(2:Int)∧((1:Int)≤v.fst→
  lcF (hdL x.snd.fst.snd.snd.fst)=(0:Int))∧((2:Int)≤v.fst→
  lcF (hdL x.snd.snd.fst)=(0:Int))→
  bif decide (v.fst < (↑(List.length [x.snd.fst.snd.snd.fst,x.snd.snd.fst]):Int)) then (0:Int)≤v.fst∧v.fst < (↑(List.length [x.snd.fst.snd.snd.fst,x.snd.snd.fst]):Int)∧Int.toNat v.fst < List.length [x.snd.fst.snd.snd.fst,x.snd.snd.fst]∧∀ (x_1:Int×List (Bool×Int×Int×Int×List Int×Unit)×Unit),[x.snd.fst.snd.snd.fst,x.snd.snd.fst][Int.toNat v.fst]?=some x_1→
  okQu x_1∧bif (qhF x_1).snd.fst then bif (qhF x_1).fst.fst then (true,())=(true,()) else True∧bif lcF (qhF x_1).fst != (0:Int) then (true,())=(true,()) else ((0:Int)≤IntKind.wrap IntKind.i64 (v.fst+(1:Int))∧IntKind.wrap IntKind.i64 (v.fst+(1:Int))≤(2:Int)∧((1:Int)≤IntKind.wrap IntKind.i64 (v.fst+(1:Int))→
  lcF (hdL x.snd.fst.snd.snd.fst)=(0:Int))∧((2:Int)≤IntKind.wrap IntKind.i64 (v.fst+(1:Int))→
  lcF (hdL x.snd.snd.fst)=(0:Int)))∧Int.toNat ((2:Int) - IntKind.wrap IntKind.i64 (v.fst+(1:Int))) < Int.toNat ((2:Int) - v.fst) else ((0:Int)≤IntKind.wrap IntKind.i64 (v.fst+(1:Int))∧IntKind.wrap IntKind.i64 (v.fst+(1:Int))≤(2:Int)∧((1:Int)≤IntKind.wrap IntKind.i64 (v.fst+(1:Int))→
  lcF (hdL x.snd.fst.snd.snd.fst)=(0:Int))∧((2:Int)≤IntKind.wrap IntKind.i64 (v.fst+(1:Int))→
  lcF (hdL x.snd.snd.fst)=(0:Int)))∧Int.toNat ((2:Int) - IntKind.wrap IntKind.i64 (v.fst+(1:Int))) < Int.toNat ((2:Int) - v.fst) else (List.length x.fst.fst≤(1048576:Nat)∧okCl x.snd.fst∧List.length x.snd.snd.snd.snd.fst≤(1048576:Nat)∧∀ (x_1:Int),x_1∈x.snd.snd.snd.snd.fst→
  (0:Int)≤x_1∧x_1 < (256:Int))∧(List.length x.fst.fst≤(1048576:Nat)∧okCl (x.snd.fst.fst,x.snd.fst.snd.fst,x.snd.snd.fst,x.snd.fst.snd.snd.snd)∧List.length x.snd.snd.snd.snd.fst≤(1048576:Nat)∧∀ (x_1:Int),x_1∈x.snd.snd.snd.snd.fst→
  (0:Int)≤x_1∧x_1 < (256:Int))∧bif (hrF x.fst x.snd.fst x.snd.snd.snd.fst x.snd.snd.snd.snd.fst x.snd.snd.snd.snd.snd.fst).snd.snd.fst != (hrF x.fst (x.snd.fst.fst,x.snd.fst.snd.fst,x.snd.snd.fst,x.snd.fst.snd.snd.snd) x.snd.snd.snd.fst x.snd.snd.snd.snd.fst x.snd.snd.snd.snd.snd.fst).snd.snd.fst then (false,())=(true,()) else List.length (hrF x.fst x.snd.fst x.snd.snd.snd.fst x.snd.snd.snd.snd.fst x.snd.snd.snd.snd.snd.fst).snd.fst≤(9223372036854775807:Nat)→
  List.length (hrF x.fst (x.snd.fst.fst,x.snd.fst.snd.fst,x.snd.snd.fst,x.snd.fst.snd.snd.snd) x.snd.snd.snd.fst x.snd.snd.snd.snd.fst x.snd.snd.snd.snd.snd.fst).snd.fst≤(9223372036854775807:Nat)→
  bif (↑(List.length (hrF x.fst x.snd.fst x.snd.snd.snd.fst x.snd.snd.snd.snd.fst x.snd.snd.snd.snd.snd.fst).snd.fst):Int) != (↑(List.length (hrF x.fst (x.snd.fst.fst,x.snd.fst.snd.fst,x.snd.snd.fst,x.snd.fst.snd.snd.snd) x.snd.snd.snd.fst x.snd.snd.snd.snd.fst x.snd.snd.snd.snd.snd.fst).snd.fst):Int) then (false,())=(true,()) else List.length (hrF x.fst x.snd.fst x.snd.snd.snd.fst x.snd.snd.snd.snd.fst x.snd.snd.snd.snd.snd.fst).snd.fst≤(9223372036854775807:Nat)→
  (0:Int)≤(0:Int)∧∀ (v_1:Int×Unit),(0:Int)≤v_1.fst→
  bif decide (v_1.fst < (↑(List.length (hrF x.fst x.snd.fst x.snd.snd.snd.fst x.snd.snd.snd.snd.fst x.snd.snd.snd.snd.snd.fst).snd.fst):Int)) then (0:Int)≤v_1.fst∧v_1.fst < (↑(List.length (hrF x.fst x.snd.fst x.snd.snd.snd.fst x.snd.snd.snd.snd.fst x.snd.snd.snd.snd.snd.fst).snd.fst):Int)∧∀ (c0:Int×List Int×Bool×Unit),(hrF x.fst x.snd.fst x.snd.snd.snd.fst x.snd.snd.snd.snd.fst x.snd.snd.snd.snd.snd.fst).snd.fst[Int.toNat v_1.fst]?=some c0→
  (0:Int)≤v_1.fst∧v_1.fst < (↑(List.length (hrF x.fst (x.snd.fst.fst,x.snd.fst.snd.fst,x.snd.snd.fst,x.snd.fst.snd.snd.snd) x.snd.snd.snd.fst x.snd.snd.snd.snd.fst x.snd.snd.snd.snd.snd.fst).snd.fst):Int)∧∀ (c0_1:Int×List Int×Bool×Unit),(hrF x.fst (x.snd.fst.fst,x.snd.fst.snd.fst,x.snd.snd.fst,x.snd.fst.snd.snd.snd) x.snd.snd.snd.fst x.snd.snd.snd.snd.fst x.snd.snd.snd.snd.snd.fst).snd.fst[Int.toNat v_1.fst]?=some c0_1→
  bif c0.fst != c0_1.fst then (false,())=(true,()) else (0:Int)≤v_1.fst∧v_1.fst < (↑(List.length (hrF x.fst x.snd.fst x.snd.snd.snd.fst x.snd.snd.snd.snd.fst x.snd.snd.snd.snd.snd.fst).snd.fst):Int)∧∀ (c0:Int×List Int×Bool×Unit),(hrF x.fst x.snd.fst x.snd.snd.snd.fst x.snd.snd.snd.snd.fst x.snd.snd.snd.snd.snd.fst).snd.fst[Int.toNat v_1.fst]?=some c0→
  (0:Int)≤v_1.fst∧v_1.fst < (↑(List.length (hrF x.fst (x.snd.fst.fst,x.snd.fst.snd.fst,x.snd.snd.fst,x.snd.fst.snd.snd.snd) x.snd.snd.snd.fst x.snd.snd.snd.snd.fst x.snd.snd.snd.snd.snd.fst).snd.fst):Int)∧∀ (c0_2:Int×List Int×Bool×Unit),(hrF x.fst (x.snd.fst.fst,x.snd.fst.snd.fst,x.snd.snd.fst,x.snd.fst.snd.snd.snd) x.snd.snd.snd.fst x.snd.snd.snd.snd.fst x.snd.snd.snd.snd.snd.fst).snd.fst[Int.toNat v_1.fst]?=some c0_2→
  bif c0.snd.snd.fst != c0_2.snd.snd.fst then (false,())=(true,()) else (0:Int)≤v_1.fst∧v_1.fst < (↑(List.length (hrF x.fst x.snd.fst x.snd.snd.snd.fst x.snd.snd.snd.snd.fst x.snd.snd.snd.snd.snd.fst).snd.fst):Int)∧∀ (c0:Int×List Int×Bool×Unit),(hrF x.fst x.snd.fst x.snd.snd.snd.fst x.snd.snd.snd.snd.fst x.snd.snd.snd.snd.snd.fst).snd.fst[Int.toNat v_1.fst]?=some c0→
  (0:Int)≤v_1.fst∧v_1.fst < (↑(List.length (hrF x.fst (x.snd.fst.fst,x.snd.fst.snd.fst,x.snd.snd.fst,x.snd.fst.snd.snd.snd) x.snd.snd.snd.fst x.snd.snd.snd.snd.fst x.snd.snd.snd.snd.snd.fst).snd.fst):Int)∧∀ (c0_3:Int×List Int×Bool×Unit),(hrF x.fst (x.snd.fst.fst,x.snd.fst.snd.fst,x.snd.snd.fst,x.snd.fst.snd.snd.snd) x.snd.snd.snd.fst x.snd.snd.snd.snd.fst x.snd.snd.snd.snd.snd.fst).snd.fst[Int.toNat v_1.fst]?=some c0_3→
  bif (↑(List.length c0.snd.fst):Int) != (↑(List.length c0_3.snd.fst):Int) then (false,())=(true,()) else (0:Int)≤IntKind.wrap IntKind.i64 (v_1.fst+(1:Int))∧Int.toNat ((↑(List.length (hrF x.fst x.snd.fst x.snd.snd.snd.fst x.snd.snd.snd.snd.fst x.snd.snd.snd.snd.snd.fst).snd.fst):Int) - IntKind.wrap IntKind.i64 (v_1.fst+(1:Int))) < Int.toNat ((↑(List.length (hrF x.fst x.snd.fst x.snd.snd.snd.fst x.snd.snd.snd.snd.fst x.snd.snd.snd.snd.snd.fst).snd.fst):Int) - v_1.fst) else (true,())=(true,())):=by kernel_rfl
theorem sc_alike:SC Tryz.prog 3 S_alike:=by
  refine SC.of Tryz.func3 (c:=bodyOf Tryz.f3) (by kernel_rfl) (by kernel_rfl) (fun x=>(by decide:(6:Nat)≤Tryz.f3.ntmps)) (DOk.cons sc_live en_live (DOk.cons sc_may en_may (DOk.cons sc_fewq en_fewq (DOk.cons sc_qhead en_qhead (DOk.cons sc_lchk en_lchk (DOk.cons sc_hear en_hear DOk.nil)))))) (Eq.mpr vc_alike ?_)
  rintro ⟨c,x,q,fr,b,now,⟨⟩⟩ ⟨hc,hx,hq,hb,hy⟩ - - - - - - -
  dsimp only at hc hx hq hb hy ⊢
  have okp:okPo x.2.1:=bdPo_ok hx.1 (by decide)
  refine ⟨trivial,⟨okp,Nat.le_trans hx.2.2.2.1.1.1 (by decide)⟩,?_⟩
  cases mayC c x
  · rfl
  rw [Bool.not_true,cond_false]
  refine ⟨Nat.le_trans hq.1.1 (by decide),?_⟩
  cases fewQ q
  · rfl
  rw [Bool.not_true,cond_false]
  intro _
  by_cases a1:(1500:Int) < (b.length:Nat)
  · rw [decide_eq_true a1,cond_true]
  rw [decide_eq_false a1,cond_false]
  refine ⟨⟨Int.le_refl 0,by decide,fun h=>absurd h (by decide),fun h=>absurd h (by decide)⟩,?_⟩
  rintro ⟨i,⟨⟩⟩ ⟨h0,h1,h2,h3⟩
  dsimp only at h0 h1 h2 h3 ⊢
  have hd:∀ z:Que,((qhF z).2.1=true→(qhF z).1.1=false∧lcF (qhF z).1=0)→lcF (hdL z)=0:=fun z h=>by
    cases e:(qhF z).2.1
    · rw [hd_nil e]
      rfl
    · rw [(hd_cons e).1]
      exact (h e).2
  have wi:i < 2→IntKind.i64.wrap (i+1)=i+1:=fun h=>IntWalk.i64_in _ (by omega)
  by_cases hi:i < 2
  · rw [show decide (i < ((List.length [x.2.2.1,q]:Nat):Int))=true from decide_eq_true hi,cond_true,wi hi]
    refine ⟨h0,hi,by show i.toNat < 2;omega,fun z hz=>?_⟩
    have hzz:(i=0∧z=x.2.2.1)∨(i=1∧z=q):=by
      by_cases e:i=0
      · subst e
        exact .inl ⟨rfl,(Option.some.inj hz).symm⟩
      · obtain rfl:i=1:=by omega
        exact .inr ⟨rfl,(Option.some.inj hz).symm⟩
    have okz:okQu z:=by
      rcases hzz with ⟨_,rfl⟩ | ⟨_,rfl⟩
      · exact hx.2.2.2.1.1
      · exact hq.1
    have go:lcF (hdL z)=0→(0≤i+1∧i+1≤2∧(1≤i+1→lcF (hdL x.2.2.1)=0)∧(2≤i+1→lcF (hdL q)=0))∧(2 - (i+1)).toNat < (2 - i).toNat:=fun hg=>by
      refine ⟨⟨by omega,by omega,fun h=>?_,fun h=>?_⟩,by omega⟩
      · rcases hzz with ⟨e,rfl⟩ | ⟨e,rfl⟩
        · exact hg
        · exact h2 (by omega)
      · rcases hzz with ⟨e,rfl⟩ | ⟨e,rfl⟩
        · omega
        · exact hg
    refine ⟨okz,?_⟩
    cases e1:(qhF z).2.1
    · rw [cond_false]
      exact go (hd z fun h=>by rw [e1] at h;cases h)
    rw [cond_true]
    cases e2:(qhF z).1.1
    rotate_left 1
    · rfl
    rw [cond_false]
    refine ⟨trivial,?_⟩
    by_cases e3:lcF (qhF z).1=0
    · rw [bneF e3,cond_false]
      exact go (hd z fun _=>⟨e2,e3⟩)
    · rw [bneT e3,cond_true]
  rw [show decide (i < ((List.length [x.2.2.1,q]:Nat):Int))=false from decide_eq_false hi,cond_false]
  have q1:=h2 (by omega)
  have q2:=h3 (by omega)
  refine ⟨⟨hc,hx,hb,hy⟩,⟨hc,⟨hx.1,hx.2.1,hx.2.2.1,hq,hx.2.2.2.2⟩,hb,hy⟩,?_⟩
  obtain ⟨e1,e2⟩:=hear_like (c:=c) (x:=x) (q:=q) (fr:=fr) (b:=b) (now:=now) q1 q2
  obtain ⟨e3,e4⟩:=pv_at e2
  rw [bneF e1,cond_false]
  intro hl _
  rw [bneF (congrArg (fun n:Nat=>(n:Int)) e3),cond_false]
  intro _
  refine ⟨Int.le_refl 0,?_⟩
  rintro ⟨j,⟨⟩⟩ j0
  dsimp only at j0 ⊢
  by_cases hj:j < ((hrF c x fr b now).2.1.length:Nat)
  · have wj:IntKind.i64.wrap (j+1)=j+1:=IntWalk.i64_in _ (by omega)
    rw [decide_eq_true hj,cond_true,wj]
    have hk:j < ((hrF c (x.1,x.2.1,q,x.2.2.2) fr b now).2.1.length:Nat):=by rw [← e3];exact hj
    refine ⟨j0,hj,fun a ha=>⟨j0,hk,fun d hd=>?_⟩⟩
    rw [bneF (e4 ha hd).1,cond_false]
    refine ⟨j0,hj,fun a ha=>⟨j0,hk,fun d hd=>?_⟩⟩
    rw [show (a.2.2.1 != d.2.2.1)=false by rw [(e4 ha hd).2.1];exact bne_self_eq_false _,cond_false]
    refine ⟨j0,hj,fun a ha=>⟨j0,hk,fun d hd=>?_⟩⟩
    rw [bneF (congrArg (fun n:Nat=>(n:Int)) (e4 ha hd).2.2),cond_false]
    exact ⟨by omega,by omega⟩
  · rw [decide_eq_false hj,cond_false]
end Go.Proofs.YtjkbkhjalimebaaGreatDoor

