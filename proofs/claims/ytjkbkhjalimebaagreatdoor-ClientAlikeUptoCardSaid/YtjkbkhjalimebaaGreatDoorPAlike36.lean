import Derived.Test.YtjkbkhjalimebaaGreatDoorPAlike35
import Derived.Test.YtjkbkhjalimebaaGreatDoorProg
import Derived.KernelRfl
import Derived.RangeFuncNested
import Derived.RangeFuncBound
import Derived.RangeFuncCalls
import Derived.RangeFuncLeaves
import Derived.Shelf.Abstract
import Derived.Shelf.RegionOpen
import Derived.WalkKit
import Derived.OwnWalkIn
import Derived.TacticsInMore
import Derived.LoopNIn
import Derived.LoopIn
namespace Go.Proofs.YtjkbkhjalimebaaGreatDoor
open Go.RowKit
set_option linter.unusedVariables false
set_option linter.unusedSimpArgs false
abbrev tI:Ty:=.int .i64
abbrev tW:Ty:=.int .u64
abbrev tU:Ty:=.int .u32
abbrev tY:Ty:=.int .u8
abbrev tYs:Ty:=.sl tY
abbrev tC:Ty:=.pair tYs (.pair tI (.pair tI (.pair tI (.pair tI (.pair tI (.pair tI (.pair tI (.pair tI (.pair tW (.pair tW .unit))))))))))
abbrev tSt:Ty:=.pair tW (.pair tW (.pair (.sl tI) .unit))
abbrev tFr:Ty:=.pair tI (.pair tI (.pair tSt (.pair tI (.pair tI (.pair tYs .unit)))))
abbrev tIt:Ty:=.pair tI (.pair tYs (.pair tI .unit))
abbrev tOut:Ty:=.pair tI (.pair (.sl tIt) (.pair (.sl tYs) .unit))
abbrev tIn:Ty:=.pair tI (.pair (.sl tIt) .unit)
abbrev tPe:Ty:=.pair tI (.pair tOut (.pair tIn .unit))
abbrev tPo:Ty:=.pair tI (.pair tSt (.pair (.sl tPe) .unit))
abbrev tPa:Ty:=.pair tI (.pair tYs (.pair .bool .unit))
abbrev Cfg:Type:=List Int×Int×Int×Int×Int×Int×Int×Int×Int×Int×Int×Unit
abbrev Sta:Type:=Int×Int×List Int×Unit
abbrev Fra:Type:=Int×Int×Sta×Int×Int×List Int×Unit
abbrev Itm:Type:=Int×List Int×Int×Unit
abbrev Ouq:Type:=Int×List Itm×List (List Int)×Unit
abbrev Inq:Type:=Int×List Itm×Unit
abbrev Pee:Type:=Int×Ouq×Inq×Unit
abbrev Pos:Type:=Int×Sta×List Pee×Unit
abbrev Par:Type:=Int×List Int×Bool×Unit
abbrev nI:Sh:=.int .i64
abbrev nW:Sh:=.int .u64
abbrev nU:Sh:=.int .u32
abbrev nY:Sh:=.int .u8
abbrev lY:Sh:=.view true tY
abbrev lI:Sh:=.view true tI
abbrev vY:Sh:=.view false tY
abbrev vI:Sh:=.view false tI
abbrev oY:Sh:=.own tY 5
abbrev oI:Sh:=.own tI 3
abbrev aC:Sh:=.agg (shOf true tC)
abbrev aSt:Sh:=.agg (shOf true tSt)
abbrev aFr:Sh:=.agg (shOf true tFr)
abbrev aIt:Sh:=.agg (shOf true tIt)
abbrev aOut:Sh:=.agg (shOf true tOut)
abbrev aIn:Sh:=.agg (shOf true tIn)
abbrev aPo:Sh:=.agg (shOf true tPo)
end Go.Proofs.YtjkbkhjalimebaaGreatDoor
namespace Go.Proofs.YtjkbkhjalimebaaGreatDoor
open Go.RowKit DoorU
set_option linter.unusedVariables false
set_option linter.unusedSimpArgs false
set_option maxRecDepth 100000
set_option maxHeartbeats 1000000
namespace DoorU
def rotl (x n:Int):Int:=orI .u32 (shlI .u32 x (andI .u64 (IntKind.u64.wrap n) 31)) (shrI .u32 x (IntKind.u64.wrap (32 - andI .u64 (IntKind.u64.wrap n) 31)))
def down (x n:Int):Int:=rotl x (IntKind.i64.wrap (0 - n))
def startL:List Int:=[1779033703,3144134277,1013904242,2773480762,1359893119,2600822924,528734635,1541459225]
def padN (n:Nat):Nat:=n+9+(64 - (n+9) % 64) % 64
def padA (l:List Int):Nat→List Int
  | 0=>(l++List.replicate (padN l.length - l.length) 0).set l.length 128
  | k+1=>(padA l k).set (padN l.length - 1 - k) (IntKind.u8.wrap (shrI .u64 (IntKind.u64.wrap (IntKind.u64.wrap l.length*8)) (IntKind.i64.wrap (8*k))))
def pad (l:List Int):List Int:=padA l 8
def sch0 (l:List Int) (i:Nat):Int:=orI .u32 (orI .u32 (orI .u32 (shlI .u32 (IntKind.u32.wrap (l.getD (4*i) 0)) 24) (shlI .u32 (IntKind.u32.wrap (l.getD (4*i+1) 0)) 16)) (shlI .u32 (IntKind.u32.wrap (l.getD (4*i+2) 0)) 8)) (IntKind.u32.wrap (l.getD (4*i+3) 0))
def schA (l:List Int):Nat→List Int
  | 0=>List.replicate 64 0
  | i+1=>(schA l i).set i (sch0 l i)
def schX (a b c d:Int):Int:=IntKind.u32.wrap (IntKind.u32.wrap (IntKind.u32.wrap (a+xorI .u32 (xorI .u32 (down b 7) (down b 18)) (shrI .u32 b 3))+c)+xorI .u32 (xorI .u32 (down d 17) (down d 19)) (shrI .u32 d 10))
def schS (w:List Int) (i:Nat):Int:=schX (w.getD (i - 16) 0) (w.getD (i - 15) 0) (w.getD (i - 7) 0) (w.getD (i - 2) 0)
def schB (l:List Int):Nat→List Int
  | 0=>schA l 16
  | k+1=>(schB l k).set (16+k) (schS (schB l k) (16+k))
def sch (l:List Int):List Int:=schB l 48
def blkT (v7 v4 v5 v6 k w:Int):Int:=IntKind.u32.wrap (IntKind.u32.wrap (IntKind.u32.wrap (IntKind.u32.wrap (v7+xorI .u32 (xorI .u32 (down v4 6) (down v4 11)) (down v4 25))+xorI .u32 (andI .u32 v4 v5) (andI .u32 (notI .u32 v4) v6))+k)+w)
def blkW (v0 v1 v2:Int):Int:=IntKind.u32.wrap (xorI .u32 (xorI .u32 (down v0 2) (down v0 13)) (down v0 22)+xorI .u32 (xorI .u32 (andI .u32 v0 v1) (andI .u32 v0 v2)) (andI .u32 v1 v2))
def blkStep (v:List Int) (w k:Int):List Int:=
  let t:=blkT (v.getD 7 0) (v.getD 4 0) (v.getD 5 0) (v.getD 6 0) k w
  let u:=v.take 1++(v.take 7).take 7++v.drop 8
  (u.set 4 (IntKind.u32.wrap (u.getD 4 0+t))).set 0 (IntKind.u32.wrap (t+blkW (v.getD 0 0) (v.getD 1 0) (v.getD 2 0)))
def blkV (h w:List Int):Nat→List Int
  | 0=>h
  | i+1=>blkStep (blkV h w i) (w.getD i 0) (tabL.getD i 0)
def blkH (h v:List Int):Nat→List Int
  | 0=>h
  | i+1=>(blkH h v i).set i (IntKind.u32.wrap ((blkH h v i).getD i 0+v.getD i 0))
def blk (h l:List Int):List Int:=blkH h (blkV h (sch l) 64) 8
theorem padN_ge (n:Nat):n+9≤padN n:=by unfold padN;omega
theorem padN_mod (n:Nat):padN n % 64=0:=by unfold padN;omega
theorem padN_le (n:Nat):padN n≤n+72:=by unfold padN;omega
theorem padA_len (l:List Int):∀ k,(padA l k).length=padN l.length
  | 0=>by have:=padN_ge l.length;simp only [padA,List.length_set,List.length_append,List.length_replicate];omega
  | k+1=>by simp only [padA,List.length_set,padA_len l k]
theorem schA_len (l:List Int):∀ k,(schA l k).length=64
  | 0=>rfl
  | k+1=>by simp only [schA,List.length_set,schA_len l k]
theorem schB_len (l:List Int):∀ k,(schB l k).length=64
  | 0=>schA_len l 16
  | k+1=>by simp only [schB,List.length_set,schB_len l k]
theorem blkStep_len (v:List Int) (w k:Int) (h:v.length=8):(blkStep v w k).length=8:=by
  simp only [blkStep,List.length_set,List.length_append,List.length_take,List.length_drop,h];omega
theorem blkV_len (h w:List Int) (hh:h.length=8):∀ k,(blkV h w k).length=8
  | 0=>hh
  | k+1=>blkStep_len _ _ _ (blkV_len h w hh k)
theorem blkH_len (h v:List Int) (hh:h.length=8):∀ k,(blkH h v k).length=8
  | 0=>hh
  | k+1=>by simp only [blkH,List.length_set,blkH_len h v hh k]
theorem blkH_0 (h v:List Int):blkH h v 0=h:=rfl
theorem blk_len (h l:List Int) (hh:h.length=8):(blk h l).length=8:=blkH_len _ _ hh 8
theorem getD_of {l:List Int} {n m:Nat} {c:Int} (h:l[n]?=some c) (e:n=m):l.getD m 0=c:=by subst e;rw [List.getD_eq_getElem?_getD,h];rfl
end DoorU
def S_rot:Spec:=⟨.pair nU (.pair nI .unit),.pair nU .unit,fun _=>True,fun (x:Int×Int×Unit)=>((rotl x.1 x.2.1,()):Int×Unit)⟩
def S_down:Spec:=⟨.pair nU (.pair nI .unit),.pair nU .unit,fun _=>True,fun (x:Int×Int×Unit)=>((down x.1 x.2.1,()):Int×Unit)⟩
def S_start:Spec:=⟨.unit,.pair (.arr tU) .unit,fun _=>True,fun _=>((startL,()):List Int×Unit)⟩
def S_pad:Spec:=⟨.pair lY .unit,.pair vY .unit,fun (x:List Int×Unit)=>x.1.length≤1000000000,fun (x:List Int×Unit)=>((pad x.1,()):List Int×Unit)⟩
def A_pad (x:List Int×Unit):Nat→Option LA
  | 0=>some ⟨[31,5],[],.pair nI (.pair oY .unit),fun (v:Int×List Int×Unit)=>0≤v.1∧v.1≤8∧v.2.1=padA x.1 v.1.toNat,fun (v:Int×List Int×Unit)=>(8 - v.1).toNat⟩
  | _=>none
def S_sch:Spec:=⟨.pair lY .unit,.pair (.arr tU) .unit,fun (x:List Int×Unit)=>x.1.length=64,fun (x:List Int×Unit)=>((sch x.1,()):List Int×Unit)⟩
def A_sch (x:List Int×Unit):Nat→Option LA
  | 0=>some ⟨[10,3],[],.pair nI (.pair (.pa tU 216) .unit),fun (v:Int×List Int×Unit)=>0≤v.1∧v.1≤16∧v.2.1=schA x.1 v.1.toNat,fun (v:Int×List Int×Unit)=>(16 - v.1).toNat⟩
  | 1=>some ⟨[5,3],[],.pair nI (.pair (.pa tU 216) .unit),fun (v:Int×List Int×Unit)=>16≤v.1∧v.1≤64∧v.2.1=schB x.1 (v.1.toNat - 16),fun (v:Int×List Int×Unit)=>(64 - v.1).toNat⟩
  | _=>none
def S_blk:Spec:=⟨.pair (.arr tU) (.pair lY .unit),.pair (.tup (.pair (.arr tU) (.pair nI .unit))) .unit,fun (x:List Int×List Int×Unit)=>x.1.length=8∧x.2.1.length=64,fun (x:List Int×List Int×Unit)=>(((blk x.1 x.2.1,0,()),()):(List Int×Int×Unit)×Unit)⟩
def A_blk (x:List Int×List Int×Unit):Nat→Option LA
  | 0=>some ⟨[21,7],[],.pair nI (.pair (.pa tU 210) .unit),fun (v:Int×List Int×Unit)=>0≤v.1∧v.1≤64∧v.2.1=blkV x.1 (sch x.2.1) v.1.toNat,fun (v:Int×List Int×Unit)=>(64 - v.1).toNat⟩
  | 1=>some ⟨[95,2],[],.pair nI (.pair (.pa tU 210) .unit),fun (v:Int×List Int×Unit)=>0≤v.1∧v.1≤8∧v.2.1=blkH x.1 (blkV x.1 (sch x.2.1) 64) v.1.toNat,fun (v:Int×List Int×Unit)=>(8 - v.1).toNat⟩
  | _=>none
theorem vc_rot:VC Tryz.prog Tryz.f163 (bodyOf Tryz.f163) S_rot [] (fun _ _=>none)=(∀ (x:Int×Int×Unit),True→
  (0:Int)≤andI IntKind.u64 (IntKind.wrap IntKind.u64 x.2.fst) (31:Int)∧(0:Int)≤IntKind.wrap IntKind.u64 ((32:Int) - andI IntKind.u64 (IntKind.wrap IntKind.u64 x.2.fst) (31:Int))∧(orI IntKind.u32 (shlI IntKind.u32 x.fst (andI IntKind.u64 (IntKind.wrap IntKind.u64 x.2.fst) (31:Int))) (shrI IntKind.u32 x.fst (IntKind.wrap IntKind.u64 ((32:Int) - andI IntKind.u64 (IntKind.wrap IntKind.u64 x.2.fst) (31:Int)))),())=(rotl x.fst x.2.fst,())):=by kernel_rfl
theorem en_rot (us:Array Value) (u:World):(callFunc 163 us).run Tryz.prog u=.ok (.enter 163 us) u:=by kernel_rfl
theorem sc_rot:SC Tryz.prog 163 S_rot:=by
  refine SC.of Tryz.func163 (c:=bodyOf Tryz.f163) (by kernel_rfl) (by kernel_rfl) (fun x=>(by decide:(2:Nat)≤Tryz.f163.ntmps)) DOk.nil (Eq.mpr vc_rot ?_)
  rintro ⟨a,b,⟨⟩⟩ -
  have un:∀ n:Int,0≤IntKind.u64.wrap n:=fun n=>by rw [IntKind.wrap_u64];omega
  dsimp only [rotl]
  simp only [ne_eq,true_and,and_true]
  first | exact ⟨un _,un _⟩ | (refine ⟨?_,?_⟩ <;> first | exact un _ | trivial | decide | simp)
theorem vc_down:VC Tryz.prog Tryz.f160 (bodyOf Tryz.f160) S_down [(163,S_rot)] (fun _ _=>none)=(∀ (x:Int×Int×Unit),True→
  True∧(rotl x.fst (IntKind.wrap IntKind.i64 ((0:Int) - x.2.fst)),())=(down x.fst x.2.fst,())):=by kernel_rfl
theorem en_down (us:Array Value) (u:World):(callFunc 160 us).run Tryz.prog u=.ok (.enter 160 us) u:=by kernel_rfl
theorem sc_down:SC Tryz.prog 160 S_down:=by
  refine SC.of Tryz.func160 (c:=bodyOf Tryz.f160) (by kernel_rfl) (by kernel_rfl) (fun x=>(by decide:(2:Nat)≤Tryz.f160.ntmps)) (DOk.cons sc_rot en_rot DOk.nil) (Eq.mpr vc_down ?_)
  rintro ⟨a,b,⟨⟩⟩ -
  exact ⟨trivial,rfl⟩
theorem vc_start:VC Tryz.prog Tryz.f153 (bodyOf Tryz.f153) S_start [] (fun _ _=>none)=(∀ (x:Unit),True→
  nat_lit 8=nat_lit 8∧nat_lit 8=nat_lit 8∧nat_lit 8=nat_lit 8∧([(1779033703:Int),(3144134277:Int),(1013904242:Int),(2773480762:Int),(1359893119:Int),(2600822924:Int),(528734635:Int),(1541459225:Int)],())=(startL,())):=by kernel_rfl
theorem sc_start:SC Tryz.prog 153 S_start:=by
  refine SC.of Tryz.func153 (c:=bodyOf Tryz.f153) (by kernel_rfl) (by kernel_rfl) (fun x=>(by decide:(0:Nat)≤Tryz.f153.ntmps)) DOk.nil (Eq.mpr vc_start ?_)
  intro _ _
  simp [startL]
theorem vc_pad:VC Tryz.prog Tryz.f155 (bodyOf Tryz.f155) S_pad [] A_pad=(∀ (x:List Int×Unit),List.length x.fst≤(1000000000:Nat)→
  List.length x.fst≤(9223372036854775807:Nat)→
  List.length x.fst≤(9223372036854775807:Nat)→
  (64:Int)≠(0:Int)∧(64:Int)≠(0:Int)∧(0:Int)≤IntKind.wrap IntKind.i64 (IntKind.wrap IntKind.i64 (IntKind.wrap IntKind.i64 ((↑(List.length x.fst):Int)+(1:Int))+(8:Int))+Int.tmod (IntKind.wrap IntKind.i64 ((64:Int) - Int.tmod (IntKind.wrap IntKind.i64 (IntKind.wrap IntKind.i64 ((↑(List.length x.fst):Int)+(1:Int))+(8:Int))) (64:Int))) (64:Int))∧IntKind.wrap IntKind.i64 (IntKind.wrap IntKind.i64 (IntKind.wrap IntKind.i64 ((↑(List.length x.fst):Int)+(1:Int))+(8:Int))+Int.tmod (IntKind.wrap IntKind.i64 ((64:Int) - Int.tmod (IntKind.wrap IntKind.i64 (IntKind.wrap IntKind.i64 ((↑(List.length x.fst):Int)+(1:Int))+(8:Int))) (64:Int))) (64:Int))≤IntKind.wrap IntKind.i64 (IntKind.wrap IntKind.i64 (IntKind.wrap IntKind.i64 ((↑(List.length x.fst):Int)+(1:Int))+(8:Int))+Int.tmod (IntKind.wrap IntKind.i64 ((64:Int) - Int.tmod (IntKind.wrap IntKind.i64 (IntKind.wrap IntKind.i64 ((↑(List.length x.fst):Int)+(1:Int))+(8:Int))) (64:Int))) (64:Int))∧Int.ofNat (nat_lit 1)*IntKind.wrap IntKind.i64 (IntKind.wrap IntKind.i64 (IntKind.wrap IntKind.i64 ((↑(List.length x.fst):Int)+(1:Int))+(8:Int))+Int.tmod (IntKind.wrap IntKind.i64 ((64:Int) - Int.tmod (IntKind.wrap IntKind.i64 (IntKind.wrap IntKind.i64 ((↑(List.length x.fst):Int)+(1:Int))+(8:Int))) (64:Int))) (64:Int))≤(281474976710656:Int)∧IntKind.wrap IntKind.i64 (IntKind.wrap IntKind.i64 (IntKind.wrap IntKind.i64 ((↑(List.length x.fst):Int)+(1:Int))+(8:Int))+Int.tmod (IntKind.wrap IntKind.i64 ((64:Int) - Int.tmod (IntKind.wrap IntKind.i64 (IntKind.wrap IntKind.i64 ((↑(List.length x.fst):Int)+(1:Int))+(8:Int))) (64:Int))) (64:Int))≤(140737488351232:Int)∧(0:Nat)+List.length (List.replicate (Int.toNat (IntKind.wrap IntKind.i64 (IntKind.wrap IntKind.i64 (IntKind.wrap IntKind.i64 ((↑(List.length x.fst):Int)+(1:Int))+(8:Int))+Int.tmod (IntKind.wrap IntKind.i64 ((64:Int) - Int.tmod (IntKind.wrap IntKind.i64 (IntKind.wrap IntKind.i64 ((↑(List.length x.fst):Int)+(1:Int))+(8:Int))) (64:Int))) (64:Int)))) (0:Int))≤List.length (List.replicate (Int.toNat (IntKind.wrap IntKind.i64 (IntKind.wrap IntKind.i64 (IntKind.wrap IntKind.i64 ((↑(List.length x.fst):Int)+(1:Int))+(8:Int))+Int.tmod (IntKind.wrap IntKind.i64 ((64:Int) - Int.tmod (IntKind.wrap IntKind.i64 (IntKind.wrap IntKind.i64 ((↑(List.length x.fst):Int)+(1:Int))+(8:Int))) (64:Int))) (64:Int)))) (0:Int))∧(List.length x.fst≤(9223372036854775807:Nat)→
  (0:Int)≤(↑(List.length x.fst):Int)∧(↑(List.length x.fst):Int) < (↑(List.length (List.take (0:Nat) (List.replicate (Int.toNat (IntKind.wrap IntKind.i64 (IntKind.wrap IntKind.i64 (IntKind.wrap IntKind.i64 ((↑(List.length x.fst):Int)+(1:Int))+(8:Int))+Int.tmod (IntKind.wrap IntKind.i64 ((64:Int) - Int.tmod (IntKind.wrap IntKind.i64 (IntKind.wrap IntKind.i64 ((↑(List.length x.fst):Int)+(1:Int))+(8:Int))) (64:Int))) (64:Int)))) (0:Int))++List.take (min (List.length (List.replicate (Int.toNat (IntKind.wrap IntKind.i64 (IntKind.wrap IntKind.i64 (IntKind.wrap IntKind.i64 ((↑(List.length x.fst):Int)+(1:Int))+(8:Int))+Int.tmod (IntKind.wrap IntKind.i64 ((64:Int) - Int.tmod (IntKind.wrap IntKind.i64 (IntKind.wrap IntKind.i64 ((↑(List.length x.fst):Int)+(1:Int))+(8:Int))) (64:Int))) (64:Int)))) (0:Int))) (List.length x.fst)) x.fst++List.drop ((0:Nat)+min (List.length (List.replicate (Int.toNat (IntKind.wrap IntKind.i64 (IntKind.wrap IntKind.i64 (IntKind.wrap IntKind.i64 ((↑(List.length x.fst):Int)+(1:Int))+(8:Int))+Int.tmod (IntKind.wrap IntKind.i64 ((64:Int) - Int.tmod (IntKind.wrap IntKind.i64 (IntKind.wrap IntKind.i64 ((↑(List.length x.fst):Int)+(1:Int))+(8:Int))) (64:Int))) (64:Int)))) (0:Int))) (List.length x.fst)) (List.replicate (Int.toNat (IntKind.wrap IntKind.i64 (IntKind.wrap IntKind.i64 (IntKind.wrap IntKind.i64 ((↑(List.length x.fst):Int)+(1:Int))+(8:Int))+Int.tmod (IntKind.wrap IntKind.i64 ((64:Int) - Int.tmod (IntKind.wrap IntKind.i64 (IntKind.wrap IntKind.i64 ((↑(List.length x.fst):Int)+(1:Int))+(8:Int))) (64:Int))) (64:Int)))) (0:Int)))):Int)∧Int.toNat (↑(List.length x.fst):Int) < List.length (List.take (0:Nat) (List.replicate (Int.toNat (IntKind.wrap IntKind.i64 (IntKind.wrap IntKind.i64 (IntKind.wrap IntKind.i64 ((↑(List.length x.fst):Int)+(1:Int))+(8:Int))+Int.tmod (IntKind.wrap IntKind.i64 ((64:Int) - Int.tmod (IntKind.wrap IntKind.i64 (IntKind.wrap IntKind.i64 ((↑(List.length x.fst):Int)+(1:Int))+(8:Int))) (64:Int))) (64:Int)))) (0:Int))++List.take (min (List.length (List.replicate (Int.toNat (IntKind.wrap IntKind.i64 (IntKind.wrap IntKind.i64 (IntKind.wrap IntKind.i64 ((↑(List.length x.fst):Int)+(1:Int))+(8:Int))+Int.tmod (IntKind.wrap IntKind.i64 ((64:Int) - Int.tmod (IntKind.wrap IntKind.i64 (IntKind.wrap IntKind.i64 ((↑(List.length x.fst):Int)+(1:Int))+(8:Int))) (64:Int))) (64:Int)))) (0:Int))) (List.length x.fst)) x.fst++List.drop ((0:Nat)+min (List.length (List.replicate (Int.toNat (IntKind.wrap IntKind.i64 (IntKind.wrap IntKind.i64 (IntKind.wrap IntKind.i64 ((↑(List.length x.fst):Int)+(1:Int))+(8:Int))+Int.tmod (IntKind.wrap IntKind.i64 ((64:Int) - Int.tmod (IntKind.wrap IntKind.i64 (IntKind.wrap IntKind.i64 ((↑(List.length x.fst):Int)+(1:Int))+(8:Int))) (64:Int))) (64:Int)))) (0:Int))) (List.length x.fst)) (List.replicate (Int.toNat (IntKind.wrap IntKind.i64 (IntKind.wrap IntKind.i64 (IntKind.wrap IntKind.i64 ((↑(List.length x.fst):Int)+(1:Int))+(8:Int))+Int.tmod (IntKind.wrap IntKind.i64 ((64:Int) - Int.tmod (IntKind.wrap IntKind.i64 (IntKind.wrap IntKind.i64 ((↑(List.length x.fst):Int)+(1:Int))+(8:Int))) (64:Int))) (64:Int)))) (0:Int)))∧∀ (x0:Int),(List.take (0:Nat) (List.replicate (Int.toNat (IntKind.wrap IntKind.i64 (IntKind.wrap IntKind.i64 (IntKind.wrap IntKind.i64 ((↑(List.length x.fst):Int)+(1:Int))+(8:Int))+Int.tmod (IntKind.wrap IntKind.i64 ((64:Int) - Int.tmod (IntKind.wrap IntKind.i64 (IntKind.wrap IntKind.i64 ((↑(List.length x.fst):Int)+(1:Int))+(8:Int))) (64:Int))) (64:Int)))) (0:Int))++List.take (min (List.length (List.replicate (Int.toNat (IntKind.wrap IntKind.i64 (IntKind.wrap IntKind.i64 (IntKind.wrap IntKind.i64 ((↑(List.length x.fst):Int)+(1:Int))+(8:Int))+Int.tmod (IntKind.wrap IntKind.i64 ((64:Int) - Int.tmod (IntKind.wrap IntKind.i64 (IntKind.wrap IntKind.i64 ((↑(List.length x.fst):Int)+(1:Int))+(8:Int))) (64:Int))) (64:Int)))) (0:Int))) (List.length x.fst)) x.fst++List.drop ((0:Nat)+min (List.length (List.replicate (Int.toNat (IntKind.wrap IntKind.i64 (IntKind.wrap IntKind.i64 (IntKind.wrap IntKind.i64 ((↑(List.length x.fst):Int)+(1:Int))+(8:Int))+Int.tmod (IntKind.wrap IntKind.i64 ((64:Int) - Int.tmod (IntKind.wrap IntKind.i64 (IntKind.wrap IntKind.i64 ((↑(List.length x.fst):Int)+(1:Int))+(8:Int))) (64:Int))) (64:Int)))) (0:Int))) (List.length x.fst)) (List.replicate (Int.toNat (IntKind.wrap IntKind.i64 (IntKind.wrap IntKind.i64 (IntKind.wrap IntKind.i64 ((↑(List.length x.fst):Int)+(1:Int))+(8:Int))+Int.tmod (IntKind.wrap IntKind.i64 ((64:Int) - Int.tmod (IntKind.wrap IntKind.i64 (IntKind.wrap IntKind.i64 ((↑(List.length x.fst):Int)+(1:Int))+(8:Int))) (64:Int))) (64:Int)))) (0:Int)))[Int.toNat (↑(List.length x.fst):Int)]?=some x0→
  List.length x.fst≤(9223372036854775807:Nat)→
  ((0:Int)≤(0:Int)∧(0:Int)≤(8:Int)∧List.set (List.take (0:Nat) (List.replicate (Int.toNat (IntKind.wrap IntKind.i64 (IntKind.wrap IntKind.i64 (IntKind.wrap IntKind.i64 ((↑(List.length x.fst):Int)+(1:Int))+(8:Int))+Int.tmod (IntKind.wrap IntKind.i64 ((64:Int) - Int.tmod (IntKind.wrap IntKind.i64 (IntKind.wrap IntKind.i64 ((↑(List.length x.fst):Int)+(1:Int))+(8:Int))) (64:Int))) (64:Int)))) (0:Int))++List.take (min (List.length (List.replicate (Int.toNat (IntKind.wrap IntKind.i64 (IntKind.wrap IntKind.i64 (IntKind.wrap IntKind.i64 ((↑(List.length x.fst):Int)+(1:Int))+(8:Int))+Int.tmod (IntKind.wrap IntKind.i64 ((64:Int) - Int.tmod (IntKind.wrap IntKind.i64 (IntKind.wrap IntKind.i64 ((↑(List.length x.fst):Int)+(1:Int))+(8:Int))) (64:Int))) (64:Int)))) (0:Int))) (List.length x.fst)) x.fst++List.drop ((0:Nat)+min (List.length (List.replicate (Int.toNat (IntKind.wrap IntKind.i64 (IntKind.wrap IntKind.i64 (IntKind.wrap IntKind.i64 ((↑(List.length x.fst):Int)+(1:Int))+(8:Int))+Int.tmod (IntKind.wrap IntKind.i64 ((64:Int) - Int.tmod (IntKind.wrap IntKind.i64 (IntKind.wrap IntKind.i64 ((↑(List.length x.fst):Int)+(1:Int))+(8:Int))) (64:Int))) (64:Int)))) (0:Int))) (List.length x.fst)) (List.replicate (Int.toNat (IntKind.wrap IntKind.i64 (IntKind.wrap IntKind.i64 (IntKind.wrap IntKind.i64 ((↑(List.length x.fst):Int)+(1:Int))+(8:Int))+Int.tmod (IntKind.wrap IntKind.i64 ((64:Int) - Int.tmod (IntKind.wrap IntKind.i64 (IntKind.wrap IntKind.i64 ((↑(List.length x.fst):Int)+(1:Int))+(8:Int))) (64:Int))) (64:Int)))) (0:Int))) (Int.toNat (↑(List.length x.fst):Int)) (128:Int)=padA x.fst (Int.toNat (0:Int)))∧∀ (v:Int×List Int×Unit),(0:Int)≤v.fst∧v.fst≤(8:Int)∧v.2.fst=padA x.fst (Int.toNat v.fst)→
  bif decide (v.fst < (8:Int)) then (0:Int)≤IntKind.wrap IntKind.i64 ((8:Int)*v.fst)∧(0:Int)≤IntKind.wrap IntKind.i64 (IntKind.wrap IntKind.i64 ((↑(List.length v.2.fst):Int) - (1:Int)) - v.fst)∧IntKind.wrap IntKind.i64 (IntKind.wrap IntKind.i64 ((↑(List.length v.2.fst):Int) - (1:Int)) - v.fst) < (↑(List.length v.2.fst):Int)∧Int.toNat (IntKind.wrap IntKind.i64 (IntKind.wrap IntKind.i64 ((↑(List.length v.2.fst):Int) - (1:Int)) - v.fst)) < List.length v.2.fst∧∀ (x0:Int),v.2.fst[Int.toNat (IntKind.wrap IntKind.i64 (IntKind.wrap IntKind.i64 ((↑(List.length v.2.fst):Int) - (1:Int)) - v.fst))]?=some x0→
  ((0:Int)≤IntKind.wrap IntKind.i64 (v.fst+(1:Int))∧IntKind.wrap IntKind.i64 (v.fst+(1:Int))≤(8:Int)∧List.set v.2.fst (Int.toNat (IntKind.wrap IntKind.i64 (IntKind.wrap IntKind.i64 ((↑(List.length v.2.fst):Int) - (1:Int)) - v.fst))) (IntKind.wrap IntKind.u8 (shrI IntKind.u64 (IntKind.wrap IntKind.u64 (IntKind.wrap IntKind.u64 (↑(List.length x.fst):Int)*(8:Int))) (IntKind.wrap IntKind.i64 ((8:Int)*v.fst))))=padA x.fst (Int.toNat (IntKind.wrap IntKind.i64 (v.fst+(1:Int)))))∧Int.toNat ((8:Int) - IntKind.wrap IntKind.i64 (v.fst+(1:Int))) < Int.toNat ((8:Int) - v.fst) else v.2=(pad x.fst,()))):=by kernel_rfl
theorem sc_pad:SC Tryz.prog 155 S_pad:=by
  refine SC.of Tryz.func155 (c:=bodyOf Tryz.f155) (by kernel_rfl) (by kernel_rfl) (fun x=>(by decide:(1:Nat)≤Tryz.f155.ntmps)) DOk.nil (Eq.mpr vc_pad ?_)
  rintro ⟨l,⟨⟩⟩ hl - -
  dsimp only at hl ⊢
  have w1:IntKind.i64.wrap ((l.length:Int)+1)=(l.length:Int)+1:=IntWalk.i64_in _ (by omega)
  have w2:IntKind.i64.wrap ((l.length:Int)+1+8)=(l.length:Int)+9:=by rw [IntWalk.i64_in _ (by omega)];omega
  have t1:Int.tmod ((l.length:Int)+9) 64=((l.length:Int)+9) % 64:=Int.tmod_eq_emod_of_nonneg (by omega)
  have w3:IntKind.i64.wrap (64 - ((l.length:Int)+9) % 64)=64 - ((l.length:Int)+9) % 64:=IntWalk.i64_in _ (by omega)
  have t2:Int.tmod (64 - ((l.length:Int)+9) % 64) 64=(64 - ((l.length:Int)+9) % 64) % 64:=Int.tmod_eq_emod_of_nonneg (by omega)
  have w4:IntKind.i64.wrap ((l.length:Int)+9+(64 - ((l.length:Int)+9) % 64) % 64)=((padN l.length:Nat):Int):=by
    rw [IntWalk.i64_in _ (by omega)];unfold padN;omega
  have hp1:=padN_ge l.length
  have hp2:=padN_le l.length
  have hU:List.take 0 (List.replicate (padN l.length) (0:Int))++List.take (min (padN l.length) l.length) l++List.drop (0+min (padN l.length) l.length) (List.replicate (padN l.length) (0:Int))=l++List.replicate (padN l.length - l.length) 0:=by
    rw [Nat.min_eq_right (by omega),List.take_zero,List.nil_append,List.take_length,Nat.zero_add,List.drop_replicate]
  have hUl:(l++List.replicate (padN l.length - l.length) (0:Int)).length=padN l.length:=by rw [List.length_append,List.length_replicate];omega
  simp only [w1,w2,t1,w3,t2,w4,Int.toNat_natCast,List.length_replicate,hU,hUl]
  refine ⟨by decide,by decide,by omega,by omega,by show (1:Int)*_≤_;omega,by omega,by omega,fun _=>⟨by omega,by omega,by omega,fun x0 _ _=>⟨⟨by omega,by omega,rfl⟩,?_⟩⟩⟩
  rintro ⟨i,w,⟨⟩⟩ ⟨h0,h1,hw⟩
  dsimp only at h0 h1 hw ⊢
  have wl:w.length=padN l.length:=by rw [hw];exact padA_len _ _
  have wi:IntKind.i64.wrap (i+1)=i+1:=IntWalk.i64_in _ (by omega)
  by_cases hi:i < 8
  · rw [decide_eq_true hi,cond_true]
    have v1:IntKind.i64.wrap (8*i)=8*i:=IntWalk.i64_in _ (by omega)
    have v2:IntKind.i64.wrap ((padN l.length:Int) - 1)=(padN l.length:Int) - 1:=IntWalk.i64_in _ (by omega)
    have v3:IntKind.i64.wrap ((padN l.length:Int) - 1 - i)=(padN l.length:Int) - 1 - i:=IntWalk.i64_in _ (by omega)
    simp only [wl,v2,v3,wi]
    refine ⟨by rw [v1];omega,by omega,by omega,by omega,fun x0 _=>⟨⟨by omega,by omega,?_⟩,by omega⟩⟩
    rw [show (i+1).toNat=i.toNat+1 by omega]
    show _=(padA l i.toNat).set (padN l.length - 1 - i.toNat) (IntKind.u8.wrap (shrI .u64 (IntKind.u64.wrap (IntKind.u64.wrap l.length*8)) (IntKind.i64.wrap (8*(i.toNat:Nat)))))
    rw [← hw,show ((padN l.length:Int) - 1 - i).toNat=padN l.length - 1 - i.toNat by omega,show ((i.toNat:Nat):Int)=i by omega]
  · rw [decide_eq_false hi,cond_false]
    obtain rfl:i=8:=by omega
    rw [hw]
    rfl
theorem vc_sch:VC Tryz.prog Tryz.f159 (bodyOf Tryz.f159) S_sch [(160,S_down)] A_sch=(∀ (x:List Int×Unit),List.length x.fst=(64:Nat)→
  List.length x.fst≤(9223372036854775807:Nat)→
  ((0:Int)≤(0:Int)∧(0:Int)≤(16:Int)∧[(0:Int),(0:Int),(0:Int),(0:Int),(0:Int),(0:Int),(0:Int),(0:Int),(0:Int),(0:Int),(0:Int),(0:Int),(0:Int),(0:Int),(0:Int),(0:Int),(0:Int),(0:Int),(0:Int),(0:Int),(0:Int),(0:Int),(0:Int),(0:Int),(0:Int),(0:Int),(0:Int),(0:Int),(0:Int),(0:Int),(0:Int),(0:Int),(0:Int),(0:Int),(0:Int),(0:Int),(0:Int),(0:Int),(0:Int),(0:Int),(0:Int),(0:Int),(0:Int),(0:Int),(0:Int),(0:Int),(0:Int),(0:Int),(0:Int),(0:Int),(0:Int),(0:Int),(0:Int),(0:Int),(0:Int),(0:Int),(0:Int),(0:Int),(0:Int),(0:Int),(0:Int),(0:Int),(0:Int),(0:Int)]=schA x.fst (Int.toNat (0:Int)))∧∀ (v:Int×List Int×Unit),(0:Int)≤v.fst∧v.fst≤(16:Int)∧v.2.fst=schA x.fst (Int.toNat v.fst)→
  bif decide (v.fst < (16:Int)) then (0:Int)≤IntKind.wrap IntKind.i64 ((4:Int)*v.fst)∧IntKind.wrap IntKind.i64 ((4:Int)*v.fst) < (↑(List.length x.fst):Int)∧∀ (c0:Int),x.fst[Int.toNat (IntKind.wrap IntKind.i64 ((4:Int)*v.fst))]?=some c0→
  (0:Int)≤(24:Int)∧(0:Int)≤IntKind.wrap IntKind.i64 (IntKind.wrap IntKind.i64 ((4:Int)*v.fst)+(1:Int))∧IntKind.wrap IntKind.i64 (IntKind.wrap IntKind.i64 ((4:Int)*v.fst)+(1:Int)) < (↑(List.length x.fst):Int)∧∀ (c0_1:Int),x.fst[Int.toNat (IntKind.wrap IntKind.i64 (IntKind.wrap IntKind.i64 ((4:Int)*v.fst)+(1:Int)))]?=some c0_1→
  (0:Int)≤(16:Int)∧(0:Int)≤IntKind.wrap IntKind.i64 (IntKind.wrap IntKind.i64 ((4:Int)*v.fst)+(2:Int))∧IntKind.wrap IntKind.i64 (IntKind.wrap IntKind.i64 ((4:Int)*v.fst)+(2:Int)) < (↑(List.length x.fst):Int)∧∀ (c0_2:Int),x.fst[Int.toNat (IntKind.wrap IntKind.i64 (IntKind.wrap IntKind.i64 ((4:Int)*v.fst)+(2:Int)))]?=some c0_2→
  (0:Int)≤(8:Int)∧(0:Int)≤IntKind.wrap IntKind.i64 (IntKind.wrap IntKind.i64 ((4:Int)*v.fst)+(3:Int))∧IntKind.wrap IntKind.i64 (IntKind.wrap IntKind.i64 ((4:Int)*v.fst)+(3:Int)) < (↑(List.length x.fst):Int)∧∀ (c0_3:Int),x.fst[Int.toNat (IntKind.wrap IntKind.i64 (IntKind.wrap IntKind.i64 ((4:Int)*v.fst)+(3:Int)))]?=some c0_3→
  (0:Int)≤v.fst∧v.fst < Int.ofNat (64:Nat)∧Int.toNat v.fst < List.length v.2.fst∧∀ (x0:Int),v.2.fst[Int.toNat v.fst]?=some x0→
  ((0:Int)≤IntKind.wrap IntKind.i64 (v.fst+(1:Int))∧IntKind.wrap IntKind.i64 (v.fst+(1:Int))≤(16:Int)∧List.set v.2.fst (Int.toNat v.fst) (orI IntKind.u32 (orI IntKind.u32 (orI IntKind.u32 (shlI IntKind.u32 (IntKind.wrap IntKind.u32 c0) (24:Int)) (shlI IntKind.u32 (IntKind.wrap IntKind.u32 c0_1) (16:Int))) (shlI IntKind.u32 (IntKind.wrap IntKind.u32 c0_2) (8:Int))) (IntKind.wrap IntKind.u32 c0_3))=schA x.fst (Int.toNat (IntKind.wrap IntKind.i64 (v.fst+(1:Int)))))∧Int.toNat ((16:Int) - IntKind.wrap IntKind.i64 (v.fst+(1:Int))) < Int.toNat ((16:Int) - v.fst) else ((16:Int)≤(16:Int)∧(16:Int)≤(64:Int)∧v.2.fst=schB x.fst (Int.toNat (16:Int) - (16:Nat)))∧∀ (v:Int×List Int×Unit),(16:Int)≤v.fst∧v.fst≤(64:Int)∧v.2.fst=schB x.fst (Int.toNat v.fst - (16:Nat))→
  bif decide (v.fst < (64:Int)) then (0:Int)≤IntKind.wrap IntKind.i64 (v.fst - (15:Int))∧IntKind.wrap IntKind.i64 (v.fst - (15:Int)) < Int.ofNat (64:Nat)∧Int.toNat (IntKind.wrap IntKind.i64 (v.fst - (15:Int))) < List.length v.2.fst∧∀ (x_1:Int),v.2.fst[Int.toNat (IntKind.wrap IntKind.i64 (v.fst - (15:Int)))]?=some x_1→
  (0:Int)≤IntKind.wrap IntKind.i64 (v.fst - (2:Int))∧IntKind.wrap IntKind.i64 (v.fst - (2:Int)) < Int.ofNat (64:Nat)∧Int.toNat (IntKind.wrap IntKind.i64 (v.fst - (2:Int))) < List.length v.2.fst∧∀ (x_2:Int),v.2.fst[Int.toNat (IntKind.wrap IntKind.i64 (v.fst - (2:Int)))]?=some x_2→
  True∧True∧(0:Int)≤(3:Int)∧True∧True∧(0:Int)≤(10:Int)∧(0:Int)≤IntKind.wrap IntKind.i64 (v.fst - (16:Int))∧IntKind.wrap IntKind.i64 (v.fst - (16:Int)) < Int.ofNat (64:Nat)∧Int.toNat (IntKind.wrap IntKind.i64 (v.fst - (16:Int))) < List.length v.2.fst∧∀ (x_3:Int),v.2.fst[Int.toNat (IntKind.wrap IntKind.i64 (v.fst - (16:Int)))]?=some x_3→
  (0:Int)≤IntKind.wrap IntKind.i64 (v.fst - (7:Int))∧IntKind.wrap IntKind.i64 (v.fst - (7:Int)) < Int.ofNat (64:Nat)∧Int.toNat (IntKind.wrap IntKind.i64 (v.fst - (7:Int))) < List.length v.2.fst∧∀ (x_4:Int),v.2.fst[Int.toNat (IntKind.wrap IntKind.i64 (v.fst - (7:Int)))]?=some x_4→
  (0:Int)≤v.fst∧v.fst < Int.ofNat (64:Nat)∧Int.toNat v.fst < List.length v.2.fst∧∀ (x0:Int),v.2.fst[Int.toNat v.fst]?=some x0→
  ((16:Int)≤IntKind.wrap IntKind.i64 (v.fst+(1:Int))∧IntKind.wrap IntKind.i64 (v.fst+(1:Int))≤(64:Int)∧List.set v.2.fst (Int.toNat v.fst) (IntKind.wrap IntKind.u32 (IntKind.wrap IntKind.u32 (IntKind.wrap IntKind.u32 (x_3+xorI IntKind.u32 (xorI IntKind.u32 (down x_1 (7:Int)) (down x_1 (18:Int))) (shrI IntKind.u32 x_1 (3:Int)))+x_4)+xorI IntKind.u32 (xorI IntKind.u32 (down x_2 (17:Int)) (down x_2 (19:Int))) (shrI IntKind.u32 x_2 (10:Int))))=schB x.fst (Int.toNat (IntKind.wrap IntKind.i64 (v.fst+(1:Int))) - (16:Nat)))∧Int.toNat ((64:Int) - IntKind.wrap IntKind.i64 (v.fst+(1:Int))) < Int.toNat ((64:Int) - v.fst) else List.length v.2.fst=nat_lit 64∧nat_lit 64=nat_lit 64∧List.length v.2.fst=nat_lit 64∧List.length v.2.fst=nat_lit 64∧v.2=(sch x.fst,())):=by kernel_rfl
theorem en_sch (us:Array Value) (u:World):(callFunc 159 us).run Tryz.prog u=.ok (.enter 159 us) u:=by kernel_rfl
theorem sc_sch:SC Tryz.prog 159 S_sch:=by
  refine SC.of Tryz.func159 (c:=bodyOf Tryz.f159) (by kernel_rfl) (by kernel_rfl) (fun x=>(by decide:(1:Nat)≤Tryz.f159.ntmps)) (DOk.cons sc_down en_down DOk.nil) (Eq.mpr vc_sch ?_)
  rintro ⟨l,⟨⟩⟩ hl -
  dsimp only at hl ⊢
  refine ⟨⟨Int.le_refl 0,by decide,rfl⟩,?_⟩
  rintro ⟨i,w,⟨⟩⟩ ⟨h0,h1,hw⟩
  dsimp only at h0 h1 hw ⊢
  have wl:w.length=64:=by rw [hw];exact schA_len _ _
  have wi:IntKind.i64.wrap (i+1)=i+1:=IntWalk.i64_in _ (by omega)
  by_cases hi:i < 16
  · rw [decide_eq_true hi,cond_true]
    have w4:IntKind.i64.wrap (4*i)=4*i:=IntWalk.i64_in _ (by omega)
    have w5:IntKind.i64.wrap (4*i+1)=4*i+1:=IntWalk.i64_in _ (by omega)
    have w6:IntKind.i64.wrap (4*i+2)=4*i+2:=IntWalk.i64_in _ (by omega)
    have w7:IntKind.i64.wrap (4*i+3)=4*i+3:=IntWalk.i64_in _ (by omega)
    simp only [w4,w5,w6,w7,wi,hl]
    refine ⟨by omega,by omega,fun c0 hc0=>⟨by omega,by omega,by omega,fun c1 hc1=>⟨by omega,by omega,by omega,fun c2 hc2=>⟨by omega,by omega,by omega,fun c3 hc3=>⟨by omega,by simp;omega,by omega,fun x0 _=>⟨⟨by omega,by omega,?_⟩,by omega⟩⟩⟩⟩⟩⟩
    rw [show (i+1).toNat=i.toNat+1 by omega]
    show _=(schA l i.toNat).set i.toNat (sch0 l i.toNat)
    rw [← hw]
    unfold sch0
    rw [getD_of (m:=4*i.toNat) hc0 (by omega),getD_of (m:=4*i.toNat+1) hc1 (by omega),getD_of (m:=4*i.toNat+2) hc2 (by omega),getD_of (m:=4*i.toNat+3) hc3 (by omega)]
  · rw [decide_eq_false hi,cond_false]
    obtain rfl:i=16:=by omega
    refine ⟨⟨by omega,by omega,hw⟩,?_⟩
    clear hw wl wi
    clear w
    rintro ⟨i,w,⟨⟩⟩ ⟨h0,h1,hw⟩
    dsimp only at h0 h1 hw ⊢
    have wl:w.length=64:=by rw [hw];exact schB_len _ _
    have wi:IntKind.i64.wrap (i+1)=i+1:=IntWalk.i64_in _ (by omega)
    by_cases hi:i < 64
    · rw [decide_eq_true hi,cond_true]
      have w4:IntKind.i64.wrap (i - 15)=i - 15:=IntWalk.i64_in _ (by omega)
      have w5:IntKind.i64.wrap (i - 2)=i - 2:=IntWalk.i64_in _ (by omega)
      have w6:IntKind.i64.wrap (i - 16)=i - 16:=IntWalk.i64_in _ (by omega)
      have w7:IntKind.i64.wrap (i - 7)=i - 7:=IntWalk.i64_in _ (by omega)
      simp only [w4,w5,w6,w7,wi,wl,true_and]
      refine ⟨by omega,by simp;omega,by omega,fun c1 hc1=>⟨by omega,by simp;omega,by omega,fun c2 hc2=>⟨by omega,by omega,by omega,by simp;omega,by omega,fun c3 hc3=>⟨by omega,by simp;omega,by omega,fun c4 hc4=>⟨by omega,by simp;omega,by omega,fun x0 _=>⟨⟨by omega,by omega,?_⟩,by omega⟩⟩⟩⟩⟩⟩
      rw [show (i+1).toNat - 16=(i.toNat - 16)+1 by omega]
      show _=(schB l (i.toNat - 16)).set (16+(i.toNat - 16)) (schS (schB l (i.toNat - 16)) (16+(i.toNat - 16)))
      rw [← hw,show 16+(i.toNat - 16)=i.toNat by omega]
      unfold schS
      rw [getD_of (m:=i.toNat - 15) hc1 (by omega),getD_of (m:=i.toNat - 2) hc2 (by omega),getD_of (m:=i.toNat - 16) hc3 (by omega),getD_of (m:=i.toNat - 7) hc4 (by omega)]
      rfl
    · rw [decide_eq_false hi,cond_false]
      obtain rfl:i=64:=by omega
      exact ⟨wl,rfl,wl,wl,by rw [hw];rfl⟩
theorem vc_blk:VC Tryz.prog Tryz.f156 (bodyOf Tryz.f156) S_blk [(160,S_down),(159,S_sch)] A_blk=(∀ (x:List Int×List Int×Unit),List.length x.fst=(8:Nat)∧List.length x.2.fst=(64:Nat)→
  List.length x.2.fst≤(9223372036854775807:Nat)→
  List.length x.fst≤(9223372036854775807:Nat)∧(List.length x.2.fst≤(9223372036854775807:Nat)→
  bif (↑(List.length x.2.fst):Int) != (64:Int) then nat_lit 8=nat_lit 8∧nat_lit 8=nat_lit 8∧nat_lit 8=nat_lit 8∧(([(0:Int),(0:Int),(0:Int),(0:Int),(0:Int),(0:Int),(0:Int),(0:Int)],(1:Int),()),())=((blk x.fst x.2.fst,(0:Int),()),()) else List.length x.2.fst=(64:Nat)∧nat_lit 64=nat_lit 64∧List.length (sch x.2.fst)=nat_lit 64∧List.length x.fst=nat_lit 8∧nat_lit 8=nat_lit 8∧List.length x.fst=nat_lit 8∧((0:Int)≤(0:Int)∧(0:Int)≤(64:Int)∧x.fst=blkV x.fst (sch x.2.fst) (Int.toNat (0:Int)))∧∀ (v:Int×List Int×Unit),(0:Int)≤v.fst∧v.fst≤(64:Int)∧v.2.fst=blkV x.fst (sch x.2.fst) (Int.toNat v.fst)→
  bif decide (v.fst < (64:Int)) then (0:Int)≤(0:Int)∧(0:Int) < Int.ofNat (8:Nat)∧nat_lit 0 < List.length v.2.fst∧∀ (x_1:Int),v.2.fst[nat_lit 0]?=some x_1→
  (0:Int)≤(4:Int)∧(4:Int) < Int.ofNat (8:Nat)∧nat_lit 4 < List.length v.2.fst∧∀ (x_2:Int),v.2.fst[nat_lit 4]?=some x_2→
  (0:Int)≤(7:Int)∧(7:Int) < Int.ofNat (8:Nat)∧nat_lit 7 < List.length v.2.fst∧∀ (x_3:Int),v.2.fst[nat_lit 7]?=some x_3→
  True∧True∧True∧(0:Int)≤(5:Int)∧(5:Int) < Int.ofNat (8:Nat)∧nat_lit 5 < List.length v.2.fst∧∀ (x_4:Int),v.2.fst[nat_lit 5]?=some x_4→
  (0:Int)≤(6:Int)∧(6:Int) < Int.ofNat (8:Nat)∧nat_lit 6 < List.length v.2.fst∧∀ (x_5:Int),v.2.fst[nat_lit 6]?=some x_5→
  (0:Int)≤v.fst∧v.fst < Int.ofNat (64:Nat)∧v.fst < Int.ofNat (nat_lit 64)∧∀ (c0:Int),tabL[Int.toNat v.fst]?=some c0→
  (0:Int)≤v.fst∧v.fst < Int.ofNat (64:Nat)∧Int.toNat v.fst < List.length (sch x.2.fst)∧∀ (x_6:Int),(sch x.2.fst)[Int.toNat v.fst]?=some x_6→
  True∧True∧True∧(0:Int)≤(1:Int)∧(1:Int) < Int.ofNat (8:Nat)∧nat_lit 1 < List.length v.2.fst∧∀ (x_7:Int),v.2.fst[nat_lit 1]?=some x_7→
  (0:Int)≤(2:Int)∧(2:Int) < Int.ofNat (8:Nat)∧nat_lit 2 < List.length v.2.fst∧∀ (x_8:Int),v.2.fst[nat_lit 2]?=some x_8→
  (0:Int)≤(1:Int)∧(1:Int) < Int.ofNat (8:Nat)∧nat_lit 1 < List.length v.2.fst∧∀ (x_9:Int),v.2.fst[nat_lit 1]?=some x_9→
  (0:Int)≤(2:Int)∧(2:Int) < Int.ofNat (8:Nat)∧nat_lit 2 < List.length v.2.fst∧∀ (x_10:Int),v.2.fst[nat_lit 2]?=some x_10→
  (8:Nat)≤List.length v.2.fst∧(0:Int)≤(1:Int)∧(1:Int)≤Int.ofNat (8:Nat)∧Int.ofNat (8:Nat)≤Int.ofNat (8:Nat)∧(1:Int) < Int.ofNat (8:Nat)∧(8:Nat)≤List.length v.2.fst∧(0:Int)≤(0:Int)∧(0:Int)≤(7:Int)∧(7:Int)≤Int.ofNat (8:Nat)∧(0:Int) < Int.ofNat (8:Nat)∧nat_lit 8≤List.length v.2.fst∧nat_lit 7≤List.length v.2.fst∧(0:Int)≤(4:Int)∧(4:Int) < Int.ofNat (8:Nat)∧nat_lit 4 < List.length (List.take (nat_lit 1) v.2.fst++List.take (min (nat_lit 7) (List.length (List.take (nat_lit 7) (List.drop (nat_lit 0) v.2.fst)))) (List.take (nat_lit 7) (List.drop (nat_lit 0) v.2.fst))++List.drop (nat_lit 1+min (nat_lit 7) (List.length (List.take (nat_lit 7) (List.drop (nat_lit 0) v.2.fst)))) v.2.fst)∧∀ (x_11:Int),(List.take (nat_lit 1) v.2.fst++List.take (min (nat_lit 7) (List.length (List.take (nat_lit 7) (List.drop (nat_lit 0) v.2.fst)))) (List.take (nat_lit 7) (List.drop (nat_lit 0) v.2.fst))++List.drop (nat_lit 1+min (nat_lit 7) (List.length (List.take (nat_lit 7) (List.drop (nat_lit 0) v.2.fst)))) v.2.fst)[nat_lit 4]?=some x_11→
  (0:Int)≤(4:Int)∧(4:Int) < Int.ofNat (8:Nat)∧nat_lit 4 < List.length (List.take (nat_lit 1) v.2.fst++List.take (min (nat_lit 7) (List.length (List.take (nat_lit 7) (List.drop (nat_lit 0) v.2.fst)))) (List.take (nat_lit 7) (List.drop (nat_lit 0) v.2.fst))++List.drop (nat_lit 1+min (nat_lit 7) (List.length (List.take (nat_lit 7) (List.drop (nat_lit 0) v.2.fst)))) v.2.fst)∧∀ (x0:Int),(List.take (nat_lit 1) v.2.fst++List.take (min (nat_lit 7) (List.length (List.take (nat_lit 7) (List.drop (nat_lit 0) v.2.fst)))) (List.take (nat_lit 7) (List.drop (nat_lit 0) v.2.fst))++List.drop (nat_lit 1+min (nat_lit 7) (List.length (List.take (nat_lit 7) (List.drop (nat_lit 0) v.2.fst)))) v.2.fst)[nat_lit 4]?=some x0→
  (0:Int)≤(0:Int)∧(0:Int) < Int.ofNat (8:Nat)∧nat_lit 0 < List.length (List.set (List.take (nat_lit 1) v.2.fst++List.take (min (nat_lit 7) (List.length (List.take (nat_lit 7) (List.drop (nat_lit 0) v.2.fst)))) (List.take (nat_lit 7) (List.drop (nat_lit 0) v.2.fst))++List.drop (nat_lit 1+min (nat_lit 7) (List.length (List.take (nat_lit 7) (List.drop (nat_lit 0) v.2.fst)))) v.2.fst) (nat_lit 4) (IntKind.wrap IntKind.u32 (x_11+IntKind.wrap IntKind.u32 (IntKind.wrap IntKind.u32 (IntKind.wrap IntKind.u32 (IntKind.wrap IntKind.u32 (x_3+xorI IntKind.u32 (xorI IntKind.u32 (down x_2 (6:Int)) (down x_2 (11:Int))) (down x_2 (25:Int)))+xorI IntKind.u32 (andI IntKind.u32 x_2 x_4) (andI IntKind.u32 (notI IntKind.u32 x_2) x_5))+c0)+x_6))))∧∀ (x0:Int),(List.set (List.take (nat_lit 1) v.2.fst++List.take (min (nat_lit 7) (List.length (List.take (nat_lit 7) (List.drop (nat_lit 0) v.2.fst)))) (List.take (nat_lit 7) (List.drop (nat_lit 0) v.2.fst))++List.drop (nat_lit 1+min (nat_lit 7) (List.length (List.take (nat_lit 7) (List.drop (nat_lit 0) v.2.fst)))) v.2.fst) (nat_lit 4) (IntKind.wrap IntKind.u32 (x_11+IntKind.wrap IntKind.u32 (IntKind.wrap IntKind.u32 (IntKind.wrap IntKind.u32 (IntKind.wrap IntKind.u32 (x_3+xorI IntKind.u32 (xorI IntKind.u32 (down x_2 (6:Int)) (down x_2 (11:Int))) (down x_2 (25:Int)))+xorI IntKind.u32 (andI IntKind.u32 x_2 x_4) (andI IntKind.u32 (notI IntKind.u32 x_2) x_5))+c0)+x_6))))[nat_lit 0]?=some x0→
  ((0:Int)≤IntKind.wrap IntKind.i64 (v.fst+(1:Int))∧IntKind.wrap IntKind.i64 (v.fst+(1:Int))≤(64:Int)∧List.set (List.set (List.take (nat_lit 1) v.2.fst++List.take (min (nat_lit 7) (List.length (List.take (nat_lit 7) (List.drop (nat_lit 0) v.2.fst)))) (List.take (nat_lit 7) (List.drop (nat_lit 0) v.2.fst))++List.drop (nat_lit 1+min (nat_lit 7) (List.length (List.take (nat_lit 7) (List.drop (nat_lit 0) v.2.fst)))) v.2.fst) (nat_lit 4) (IntKind.wrap IntKind.u32 (x_11+IntKind.wrap IntKind.u32 (IntKind.wrap IntKind.u32 (IntKind.wrap IntKind.u32 (IntKind.wrap IntKind.u32 (x_3+xorI IntKind.u32 (xorI IntKind.u32 (down x_2 (6:Int)) (down x_2 (11:Int))) (down x_2 (25:Int)))+xorI IntKind.u32 (andI IntKind.u32 x_2 x_4) (andI IntKind.u32 (notI IntKind.u32 x_2) x_5))+c0)+x_6)))) (nat_lit 0) (IntKind.wrap IntKind.u32 (IntKind.wrap IntKind.u32 (IntKind.wrap IntKind.u32 (IntKind.wrap IntKind.u32 (IntKind.wrap IntKind.u32 (x_3+xorI IntKind.u32 (xorI IntKind.u32 (down x_2 (6:Int)) (down x_2 (11:Int))) (down x_2 (25:Int)))+xorI IntKind.u32 (andI IntKind.u32 x_2 x_4) (andI IntKind.u32 (notI IntKind.u32 x_2) x_5))+c0)+x_6)+IntKind.wrap IntKind.u32 (xorI IntKind.u32 (xorI IntKind.u32 (down x_1 (2:Int)) (down x_1 (13:Int))) (down x_1 (22:Int))+xorI IntKind.u32 (xorI IntKind.u32 (andI IntKind.u32 x_1 x_7) (andI IntKind.u32 x_1 x_8)) (andI IntKind.u32 x_9 x_10))))=blkV x.fst (sch x.2.fst) (Int.toNat (IntKind.wrap IntKind.i64 (v.fst+(1:Int)))))∧Int.toNat ((64:Int) - IntKind.wrap IntKind.i64 (v.fst+(1:Int))) < Int.toNat ((64:Int) - v.fst) else ((0:Int)≤(0:Int)∧(0:Int)≤(8:Int)∧x.fst=blkH x.fst (blkV x.fst (sch x.2.fst) (64:Nat)) (Int.toNat (0:Int)))∧∀ (v_1:Int×List Int×Unit),(0:Int)≤v_1.fst∧v_1.fst≤(8:Int)∧v_1.2.fst=blkH x.fst (blkV x.fst (sch x.2.fst) (64:Nat)) (Int.toNat v_1.fst)→
  bif decide (v_1.fst < (8:Int)) then (0:Int)≤v_1.fst∧v_1.fst < Int.ofNat (8:Nat)∧Int.toNat v_1.fst < List.length v_1.2.fst∧∀ (x_1:Int),v_1.2.fst[Int.toNat v_1.fst]?=some x_1→
  (0:Int)≤v_1.fst∧v_1.fst < Int.ofNat (8:Nat)∧Int.toNat v_1.fst < List.length v.2.fst∧∀ (x_2:Int),v.2.fst[Int.toNat v_1.fst]?=some x_2→
  (0:Int)≤v_1.fst∧v_1.fst < Int.ofNat (8:Nat)∧Int.toNat v_1.fst < List.length v_1.2.fst∧∀ (x0:Int),v_1.2.fst[Int.toNat v_1.fst]?=some x0→
  ((0:Int)≤IntKind.wrap IntKind.i64 (v_1.fst+(1:Int))∧IntKind.wrap IntKind.i64 (v_1.fst+(1:Int))≤(8:Int)∧List.set v_1.2.fst (Int.toNat v_1.fst) (IntKind.wrap IntKind.u32 (x_1+x_2))=blkH x.fst (blkV x.fst (sch x.2.fst) (64:Nat)) (Int.toNat (IntKind.wrap IntKind.i64 (v_1.fst+(1:Int)))))∧Int.toNat ((8:Int) - IntKind.wrap IntKind.i64 (v_1.fst+(1:Int))) < Int.toNat ((8:Int) - v_1.fst) else List.length v_1.2.fst=nat_lit 8∧nat_lit 8=nat_lit 8∧List.length v_1.2.fst=nat_lit 8∧List.length v_1.2.fst=nat_lit 8∧((v_1.2.fst,(0:Int),()),())=((blk x.fst x.2.fst,(0:Int),()),()))):=by kernel_rfl
theorem en_blk (us:Array Value) (u:World):(callFunc 156 us).run Tryz.prog u=.ok (.enter 156 us) u:=by kernel_rfl
theorem sc_blk:SC Tryz.prog 156 S_blk:=by
  refine SC.of Tryz.func156 (c:=bodyOf Tryz.f156) (by kernel_rfl) (by kernel_rfl) (fun x=>(by decide:(2:Nat)≤Tryz.f156.ntmps)) (DOk.cons sc_down en_down (DOk.cons sc_sch en_sch DOk.nil)) (Eq.mpr vc_blk ?_)
  rintro ⟨h,l,⟨⟩⟩ ⟨hh,hl⟩ -
  dsimp only at hh hl ⊢
  have sl:(sch l).length=64:=schB_len l 48
  refine ⟨by omega,fun _=>?_⟩
  rw [show (((l.length:Nat):Int) != 64)=false by rw [hl];rfl,cond_false]
  refine ⟨hl,rfl,sl,hh,rfl,hh,⟨by omega,by omega,rfl⟩,?_⟩
  rintro ⟨i,v,⟨⟩⟩ ⟨h0,h1,hv⟩
  dsimp only at h0 h1 hv ⊢
  have vl:v.length=8:=by rw [hv];exact blkV_len _ _ hh _
  have wi:IntKind.i64.wrap (i+1)=i+1:=IntWalk.i64_in _ (by omega)
  by_cases hi:i < 64
  · rw [decide_eq_true hi,cond_true]
    have hu:List.take 1 v++List.take (min 7 (List.length (List.take 7 (List.drop 0 v)))) (List.take 7 (List.drop 0 v))++List.drop (1+min 7 (List.length (List.take 7 (List.drop 0 v)))) v=v.take 1++(v.take 7).take 7++v.drop 8:=by
      rw [List.drop_zero,List.length_take,vl];rfl
    have hul:(v.take 1++(v.take 7).take 7++v.drop 8).length=8:=by simp only [List.length_append,List.length_take,List.length_drop,vl];omega
    simp only [hu,vl,hul,List.length_set,wi,sl,true_and]
    refine ⟨by omega,by decide,by decide,fun v0 e0=>⟨by omega,by decide,by decide,fun v4 e4=>⟨by omega,by decide,by decide,fun v7 e7=>⟨by omega,by decide,by decide,fun v5 e5=>⟨by omega,by decide,by decide,fun v6 e6=>⟨by omega,by simp;omega,by simp;omega,fun c0 ec=>⟨by omega,by simp;omega,by omega,fun x6 e6'=>?_⟩⟩⟩⟩⟩⟩⟩
    refine ⟨by omega,by decide,by decide,fun v1 e1=>⟨by omega,by decide,by decide,fun v2 e2=>⟨by omega,by decide,by decide,fun v1' e1'=>⟨by omega,by decide,by decide,fun v2' e2'=>?_⟩⟩⟩⟩
    obtain rfl:=Option.some.inj (e1.symm.trans e1')
    obtain rfl:=Option.some.inj (e2.symm.trans e2')
    refine ⟨by decide,by decide,by decide,by decide,by decide,by decide,by decide,by decide,by decide,by decide,by decide,by decide,by decide,by decide,by decide,fun x11 e11=>⟨by decide,by decide,by decide,fun y0 _=>⟨by decide,by decide,by decide,fun y1 _=>⟨⟨by omega,by omega,?_⟩,by omega⟩⟩⟩⟩
    rw [show (i+1).toNat=i.toNat+1 by omega]
    show _=blkStep (blkV h (sch l) i.toNat) ((sch l).getD i.toNat 0) (tabL.getD i.toNat 0)
    rw [← hv,getD_of ec rfl,getD_of e6' rfl]
    simp only [blkStep,getD_of e0 rfl,getD_of e1 rfl,getD_of e2 rfl,getD_of e4 rfl,getD_of e5 rfl,getD_of e6 rfl,getD_of e7 rfl,getD_of e11 rfl]
    rfl
  · rw [decide_eq_false hi,cond_false]
    obtain rfl:i=64:=by omega
    have hv':v=blkV h (sch l) 64:=hv
    clear hv
    refine ⟨⟨Int.le_refl 0,by decide,(blkH_0 _ _).symm⟩,?_⟩
    rintro ⟨i,u,⟨⟩⟩ ⟨h0,h1,hu⟩
    dsimp only at h0 h1 hu ⊢
    have ul:u.length=8:=by rw [hu];exact blkH_len _ _ hh _
    have wi:IntKind.i64.wrap (i+1)=i+1:=IntWalk.i64_in _ (by omega)
    by_cases hi:i < 8
    · rw [decide_eq_true hi,cond_true]
      simp only [ul,vl,wi]
      refine ⟨by omega,by simp;omega,by omega,fun x1 e1=>⟨by omega,by simp;omega,by omega,fun x2 e2=>⟨by omega,by simp;omega,by omega,fun x0 _=>⟨⟨by omega,by omega,?_⟩,by omega⟩⟩⟩⟩
      rw [show (i+1).toNat=i.toNat+1 by omega]
      show _=(blkH h (blkV h (sch l) 64) i.toNat).set i.toNat (IntKind.u32.wrap ((blkH h (blkV h (sch l) 64) i.toNat).getD i.toNat 0+(blkV h (sch l) 64).getD i.toNat 0))
      rw [← hu,← hv',getD_of e1 rfl,getD_of e2 rfl]
    · rw [decide_eq_false hi,cond_false]
      obtain rfl:i=8:=by omega
      exact ⟨ul,rfl,ul,ul,by rw [hu];rfl⟩
end Go.Proofs.YtjkbkhjalimebaaGreatDoor
namespace Go.Proofs.YtjkbkhjalimebaaGreatDoor
open Go.RowKit Go.Shelf
attribute [local go_sem] Oper.semAt_some
set_option linter.unusedVariables false
set_option linter.unusedSimpArgs false
def upto (N:Nat):(k:Nat)→k≤N→List (Fin N)
  | 0,_=>[]
  | k+1,h=>upto N k (Nat.le_of_succ_le h)++[⟨k,h⟩]
theorem upto_len {N:Nat}:∀ {k:Nat} (h:k≤N),(upto N k h).length=k
  | 0,_=>rfl
  | k+1,h=>by simp [upto,upto_len (Nat.le_of_succ_le h)]
theorem upto_val {N:Nat}:∀ {k:Nat} (h:k≤N),(upto N k h).map (·.val)=List.range k
  | 0,_=>rfl
  | k+1,h=>by simp [upto,upto_val (Nat.le_of_succ_le h),List.range_succ]
def KpB (b1 b2:Nat) (W W':World):Prop:=W'.heap[b1]?=W.heap[b1]?∧W'.heap[b2]?=W.heap[b2]?
theorem KpB.t {b1 b2:Nat} {A B C:World} (h:KpB b1 b2 A B) (k:KpB b1 b2 B C):KpB b1 b2 A C:=⟨k.1.trans h.1,k.2.trans h.2⟩
set_option maxRecDepth 100000 in
set_option maxHeartbeats 2000000 in
theorem blocks1_in (l Bs b2 bp off cap N:Nat) (hcap:64*N≤cap) (hcm:64*N≤1000000000000) (J Jx:List (Fin N)→World→Prop)
    (hY:∀ pre (x:Fin N) W,J pre W→pre.length < N→YieldAt Fence.wide 4 Tryz.prog l #[.slice (some ⟨bp,off+64*x.val,none⟩) 64 (cap - 64*x.val)] W fun e W'=>
      (e=.returned (.bool true)∧J (pre++[x]) W'∧KpB Bs b2 W W')∨(e=.returned (.bool false)∧Jx (pre++[x]) W'))
    (W:World) (hBs:W.heap[Bs]?=some (.cells #[.slice (some ⟨bp,off,none⟩) (64*N) cap] 22 (0,0))) (h0:J [] W):
    CallsIn Fence.wide 5 Tryz.prog 158 #[.func (.yield l) #[] #[],.pointer (some ⟨Bs,0,none⟩)] W fun e W'=>(∃ v,e=.returned v)∧
      ((∃ ys,ys=upto N N (Nat.le_refl _)∧J ys W')∨(∃ pre,True∧Jx pre W')):=by
  refine callsIn_of_wp Tryz.func158 rfl trivial ?_ rfl
  simp only [Tryz.ntmps158,List.size_toArray,List.length_cons,List.length_nil,Nat.reduceAdd,Nat.reduceSub,Array.replicate_succ,Array.replicate_zero,List.push_toArray,List.append_toArray,List.nil_append,List.cons_append]
  gi_wp2
  gi_loopw [3] (fun i wr=>∃ (k:Nat) (hk:k≤N),i=.int .i64 (64*(k:Int))∧J (upto N k hk) wr∧KpB Bs b2 W wr)
    (fun i _=>64*N - (intOf i).toNat)
  case atStart=>exact ⟨0,Nat.zero_le _,rfl,h0,rfl,rfl⟩
  case round=>
    obtain ⟨k,hk,rfl,hJs,hnx⟩:=hrel
    have hc:wr.cell? ⟨Bs,0,none⟩=some (.slice (some ⟨bp,off,none⟩) (64*N) cap):=by
      unfold World.cell?
      rw [hnx.1,hBs]
      rfl
    have w1:wrap64 (64*(k:Int)+64)=64*(k:Int)+64:=by unfold wrap64;omega
    by_cases hlt:k < N
    · obtain ⟨fn,tmps,assign,body,hy,hR⟩:=hY _ ⟨k,hlt⟩ wr hJs (by rw [upto_len];exact hlt)
      dsimp only at hy
      gi_wp2
      refine hR.mono ?_
      rintro e W3 (⟨rfl,hJ3,hk3⟩ | ⟨rfl,hJx3⟩)
      · gi_wp2
        go_roundw
        case rel=>exact ⟨k+1,hlt,by congr 1,hJ3,hnx.t hk3⟩
        case measure=>simp [intOf];omega
      · gi_wp2
        refine bodyPost_ret (results_none rfl _ _ _) rfl ?_
        exact ⟨⟨_,rfl⟩,.inr ⟨_,trivial,hJx3⟩⟩
    · obtain rfl:k=N:=by omega
      gi_wp2
      go_end0
      exact ⟨⟨_,rfl⟩,.inl ⟨_,rfl,hJs⟩⟩
set_option maxHeartbeats 1000000 in
theorem blocks_in (a:Option Addr) (len cap:Nat) (w:World):
    Calls Tryz.prog 154 #[.slice a len cap] w fun e w'=>e=.returned (.func (.func 158) #[] #[.pointer (some ⟨w.heap.size,0,none⟩)])∧w'=w.alloc (.cells #[.slice a len cap] 22):=by
  refine (callsIn_wide (n:=3)).1 ?_
  refine callsIn_of_wp Tryz.func154 rfl trivial ?_ rfl
  simp only [Tryz.ntmps154,List.size_toArray,List.length_cons,List.length_nil,Nat.reduceAdd,Nat.reduceSub,Array.replicate_succ,Array.replicate_zero,List.push_toArray,List.append_toArray,List.nil_append,List.cons_append]
  gi_wp2
  go_ret
  exact ⟨rfl,rfl⟩
theorem blocks_stops (Bs b2 bp off cap N:Nat) (hcap:64*N≤cap) (hcm:64*N≤1000000000000) (w:World) (hlt:Bs < w.heap.size) (hBs:w.heap[Bs]?=some (.cells #[.slice (some ⟨bp,off,none⟩) (64*N) cap] 22 (0,0))):
    SeqStopsK Fence.wide 5 Tryz.prog 158 #[.pointer (some ⟨Bs,0,none⟩)] (fun x:Fin N=>#[.slice (some ⟨bp,off+64*x.val,none⟩) 64 (cap - 64*x.val)]) (KpB Bs b2) (fun ys=>ys=upto N N (Nat.le_refl _)) (fun _=>True) N w:=fun l J Jx W hW _ _ hY h0=>
  blocks1_in l Bs b2 bp off cap N hcap hcm J Jx hY W ((hW.block Bs hlt).trans hBs) h0
end Go.Proofs.YtjkbkhjalimebaaGreatDoor
namespace Go.Proofs.YtjkbkhjalimebaaGreatDoor
open Go.RowKit
set_option linter.unusedVariables false
set_option linter.unusedSimpArgs false
theorem SC.use {P:Program} {f:FuncId} {S:Spec} (h:SC P f S) (hnv:S.sig.nv=0) (hfv:S.fin.nv=0) (x:S.sig.V) (hx:S.pre x) (hbs:(S.inU x).bs=[]) {w:World} (ht:TabIn w) (hb2:(S.outU (S.fn x)).bs=[]) {U:Nat→Prop} {vs:List Value} (hl:vs.length=(S.inU x).cs.length)
    (hv:∀ (i:Nat) (y:TV) (v:Value),(S.inU x).cs[i]?=some y→vs[i]?=some v→VA E0 w NoF U w.heap.size (denV (fun _=>.free) y) v):
    Calls P f vs.toArray w fun e w'=>∃ v,e=.returned v∧Below w.heap.size w w'∧∃ E',VA E' w' NoF U w.heap.size (denV (fun _=>.free) ((S.outU (S.fn x)).cs.headD .und)) v:=by
  have h1:=h (by rw [hnv,hfv]) x hx w U E0 vs
  have hB:bsOf (S.inU x).bs=fun _=>TB.free:=by rw [hbs];rfl
  have hB2:bsOf (S.outU (S.fn x)).bs=fun _=>TB.free:=by rw [hb2];rfl
  have hF:Fof E0 (fun g=>denB (bsOf (S.inU x).bs) (bsOf (S.inU x).bs g))=NoF:=by
    rw [hB]
    funext b
    exact propext ⟨fun ⟨g,q1,_⟩=>q1,False.elim⟩
  refine (h1 ?_ ?_ ?_ ?_).mono ?_
  · refine ⟨Cx.call_kept _ _ _ _ (fun g hg=>by rw [hnv] at hg;exact absurd hg (Nat.not_lt_zero _)) ht (fun g x _ hf=>by rw [hF] at hf;exact hf),⟨fun b hb=>by
      have hb':Fof E0 (fun g=>denB (bsOf (S.inU x).bs) (bsOf (S.inU x).bs g)) b:=hb
      rw [hF] at hb';exact hb'.elim,fun g b hp=>hp.2.1.elim⟩,fun g=>?_,fun g g' hg=>?_⟩
    · rw [hB];exact id
    · rw [hB] at hg;exact hg.elim
  · intro g hg
    rw [hnv] at hg
    exact absurd hg (Nat.not_lt_zero _)
  · rw [List.length_map,hl]
  · intro i y v hy hv'
    rw [List.getElem?_map] at hy
    obtain ⟨z,hz,rfl⟩:=Option.map_eq_some_iff.1 hy
    rw [hF,hB]
    exact hv i z v hz hv'
  · rintro e w' ⟨r,B',v,E',⟨rfl,rfl⟩,rfl,hm,hva⟩
    have hk:=hm.below
    refine ⟨v,rfl,⟨hk.below.os,hk.below.tape,hk.below.output,hk.below.size,fun b hb=>hk.keep b hb fun hh=>?_⟩,E',?_⟩
    · have hh':Fof E0 (fun g=>denB (bsOf (S.inU x).bs) (bsOf (S.inU x).bs g)) b:=hh
      rw [hF] at hh'
      exact hh'
    · have hF2:Fof E' (fun g=>denB (bsOf (S.outU (S.fn x)).bs) (bsOf (S.outU (S.fn x)).bs g))=NoF:=by
        rw [hB2]
        funext b
        exact propext ⟨fun ⟨g,q1,_⟩=>q1,False.elim⟩
      rw [hF2,hB2] at hva
      exact hva
theorem dS (k:IntKind) (l:List Int):denS (T:=.int k) l=l.map fun x=>[D.int k x]:=rfl
theorem dArr (k:IntKind) (B:Nat→TB):∀ (l:List Int),denV B (.arr (.int k) l)=.agg (l.map fun x=>AV.d (.int k x)):=fun l=>by
  simp only [denV]
  rw [dS]
  congr 1
  induction l with
  | nil=>rfl
  | cons x l ih=>exact congrArg (AV.d (.int k x)::·) ih
theorem view_cells {k:IntKind} {w:World} {F U:Nat→Prop} {base:Nat} {l:List Int} {v:Value} (h:VD w F U base (.view 1 (denS (T:=.int k) l)) v) (hne:l≠[]):
    ∃ b off cap,v=.slice (some ⟨b,off,none⟩) l.length cap∧l.length≤cap∧cap≤maxLen∧(U b∨base≤b)∧¬ F b∧b < w.heap.size∧∀ i x,l[i]?=some x→w.cell? ⟨b,off+i,none⟩=some (.int k x):=by
  cases h with
  | view u hl hc hm hz hsz hat hV =>
    cases l with
    | nil=>exact absurd rfl hne
    | cons y l =>
      obtain ⟨b,off,rfl,⟨h1,h2,h3⟩,_⟩:=hat 0 (flatD (.int k) y) rfl
      rw [dS,List.length_map] at hl
      subst hl
      refine ⟨b,off,_,rfl,hc,hm,h3 rfl,h2,h1,fun i x hx=>?_⟩
      have hx':(denS (T:=.int k) (y::l))[i]?=some (flatD (.int k) x):=by
        have h6:((y::l).map fun x=>[D.int k x])[i]?=some [D.int k x]:=by rw [List.getElem?_map,hx];rfl
        exact h6
      obtain ⟨b',off',he,_,h5⟩:=hat i _ hx'
      cases he
      have h6:=h5 0 (by decide)
      have h7:=hV i _ 0 (.int k x) hx' rfl
      rw [Nat.mul_one,Nat.add_zero] at h6
      rw [h6]
      generalize u i 0=q at h7
      cases h7
      rfl
theorem lent_cells {k:IntKind} {E:Env} {w:World} {F U:Nat→Prop} {base:Nat} {l:List Int} {b off cap:Nat} (hc:l.length≤cap) (hm:cap≤maxLen) (hF:¬ F b) (hb:b < w.heap.size) (h:∀ i x,l[i]?=some x→w.cell? ⟨b,off+i,none⟩=some (.int k x)):
    VA E w F U base (.lent 1 (denS (T:=.int k) l)) (.slice (some ⟨b,off,none⟩) l.length cap):=by
  refine .lent (fun i _=>.int k (l.getD i 0)) (by rw [dS,List.length_map]) hc hm (fun h=>by cases h) (fun i x hx=>?_) (fun i x hx=>?_) (fun i x j d hx hd=>?_)
  · obtain ⟨y,_,rfl⟩:=List.mem_map.1 (List.mem_of_getElem? hx);rfl
  · rw [dS,List.getElem?_map] at hx
    obtain ⟨y,hy,rfl⟩:=Option.map_eq_some_iff.1 hx
    refine ⟨b,off,rfl,⟨hb,hF,fun h=>by cases h⟩,fun j hj=>?_⟩
    obtain rfl:j=0:=by omega
    rw [Nat.mul_one,Nat.add_zero,h i y hy,List.getD_eq_getElem?_getD,hy]
    rfl
  · rw [dS,List.getElem?_map] at hx
    obtain ⟨y,hy,rfl⟩:=Option.map_eq_some_iff.1 hx
    cases j with
    | zero =>
      obtain rfl:D.int k y=d:=by simpa [flatD] using hd
      rw [List.getD_eq_getElem?_getD,hy]
      exact .int _ _
    | succ j=>simp [flatD] at hd
theorem VD.more {w:World} {F F' U U':Nat→Prop} {base base':Nat} (hF:∀ b,b < w.heap.size→¬ F b→¬ F' b) (hU:∀ b,b < w.heap.size→U b∨base≤b→U' b∨base'≤b) {x:D} {v:Value} (h:VD w F U base x v):VD w F' U' base' x v:=by
  induction h with
  | int=>exact .int _ _
  | bool=>exact .bool _
  | view u hl hc hm hz hsz hat hV ih =>
    refine .view u hl hc hm hz hsz (fun i x hx=>?_) ih
    obtain ⟨b,off,ha,⟨h1,h2,h3⟩,h5⟩:=hat i x hx
    exact ⟨b,off,ha,⟨h1,hF b h1 h2,fun h=>hU b h1 (h3 h)⟩,h5⟩
theorem arr_val {k:IntKind} {E:Env} {w:World} {F U:Nat→Prop} {base:Nat} {B:Nat→TB} {l:List Int} {v:Value} (h:VA E w F U base (denV B (.arr (.int k) l)) v):v=.agg (l.map (Value.int k)).toArray:=by
  have e:=dArr k B l
  rw [e] at h
  cases h with
  | @agg _ us hl h =>
    congr 2
    rw [List.length_map] at hl
    apply List.ext_getElem?
    intro i
    rw [List.getElem?_map]
    cases hx:l[i]? with
    | none =>
      rw [List.getElem?_eq_none_iff] at hx
      simp;omega
    | some x =>
      have hlt:=(List.getElem?_eq_some_iff.1 hx).1
      have hu:us[i]?=some (us[i]'(by omega)):=List.getElem?_eq_getElem (by omega)
      have h1:=h i _ _ (by rw [List.getElem?_map,hx];rfl) hu
      rw [hu]
      generalize (us[i]'(by omega))=q at h1
      cases h1 with
      | d h2=>cases h2;rfl
def BB (k:IntKind) (e:TypeId) (hs:List Int):Nat→TB:=fun g=>bif Nat.beq g 0 then .row (.int k) e hs else .free
def EB (b n:Nat):Env:=⟨fun _=>b,fun _=>1,fun _=>n,fun _=>false,fun g=>g=0⟩
def CB (W:World) (b n:Nat) (ds:List Nat):Cx:=⟨W,fun k=>k=b,fun g x=>g=0∧x=(b,1,n,false),ds⟩
theorem BB_F {k:IntKind} {e:TypeId} {hs:List Int} {b n:Nat}:Fof (EB b n) (fun g=>denB (BB k e hs) (BB k e hs g))=fun q=>q=b:=by
  funext q
  apply propext
  constructor
  · rintro ⟨g,_,rfl⟩
    rfl
  · rintro rfl
    exact ⟨0,rfl,rfl⟩
theorem TRel.box {k:IntKind} {W:World} (hT:TabIn W) {b nt:Nat} {e:TypeId} {hs:List Int} (he:Nat.blt e 1000=true) (hb:W.heap[b]?=some (.cells (hs.map (Value.int k)).toArray e (0,0))) (htb:∀ g x,tabAt g=some x→g≠b) (hm:hs.length≤maxLen) {ds:List Nat} (hds:∀ D∈ds,W.heap[D]?=some (.deferred (some [])))
    {a:Act} (hsz:a.tmps.size=nt) (hd:a.defers=ds.map (fun D=>{ target:=.collected D,args:=#[] })) {f:Nat→TV}
    (ht:∀ t,VA (EB b hs.length) W (fun q=>q=b) (fun q=>q=b) W.heap.size (denV (BB k e hs) (f t)) (a.tmps.getD t undef)):
    TRel (CB W b hs.length ds) (fun q=>q=b) nt ⟨f,BB k e hs⟩ (EB b hs.length) a W:=by
  refine ⟨⟨⟨Below.refl _ _,fun _ _ _=>rfl,fun g x hp=>by rw [hp.1];decide,hT,fun g x hg h=>htb g x hg h⟩,⟨fun q h=>h,fun g x hp=>⟨hp.1,hp.2.symm⟩⟩,fun g=>?_,fun g g' h1 h2 _=>?_⟩,hsz,⟨hd,hds⟩,fun t=>?_⟩
  · show BlkOk _ _ _ _ _ g (denB (BB k e hs) (BB k e hs g))
    cases g with
    | zero =>
      show BlkOk _ _ _ _ _ 0 (.row 1 e (denS (T:=.int k) hs))
      refine ⟨rfl,rfl,Nat.one_pos,hm,.of he (by rw [dS,List.length_map];exact Nat.le_refl _),(fun h=>by cases h),fun _=>⟨.inr rfl,_,by rw [rty_of he];exact hb,by rw [List.size_toArray,List.length_map,Nat.mul_one];rfl,fun i x hx=>?_⟩⟩
      rw [dS,List.getElem?_map] at hx
      obtain ⟨y,hy,rfl⟩:=Option.map_eq_some_iff.1 hx
      refine ⟨rfl,fun j d hd=>?_⟩
      cases j with
      | zero =>
        obtain rfl:D.int k y=d:=by simpa [flatD] using hd
        exact ⟨.int k y,by rw [Nat.mul_one,Nat.add_zero,List.getElem?_toArray,List.getElem?_map,hy];rfl,.int _ _⟩
      | succ j=>simp [flatD] at hd
    | succ g=>exact fun h=>by cases h
  · cases g with
    | zero =>
      cases g' with
      | zero=>rfl
      | succ g'=>exact h2.elim
    | succ g=>exact h1.elim
  · show VA _ _ (Fof (EB b hs.length) (fun g=>denB (BB k e hs) (BB k e hs g))) _ _ _ _
    rw [BB_F]
    exact ht t
theorem TRel.boxed {k:IntKind} {W W':World} {b n nt:Nat} {ds:List Nat} {U:Nat→Prop} {σ:TS} {E:Env} {a:Act} (h:TRel (CB W b n ds) U nt σ E a W') {e:TypeId} {hs:List Int} (he:Nat.blt e 1000=true) (hs0:σ.blk 0=.row (.int k) e hs) (hn:hs.length=n):
    W'.heap[b]?=some (.cells (hs.map (Value.int k)).toArray e (0,0)):=by
  have hp:=(h.mem.pins.2 0 (b,1,n,false) ⟨rfl,rfl⟩).2
  unfold Env.at_ at hp
  simp only [Prod.mk.injEq] at hp
  obtain ⟨p1,p2,p3,p4⟩:=hp
  have hbl:=h.mem.blk 0
  rw [show σ.den.blk 0=.row 1 e (denS (T:=.int k) hs) by show denB _ (σ.blk 0)=_;rw [hs0];rfl] at hbl
  obtain ⟨_,_,_,_,_,_,h7⟩:=hbl
  obtain ⟨_,cur,h8,h9,h10⟩:=h7 p4
  rw [p1,rty_of he] at h8
  rw [h8]
  congr 2
  rw [p3,Nat.mul_one,← hn] at h9
  apply Array.ext'
  apply List.ext_getElem?
  intro i
  rw [List.toList_toArray,List.getElem?_map,Array.getElem?_toList]
  cases hx:hs[i]? with
  | none =>
    rw [List.getElem?_eq_none_iff] at hx
    simp;omega
  | some x =>
    obtain ⟨_,h11⟩:=h10 i (flatD (.int k) x) (by rw [dS,List.getElem?_map,hx];rfl)
    obtain ⟨u,h12,h13⟩:=h11 0 (.int k x) rfl
    rw [Nat.mul_one,Nat.add_zero] at h12
    rw [h12]
    cases h13
    rfl
theorem TRel.rest {W W':World} {b n nt:Nat} {ds:List Nat} {U:Nat→Prop} {σ:TS} {E:Env} {a:Act} (h:TRel (CB W b n ds) U nt σ E a W'):Below 0 W W'∧W.heap.size≤W'.heap.size∧∀ k,k < W.heap.size→k≠b→W'.heap[k]?=W.heap[k]?:=
  ⟨h.mem.below.below,h.mem.below.size,fun k hk hn=>h.mem.below.keep k hk hn⟩
theorem SC.own {P:Program} {f:FuncId} {S:Spec} (k:IntKind) (e:TypeId) (he:Nat.blt e 1000=true) (hnv:S.sig.nv=0) (hbs:∀ x,(S.inU x).bs=[]) (g:S.sig.V→List Int) (ho1:∀ x,(S.outU (S.fn x)).cs=[.own 0]) (ho2:∀ x,(S.outU (S.fn x)).bs=[(0,.row (.int k) e (g x))])
    (h:∀ x,S.pre x→∀ (w:World) (U:Nat→Prop) (E:Env) (vs:List Value),TabIn w→vs.length=(S.inU x).cs.length→(∀ (i:Nat) (y:TV) (v:Value),(S.inU x).cs[i]?=some y→vs[i]?=some v→VA E w NoF U w.heap.size (denV (fun _=>.free) y) v)→
      Calls P f vs.toArray w fun en w'=>∃ a n cap,en=.returned (.slice a n cap)∧Below w.heap.size w w'∧w'.ownsRow w.heap.size e 1 (.slice a n cap) n ((g x).map (Value.int k))):SC P f S:=fun _ x hx w U E vs hm hkn hl hv=>by
  have hB:bsOf (S.inU x).bs=fun _=>TB.free:=by rw [hbs];rfl
  have hF:Fof E (fun g=>denB (bsOf (S.inU x).bs) (bsOf (S.inU x).bs g))=NoF:=by
    rw [hB]
    funext b
    exact propext ⟨fun ⟨g,q1,_⟩=>q1,False.elim⟩
  rw [List.length_map] at hl
  refine (h x hx w U E vs hm.below.tabIn hl fun i y v hy hv'=>?_).mono ?_
  · have:=hv i (denV (bsOf (S.inU x).bs) y) v (by rw [List.getElem?_map,hy];rfl) hv'
    rw [hF,hB] at this
    exact this
  · rintro en w' ⟨a,n,cap,rfl,hbl,hown⟩
    have hB2:bsOf (S.outU (S.fn x)).bs=fun q=>if q=0 then TB.row (.int k) e (g x) else .free:=by
      rw [ho2]
      funext q
      show upd (fun _=>TB.free) 0 _ q=_
      by_cases hq:q=0
      · subst hq;rw [upd_same,if_pos rfl]
      · rw [upd_other _ _ _ hq,if_neg hq]
    have hn:(g x).length=n:=by have:=hown.1;rw [List.length_map] at this;omega
    have key:∀ (b c:Nat) (vr:Bool),c≤maxLen→n≤c→(vr=true→c=0)→(vr=false→w.heap.size≤b∧∃ cur:Array Value,w'.heap[b]?=some (.cells cur e (0,0))∧cur.size=c*1∧∀ (i:Nat) (y:Int),(g x)[i]?=some y→cur[i]?=some (.int k y))→
        VA ⟨fun _=>b,fun _=>1,fun _=>c,fun _=>vr,fun q=>q=0⟩ w' (Fof ⟨fun _=>b,fun _=>1,fun _=>c,fun _=>vr,fun q=>q=0⟩ (fun q=>denB (bsOf (S.outU (S.fn x)).bs) (bsOf (S.outU (S.fn x)).bs q))) U w.heap.size (.own 0 0 n) (.slice a n cap)→
        ∃ r B' v E',(r=denV (bsOf (S.outU (S.fn x)).bs) ((S.outU (S.fn x)).cs.headD .und)∧B'=fun g=>denB (bsOf (S.outU (S.fn x)).bs) (bsOf (S.outU (S.fn x)).bs g))∧Ending.returned (.slice a n cap)=.returned v∧Mem (Cx.call w (Fof E fun g=>denB (bsOf (S.inU x).bs) (bsOf (S.inU x).bs g)) (· < S.sig.nv) E) U B' E' w'∧VA E' w' (Fof E' B') U w.heap.size r v:=fun b c vr hc1 hc2 hc3 hc4 hva=>by
      refine ⟨_,_,_,⟨fun _=>b,fun _=>1,fun _=>c,fun _=>vr,fun q=>q=0⟩,⟨rfl,rfl⟩,rfl,⟨⟨⟨hbl.os,hbl.tape,hbl.output,hbl.size,fun k hk=>absurd hk (Nat.not_lt_zero _)⟩,fun b hb _=>hbl.block b hb,hm.below.pl,hm.below.tab,hm.below.tabh⟩,⟨hm.pins.1,fun q z hp=>?_⟩,fun q=>?_,fun q q' h1 h2 _=>?_⟩,?_⟩
      · have hp':q < S.sig.nv:=hp.1
        rw [hnv] at hp'
        exact absurd hp' (Nat.not_lt_zero _)
      · rw [hB2]
        show BlkOk _ _ _ _ _ q (denB _ (if q=0 then _ else _))
        by_cases hq:q=0
        · subst hq
          rw [if_pos rfl]
          refine ⟨rfl,rfl,Nat.one_pos,hc1,.of he (by rw [dS,List.length_map,hn];exact hc2),hc3,fun hvr=>?_⟩
          obtain ⟨r1,cur,r2,r3,r4⟩:=hc4 hvr
          refine ⟨.inl r1,cur,by rw [rty_of he];exact r2,r3,fun i z hz=>?_⟩
          rw [dS,List.getElem?_map] at hz
          obtain ⟨y,hy,rfl⟩:=Option.map_eq_some_iff.1 hz
          refine ⟨rfl,fun j d hd=>?_⟩
          cases j with
          | zero =>
            obtain rfl:D.int k y=d:=by simpa using hd
            exact ⟨_,by show cur[i*1+0]?=_;rw [Nat.mul_one,Nat.add_zero];exact r4 i y hy,.int _ _⟩
          | succ j=>simp at hd
        · rw [if_neg hq]
          exact hq
      · rw [hB2] at h1 h2
        have z:∀ q,Hot ⟨fun _=>b,fun _=>1,fun _=>c,fun _=>vr,fun q=>q=0⟩ q (denB (fun q=>if q=0 then TB.row (.int k) e (g x) else .free) (if q=0 then TB.row (.int k) e (g x) else .free))→q=0:=fun q hq=>by
          by_cases e0:q=0
          · exact e0
          · rw [if_neg e0] at hq;exact hq.elim
        rw [z q h1,z q' h2]
      · rw [ho1]
        show VA _ _ _ _ _ (denO 0 (bsOf _ 0)) _
        rw [show bsOf (S.outU (S.fn x)).bs 0=.row (.int k) e (g x) by rw [hB2];rfl]
        show VA _ _ _ _ _ (.own 0 0 (g x).length) _
        rw [hn]
        exact hva
    rcases hown.2 with ⟨h1,rfl⟩ | ⟨b,cap',cur,h1,h2,h3,h4,h5,h6,h7⟩
    · cases h1
      exact key 0 0 true (Nat.zero_le _) (Nat.le_refl _) (fun _=>rfl) (fun h=>by cases h) (.onil rfl rfl)
    · cases h1
      refine key b cap false h5 h4 (fun h=>by cases h) (fun _=>⟨h2,cur,h3,h6,fun i y hy=>?_⟩) (.own rfl rfl h4 h5 fun _=>⟨by simp,by simp⟩)
      have h8:(cur.toList.take (n*1))[i]?=some (.int k y):=by rw [h7,List.getElem?_map,hy];rfl
      rw [List.getElem?_take] at h8
      split at h8
      · simpa using h8
      · cases h8
theorem TRel.ownOut {k:IntKind} {c:Cx} {U:Nat→Prop} {nt:Nat} {σ:TS} {E:Env} {a:Act} {w:World} (h:TRel c U nt σ E a w) {t g base:Nat} {e:TypeId} {l:List Int} (ht:σ.tmp t=.own g) (hg:σ.blk g=.row (.int k) e l) (hM:∀ q,c.Mine q→base≤q):
    ∃ ad n cap,a.tmps.getD t undef=.slice ad n cap∧w.ownsRow base (rty e) 1 (.slice ad n cap) n (l.map (Value.int k)):=by
  have hv:=h.tmp t
  rw [show σ.den.tmp t=.own g 0 l.length by show denV _ (σ.tmp t)=_;rw [ht];simp only [denV,hg,denO];rfl] at hv
  have hbl:=h.mem.blk g
  rw [show σ.den.blk g=.row 1 e (denS (T:=.int k) l) by show denB _ (σ.blk g)=_;rw [hg];rfl] at hbl
  obtain ⟨h1,h2,h3,h4,h5,h6,h7⟩:=hbl
  have h51:=h5.1
  rw [dS,List.length_map] at h51
  generalize a.tmps.getD t undef=v at hv
  generalize hn:l.length=n at hv
  cases hv with
  | onil hk hvr =>
    have h0:=h6 hvr
    obtain rfl:l=[]:=List.eq_nil_of_length_eq_zero hn
    exact ⟨_,_,_,rfl,World.ownsRow_nil _ _ _ _⟩
  | @own _ _ _ ad cap hk hvr hn' hm had =>
    obtain ⟨e1,e2⟩:=had (.inl rfl)
    obtain ⟨q1,cur,q2,q3,q4⟩:=h7 hvr
    rw [h2,Nat.zero_mul] at e1
    refine ⟨_,_,_,rfl,by rw [List.length_map,hn];omega,.inr ⟨E.β g,cap,cur,by rw [e1],hM _ q1,q2,hn',hm,by rw [q3];omega,?_⟩⟩
    apply List.ext_getElem?
    intro i
    rw [List.getElem?_map,List.getElem?_take]
    cases hx:l[i]? with
    | none =>
      rw [List.getElem?_eq_none_iff] at hx
      rw [if_neg (by omega)];rfl
    | some x =>
      have hlt:=(List.getElem?_eq_some_iff.1 hx).1
      rw [if_pos (by omega)]
      obtain ⟨_,q5⟩:=q4 i [D.int k x] (by rw [dS,List.getElem?_map,hx];rfl)
      obtain ⟨u,q6,q7⟩:=q5 0 (.int k x) rfl
      cases q7
      have q8:cur[i*1+0]?=some (.int k x):=q6
      rw [Nat.mul_one,Nat.add_zero] at q8
      simpa using q8
theorem SC.useOwn {P:Program} {f:FuncId} {S:Spec} (h:SC P f S) (k:IntKind) (e:TypeId) (l:List Int) (hnv:S.sig.nv=0) (hfv:S.fin.nv=0) (x:S.sig.V) (hx:S.pre x) (hbs:(S.inU x).bs=[]) {w:World} (ht:TabIn w) (ho1:(S.outU (S.fn x)).cs=[.own 0]) (ho2:(S.outU (S.fn x)).bs=[(0,.row (.int k) e l)]) {U:Nat→Prop} {vs:List Value} (hl:vs.length=(S.inU x).cs.length)
    (hv:∀ (i:Nat) (y:TV) (v:Value),(S.inU x).cs[i]?=some y→vs[i]?=some v→VA E0 w NoF U w.heap.size (denV (fun _=>.free) y) v):
    Calls P f vs.toArray w fun en w'=>∃ ad n cap,en=.returned (.slice ad n cap)∧Below w.heap.size w w'∧w'.ownsRow w.heap.size (rty e) 1 (.slice ad n cap) n (l.map (Value.int k)):=by
  have h1:=h (by rw [hnv,hfv]) x hx w U E0 vs
  have hB:bsOf (S.inU x).bs=fun _=>TB.free:=by rw [hbs];rfl
  have hF:Fof E0 (fun g=>denB (bsOf (S.inU x).bs) (bsOf (S.inU x).bs g))=NoF:=by
    rw [hB]
    funext b
    exact propext ⟨fun ⟨g,q1,_⟩=>q1,False.elim⟩
  refine (h1 ?_ ?_ ?_ ?_).mono ?_
  · refine ⟨Cx.call_kept _ _ _ _ (fun g hg=>by rw [hnv] at hg;exact absurd hg (Nat.not_lt_zero _)) ht (fun g x _ hf=>by rw [hF] at hf;exact hf),⟨fun b hb=>by
      have hb':Fof E0 (fun g=>denB (bsOf (S.inU x).bs) (bsOf (S.inU x).bs g)) b:=hb
      rw [hF] at hb';exact hb'.elim,fun g b hp=>hp.2.1.elim⟩,fun g=>?_,fun g g' hg=>?_⟩
    · rw [hB];exact id
    · rw [hB] at hg;exact hg.elim
  · intro g hg
    rw [hnv] at hg
    exact absurd hg (Nat.not_lt_zero _)
  · rw [List.length_map,hl]
  · intro i y v hy hv'
    rw [List.getElem?_map] at hy
    obtain ⟨z,hz,rfl⟩:=Option.map_eq_some_iff.1 hy
    rw [hF,hB]
    exact hv i z v hz hv'
  · rintro en w' ⟨r,B',v,E',⟨rfl,rfl⟩,rfl,hm,hva⟩
    have hk:=hm.below
    have hmine:∀ q,(Cx.call w (Fof E0 fun g=>denB (bsOf (S.inU x).bs) (bsOf (S.inU x).bs g)) (· < S.sig.nv) E0).Mine q→w.heap.size≤q:=fun q hq=>by
      rcases hq with hq | hq
      · exact hq
      · have hq':Fof E0 (fun g=>denB (bsOf (S.inU x).bs) (bsOf (S.inU x).bs g)) q:=hq
        rw [hF] at hq'
        exact hq'.elim
    rw [ho1] at hva
    have hb0:bsOf (S.outU (S.fn x)).bs 0=.row (.int k) e l:=by rw [ho2];show upd (fun _=>TB.free) 0 _ 0=_;exact upd_same _ _ _
    have hr:TRel (Cx.call w (Fof E0 fun g=>denB (bsOf (S.inU x).bs) (bsOf (S.inU x).bs g)) (· < S.sig.nv) E0) U 1 ⟨fun t=>bif Nat.beq t 0 then .own 0 else .und,bsOf (S.outU (S.fn x)).bs⟩ E' ⟨#[v],[]⟩ w':=⟨hm,rfl,⟨rfl,fun D hD=>by cases hD⟩,fun t=>by
      cases t with
      | zero=>exact hva
      | succ t=>exact .und _⟩
    obtain ⟨ad,n,cap,q1,q2⟩:=hr.ownOut (t:=0) (g:=0) rfl hb0 hmine
    have q1':v=.slice ad n cap:=q1
    subst q1'
    refine ⟨ad,n,cap,rfl,⟨hk.below.os,hk.below.tape,hk.below.output,hk.below.size,fun b hb=>hk.keep b hb fun hh=>?_⟩,q2⟩
    have hh':Fof E0 (fun g=>denB (bsOf (S.inU x).bs) (bsOf (S.inU x).bs g)) b:=hh
    rw [hF] at hh'
    exact hh'
theorem VA.mine {E E':Env} {w:World} {U:Nat→Prop} {base base' sz:Nat} {es:List (List D)} {v:Value} (h:VA E w NoF U base (.lent sz es) v):VA E' w NoF (fun _=>True) base' (.d (.view sz es)) v:=by
  cases h with
  | lent u hl hc hm hz hsz hat hV =>
    refine .d (.view u hl hc hm hz hsz (fun i x hx=>?_) fun i x j d hx hd=>(hV i x j d hx hd).more (fun _ _ h=>h) fun _ _ _=>.inl trivial)
    obtain ⟨b,off,h1,⟨h2,h3,_⟩,h5⟩:=hat i x hx
    exact ⟨b,off,h1,⟨h2,h3,fun _=>.inl trivial⟩,h5⟩
def rangeOf:Code→Option (Operand×Array Tmp×Code×Code)
  | .seq a b=>(rangeOf a).or (rangeOf b)
  | .cond _ a b=>(rangeOf a).or (rangeOf b)
  | .block _ b=>rangeOf b
  | .loop b=>rangeOf b
  | .rangeFunc g ps x y=>some (g,ps,x,y)
  | _=>none
def rangeBody (c:Code):Code:=match rangeOf c with | some (_,_,_,b)=>b | none=>.skip
def rangeRest:Code→Option Code
  | .seq a b => match rangeRest a with
    | some .skip=>some b
    | some r=>some (.seq r b)
    | none=>rangeRest b
  | .block _ b=>rangeRest b
  | .rangeFunc ..=>some .skip
  | _=>none
def rangeTail (c:Code):Code:=(rangeRest c).getD .skip
end Go.Proofs.YtjkbkhjalimebaaGreatDoor

