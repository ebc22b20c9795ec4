import Derived.Test.YtjkbkhjalimebaaGreatDoorPAlike39
import Derived.Test.YtjkbkhjalimebaaGreatDoorPAlike41
import Derived.Test.YtjkbkhjalimebaaGreatDoorPAlike37
namespace Go.Proofs.YtjkbkhjalimebaaGreatDoor
open Go.RowKit DoorU
set_option linter.unusedVariables false
set_option linter.unusedSimpArgs false
set_option maxRecDepth 100000
set_option maxHeartbeats 1000000
def S_num8:Spec:=⟨.pair nW .unit,.pair oY .unit,fun _=>True,fun (x:Int×Unit)=>((numF x.1,()):List Int×Unit)⟩
def A_num8 (x:Int×Unit):Nat→Option LA
  | 0=>some ⟨[8,3],[],.pair nI (.pair oY .unit),fun (v:Int×List Int×Unit)=>0≤v.1∧v.1≤8∧v.2.1.length=8∧v.2.1.take v.1.toNat=(numF x.1).take v.1.toNat,fun (v:Int×List Int×Unit)=>(8 - v.1).toNat⟩
  | _=>none
theorem vc_num8:VC Tryz.prog Tryz.f162 (bodyOf Tryz.f162) S_num8 [] A_num8=(∀ (x:Int×Unit),True→
  (0:Int)≤(8:Int)∧(8:Int)≤(8:Int)∧(8:Int)≤(281474976710656:Int)∧(8:Int)≤(140737488351232:Int)∧((0:Int)≤(0:Int)∧(0:Int)≤(8:Int)∧List.length [(0:Int),(0:Int),(0:Int),(0:Int),(0:Int),(0:Int),(0:Int),(0:Int)]=(8:Nat)∧List.take (Int.toNat (0:Int)) [(0:Int),(0:Int),(0:Int),(0:Int),(0:Int),(0:Int),(0:Int),(0:Int)]=List.take (Int.toNat (0:Int)) (numF x.fst))∧∀ (v:Int×List Int×Unit),(0:Int)≤v.fst∧v.fst≤(8:Int)∧List.length v.snd.fst=(8:Nat)∧List.take (Int.toNat v.fst) v.snd.fst=List.take (Int.toNat v.fst) (numF x.fst)→
  bif decide (v.fst < (8:Int)) then (0:Int)≤IntKind.wrap IntKind.i64 ((56:Int) - IntKind.wrap IntKind.i64 ((8:Int)*v.fst))∧(0:Int)≤v.fst∧v.fst < (↑(List.length v.snd.fst):Int)∧Int.toNat v.fst < List.length v.snd.fst∧∀ (x0:Int),v.snd.fst[Int.toNat v.fst]?=some x0→
  ((0:Int)≤IntKind.wrap IntKind.i64 (v.fst+(1:Int))∧IntKind.wrap IntKind.i64 (v.fst+(1:Int))≤(8:Int)∧List.length (List.set v.snd.fst (Int.toNat v.fst) (IntKind.wrap IntKind.u8 (shrI IntKind.u64 x.fst (IntKind.wrap IntKind.i64 ((56:Int) - IntKind.wrap IntKind.i64 ((8:Int)*v.fst))))))=(8:Nat)∧List.take (Int.toNat (IntKind.wrap IntKind.i64 (v.fst+(1:Int)))) (List.set v.snd.fst (Int.toNat v.fst) (IntKind.wrap IntKind.u8 (shrI IntKind.u64 x.fst (IntKind.wrap IntKind.i64 ((56:Int) - IntKind.wrap IntKind.i64 ((8:Int)*v.fst))))))=List.take (Int.toNat (IntKind.wrap IntKind.i64 (v.fst+(1:Int)))) (numF x.fst))∧Int.toNat ((8:Int) - IntKind.wrap IntKind.i64 (v.fst+(1:Int))) < Int.toNat ((8:Int) - v.fst) else v.snd=(numF x.fst,())):=by kernel_rfl
theorem sc_num8:SC Tryz.prog 162 S_num8:=by
  refine SC.of Tryz.func162 (c:=bodyOf Tryz.f162) (by kernel_rfl) (by kernel_rfl) (fun x=>(by decide:(1:Nat)≤Tryz.f162.ntmps)) DOk.nil (Eq.mpr vc_num8 ?_)
  rintro ⟨n,⟨⟩⟩ -
  dsimp only
  refine ⟨by decide,by decide,by decide,by decide,⟨by decide,by decide,rfl,rfl⟩,?_⟩
  rintro ⟨i,o,⟨⟩⟩ ⟨h0,h1,hl,ht⟩
  dsimp only at h0 h1 hl ht ⊢
  by_cases hi:i < 8
  rotate_left 1
  · rw [decide_eq_false hi,cond_false]
    have ln:(numF n).length=8:=by simp [numF]
    rw [List.take_of_length_le (by omega),List.take_of_length_le (by omega)] at ht
    rw [ht]
  have wi:IntKind.i64.wrap (i+1)=i+1:=IntWalk.i64_in _ (by omega)
  have w8':IntKind.i64.wrap (8*i)=8*i:=IntWalk.i64_in _ (by omega)
  have w56:IntKind.i64.wrap (56 - 8*i)=56 - 8*i:=IntWalk.i64_in _ (by omega)
  rw [decide_eq_true hi,cond_true,wi,w8',w56]
  refine ⟨by omega,h0,by omega,by omega,fun x0 _=>⟨⟨by omega,by omega,by rw [List.length_set];exact hl,?_⟩,by omega⟩⟩
  have hx:(numF n)[i.toNat]?=some (IntKind.u8.wrap (shrI .u64 n (56 - 8*i))):=by
    unfold numF
    rw [List.getElem?_map,List.getElem?_range (by omega)]
    simp only [Option.map_some]
    rw [show ((i.toNat:Nat):Int)=i by omega]
  rw [show (i+1).toNat=i.toNat+1 by omega,take_snoc hx,take_set (by omega),ht]
end Go.Proofs.YtjkbkhjalimebaaGreatDoor
namespace Go.Proofs.YtjkbkhjalimebaaGreatDoor
open Go.RowKit Go.Shelf DoorU
attribute [local go_sem] Oper.semAt_some
set_option linter.unusedVariables false
set_option linter.unusedSimpArgs false
theorem yield_n {P:Program} {n m l:Nat} {args:Array Value} {W:World} {R:Ending→World→Prop} (h:YieldAt (FR none) n P l args W R):YieldAt Fence.wide m P l args W R:=by
  obtain ⟨fn,tmps,assign,body,hy,h1,h2⟩:=h
  exact ⟨fn,tmps,assign,body,hy,h1,fun c cs _=>h2 c cs (room_FR _ _)⟩
def mk1 (n:Int) (i:Nat):List TV:=[.int .i64 (n - 1 - i)]
set_option maxRecDepth 100000 in
set_option maxHeartbeats 2000000 in
theorem fromLast_seq (m:Int) (hm0:0≤m) (hm:m≤1000000000000) (w:World) (F:Nat→Prop) (b:Nat) (hb:w.heap[b]?=some (.cells #[.int .i64 m] 3 (0,0))) (hF:¬ F b):
    SeqY Tryz.prog 141 #[.pointer (some ⟨b,0,none⟩)] (mk1 m) m.toNat F w:=fun n l J W hY hs h0=>by
  refine (callsIn_wide (n:=n)).2 ((callsIn_wide (n:=5)).1 ?_)
  have hlt:b < w.heap.size:=(Array.getElem?_eq_some_iff.1 hb).1
  refine callsIn_of_wp Tryz.func141 rfl trivial ?_ rfl
  simp only [Tryz.ntmps141,List.size_toArray,List.length_cons,List.length_nil,Nat.reduceAdd,Nat.reduceSub,Array.replicate_succ,Array.replicate_zero,List.push_toArray,List.append_toArray,List.nil_append,List.cons_append]
  have hc:W.cell? ⟨b,0,none⟩=some (.int .i64 m):=by
    unfold World.cell?
    rw [hs.2 b hlt hF,hb]
    rfl
  gi_wp2
  gi_loopw [3] (fun i wr=>∃ (k:Nat),(k:Int)≤m∧i=.int .i64 (m - 1 - (k:Int))∧J k wr∧SameOut F w wr)
    (fun i _=>(intOf i+1).toNat)
  case atStart=>exact ⟨0,hm0,by simp [wrap64] <;> omega,h0,hs⟩
  case round=>
    obtain ⟨k,hk,rfl,hJs,hnx⟩:=hrel
    have hc:wr.cell? ⟨b,0,none⟩=some (.int .i64 m):=by
      unfold World.cell?
      rw [hnx.2 b hlt hF,hb]
      rfl
    by_cases hlt2:(k:Int) < m
    · obtain ⟨fn,tmps,assign,body,hy,hR⟩:=yield_n (m:=4) (hY k wr wr [.int .i64 (m - 1 - (k:Int))] hJs (by omega) hnx (.refl _ _) rfl fun E F' U base _ j y u h1 h2 B=>by
        cases j with
        | zero=>cases h1;cases h2;exact .d (.int _ _)
        | succ j=>cases h1)
      gi_wp2
      refine hR.mono ?_
      rintro e W3 ⟨rfl,hJ3,hk3⟩
      gi_wp2
      go_roundw
      case rel=>exact ⟨k+1,by omega,by congr 1;simp [wrap64];omega,hJ3,hk3⟩
      case measure=>simp [intOf,wrap64];omega
    · obtain rfl:(k:Int)=m:=by omega
      gi_wp2
      go_end0
      exact ⟨⟨_,rfl⟩,_,hJs,.refl _ _⟩
set_option maxHeartbeats 1000000 in
theorem fromLast_in (m:Int) (w:World):Calls Tryz.prog 128 #[.int .i64 m] w fun e w'=>e=.returned (.func (.func 141) #[] #[.pointer (some ⟨w.heap.size,0,none⟩)])∧w'=w.alloc (.cells #[.int .i64 m] 3):=by
  refine (callsIn_wide (n:=3)).1 ?_
  refine callsIn_of_wp Tryz.func128 rfl trivial ?_ rfl
  simp only [Tryz.ntmps128,List.size_toArray,List.length_cons,List.length_nil,Nat.reduceAdd,Nat.reduceSub,Array.replicate_succ,Array.replicate_zero,List.push_toArray,List.append_toArray,List.nil_append,List.cons_append]
  gi_wp2
  go_ret
  exact ⟨rfl,rfl⟩
def okFL (m:Int) (xs:List TV):Prop:=(0≤m∧m≤1000000000000)∧match xs with
  | [.int .i64 m']=>m'=m
  | _=>False
theorem fromLast_ok {m:Int} (xs:List TV) (hok:okFL m xs):IterOk Tryz.prog 128 141 xs (mk1 m) m.toNat:=fun E w F U base B vs hT htab hF hl hv=>by
  unfold okFL at hok
  obtain ⟨⟨hm0,hm⟩,hok⟩:=hok
  split at hok
  rotate_left 1
  · exact hok.elim
  subst hok
  match vs,hl with
  | [v], _ =>
    have h1:=hv 0 _ v rfl rfl
    cases h1 with
    | d h1 =>
      cases h1
      refine (fromLast_in _ w).mono ?_
      rintro e w' ⟨rfl,rfl⟩
      exact ⟨_,rfl,(Below.refl _ w).alloc (Nat.le_refl _) _,fromLast_seq _ hm0 hm _ F w.heap.size (World.alloc_heap_new w _) fun h=>absurd (hF _ h) (Nat.lt_irrefl _)⟩
theorem num_in (n:Int) (w:World) (ht:TabIn w):Calls Tryz.prog 162 #[.int .u64 n] w fun en w'=>∃ ad m cap,en=.returned (.slice ad m cap)∧Below w.heap.size w w'∧w'.ownsRow w.heap.size 5 1 (.slice ad m cap) m ((numF n).map (Value.int .u8)):=
  (SC.useOwn sc_num8 .u8 5 (numF n) rfl rfl (n,()) trivial rfl ht rfl rfl (U:=NoF) (vs:=[.int .u64 n]) rfl (fun i y v hy hv=>by
    cases i with
    | zero=>cases hy;cases hv;exact .d (.int _ _)
    | succ i=>cases hy))
theorem hash_in (pp:List (List Int)) (hp:pp.flatten.length≤1000000000) (w:World) (ht:TabIn w) (v:Value) (hv:VA E0 w NoF (fun _=>True) w.heap.size (denV (fun _=>.free) (.view true tYs pp)) v):Calls Tryz.prog 137 #[v] w fun en w'=>∃ ad m cap,en=.returned (.slice ad m cap)∧Below w.heap.size w w'∧w'.ownsRow w.heap.size 5 1 (.slice ad m cap) m ((hashF pp).map (Value.int .u8)):=
  (SC.useOwn sc_hash .u8 5 (hashF pp) rfl rfl (pp,()) hp rfl ht rfl rfl (U:=fun _=>True) (vs:=[v]) rfl (fun i y u hy hu=>by
    cases i with
    | zero=>cases hy;cases hu;exact hv
    | succ i=>cases hy))
set_option maxHeartbeats 1000000 in
theorem hashes_in (kv:Value) (n:Int) (w:World) (hk:kv.oneCell'=true):Calls Tryz.prog 157 #[kv,.int .i64 n] w fun e w'=>e=.returned (.func (.func 161) #[] #[.pointer (some ⟨w.heap.size+1,0,none⟩),.pointer (some ⟨w.heap.size,0,none⟩)])∧w'=(w.alloc (.cells #[kv] 22)).alloc (.cells #[.int .i64 n] 3):=by
  refine (callsIn_wide (n:=3)).1 ?_
  refine callsIn_of_wp Tryz.func157 rfl trivial ?_ rfl
  simp only [Tryz.ntmps157,List.size_toArray,List.length_cons,List.length_nil,Nat.reduceAdd,Nat.reduceSub,Array.replicate_succ,Array.replicate_zero,List.push_toArray,List.append_toArray,List.nil_append,List.cons_append]
  gi_wp2
  go_ret
  exact ⟨rfl,rfl⟩
theorem own_vd {w:World} {base base':Nat} {ad:Option Addr} {n cap:Nat} {e:TypeId} {l:List Int} (h:w.ownsRow base e 1 (.slice ad n cap) n (l.map (Value.int .u8))):VD w NoF (fun _=>True) base' (.view 1 (denS (T:=.int .u8) l)) (.slice ad n cap)∧n=l.length:=by
  have hn:l.length=n:=by have:=h.1;rw [List.length_map] at this;omega
  refine ⟨?_,hn.symm⟩
  rcases h.2 with ⟨h1,h2⟩ | ⟨b,cap',cur,h1,h2,h3,h4,h5,h6,h7⟩
  · cases h1
    obtain rfl:l=[]:=List.eq_nil_of_length_eq_zero hn
    exact .view (fun _ _=>undef) rfl (Nat.le_refl _) (Nat.zero_le _) (fun _=>rfl) (fun i x hx=>by cases hx) (fun i x hx=>by cases hx) fun i x j d hx=>by cases hx
  · cases h1
    have hva:=lent_cells (k:=.u8) (E:=E0) (w:=w) (F:=NoF) (U:=fun _=>True) (base:=base') (l:=l) (b:=b) (off:=0) (cap:=cap) (by omega) h5 id (Array.getElem?_eq_some_iff.1 h3).1 (fun i x hx=>by
      have hx2:(cur.toList.take (n*1))[i]?=some (.int .u8 x):=by rw [h7,List.getElem?_map,hx];rfl
      rw [List.getElem?_take] at hx2
      split at hx2
      · unfold World.cell?
        rw [h3]
        simpa using hx2
      · cases hx2)
    rw [hn] at hva
    have h8:=VA.mine (E':=E0) (base':=base') hva
    cases h8 with
    | d h9=>exact h9
theorem own_lent {w:World} {base:Nat} {ad:Option Addr} {n cap:Nat} {e:TypeId} {l:List Int} (h:w.ownsRow base e 1 (.slice ad n cap) n (l.map (Value.int .u8))) (E:Env) (F U:Nat→Prop) (b2:Nat) (hF:∀ b,F b→b < base):VA E w F U b2 (.lent 1 (denS (T:=.int .u8) l)) (.slice ad n cap):=by
  have hn:l.length=n:=by have:=h.1;rw [List.length_map] at this;omega
  rcases h.2 with ⟨h1,h2⟩ | ⟨b,cap',cur,h1,h2,h3,h4,h5,h6,h7⟩
  · cases h1
    obtain rfl:l=[]:=List.eq_nil_of_length_eq_zero hn
    exact .lent (fun _ _=>undef) rfl (Nat.le_refl _) (Nat.zero_le _) (fun _=>rfl) (fun i x hx=>by cases hx) (fun i x hx=>by cases hx) fun i x j d hx=>by cases hx
  · cases h1
    have hva:=lent_cells (k:=.u8) (E:=E) (w:=w) (F:=F) (U:=U) (base:=b2) (l:=l) (b:=b) (off:=0) (cap:=cap) (by omega) h5 (fun hh=>by have:=hF b hh;omega) (Array.getElem?_eq_some_iff.1 h3).1 (fun i x hx=>by
      have hx2:(cur.toList.take (n*1))[i]?=some (.int .u8 x):=by rw [h7,List.getElem?_map,hx];rfl
      rw [List.getElem?_take] at hx2
      split at hx2
      · unfold World.cell?
        rw [h3]
        simpa using hx2
      · cases hx2)
    rw [hn] at hva
    exact hva
theorem two_val {w:World} {kv nv:Value} {k m:List Int} {e:TypeId} {b1 b2:Nat} (h1:VD w NoF (fun _=>True) b1 (.view 1 (denS (T:=.int .u8) k)) kv) (h2:VD w NoF (fun _=>True) b2 (.view 1 (denS (T:=.int .u8) m)) nv):
    VA E0 (w.alloc (.cells #[kv,nv] e)) NoF (fun _=>True) (w.alloc (.cells #[kv,nv] e)).heap.size (denV (fun _=>.free) (.view true tYs [k,m])) (.slice (some ⟨w.heap.size,0,none⟩) 2 2):=by
  have up:∀ {x:D} {v:Value} {b:Nat},VD w NoF (fun _=>True) b x v→VD (w.alloc (.cells #[kv,nv] e)) NoF (fun _=>True) (w.alloc (.cells #[kv,nv] e)).heap.size x v:=fun h=>
    (h.keep (w':=w.alloc (.cells #[kv,nv] e)) (F':=NoF) (by rw [World.size_alloc];omega) (fun b hb _=>Below.heap_alloc _ _ _ hb) (fun _ _ h=>h)).more (fun _ _ h=>h) fun _ _ _=>.inl trivial
  show VA _ _ _ _ _ (.lent 1 [[D.view 1 (denS (T:=.int .u8) k)],[D.view 1 (denS (T:=.int .u8) m)]]) _
  refine .lent (fun i _=>if i=0 then kv else nv) rfl (Nat.le_refl _) (by decide) (fun h=>by cases h) (fun i x hx=>?_) (fun i x hx=>?_) (fun i x j d hx hd=>?_)
  · match i,hx with
    | 0,hx=>cases hx;rfl
    | 1,hx=>cases hx;rfl
    | i+2,hx=>cases hx
  · have hi:i < 2:=by have:=(List.getElem?_eq_some_iff.1 hx).1;simpa using this
    refine ⟨w.heap.size,0,rfl,⟨by rw [World.size_alloc];omega,id,fun h=>by cases h⟩,fun j hj=>?_⟩
    obtain rfl:j=0:=by omega
    unfold World.cell?
    simp only [World.alloc_heap_new w]
    match i,hi with
    | 0,_=>rfl
    | 1,_=>rfl
  · match i,hx with
    | 0, hx =>
      cases hx
      cases j with
      | zero=>cases hd;exact up h1
      | succ j=>cases hd
    | 1, hx =>
      cases hx
      cases j with
      | zero=>cases hd;exact up h2
      | succ j=>cases hd
    | i+2,hx=>cases hx
def mkH (k:List Int) (i:Nat):List TV:=[.view true tY (hashF [k,numF i])]
theorem sameTab {F:Nat→Prop} {w W:World} (h:SameOut F w W) (ht:TabIn w) (hF:∀ g x,tabAt g=some x→¬ F g):TabIn W:=fun g k l hg=>by
  obtain ⟨h1,e,fr,h2⟩:=ht g k l hg
  have h3:=(h.2 g h1 (hF g _ hg)).trans h2
  exact ⟨(Array.getElem?_eq_some_iff.1 h3).1,e,fr,h3⟩
set_option maxRecDepth 100000 in
set_option maxHeartbeats 4000000 in
theorem hashes_seq (k:List Int) (hk:k.length≤100000000) (n:Int) (hn:n≤1048576) (w:World) (F:Nat→Prop) (kv:Value) (b1 b2:Nat) (hb1:w.heap[b1]?=some (.cells #[.int .i64 n] 3 (0,0))) (hb2:w.heap[b2]?=some (.cells #[kv] 22 (0,0))) (hF1:¬ F b1) (hF2:¬ F b2)
    (ht:TabIn w) (htF:∀ g x,tabAt g=some x→¬ F g) (hkv:∃ U base,VD w F U base (.view 1 (denS (T:=.int .u8) k)) kv):
    SeqY Tryz.prog 161 #[.pointer (some ⟨b1,0,none⟩),.pointer (some ⟨b2,0,none⟩)] (mkH k) ((n.toNat+31) / 32) F w:=fun nn l J W hY hs h0=>by
  obtain ⟨U0,base0,hkv⟩:=hkv
  obtain ⟨ka,km,kc,rfl⟩:∃ a m c,kv=.slice a m c:=by cases hkv;exact ⟨_,_,_,rfl⟩
  refine (callsIn_wide (n:=nn)).2 ((callsIn_wide (n:=6)).1 ?_)
  have hlt1:b1 < w.heap.size:=(Array.getElem?_eq_some_iff.1 hb1).1
  have hlt2:b2 < w.heap.size:=(Array.getElem?_eq_some_iff.1 hb2).1
  have hmx:Tryz.prog.follows .mixedOrders=true:=by kernel_rfl
  refine callsIn_of_wp Tryz.func161 rfl trivial ?_ rfl
  simp only [Tryz.ntmps161,List.size_toArray,List.length_cons,List.length_nil,Nat.reduceAdd,Nat.reduceSub,Array.replicate_succ,Array.replicate_zero,List.push_toArray,List.append_toArray,List.nil_append,List.cons_append]
  gi_wp2
  gi_loopw [4] (fun i wr=>∃ (q:Nat),q≤(n.toNat+31) / 32∧i=.int .i64 (q:Int)∧∃ W0,J q W0∧SameOut F w W0∧Below W0.heap.size W0 wr)
    (fun i _=>(n.toNat+31) / 32 - (intOf i).toNat)
  case atStart=>exact ⟨0,Nat.zero_le _,rfl,W,h0,hs,.refl _ _⟩
  case round=>
    obtain ⟨q,hq,rfl,W0,hJs,hso,hbl⟩:=hrel
    have hsr:SameOut F w wr:=⟨Nat.le_trans hso.1 hbl.size,fun b hb hn=>(hbl.block b (by have:=hso.1;omega)).trans (hso.2 b hb hn)⟩
    have hc1:wr.cell? ⟨b1,0,none⟩=some (.int .i64 n):=by
      unfold World.cell?
      rw [hsr.2 b1 hlt1 hF1,hb1]
      rfl
    have hc2:wr.cell? ⟨b2,0,none⟩=some (.slice ka km kc):=by
      unfold World.cell?
      rw [hsr.2 b2 hlt2 hF2,hb2]
      rfl
    have htr:TabIn wr.drew:=sameTab hsr ht htF
    have w1:wrap64 ((q:Int)*32)=(q:Int)*32:=by unfold wrap64;omega
    by_cases hlt:(q:Int)*32 < n
    · have wq:IntKind.u64.wrap (q:Int)=(q:Int):=u64_of (by omega) (by omega)
      have hlen:[k,numF q].flatten.length≤1000000000:=by
        have:(numF (q:Int)).length=8:=by simp [numF]
        simp only [List.flatten_cons,List.flatten_nil,List.length_append,List.length_nil,this];omega
      have up5:∀ {w5:World},Below wr.drew.heap.size wr.drew w5→VD w5 NoF (fun _=>True) 0 (.view 1 (denS (T:=.int .u8) k)) (.slice ka km kc):=fun {w5} hb5=>by
        have hb6:Below wr.heap.size wr w5:=((Below.refl wr.heap.size wr).drew).trans hb5
        exact (hkv.keep (w':=w5) (F':=NoF) (Nat.le_trans hsr.1 hb6.size) (fun b hb hn=>(hb6.block b (by have:=hsr.1;omega)).trans (hsr.2 b hb hn)) (fun _ _ h=>h.elim)).more (fun _ _ h=>h) fun _ _ _=>.inl trivial
      have yld:∀ (w5 w7:World) (o:Obj) (ad:Option Addr) (m cap:Nat),Below wr.drew.heap.size wr.drew w5→Below (w5.alloc o).heap.size (w5.alloc o) w7→w7.ownsRow (w5.alloc o).heap.size 5 1 (.slice ad m cap) m ((hashF [k,numF q]).map (Value.int .u8))→
          YieldAt Fence.wide 5 Tryz.prog l #[.slice ad m cap] w7 fun e W'=>e=.returned (.bool true)∧J (q+1) W'∧SameOut F w W':=fun w5 w7 o ad m cap hb5 hb7 ho7=>by
        have hb8:Below W0.heap.size W0 w7:=by
          refine hbl.trans ((((Below.refl wr.heap.size wr).drew.trans hb5).trans ?_).mono hbl.size)
          exact ((Below.refl w5.heap.size w5).alloc (Nat.le_refl _) o).mono (Nat.le_trans hb5.size (Nat.le_refl _)) |>.trans (hb7.mono (by rw [World.size_alloc];exact Nat.le_trans hb5.size (Nat.le_succ _)))
        refine yield_n (hY q W0 w7 [.slice ad m cap] hJs (by omega) hso hb8 rfl fun E F' U base hF' j y u h1 h2 B=>?_)
        cases j with
        | zero =>
          cases h1;cases h2
          exact own_lent ho7 E F' U base fun b hb=>Nat.lt_of_lt_of_le (hF' b hb) (Nat.le_trans hbl.size (Nat.le_trans hb5.size (by rw [World.size_alloc];exact Nat.le_succ _)))
        | succ j=>cases h1
      have hcw:∀ {w5:World},Below wr.drew.heap.size wr.drew w5→w5.cell? ⟨b2,0,none⟩=some (.slice ka km kc):=fun {w5} hb5=>(World.cell?_of_block (a:=⟨b2,0,none⟩) (hb5.block b2 (Nat.lt_of_lt_of_le hlt2 hsr.1))).trans hc2
      have hcl:∀ (w5:World) (ad:Option Addr) (mm cap:Nat),Below wr.drew.heap.size wr.drew w5→w5.ownsRow wr.drew.heap.size 5 1 (.slice ad mm cap) mm ((numF q).map (Value.int .u8))→Calls Tryz.prog 137 #[.slice (some ⟨w5.heap.size,0,none⟩) 2 2] (w5.alloc (.cells #[.slice ka km kc,.slice ad mm cap] 22)) fun e w7=>∃ ad7 m7 cap7,e=.returned (.slice ad7 m7 cap7)∧YieldAt Fence.wide 5 Tryz.prog l #[.slice ad7 m7 cap7] w7 fun e W'=>e=.returned (.bool true)∧J (q+1) W'∧SameOut F w W':=fun w5 ad mm cap hb5 ho5=>by
        refine (hash_in [k,numF q] hlen _ (htr.below (hb5.alloc hb5.size _)) _ (two_val (up5 hb5) (own_vd (base':=0) ho5).1)).mono ?_
        rintro e w7 ⟨ad7,m7,cap7,rfl,hb7,ho7⟩
        exact ⟨_,_,_,rfl,yld w5 w7 _ _ _ _ hb5 hb7 ho7⟩
      gi_wp2
      gi_region_with_o (first
        | (refine ⟨trivial,?_⟩;gi_at_call 162;refine (callsIn_wide.2 (num_in _ _ htr)).mono ?_;rintro e w5 ⟨ad,mm,cap,rfl,hb5,ho5⟩;have hc5:=hcw hb5)
        | (refine ⟨trivial,?_⟩;gi_at_call 137;refine (callsIn_wide.2 (hcl _ _ _ _ hb5 ho5)).mono ?_;rintro e w7 ⟨ad7,m7,cap7,rfl,fn,tmps,assign,body,hy,hR⟩)
        | (refine hR.mono ?_;rintro e W3 ⟨rfl,hJ3,hk3⟩))
      all_goals
        gi_wp2
        go_roundw
        case rel=>exact ⟨q+1,by omega,rfl,W3,hJ3,hk3,.refl _ _⟩
        case measure=>simp only [intOf];omega
    · have hqn:q=(n.toNat+31) / 32:=by omega
      gi_wp2
      go_end0
      exact ⟨⟨_,rfl⟩,W0,by rw [← hqn];exact hJs,hbl⟩
def okHS (k:List Int) (n:Int) (xs:List TV):Prop:=n≤1048576∧match xs with
  | [.view false T k', .int .i64 n'] => match castL T tY k' with
    | some k''=>k''=k∧n'=n
    | none=>False
  | _=>False
theorem hashes_ok {k:List Int} (hk:k.length≤100000000) {n:Int} (xs:List TV) (hok:okHS k n xs):IterOk Tryz.prog 157 161 xs (mkH k) ((n.toNat+31) / 32):=fun E w F U base B vs hT htab hF hl hv=>by
  unfold okHS at hok
  obtain ⟨hn,hok⟩:=hok
  split at hok
  rotate_left 1
  · exact hok.elim
  split at hok
  rotate_left 1
  · exact hok.elim
  rename_i hc
  obtain rfl:=castL_ty hc
  obtain rfl:=castL_self hc
  obtain ⟨rfl,rfl⟩:=hok
  match vs,hl with
  | [v, u], _ =>
    have h1:=hv 0 _ v rfl rfl
    have h2:=hv 1 _ u rfl rfl
    have h1':VA E w F U base (.d (.view 1 (denS (T:=.int .u8) _))) v:=h1
    cases h2 with
    | d h2 =>
      cases h2
      cases h1' with
      | d h1 =>
        refine (hashes_in _ _ w h1.one).mono ?_
        rintro e w' ⟨rfl,rfl⟩
        have hb:∀ m:Int,Below w.heap.size w ((w.alloc (.cells #[v] 22)).alloc (.cells #[.int .i64 m] 3)):=fun m=>((Below.refl _ w).alloc (Nat.le_refl _) _).alloc (by simp) _
        have s1:(w.alloc (.cells #[v] 22)).heap.size=w.heap.size+1:=World.size_alloc _ _
        refine ⟨_,rfl,hb _,hashes_seq _ hk _ hn _ F v _ _ ?_ ?_ (fun h=>absurd (hF _ h) (by omega)) (fun h=>absurd (hF _ h) (Nat.lt_irrefl _)) (hT.below (hb _)) htab ⟨U,base,h1.keep (hb _).size (fun b hb' _=>(hb _).block b hb') (fun _ _ h=>h)⟩⟩
        · rw [← s1]
          exact World.alloc_heap_new (w.alloc (.cells #[v] 22)) _
        · exact (Below.heap_alloc _ _ _ (by omega)).trans (World.alloc_heap_new w _)
end Go.Proofs.YtjkbkhjalimebaaGreatDoor
namespace Go.Proofs.YtjkbkhjalimebaaGreatDoor
open Go.RowKit DoorU
set_option linter.unusedVariables false
set_option linter.unusedSimpArgs false
set_option maxRecDepth 100000
set_option maxHeartbeats 1000000
namespace DoorU
def stU (k:List Int) (i:Nat):List Int:=(List.range i).flatMap fun i:Nat=>hashF [k,numF i]
theorem stU_succ (k:List Int) (i:Nat):stU k (i+1)=stU k i++hashF [k,numF i]:=by
  unfold stU
  rw [List.range_succ,List.flatMap_append,List.flatMap_cons,List.flatMap_nil,List.append_nil]
theorem stU_len (k:List Int):∀ i,(stU k i).length=32*i
  | 0=>rfl
  | i + 1 => by
    rw [stU_succ,List.length_append,stU_len k i,show (hashF [k,numF i]).length=32 from sumF_len _]
    omega
end DoorU
abbrev vN:Sh:=.var 3 (.pair nI .unit)
abbrev vByt (s:Sh):Sh:=.var 22 (.pair s .unit)
def R_strm (x:List Int×Int×Unit):RA:=⟨157,161,okHS x.1 x.2.1,(x.2.1.toNat+31) / 32,mkH x.1,[3,6],.pair vN (.pair (vByt oY) .unit),fun i (v:(Int×Unit)×(List Int×Unit)×Unit)=>v.1.1=x.2.1∧v.2.1.1=(stU x.1 i).take x.2.1.toNat⟩
theorem vc_strm:VCR Tryz.prog Tryz.f149 (bodyOf Tryz.f149) S_strm [] (fun _ _=>none) R_strm=(∀ (x:List Int×Int×Unit),List.length x.fst≤(100000000:Nat)→
  List.length x.fst≤(9223372036854775807:Nat)→
  bif decide (x.snd.fst < (0:Int)) then (([],(1:Int),()),())=(smF x.fst x.snd.fst,()) else bif decide ((1048576:Int) < x.snd.fst) then (([],(1:Int),()),())=(smF x.fst x.snd.fst,()) else (0:Int)≤(0:Int)∧(0:Int)≤x.snd.fst∧(1:Int)*x.snd.fst≤(281474976710656:Int)∧x.snd.fst≤(140737488351232:Int)∧(x.snd.fst≤(1048576:Int)∧x.fst=x.fst∧x.snd.fst=x.snd.fst)∧(x.snd.fst=x.snd.fst∧[]=List.take (Int.toNat x.snd.fst) (stU x.fst (0:Nat)))∧(∀ (i:Nat) (v:(Int×Unit)×(List Int×Unit)×Unit),i < (Int.toNat x.snd.fst+(31:Nat)) / (32:Nat)→
  v.fst.fst=x.snd.fst∧v.snd.fst.fst=List.take (Int.toNat x.snd.fst) (stU x.fst i)→
  List.length [TV.view true (Ty.int IntKind.u8) (hashF [x.fst,numF (↑i:Int)])]=(1:Nat)∧(0:Int)≤(0:Int)∧((0:Int)≤if IntKind.wrap IntKind.i64 (v.fst.fst - (↑(List.length v.snd.fst.fst):Int)) < (↑(List.length (hashF [x.fst,numF (↑i:Int)])):Int) then IntKind.wrap IntKind.i64 (v.fst.fst - (↑(List.length v.snd.fst.fst):Int)) else (↑(List.length (hashF [x.fst,numF (↑i:Int)])):Int))∧(if IntKind.wrap IntKind.i64 (v.fst.fst - (↑(List.length v.snd.fst.fst):Int)) < (↑(List.length (hashF [x.fst,numF (↑i:Int)])):Int) then IntKind.wrap IntKind.i64 (v.fst.fst - (↑(List.length v.snd.fst.fst):Int)) else (↑(List.length (hashF [x.fst,numF (↑i:Int)])):Int))≤(↑(List.length (hashF [x.fst,numF (↑i:Int)])):Int)∧(List.length v.snd.fst.fst+List.length (List.take (Int.toNat (if IntKind.wrap IntKind.i64 (v.fst.fst - (↑(List.length v.snd.fst.fst):Int)) < (↑(List.length (hashF [x.fst,numF (↑i:Int)])):Int) then IntKind.wrap IntKind.i64 (v.fst.fst - (↑(List.length v.snd.fst.fst):Int)) else (↑(List.length (hashF [x.fst,numF (↑i:Int)])):Int)) - (0:Nat)) (List.drop ((0:Nat)) (hashF [x.fst,numF (↑i:Int)]))))*(1:Nat)≤(140737488351232:Nat)∧v.fst.fst=x.snd.fst∧v.snd.fst.fst++List.take (Int.toNat (if IntKind.wrap IntKind.i64 (v.fst.fst - (↑(List.length v.snd.fst.fst):Int)) < (↑(List.length (hashF [x.fst,numF (↑i:Int)])):Int) then IntKind.wrap IntKind.i64 (v.fst.fst - (↑(List.length v.snd.fst.fst):Int)) else (↑(List.length (hashF [x.fst,numF (↑i:Int)])):Int)) - (0:Nat)) (List.drop ((0:Nat)) (hashF [x.fst,numF (↑i:Int)]))=List.take (Int.toNat x.snd.fst) (stU x.fst (i+(1:Nat))))∧∀ (v:(Int×Unit)×(List Int×Unit)×Unit),v.fst.fst=x.snd.fst∧v.snd.fst.fst=List.take (Int.toNat x.snd.fst) (stU x.fst ((Int.toNat x.snd.fst+(31:Nat)) / (32:Nat)))→
  ((v.snd.fst.fst,(0:Int),()),())=(smF x.fst x.snd.fst,())):=by kernel_rfl
theorem en_strm (us:Array Value) (u:World):(callFunc 149 us).run Tryz.prog u=.ok (.enter 149 us) u:=by kernel_rfl
theorem sc_strm:SC Tryz.prog 149 S_strm:=by
  refine SC.ofR Tryz.func149 (c:=bodyOf Tryz.f149) (by kernel_rfl) (by kernel_rfl) (fun x=>(by decide:(2:Nat)≤Tryz.f149.ntmps)) DOk.nil (fun x args w=>by kernel_rfl) (fun x args w=>by kernel_rfl) (fun x h xs hx=>hashes_ok h xs hx) (Eq.mpr vc_strm ?_)
  rintro ⟨k,n,⟨⟩⟩ hk -
  dsimp only at hk ⊢
  by_cases a1:n < 0
  · rw [decide_eq_true a1,cond_true,smF,if_pos (.inl a1)]
  rw [decide_eq_false a1,cond_false]
  by_cases a2:1048576 < n
  · rw [decide_eq_true a2,cond_true,smF,if_pos (.inr a2)]
  rw [decide_eq_false a2,cond_false]
  have hs:smF k n=(strF k n,0,()):=by rw [smF,if_neg (by omega)]
  refine ⟨Int.le_refl _,by omega,by show (1:Int)*n≤_;omega,by omega,⟨by omega,rfl,rfl⟩,⟨rfl,List.take_nil.symm⟩,?_,?_⟩
  rotate_left 1
  · rintro ⟨⟨m,⟨⟩⟩,⟨o,⟨⟩⟩,⟨⟩⟩ ⟨h1,h2⟩
    dsimp only at h1 h2 ⊢
    rw [hs,h2]
    rfl
  rintro i ⟨⟨m,⟨⟩⟩,⟨o,⟨⟩⟩,⟨⟩⟩ hi ⟨h1,h2⟩
  dsimp only at h1 h2 ⊢
  subst h1
  have ul:=stU_len k i
  have eo:o=stU k i:=by rw [h2,List.take_of_length_le (by omega)]
  have ol:o.length=32*i:=by rw [eo,ul]
  have hl:(hashF [k,numF i]).length=32:=sumF_len _
  have w1:IntKind.i64.wrap (m - ((o.length:Nat):Int))=m - 32*(i:Int):=by rw [IntWalk.i64_in _ (by omega),ol];omega
  rw [w1,hl,List.drop_zero,Nat.sub_zero]
  obtain ⟨M,hM⟩:∃ M,(if m - 32*(i:Int) < ((32:Nat):Int) then m - 32*(i:Int) else ((32:Nat):Int))=M:=⟨_,rfl⟩
  rw [hM]
  have hM2:0≤M∧M≤32∧(M=m - 32*i∨(M=32∧32≤m - 32*i)):=by
    rw [← hM]
    split <;> omega
  refine ⟨rfl,Int.le_refl _,hM2.1,by omega,by rw [List.length_take,ol];omega,rfl,?_⟩
  rw [stU_succ,List.take_append,List.take_of_length_le (l:=stU k i) (by omega),← eo,ol]
  congr 1
  rcases hM2.2.2 with h | ⟨h,h'⟩
  · rw [h]
    congr 1
    omega
  · rw [List.take_of_length_le (by omega),List.take_of_length_le (by omega)]
end Go.Proofs.YtjkbkhjalimebaaGreatDoor
namespace Go.Proofs.YtjkbkhjalimebaaGreatDoor
open Go.RowKit DoorU
set_option linter.unusedVariables false
set_option linter.unusedSimpArgs false
set_option maxRecDepth 100000
set_option maxHeartbeats 1000000
namespace DoorU
theorem hashF_len (pp:List (List Int)):(hashF pp).length=32:=sumF_len _
theorem flat32 {α:Type} {f:α→List Int}:∀ (l:List α),(∀ x∈l,(f x).length=32)→(l.flatMap f).length=32*l.length
  | [],_=>rfl
  | x :: l, h => by
    rw [List.flatMap_cons,List.length_append,flat32 l fun y hy=>h y (List.mem_cons_of_mem _ hy),h x (List.mem_cons_self ..),List.length_cons]
    omega
theorem strF_len (k:List Int) (n:Int):(strF k n).length=n.toNat:=by
  unfold strF
  rw [List.length_take,flat32 _ fun x _=>hashF_len _,List.length_range]
  omega
theorem xorF_len {a b:List Int} (h:a.length=b.length):(xorF a b).length=a.length:=by
  unfold xorF
  rw [List.length_zipWith,h,Nat.min_self]
theorem hidF_len (k b:List Int):(hidF k b).length=b.length:=xorF_len (by rw [strF_len];omega)
theorem seB_len (s n p:List Int):(seB s n p).length=n.length+p.length:=by
  unfold seB
  rw [List.length_append,hidF_len]
theorem seF_len (s n p:List Int):(seF s n p).length=n.length+p.length+32:=by
  unfold seF
  rw [List.length_append,seB_len,tagF_len]
theorem orF_0:∀ {l:List Int},(∀ x∈l,x=0)→orF l=0
  | [],_=>rfl
  | x :: l, h => by
    rw [orF,bneF (h x (List.mem_cons_self ..)),cond_false]
    exact orF_0 fun y hy=>h y (List.mem_cons_of_mem _ hy)
theorem putE2 {n:Int} (h0:0≤n) (h:n < 65536):putE n 2=0:=by
  unfold putE
  rw [if_neg (by decide),if_neg (by decide),if_pos (by decide),if_pos]
  show n / 65536=0
  omega
theorem putR2 {n:Int} (h0:0≤n) (h:n < 65536):putR n 2=putI n 2:=by unfold putR;rw [if_pos (putE2 h0 h)];rfl
theorem fil64 {t:List Int} (h:t.length≤64):fileE t 64=0∧(filR t 64).length=65:=by
  have e:fileE t 64=0:=by
    unfold fileE
    rw [if_neg (by omega),if_neg (by omega)]
  refine ⟨e,?_⟩
  unfold filR
  rw [if_pos e,List.length_append,List.length_cons,List.length_replicate]
  show t.length+1+(64 - t.length)=65
  omega
theorem lc_0 {l:Let} (h:lcF l=0):(l.1=true)∨(l.1=false∧(0≤l.2.1∧l.2.1 < 8)∧(0≤l.2.2.1∧l.2.2.1 < 8)∧l.2.2.2.1≠0∧(txt l).length≤64):=by
  unfold lcF at h
  split at h
  · rename_i h1
    exact .inl h1
  rename_i h1
  split at h
  · cases h
  rename_i h2
  split at h
  · cases h
  rename_i h3
  have may:∀ n,¬ mayF n=false→0≤n∧n < 8:=fun n hn=>by
    rw [Bool.not_eq_false] at hn
    unfold mayF at hn
    simpa using hn
  exact .inr ⟨by simpa using h1,may _ fun g=>h2 (.inl g),may _ fun g=>h2 (.inr (.inl g)),fun g=>h2 (.inr (.inr g)),by omega⟩
theorem lpB_len {l:Let} (h:lcF l=0):(lpB l).length=78:=by
  unfold lpB
  rcases lc_0 h with c | ⟨c,⟨f0,f1⟩,⟨t0,t1⟩,s,x⟩
  · rw [if_pos c,List.length_replicate]
  · rw [if_neg (by rw [c];decide)]
    simp only [List.flatten_cons,List.flatten_nil,List.append_nil,List.length_append,putR2 f0 (by omega),putR2 t0 (by omega),putR8,putI_len,(fil64 x).2,List.length_cons,List.length_nil]
end DoorU
theorem vc_xor:VC Tryz.prog Tryz.f150 (bodyOf Tryz.f150) S_xor [] A_xor=(∀ (x:List Int×List Int×Unit),List.length x.fst≤(100000000:Nat)→
  List.length x.fst≤(9223372036854775807:Nat)→
  List.length x.snd.fst≤(9223372036854775807:Nat)→
  List.length x.fst≤(9223372036854775807:Nat)→
  List.length x.snd.fst≤(9223372036854775807:Nat)→
  bif (↑(List.length x.fst):Int) != (↑(List.length x.snd.fst):Int) then (([],(1:Int),()),())=(if List.length x.fst=List.length x.snd.fst then (xorF x.fst x.snd.fst,(0:Int),()) else ([],(1:Int),()),()) else List.length x.fst≤(9223372036854775807:Nat)→
  (0:Int)≤(↑(List.length x.fst):Int)∧(↑(List.length x.fst):Int)≤(↑(List.length x.fst):Int)∧(1:Int)*(↑(List.length x.fst):Int)≤(281474976710656:Int)∧(↑(List.length x.fst):Int)≤(140737488351232:Int)∧((0:Int)≤(0:Int)∧(0:Int)≤(↑(List.length x.fst):Int)∧List.length (List.replicate (Int.toNat (↑(List.length x.fst):Int)) (0:Int))=List.length x.fst∧List.take (Int.toNat (0:Int)) (List.replicate (Int.toNat (↑(List.length x.fst):Int)) (0:Int))=List.take (Int.toNat (0:Int)) (xorF x.fst x.snd.fst))∧∀ (v:Int×List Int×Unit),(0:Int)≤v.fst∧v.fst≤(↑(List.length x.fst):Int)∧List.length v.snd.fst=List.length x.fst∧List.take (Int.toNat v.fst) v.snd.fst=List.take (Int.toNat v.fst) (xorF x.fst x.snd.fst)→
  bif decide (v.fst < (↑(List.length (List.replicate (Int.toNat (↑(List.length x.fst):Int)) (0:Int))):Int)) then (0:Int)≤v.fst∧v.fst < (↑(List.length x.fst):Int)∧∀ (c0:Int),x.fst[Int.toNat v.fst]?=some c0→
  (0:Int)≤v.fst∧v.fst < (↑(List.length x.snd.fst):Int)∧∀ (c0_1:Int),x.snd.fst[Int.toNat v.fst]?=some c0_1→
  (0:Int)≤v.fst∧v.fst < (↑(List.length v.snd.fst):Int)∧Int.toNat v.fst < List.length v.snd.fst∧∀ (x0:Int),v.snd.fst[Int.toNat v.fst]?=some x0→
  ((0:Int)≤IntKind.wrap IntKind.i64 (v.fst+(1:Int))∧IntKind.wrap IntKind.i64 (v.fst+(1:Int))≤(↑(List.length x.fst):Int)∧List.length (List.set v.snd.fst (Int.toNat v.fst) (xorI IntKind.u8 c0 c0_1))=List.length x.fst∧List.take (Int.toNat (IntKind.wrap IntKind.i64 (v.fst+(1:Int)))) (List.set v.snd.fst (Int.toNat v.fst) (xorI IntKind.u8 c0 c0_1))=List.take (Int.toNat (IntKind.wrap IntKind.i64 (v.fst+(1:Int)))) (xorF x.fst x.snd.fst))∧Int.toNat ((↑(List.length x.fst):Int) - IntKind.wrap IntKind.i64 (v.fst+(1:Int))) < Int.toNat ((↑(List.length x.fst):Int) - v.fst) else ((v.snd.fst,(0:Int),()),())=(if List.length x.fst=List.length x.snd.fst then (xorF x.fst x.snd.fst,(0:Int),()) else ([],(1:Int),()),())):=by kernel_rfl
theorem en_xor (us:Array Value) (u:World):(callFunc 150 us).run Tryz.prog u=.ok (.enter 150 us) u:=by kernel_rfl
theorem sc_xor:SC Tryz.prog 150 S_xor:=by
  refine SC.of Tryz.func150 (c:=bodyOf Tryz.f150) (by kernel_rfl) (by kernel_rfl) (fun x=>(by decide:(2:Nat)≤Tryz.f150.ntmps)) DOk.nil (Eq.mpr vc_xor ?_)
  rintro ⟨a,b,⟨⟩⟩ h - - - -
  dsimp only at h ⊢
  by_cases e:a.length=b.length
  rotate_left 1
  · rw [bneT (by omega),cond_true,if_neg e]
  rw [bneF (by omega),cond_false,if_pos e]
  intro _
  have lx:=xorF_len e
  refine ⟨by omega,Int.le_refl _,by omega,by omega,⟨Int.le_refl 0,by omega,by rw [List.length_replicate];omega,by rw [show Int.toNat 0=0 from rfl,List.take_zero,List.take_zero]⟩,?_⟩
  rintro ⟨i,o,⟨⟩⟩ ⟨h0,h1,hl,ht⟩
  dsimp only at h0 h1 hl ht ⊢
  rw [List.length_replicate]
  by_cases hi:i < (a.length:Int)
  rotate_left 1
  · rw [decide_eq_false (by omega),cond_false]
    rw [List.take_of_length_le (by omega),List.take_of_length_le (by omega)] at ht
    rw [ht]
  have wi:IntKind.i64.wrap (i+1)=i+1:=IntWalk.i64_in _ (by omega)
  rw [decide_eq_true (by omega),cond_true,wi]
  refine ⟨h0,hi,fun c hc=>⟨h0,by omega,fun d hd=>⟨h0,by omega,by omega,fun x0 _=>⟨⟨by omega,by omega,by rw [List.length_set];exact hl,?_⟩,by omega⟩⟩⟩⟩
  have hx:(xorF a b)[i.toNat]?=some (xorI .u8 c d):=by
    unfold xorF
    rw [List.getElem?_zipWith,hc,hd]
  rw [show (i+1).toNat=i.toNat+1 by omega,take_snoc hx,← ht,take_snoc (u:=xorI .u8 c d) (by rw [List.getElem?_set_self (by omega)]),List.take_set_of_le (Nat.le_refl _)]
theorem vc_lkey:VC Tryz.prog Tryz.f104 (bodyOf Tryz.f104) S_lkey [(116,S_tag)] (fun _ _=>none)=(∀ (x:List Int×List Int×Unit),List.length x.fst≤(1000000000:Nat)∧List.length x.snd.fst≤(100000000:Nat)→
  List.length x.fst≤(9223372036854775807:Nat)→
  List.length x.snd.fst≤(9223372036854775807:Nat)→
  (List.length x.fst≤(1000000000:Nat)∧List.length x.snd.fst≤(100000000:Nat))∧(tagF x.fst x.snd.fst,())=(tagF x.fst x.snd.fst,())):=by kernel_rfl
theorem en_lkey (us:Array Value) (u:World):(callFunc 104 us).run Tryz.prog u=.ok (.enter 104 us) u:=by kernel_rfl
theorem sc_lkey:SC Tryz.prog 104 S_lkey:=by
  refine SC.of Tryz.func104 (c:=bodyOf Tryz.f104) (by kernel_rfl) (by kernel_rfl) (fun x=>(by decide:(2:Nat)≤Tryz.f104.ntmps)) (DOk.cons sc_tag en_tag DOk.nil) (Eq.mpr vc_lkey ?_)
  rintro x h - -
  exact ⟨h,rfl⟩
theorem vc_lmad:VC Tryz.prog Tryz.f130 (bodyOf Tryz.f130) S_lkey [(116,S_tag)] (fun _ _=>none)=(∀ (x:List Int×List Int×Unit),List.length x.fst≤(1000000000:Nat)∧List.length x.snd.fst≤(100000000:Nat)→
  List.length x.fst≤(9223372036854775807:Nat)→
  List.length x.snd.fst≤(9223372036854775807:Nat)→
  (List.length x.fst≤(1000000000:Nat)∧List.length x.snd.fst≤(100000000:Nat))∧(tagF x.fst x.snd.fst,())=(tagF x.fst x.snd.fst,())):=by kernel_rfl
theorem en_lmad (us:Array Value) (u:World):(callFunc 130 us).run Tryz.prog u=.ok (.enter 130 us) u:=by kernel_rfl
theorem sc_lmad:SC Tryz.prog 130 S_lkey:=by
  refine SC.of Tryz.func130 (c:=bodyOf Tryz.f130) (by kernel_rfl) (by kernel_rfl) (fun x=>(by decide:(2:Nat)≤Tryz.f130.ntmps)) (DOk.cons sc_tag en_tag DOk.nil) (Eq.mpr vc_lmad ?_)
  rintro x h - -
  exact ⟨h,rfl⟩
theorem vc_lrep:VC Tryz.prog Tryz.f103 (bodyOf Tryz.f103) S_lrep [(130,S_lkey)] (fun _ _=>none)=(∀ (x:List Int×Int×Unit),List.length x.fst≤(1000000000:Nat)→
  List.length x.fst≤(9223372036854775807:Nat)→
  (List.length x.fst≤(1000000000:Nat)∧List.length [(4:Int),x.snd.fst]≤(100000000:Nat))∧(tagF x.fst [(4:Int),x.snd.fst],())=(repF x.fst x.snd.fst,())):=by kernel_rfl
theorem en_lrep (us:Array Value) (u:World):(callFunc 103 us).run Tryz.prog u=.ok (.enter 103 us) u:=by kernel_rfl
theorem sc_lrep:SC Tryz.prog 103 S_lrep:=by
  refine SC.of Tryz.func103 (c:=bodyOf Tryz.f103) (by kernel_rfl) (by kernel_rfl) (fun x=>(by decide:(2:Nat)≤Tryz.f103.ntmps)) (DOk.cons sc_lmad en_lmad DOk.nil) (Eq.mpr vc_lrep ?_)
  rintro ⟨k,c,⟨⟩⟩ h -
  exact ⟨⟨h,by show 2≤_;decide⟩,rfl⟩
theorem vc_hide:VC Tryz.prog Tryz.f142 (bodyOf Tryz.f142) S_hide [(130,S_lkey),(149,S_strm),(150,S_xor)] (fun _ _=>none)=(∀ (x:List Int×List Int×Unit),List.length x.fst≤(1048576:Nat)∧List.length x.snd.fst≤(1048576:Nat)→
  List.length x.fst≤(9223372036854775807:Nat)→
  List.length x.snd.fst≤(9223372036854775807:Nat)→
  (List.length x.fst≤(1000000000:Nat)∧List.length [(1:Int)]≤(100000000:Nat))∧(List.length x.snd.fst≤(9223372036854775807:Nat)→
  List.length (tagF x.fst [(1:Int)])≤(100000000:Nat)∧bif (smF (tagF x.fst [(1:Int)]) (↑(List.length x.snd.fst):Int)).snd.fst != (0:Int) then (([],(smF (tagF x.fst [(1:Int)]) (↑(List.length x.snd.fst):Int)).snd),())=((hidF x.fst x.snd.fst,(0:Int),()),()) else List.length x.snd.fst≤(100000000:Nat)∧(if List.length x.snd.fst=List.length (smF (tagF x.fst [(1:Int)]) (↑(List.length x.snd.fst):Int)).fst then (xorF x.snd.fst (smF (tagF x.fst [(1:Int)]) (↑(List.length x.snd.fst):Int)).fst,(0:Int),()) else ([],(1:Int),()),())=((hidF x.fst x.snd.fst,(0:Int),()),()))):=by kernel_rfl
theorem en_hide (us:Array Value) (u:World):(callFunc 142 us).run Tryz.prog u=.ok (.enter 142 us) u:=by kernel_rfl
theorem sc_hide:SC Tryz.prog 142 S_hide:=by
  refine SC.of Tryz.func142 (c:=bodyOf Tryz.f142) (by kernel_rfl) (by kernel_rfl) (fun x=>(by decide:(2:Nat)≤Tryz.f142.ntmps)) (DOk.cons sc_lmad en_lmad (DOk.cons sc_strm en_strm (DOk.cons sc_xor en_xor DOk.nil))) (Eq.mpr vc_hide ?_)
  rintro ⟨k,b,⟨⟩⟩ ⟨h1,h2⟩ - -
  dsimp only at h1 h2 ⊢
  refine ⟨⟨by omega,by decide⟩,fun _=>⟨by rw [tagF_len];decide,?_⟩⟩
  have e:smF (tagF k [1]) (b.length:Nat)=(strF (tagF k [1]) (b.length:Nat),0,()):=by rw [smF,if_neg (by omega)]
  have l:(strF (tagF k [1]) (b.length:Nat)).length=b.length:=by rw [strF_len];omega
  rw [e]
  dsimp only
  rw [bneF rfl,cond_false,if_pos l.symm]
  exact ⟨by omega,rfl⟩
theorem vc_seal:VC Tryz.prog Tryz.f129 (bodyOf Tryz.f129) S_seal [(104,S_lkey),(142,S_hide),(124,S_cat),(130,S_lkey),(116,S_tag)] (fun _ _=>none)=(∀ (x:List Int×List Int×List Int×Unit),List.length x.fst≤(1048576:Nat)→
  List.length x.fst≤(9223372036854775807:Nat)→
  List.length x.snd.fst≤(9223372036854775807:Nat)→
  List.length x.snd.snd.fst≤(9223372036854775807:Nat)→
  List.length x.snd.fst≤(9223372036854775807:Nat)→
  bif (↑(List.length x.snd.fst):Int) != (16:Int) then (([],(1:Int),()),())=(if seE x.snd.fst x.snd.snd.fst=(0:Int) then (seF x.fst x.snd.fst x.snd.snd.fst,(0:Int),()) else ([],seE x.snd.fst x.snd.snd.fst,()),()) else List.length x.snd.snd.fst≤(9223372036854775807:Nat)→
  bif decide ((2048:Int) < (↑(List.length x.snd.snd.fst):Int)) then (([],(2:Int),()),())=(if seE x.snd.fst x.snd.snd.fst=(0:Int) then (seF x.fst x.snd.fst x.snd.snd.fst,(0:Int),()) else ([],seE x.snd.fst x.snd.snd.fst,()),()) else (List.length x.fst≤(1000000000:Nat)∧List.length x.snd.fst≤(100000000:Nat))∧(List.length (tagF x.fst x.snd.fst)≤(1048576:Nat)∧List.length x.snd.snd.fst≤(1048576:Nat))∧bif (0:Int) != (0:Int) then (([],(0:Int),()),())=(if seE x.snd.fst x.snd.snd.fst=(0:Int) then (seF x.fst x.snd.fst x.snd.snd.fst,(0:Int),()) else ([],seE x.snd.fst x.snd.snd.fst,()),()) else List.length (List.flatten [x.snd.fst,hidF (tagF x.fst x.snd.fst) x.snd.snd.fst])≤(1099511627776:Nat)∧(List.length (tagF x.fst x.snd.fst)≤(1000000000:Nat)∧List.length [(3:Int)]≤(100000000:Nat))∧(List.length (tagF (tagF x.fst x.snd.fst) [(3:Int)])≤(1000000000:Nat)∧List.length (List.flatten [x.snd.fst,hidF (tagF x.fst x.snd.fst) x.snd.snd.fst])≤(100000000:Nat))∧(List.length (List.flatten [x.snd.fst,hidF (tagF x.fst x.snd.fst) x.snd.snd.fst])+List.length (tagF (tagF (tagF x.fst x.snd.fst) [(3:Int)]) (List.flatten [x.snd.fst,hidF (tagF x.fst x.snd.fst) x.snd.snd.fst])))*(1:Nat)≤(140737488351232:Nat)∧((List.flatten [x.snd.fst,hidF (tagF x.fst x.snd.fst) x.snd.snd.fst]++tagF (tagF (tagF x.fst x.snd.fst) [(3:Int)]) (List.flatten [x.snd.fst,hidF (tagF x.fst x.snd.fst) x.snd.snd.fst]),(0:Int),()),())=(if seE x.snd.fst x.snd.snd.fst=(0:Int) then (seF x.fst x.snd.fst x.snd.snd.fst,(0:Int),()) else ([],seE x.snd.fst x.snd.snd.fst,()),())):=by kernel_rfl
theorem en_seal (us:Array Value) (u:World):(callFunc 129 us).run Tryz.prog u=.ok (.enter 129 us) u:=by kernel_rfl
theorem sc_seal:SC Tryz.prog 129 S_seal:=by
  refine SC.of Tryz.func129 (c:=bodyOf Tryz.f129) (by kernel_rfl) (by kernel_rfl) (fun x=>(by decide:(3:Nat)≤Tryz.f129.ntmps)) (DOk.cons sc_lkey en_lkey (DOk.cons sc_hide en_hide (DOk.cons sc_cat en_cat (DOk.cons sc_lmad en_lmad (DOk.cons sc_tag en_tag DOk.nil))))) (Eq.mpr vc_seal ?_)
  rintro ⟨s,n,p,⟨⟩⟩ h - - - -
  dsimp only at h ⊢
  by_cases a1:(n.length:Int)=16
  rotate_left 1
  · have e:seE n p=1:=by rw [seE,if_pos (by omega)]
    rw [bneT a1,cond_true,e,if_neg (by decide)]
  rw [bneF a1,cond_false]
  intro _
  by_cases a2:2048 < (p.length:Int)
  · have e:seE n p=2:=by rw [seE,if_neg (by omega),if_pos (by omega)]
    rw [decide_eq_true a2,cond_true,e,if_neg (by decide)]
  have e:seE n p=0:=by rw [seE,if_neg (by omega),if_neg (by omega)]
  have eb:[n,hidF (tagF s n) p].flatten=seB s n p:=by
    rw [List.flatten_cons,List.flatten_cons,List.flatten_nil,List.append_nil]
    rfl
  have lb:=seB_len s n p
  rw [decide_eq_false a2,cond_false,bneF rfl,cond_false,e,if_pos rfl,eb,tagF_len,tagF_len,tagF_len]
  exact ⟨⟨by omega,by omega⟩,⟨by decide,by omega⟩,by omega,⟨by decide,by decide⟩,⟨by decide,by omega⟩,by omega,rfl⟩
theorem vc_onon:VC Tryz.prog Tryz.f98 (bodyOf Tryz.f98) S_onon [(19,S_schk),(122,S_sput),(124,S_cat),(116,S_tag),(28,S_scl)] A_onon=(∀ (x:List Int×(Int×Int×List Int×Unit)×Unit),List.length x.fst≤(1048576:Nat)∧okSt x.snd.fst→
  List.length x.fst≤(9223372036854775807:Nat)→
  List.length x.snd.fst.snd.snd.fst≤(9223372036854775807:Nat)→
  True∧bif stChk x.snd.fst != (0:Int) then (([],(1:Int),()),())=(onoF x.fst x.snd.fst,()) else okSt x.snd.fst∧bif stChk x.snd.fst != (0:Int) then (([],stChk x.snd.fst,()),())=(onoF x.fst x.snd.fst,()) else List.length x.snd.fst.snd.snd.fst≤(9223372036854775807:Nat)→
  (0:Int)≤(↑(List.length x.snd.fst.snd.snd.fst):Int)∧(↑(List.length x.snd.fst.snd.snd.fst):Int)≤(↑(List.length x.snd.fst.snd.snd.fst):Int)∧(24:Int)*(↑(List.length x.snd.fst.snd.snd.fst):Int)≤(281474976710656:Int)∧(↑(List.length x.snd.fst.snd.snd.fst):Int)≤(140737488351232:Int)∧((0:Int)≤(0:Int)∧(0:Int)≤(↑(List.length x.snd.fst.snd.snd.fst):Int)∧List.length (List.replicate (Int.toNat (↑(List.length x.snd.fst.snd.snd.fst):Int)) ([]:List Int))=List.length x.snd.fst.snd.snd.fst∧List.take (Int.toNat (0:Int)) (List.replicate (Int.toNat (↑(List.length x.snd.fst.snd.snd.fst):Int)) ([]:List Int))=List.take (Int.toNat (0:Int)) (nonF x.fst x.snd.fst))∧∀ (v:Int×List (List Int)×Unit),(0:Int)≤v.fst∧v.fst≤(↑(List.length x.snd.fst.snd.snd.fst):Int)∧List.length v.snd.fst=List.length x.snd.fst.snd.snd.fst∧List.take (Int.toNat v.fst) v.snd.fst=List.take (Int.toNat v.fst) (nonF x.fst x.snd.fst)→
  bif decide (v.fst < (↑(List.length (List.replicate (Int.toNat (↑(List.length x.snd.fst.snd.snd.fst):Int)) ([]:List Int))):Int)) then List.length (List.flatten [stPutF x.snd.fst,[IntKind.wrap IntKind.u8 v.fst]])≤(1099511627776:Nat)∧(List.length x.fst≤(1000000000:Nat)∧List.length (List.flatten [stPutF x.snd.fst,[IntKind.wrap IntKind.u8 v.fst]])≤(100000000:Nat))∧(0:Int)≤(0:Int)∧(0:Int)≤(16:Int)∧(16:Int)≤(↑(List.length (tagF x.fst (List.flatten [stPutF x.snd.fst,[IntKind.wrap IntKind.u8 v.fst]]))):Int)∧(16:Nat)≤List.length (tagF x.fst (List.flatten [stPutF x.snd.fst,[IntKind.wrap IntKind.u8 v.fst]]))∧List.length (List.take ((16:Nat)) (List.drop ((0:Nat)) (tagF x.fst (List.flatten [stPutF x.snd.fst,[IntKind.wrap IntKind.u8 v.fst]]))))≤(1000000000000:Nat)∧(0:Int)≤v.fst∧v.fst < (↑(List.length v.snd.fst):Int)∧Int.toNat v.fst < List.length v.snd.fst∧∀ (x0:List Int),v.snd.fst[Int.toNat v.fst]?=some x0→
  ((0:Int)≤IntKind.wrap IntKind.i64 (v.fst+(1:Int))∧IntKind.wrap IntKind.i64 (v.fst+(1:Int))≤(↑(List.length x.snd.fst.snd.snd.fst):Int)∧List.length (List.set v.snd.fst (Int.toNat v.fst) (List.take ((16:Nat)) (List.drop ((0:Nat)) (tagF x.fst (List.flatten [stPutF x.snd.fst,[IntKind.wrap IntKind.u8 v.fst]])))))=List.length x.snd.fst.snd.snd.fst∧List.take (Int.toNat (IntKind.wrap IntKind.i64 (v.fst+(1:Int)))) (List.set v.snd.fst (Int.toNat v.fst) (List.take ((16:Nat)) (List.drop ((0:Nat)) (tagF x.fst (List.flatten [stPutF x.snd.fst,[IntKind.wrap IntKind.u8 v.fst]])))))=List.take (Int.toNat (IntKind.wrap IntKind.i64 (v.fst+(1:Int)))) (nonF x.fst x.snd.fst))∧Int.toNat ((↑(List.length x.snd.fst.snd.snd.fst):Int) - IntKind.wrap IntKind.i64 (v.fst+(1:Int))) < Int.toNat ((↑(List.length x.snd.fst.snd.snd.fst):Int) - v.fst) else ((v.snd.fst,(0:Int),()),())=(onoF x.fst x.snd.fst,())):=by kernel_rfl
theorem en_onon (us:Array Value) (u:World):(callFunc 98 us).run Tryz.prog u=.ok (.enter 98 us) u:=by kernel_rfl
theorem sc_onon:SC Tryz.prog 98 S_onon:=by
  refine SC.of Tryz.func98 (c:=bodyOf Tryz.f98) (by kernel_rfl) (by kernel_rfl) (fun x=>(by decide:(2:Nat)≤Tryz.f98.ntmps)) (DOk.cons sc_schk en_schk (DOk.cons sc_sput en_sput (DOk.cons sc_cat en_cat (DOk.cons sc_tag en_tag (DOk.cons sc_scl en_scl DOk.nil))))) (Eq.mpr vc_onon ?_)
  rintro ⟨k,s,⟨⟩⟩ ⟨h1,h2⟩ - -
  dsimp only at h1 h2 ⊢
  refine ⟨trivial,?_⟩
  by_cases e:stChk s=0
  rotate_left 1
  · rw [bneT e,cond_true,onoF,if_pos e]
  have hF:onoF k s=(nonF k s,0,()):=by rw [onoF,if_neg (fun h=>h e)]
  obtain ⟨l1,l8⟩:=okS_len (stChk_0 e)
  have hp:stPutF s=stL s:=by rw [stPutF,if_pos (stChk_0 e)]
  have hfl:∀ y:Int,[stL s,[y]].flatten=stL s++[y]:=fun y=>by rw [List.flatten_cons,List.flatten_cons,List.flatten_nil,List.append_nil]
  have ll:=stL_len s
  have ln:(nonF k s).length=s.2.2.1.length:=by unfold nonF;rw [List.length_map,List.length_range]
  rw [bneF e,cond_false,cond_false,hF,hp]
  refine ⟨h2,fun _=>⟨by omega,Int.le_refl _,by omega,by omega,⟨Int.le_refl 0,by omega,by rw [List.length_replicate];omega,by rw [show Int.toNat 0=0 from rfl,List.take_zero,List.take_zero]⟩,?_⟩⟩
  rintro ⟨i,o,⟨⟩⟩ ⟨h0,h1',hl,ht⟩
  dsimp only at h0 h1' hl ht ⊢
  rw [List.length_replicate]
  by_cases hi:i < (s.2.2.1.length:Int)
  rotate_left 1
  · rw [decide_eq_false (by omega),cond_false]
    rw [List.take_of_length_le (by omega),List.take_of_length_le (by omega)] at ht
    rw [ht]
  have wi:IntKind.i64.wrap (i+1)=i+1:=IntWalk.i64_in _ (by omega)
  rw [decide_eq_true (by omega),cond_true,wi,hfl,tagF_len,List.drop_zero]
  refine ⟨by rw [List.length_append,List.length_cons,List.length_nil];omega,⟨by omega,by rw [List.length_append,List.length_cons,List.length_nil];omega⟩,by decide,by decide,by decide,by decide,by rw [List.length_take];omega,h0,by omega,by omega,fun x0 _=>⟨⟨by omega,by omega,by rw [List.length_set];exact hl,?_⟩,by omega⟩⟩
  have hx:(nonF k s)[i.toNat]?=some ((tagF k (stL s++[w8 i])).take 16):=by
    unfold nonF
    rw [List.getElem?_map,List.getElem?_range (by omega)]
    show some ((tagF k (stL s++[w8 ((i.toNat:Nat):Int)])).take 16)=_
    rw [show ((i.toNat:Nat):Int)=i by omega]
  rw [show (i+1).toNat=i.toNat+1 by omega,take_snoc hx,← ht,take_snoc (u:=(tagF k (stL s++[w8 i])).take 16) (by rw [List.getElem?_set_self (by omega)];rfl),List.take_set_of_le (Nat.le_refl _)]
theorem vc_omay:VC Tryz.prog Tryz.f127 (bodyOf Tryz.f127) S_omay [] A_omay=(∀ (x:List (List Int)×List (List Int)×List Int×Unit),True→
  List.length x.fst≤(9223372036854775807:Nat)→
  List.length x.snd.fst≤(9223372036854775807:Nat)→
  List.length x.snd.snd.fst≤(9223372036854775807:Nat)→
  List.length x.fst≤(9223372036854775807:Nat)→
  bif decide ((↑(List.length x.fst):Int) < (1:Int)) then (false,())=(owmF x.fst x.snd.fst x.snd.snd.fst,()) else List.length x.fst≤(9223372036854775807:Nat)→
  bif decide ((8:Int) < (↑(List.length x.fst):Int)) then (false,())=(owmF x.fst x.snd.fst x.snd.snd.fst,()) else List.length x.snd.fst≤(9223372036854775807:Nat)→
  List.length x.fst≤(9223372036854775807:Nat)→
  bif (↑(List.length x.snd.fst):Int) != (↑(List.length x.fst):Int) then (false,())=(owmF x.fst x.snd.fst x.snd.snd.fst,()) else List.length x.snd.fst≤(9223372036854775807:Nat)→
  ((0:Int)≤(0:Int)∧(0:Int)≤(↑(List.length x.snd.fst):Int)∧true=true)∧∀ (v:Int×Unit),(0:Int)≤v.fst∧v.fst≤(↑(List.length x.snd.fst):Int)∧List.all (List.take (Int.toNat v.fst) x.snd.fst) is16=true→
  bif decide (v.fst < (↑(List.length x.snd.fst):Int)) then (0:Int)≤v.fst∧v.fst < (↑(List.length x.snd.fst):Int)∧∀ (c0:List Int),x.snd.fst[Int.toNat v.fst]?=some c0→
  List.length c0≤(9223372036854775807:Nat)→
  bif (↑(List.length c0):Int) != (16:Int) then (false,())=(owmF x.fst x.snd.fst x.snd.snd.fst,()) else ((0:Int)≤IntKind.wrap IntKind.i64 (v.fst+(1:Int))∧IntKind.wrap IntKind.i64 (v.fst+(1:Int))≤(↑(List.length x.snd.fst):Int)∧List.all (List.take (Int.toNat (IntKind.wrap IntKind.i64 (v.fst+(1:Int)))) x.snd.fst) is16=true)∧Int.toNat ((↑(List.length x.snd.fst):Int) - IntKind.wrap IntKind.i64 (v.fst+(1:Int))) < Int.toNat ((↑(List.length x.snd.fst):Int) - v.fst) else List.length x.snd.snd.fst≤(9223372036854775807:Nat)→
  ((↑(List.length x.snd.snd.fst):Int)==(78:Int),())=(owmF x.fst x.snd.fst x.snd.snd.fst,())):=by kernel_rfl
theorem en_omay (us:Array Value) (u:World):(callFunc 127 us).run Tryz.prog u=.ok (.enter 127 us) u:=by kernel_rfl
theorem sc_omay:SC Tryz.prog 127 S_omay:=by
  refine SC.of Tryz.func127 (c:=bodyOf Tryz.f127) (by kernel_rfl) (by kernel_rfl) (fun x=>(by decide:(3:Nat)≤Tryz.f127.ntmps)) DOk.nil (Eq.mpr vc_omay ?_)
  rintro ⟨s,n,b,⟨⟩⟩ - - - - -
  dsimp only
  have no:(decide (1≤s.length)&&(decide (s.length≤8)&&n.length==s.length))=false→((false,()):Bool×Unit)=(owmF s n b,()):=fun h=>by rw [owmF,h];rfl
  by_cases a1:(s.length:Int) < 1
  · rw [decide_eq_true a1,cond_true]
    exact no (by rw [decide_eq_false (by omega)];rfl)
  rw [decide_eq_false a1,cond_false]
  intro _
  by_cases a2:8 < (s.length:Int)
  · rw [decide_eq_true a2,cond_true]
    exact no (by rw [decide_eq_false (p:=s.length≤8) (by omega),Bool.false_and,Bool.and_false])
  rw [decide_eq_false a2,cond_false]
  intro _ _
  by_cases a3:(n.length:Int)=(s.length:Int)
  rotate_left 1
  · rw [bneT a3,cond_true]
    exact no (by rw [beq_eq_false_iff_ne.2 (by omega),Bool.and_false,Bool.and_false])
  rw [bneF a3,cond_false]
  have yes:owmF s n b=(n.all is16&&b.length==78):=by
    rw [owmF,decide_eq_true (by omega),decide_eq_true (by omega),beq_iff_eq.2 (by omega)]
    rfl
  intro _
  refine ⟨⟨Int.le_refl 0,by omega,rfl⟩,?_⟩
  rintro ⟨i,⟨⟩⟩ ⟨h0,h1,ht⟩
  dsimp only at h0 h1 ht ⊢
  by_cases hi:i < (n.length:Int)
  rotate_left 1
  · rw [decide_eq_false hi,cond_false]
    intro _
    rw [List.take_of_length_le (by omega)] at ht
    rw [yes,ht,Bool.true_and]
    congr 1
    rw [Bool.eq_iff_iff,beq_iff_eq,beq_iff_eq]
    omega
  have wi:IntKind.i64.wrap (i+1)=i+1:=IntWalk.i64_in _ (by omega)
  rw [decide_eq_true hi,cond_true,wi]
  refine ⟨h0,hi,fun c hc _=>?_⟩
  by_cases a4:(c.length:Int)=16
  · rw [bneF a4,cond_false]
    refine ⟨⟨by omega,by omega,?_⟩,by omega⟩
    rw [show (i+1).toNat=i.toNat+1 by omega,take_snoc hc,List.all_append,ht,Bool.true_and,List.all_cons,List.all_nil,Bool.and_true]
    exact beq_iff_eq.2 (by omega)
  · rw [bneT a4,cond_true,yes]
    have:n.all is16=false:=by
      rw [List.all_eq_false]
      exact ⟨c,List.mem_of_getElem? hc,by unfold is16;rw [beq_iff_eq];omega⟩
    rw [this,Bool.false_and]
theorem vc_lput:VC Tryz.prog Tryz.f101 (bodyOf Tryz.f101) S_lput [(10,S_lchk),(123,S_put),(125,S_wfil),(126,S_cor),(124,S_cat)] (fun _ _=>none)=(∀ (x:(Bool×Int×Int×Int×List Int×Unit)×Unit),okW x.fst.snd.snd.snd.fst→
  List.length x.fst.snd.snd.snd.snd.fst≤(9223372036854775807:Nat)→
  True∧bif lcF x.fst != (0:Int) then (([],lcF x.fst,()),())=(lpF x.fst,()) else bif x.fst.fst then (0:Int)≤(78:Int)∧(78:Int)≤(78:Int)∧(78:Int)≤(281474976710656:Int)∧(78:Int)≤(140737488351232:Int)∧(([(0:Int),(0:Int),(0:Int),(0:Int),(0:Int),(0:Int),(0:Int),(0:Int),(0:Int),(0:Int),(0:Int),(0:Int),(0:Int),(0:Int),(0:Int),(0:Int),(0:Int),(0:Int),(0:Int),(0:Int),(0:Int),(0:Int),(0:Int),(0:Int),(0:Int),(0:Int),(0:Int),(0:Int),(0:Int),(0:Int),(0:Int),(0:Int),(0:Int),(0:Int),(0:Int),(0:Int),(0:Int),(0:Int),(0:Int),(0:Int),(0:Int),(0:Int),(0:Int),(0:Int),(0:Int),(0:Int),(0:Int),(0:Int),(0:Int),(0:Int),(0:Int),(0:Int),(0:Int),(0:Int),(0:Int),(0:Int),(0:Int),(0:Int),(0:Int),(0:Int),(0:Int),(0:Int),(0:Int),(0:Int),(0:Int),(0:Int),(0:Int),(0:Int),(0:Int),(0:Int),(0:Int),(0:Int),(0:Int),(0:Int),(0:Int),(0:Int),(0:Int),(0:Int)],(0:Int),()),())=(lpF x.fst,()) else ((0:Int)≤IntKind.wrap IntKind.u64 x.fst.snd.fst∧IntKind.wrap IntKind.u64 x.fst.snd.fst < (18446744073709551616:Int))∧((0:Int)≤IntKind.wrap IntKind.u64 x.fst.snd.snd.fst∧IntKind.wrap IntKind.u64 x.fst.snd.snd.fst < (18446744073709551616:Int))∧((0:Int)≤x.fst.snd.snd.snd.fst∧x.fst.snd.snd.snd.fst < (18446744073709551616:Int))∧True∧True∧bif orF [putE (IntKind.wrap IntKind.u64 x.fst.snd.fst) (2:Int),putE (IntKind.wrap IntKind.u64 x.fst.snd.snd.fst) (2:Int),putE x.fst.snd.snd.snd.fst (8:Int),fileE x.fst.snd.snd.snd.snd.fst (64:Int)] != (0:Int) then (([],orF [putE (IntKind.wrap IntKind.u64 x.fst.snd.fst) (2:Int),putE (IntKind.wrap IntKind.u64 x.fst.snd.snd.fst) (2:Int),putE x.fst.snd.snd.snd.fst (8:Int),fileE x.fst.snd.snd.snd.snd.fst (64:Int)],()),())=(lpF x.fst,()) else List.length (List.flatten [[(1:Int)],putR (IntKind.wrap IntKind.u64 x.fst.snd.fst) (2:Int),putR (IntKind.wrap IntKind.u64 x.fst.snd.snd.fst) (2:Int),putR x.fst.snd.snd.snd.fst (8:Int),filR x.fst.snd.snd.snd.snd.fst (64:Int)])≤(1099511627776:Nat)∧((List.flatten [[(1:Int)],putR (IntKind.wrap IntKind.u64 x.fst.snd.fst) (2:Int),putR (IntKind.wrap IntKind.u64 x.fst.snd.snd.fst) (2:Int),putR x.fst.snd.snd.snd.fst (8:Int),filR x.fst.snd.snd.snd.snd.fst (64:Int)],(0:Int),()),())=(lpF x.fst,())):=by kernel_rfl
theorem en_lput (us:Array Value) (u:World):(callFunc 101 us).run Tryz.prog u=.ok (.enter 101 us) u:=by kernel_rfl
theorem sc_lput:SC Tryz.prog 101 S_lput:=by
  refine SC.of Tryz.func101 (c:=bodyOf Tryz.f101) (by kernel_rfl) (by kernel_rfl) (fun x=>(by decide:(1:Nat)≤Tryz.f101.ntmps)) (DOk.cons sc_lchk en_lchk (DOk.cons sc_put en_put (DOk.cons sc_wfil en_wfil (DOk.cons sc_cor en_cor (DOk.cons sc_cat en_cat DOk.nil))))) (Eq.mpr vc_lput ?_)
  rintro ⟨l,⟨⟩⟩ hw -
  dsimp only at hw ⊢
  refine ⟨trivial,?_⟩
  by_cases e:lcF l=0
  rotate_left 1
  · rw [bneT e,cond_true,lpF,if_pos e]
  have hF:lpF l=(lpB l,0,()):=by rw [lpF,if_neg (fun h=>h e)]
  rw [bneF e,cond_false,hF]
  rcases lc_0 e with c | ⟨c,⟨f0,f1⟩,⟨t0,t1⟩,s,x⟩
  · rw [c,cond_true,lpB,if_pos c]
    exact ⟨by decide,by decide,by decide,by decide,rfl⟩
  have w1:IntKind.u64.wrap l.2.1=l.2.1:=u64_of f0 (by omega)
  have w2:IntKind.u64.wrap l.2.2.1=l.2.2.1:=u64_of t0 (by omega)
  have hB:lpB l=[[1],putR l.2.1 2,putR l.2.2.1 2,putR l.2.2.2.1 8,filR l.2.2.2.2.1 64].flatten:=by
    rw [lpB,if_neg (by rw [c];decide)]
    rfl
  have ho:orF [putE l.2.1 2,putE l.2.2.1 2,putE l.2.2.2.1 8,fileE l.2.2.2.2.1 64]=0:=orF_0 fun y hy=>by
    simp only [List.mem_cons,List.not_mem_nil,or_false] at hy
    rcases hy with rfl | rfl | rfl | rfl
    · exact putE2 f0 (by omega)
    · exact putE2 t0 (by omega)
    · exact putE8
    · exact (fil64 x).1
  rw [c,cond_false,w1,w2,ho,bneF rfl,cond_false,← hB,lpB_len e]
  exact ⟨⟨f0,by omega⟩,⟨t0,by omega⟩,hw,trivial,trivial,by decide,rfl⟩
end Go.Proofs.YtjkbkhjalimebaaGreatDoor
namespace Go.Proofs.YtjkbkhjalimebaaGreatDoor
open Go.RowKit DoorU
set_option linter.unusedVariables false
set_option linter.unusedSimpArgs false
set_option maxRecDepth 100000
set_option maxHeartbeats 1000000
namespace DoorU
def wrU (s n:List (List Int)) (b:List Int) (i:Nat):List Int:=(List.range i).foldl (fun b j=>seF (s.getD (s.length - 1 - j) []) (n.getD (s.length - 1 - j) []) b) b
theorem wrU_succ (s n:List (List Int)) (b:List Int) (i:Nat):wrU s n b (i+1)=seF (s.getD (s.length - 1 - i) []) (n.getD (s.length - 1 - i) []) (wrU s n b i):=by
  unfold wrU
  rw [List.range_succ,List.foldl_append]
  rfl
theorem wrG_fold (s n:List (List Int)):∀ (L:Nat) (b:List Int),wrG s n L b=(List.range L).foldl (fun b j=>seF (s.getD (L - 1 - j) []) (n.getD (L - 1 - j) []) b) b
  | 0,b=>rfl
  | L + 1, b => by
    rw [wrG,wrG_fold s n L,List.range_succ_eq_map,List.foldl_cons,List.foldl_map]
    congr 1
    funext c j
    rw [show L+1 - 1 - (j+1)=L - 1 - j by omega]
theorem wrU_all (s n:List (List Int)) (b:List Int):wrU s n b s.length=wrG s n s.length b:=(wrG_fold s n s.length b).symm
theorem wrU_len (s n:List (List Int)) (b:List Int):∀ (i:Nat),(∀ j,j < i→(n.getD (s.length - 1 - j) []).length=16)→(wrU s n b i).length=b.length+48*i
  | 0,_=>rfl
  | i + 1, h => by
    rw [wrU_succ,seF_len,wrU_len s n b i fun j hj=>h j (by omega),h i (by omega)]
    omega
theorem owmW {s n:List (List Int)} {b:List Int} (h:owmF s n b=true):1≤s.length∧s.length≤8∧n.length=s.length∧(∀ c∈n,c.length=16)∧b.length=78:=by
  unfold owmF at h
  simp only [Bool.and_eq_true,decide_eq_true_eq,beq_iff_eq] at h
  obtain ⟨⟨h1,h2,h3⟩,h4,h5⟩:=h
  refine ⟨h1,h2,h3,fun c hc=>?_,h5⟩
  have:=List.all_eq_true.1 h4 c hc
  unfold is16 at this
  exact eq_of_beq this
end DoorU
abbrev vLL:Sh:=.var 60 (.pair lYs .unit)
abbrev vEr:Sh:=.var 45 (.pair nI .unit)
def R_wrap (x:List (List Int)×List (List Int)×List Int×Unit):RA:=⟨128,141,okFL x.1.length,x.1.length,mk1 x.1.length,[3,4,6,7,8],.pair vLL (.pair vLL (.pair (vByt vY) (.pair vEr (.pair (vByt vY) .unit)))),fun i (v:(List (List Int)×Unit)×(List (List Int)×Unit)×(List Int×Unit)×(Int×Unit)×(List Int×Unit)×Unit)=>v.1.1=x.1∧v.2.1.1=x.2.1∧v.2.2.1.1=[]∧v.2.2.2.1.1=0∧v.2.2.2.2.1.1=wrU x.1 x.2.1 x.2.2.1 i⟩
theorem vc_wrap:VCR Tryz.prog Tryz.f102 (bodyOf Tryz.f102) S_wrap [(127,S_omay),(129,S_seal)] (fun _ _=>none) R_wrap=(∀ (x:List (List Int)×List (List Int)×List Int×Unit),(∀ (k:List Int),k∈x.fst→
  List.length k≤(1048576:Nat))→
  List.length x.fst≤(9223372036854775807:Nat)→
  List.length x.snd.fst≤(9223372036854775807:Nat)→
  List.length x.snd.snd.fst≤(9223372036854775807:Nat)→
  True∧bif !owmF x.fst x.snd.fst x.snd.snd.fst then (([],(1:Int),()),())=(wrF x.fst x.snd.fst x.snd.snd.fst,()) else List.length x.fst≤(9223372036854775807:Nat)→
  (((0:Int)≤(↑(List.length x.fst):Int)∧(↑(List.length x.fst):Int)≤(1000000000000:Int))∧(↑(List.length x.fst):Int)=(↑(List.length x.fst):Int))∧(x.fst=x.fst∧x.snd.fst=x.snd.fst∧([]:List Int)=[]∧(0:Int)=(0:Int)∧x.snd.snd.fst=wrU x.fst x.snd.fst x.snd.snd.fst (0:Nat))∧(∀ (i:Nat) (v:(List (List Int)×Unit)×(List (List Int)×Unit)×(List Int×Unit)×(Int×Unit)×(List Int×Unit)×Unit),i < List.length x.fst→
  v.fst.fst=x.fst∧v.snd.fst.fst=x.snd.fst∧v.snd.snd.fst.fst=[]∧v.snd.snd.snd.fst.fst=(0:Int)∧v.snd.snd.snd.snd.fst.fst=wrU x.fst x.snd.fst x.snd.snd.fst i→
  List.length [TV.int IntKind.i64 ((↑(List.length x.fst):Int) - (1:Int) - (↑i:Int))]=(1:Nat)∧(0:Int)≤(↑(List.length x.fst):Int) - (1:Int) - (↑i:Int)∧(↑(List.length x.fst):Int) - (1:Int) - (↑i:Int) < (↑(List.length v.fst.fst):Int)∧∀ (c0:List Int),v.fst.fst[Int.toNat ((↑(List.length x.fst):Int) - (1:Int) - (↑i:Int))]?=some c0→
  (0:Int)≤(↑(List.length x.fst):Int) - (1:Int) - (↑i:Int)∧(↑(List.length x.fst):Int) - (1:Int) - (↑i:Int) < (↑(List.length v.snd.fst.fst):Int)∧∀ (c0_1:List Int),v.snd.fst.fst[Int.toNat ((↑(List.length x.fst):Int) - (1:Int) - (↑i:Int))]?=some c0_1→
  List.length c0≤(1048576:Nat)∧bif (if seE c0_1 v.snd.snd.snd.snd.fst.fst=(0:Int) then (seF c0 c0_1 v.snd.snd.snd.snd.fst.fst,(0:Int),()) else ([],seE c0_1 v.snd.snd.snd.snd.fst.fst,())).snd.fst != (0:Int) then False else v.fst.fst=x.fst∧v.snd.fst.fst=x.snd.fst∧v.snd.snd.fst.fst=[]∧v.snd.snd.snd.fst.fst=(0:Int)∧(if seE c0_1 v.snd.snd.snd.snd.fst.fst=(0:Int) then (seF c0 c0_1 v.snd.snd.snd.snd.fst.fst,(0:Int),()) else ([],seE c0_1 v.snd.snd.snd.snd.fst.fst,())).fst=wrU x.fst x.snd.fst x.snd.snd.fst (i+(1:Nat)))∧∀ (v:(List (List Int)×Unit)×(List (List Int)×Unit)×(List Int×Unit)×(Int×Unit)×(List Int×Unit)×Unit),v.fst.fst=x.fst∧v.snd.fst.fst=x.snd.fst∧v.snd.snd.fst.fst=[]∧v.snd.snd.snd.fst.fst=(0:Int)∧v.snd.snd.snd.snd.fst.fst=wrU x.fst x.snd.fst x.snd.snd.fst (List.length x.fst)→
  ((v.snd.snd.snd.snd.fst.fst,(0:Int),()),())=(wrF x.fst x.snd.fst x.snd.snd.fst,())):=by kernel_rfl
theorem en_wrap (us:Array Value) (u:World):(callFunc 102 us).run Tryz.prog u=.ok (.enter 102 us) u:=by kernel_rfl
theorem sc_wrap:SC Tryz.prog 102 S_wrap:=by
  refine SC.ofR Tryz.func102 (c:=bodyOf Tryz.f102) (by kernel_rfl) (by kernel_rfl) (fun x=>(by decide:(3:Nat)≤Tryz.f102.ntmps)) (DOk.cons sc_omay en_omay (DOk.cons sc_seal en_seal DOk.nil)) (fun x args w=>by kernel_rfl) (fun x args w=>by kernel_rfl) (fun x h xs hx=>fromLast_ok xs hx) (Eq.mpr vc_wrap ?_)
  rintro ⟨s,n,b,⟨⟩⟩ hk - - -
  dsimp only at hk ⊢
  refine ⟨trivial,?_⟩
  cases o1:owmF s n b
  · rw [Bool.not_false,cond_true,wrF,if_neg (by rw [o1];decide)]
  rw [Bool.not_true,cond_false]
  obtain ⟨s1,s2,nl,n16,b78⟩:=owmW o1
  intro _
  refine ⟨⟨⟨by omega,by omega⟩,rfl⟩,⟨rfl,rfl,rfl,rfl,rfl⟩,?_,?_⟩
  rotate_left 1
  · rintro ⟨⟨s',⟨⟩⟩,⟨n',⟨⟩⟩,⟨r,⟨⟩⟩,⟨e,⟨⟩⟩,⟨w,⟨⟩⟩,⟨⟩⟩ ⟨h1,h2,h3,h4,h5⟩
    dsimp only at h5 ⊢
    rw [h5,wrF,if_pos o1,wrU_all]
  rintro i ⟨⟨s',⟨⟩⟩,⟨n',⟨⟩⟩,⟨r,⟨⟩⟩,⟨e,⟨⟩⟩,⟨w,⟨⟩⟩,⟨⟩⟩ hi ⟨h1,h2,h3,h4,h5⟩
  dsimp only at h1 h2 h3 h4 h5 ⊢
  subst h1 h2 h3 h4
  have ei:((s'.length:Nat):Int) - 1 - (i:Int)=((s'.length - 1 - i:Nat):Int):=by omega
  rw [ei,Int.toNat_natCast]
  refine ⟨rfl,by omega,by omega,fun c0 h0=>⟨by omega,by omega,fun c1 h1=>?_⟩⟩
  have k1:=hk c0 (List.mem_of_getElem? h0)
  have l1:c1.length=16:=n16 c1 (List.mem_of_getElem? h1)
  have wl:w.length=78+48*i:=by
    rw [h5,wrU_len,b78]
    · intro j hj
      have hj2:s'.length - 1 - j < n'.length:=by omega
      rw [List.getD_eq_getElem?_getD,List.getElem?_eq_getElem hj2]
      exact n16 _ (List.getElem_mem _)
  have e0:seE c1 w=0:=by
    unfold seE
    rw [if_neg (fun h=>h l1),if_neg (by omega)]
  rw [if_pos e0,bneF rfl,cond_false]
  refine ⟨by omega,rfl,rfl,rfl,rfl,?_⟩
  rw [wrU_succ,h5,List.getD_eq_getElem?_getD,h0,List.getD_eq_getElem?_getD,h1]
  rfl
end Go.Proofs.YtjkbkhjalimebaaGreatDoor
namespace Go.Proofs.YtjkbkhjalimebaaGreatDoor
open Go.RowKit DoorU
set_option linter.unusedVariables false
set_option linter.unusedSimpArgs false
set_option maxRecDepth 100000
set_option maxHeartbeats 1000000
abbrev Hea:Type:=Cli×Cfg×Int×Int×List Par×Unit
abbrev vCf:Sh:=.agg (shOf false tC)
abbrev pHe:Sh:=.var 81 (.pair (shOf false tCl) (.pair (shOf false tC) (.pair nI (.pair nI (.pair oPas .unit)))))
namespace DoorU
def zCl:Cli:=(0,zPo,(0,[],()),false,[],0,())
def okQw (q:Que):Prop:=okQu q∧∀ l∈q.2.1,okW l.2.2.2.1
def nwN (c:Cfg) (n:Int):Int:=if isNodeF c n then n else 0
def nwE (c:Cfg) (n:Int):Int:=if isNodeF c n then 0 else 1
def nwF (c:Cfg) (n:Int):Pos×Int×Unit:=((nwN c n,(0,0,[],()),[],()),nwE c n,())
theorem nwF_eq (c:Cfg) (n:Int):newF c n=nwF c n:=by
  unfold newF nwF nwN nwE
  cases isNodeF c n <;> rfl
def cnwF (c:Cfg) (w:Int):Cli×Int×Unit:=if nodeF c w < 0 then (zCl,1,()) else if nwE c (nodeF c w)≠0 then (zCl,nwE c (nodeF c w),()) else ((w,(nwN c (nodeF c w),(0,0,[],()),[],()),(c.2.2.2.2.2.2.2.2.2.2.1,[],()),false,[],0,()),0,())
def isSv (c:Cfg) (n:Int):Bool:=wit n 1 (serversF c)
def srvF (c:Cfg) (l:List Int):List (List Int):=l.map (onkF c)
def cvL:Let:=(true,0,0,0,[],())
def hdL (q:Que):Let:=match q.2.1 with | l::_=>l | []=>cvL
def lastF (l:List (List Int)):List Int:=l.getD (l.length - 1) []
def onnF (c:Cfg) (x:Cli) (s:Sta):List (List Int):=nonF (secF c (nodeF c x.1)) s
def onB (c:Cfg) (x:Cli) (s:Sta):List Int:=wrG (srvF c s.2.2.1) (onnF c x s) s.2.2.1.length (lpB (hdL x.2.2.1))
def onW (c:Cfg) (x:Cli) (s:Sta):List Int:=if (hdL x.2.2.1).1=true then [] else repF (tagF (lastF (srvF c s.2.2.1)) (lastF (onnF c x s))) 1
def onE (c:Cfg) (x:Cli) (s:Sta):Int:=if nodeF c x.1 < 0∨stChk s≠0∨s.2.2.1.all (isSv c)=false then 1 else lcF (hdL x.2.2.1)
def oniF (c:Cfg) (x:Cli) (s:Sta):List Int×List Int×Int×Unit:=if onE c x s≠0 then ([],[],onE c x s,()) else (onB c x s,onW c x s,0,())
def heP (h:Hea):Pos:=h.1.2.1
def heS (h:Hea):Sta:=(heP h).2.1
def heQ (h:Hea):Que:=h.1.2.2.1
def heW (h:Hea):List Int:=h.1.2.2.2.2.1
def heD (h:Hea):Bool:=h.1.2.2.2.1
def firF (h:Hea):Int×Bool×Unit:=match (heS h).2.2.1 with | x::_=>(x,true,()) | []=>(0,false,())
def anO (h:Hea):List Int×List Int×Int×Unit:=oniF h.2.1 h.1 (heS h)
def anN (h:Hea):List Int×Int×Unit:=npF (3,[(anO h).1],0,false,())
def anS (h:Hea):Pos×List Par×Int×Unit:=psF h.2.1 (heP h) (firF h).1 (anN h).1 h.2.2.2.1
def anY (h:Hea):Bool:=(firF h).2.1&&(h.2.2.1==0 && !heD h)
def annF (h:Hea):Hea:=
  if anY h=false then h else if (anO h).2.2.1≠0 then h else if (anN h).2.1≠0 then h else if (anS h).2.2.1≠0 then h
  else ((h.1.1,(anS h).1,heQ h,true,(anO h).2.1,(qhF (heQ h)).1.2.2.2.1,()),h.2.1,h.2.2.1,h.2.2.2.1,h.2.2.2.2.1++(anS h).2.1,())
def rcY (h:Hea) (p:List Int):Bool:=(firF h).2.1&&(h.2.2.1==(firF h).1&&(!((heW h).length==0)&&heW h==p))
def recF (h:Hea) (p:List Int):Hea:=if rcY h p=false then h else ((h.1.1,heP h,(qoF (heQ h) h.1.2.2.2.2.2.1).1,heD h,[],0,()),h.2)
def hrS (h:Hea) (b:List Int):Hea:=if (ntF b).2.1≠0 then h else if (ntF b).1.1=1 then annF h else if (ntF b).1.1=6∧(ntF b).1.2.1.length=1 then recF h ((ntF b).1.2.1.getD 0 []) else h
def hrGo (l:List (List Int)) (h:Hea):Hea:=l.foldl hrS h
def hrN (x:Cli) (p:Pos):Bool:=(p.2.1.1 != x.2.1.2.1.1) || (p.2.1.2.1 != x.2.1.2.1.2.1)
def hr0 (c:Cfg) (x:Cli) (fr now:Int) (p:Pos) (out:List Par):Hea:=(bif hrN x p then (x.1,p,x.2.2.1,false,[],0,()) else (x.1,p,x.2.2.1,x.2.2.2),c,fr,now,out,())
def hrP (c:Cfg) (x:Cli) (fr:Int) (b:List Int) (now:Int):Pos×List (List Int)×List Par×Int×Unit:=ptF c x.2.1 fr b now
def hrH (c:Cfg) (x:Cli) (fr:Int) (b:List Int) (now:Int):Hea:=hrGo (hrP c x fr b now).2.1 (hr0 c x fr now (hrP c x fr b now).1 (hrP c x fr b now).2.2.1)
def hrF (c:Cfg) (x:Cli) (fr:Int) (b:List Int) (now:Int):Cli×List Par×Int×Unit:=if (hrP c x fr b now).2.2.2.1≠0 then (zCl,[],(hrP c x fr b now).2.2.2.1,()) else ((hrH c x fr b now).1,(hrH c x fr b now).2.2.2.2.1,0,())
def okHe (h:Hea):Prop:=h.2.1.1.length≤1048576∧(heD h=false→okPo (heP h))∧okSt (heS h)∧okQw (heQ h)∧h.2.2.2.2.1.length≤2000000000
def bdIts (n:Nat) (l:List Itm):Prop:=l.length≤n∧∀ x∈l,x.2.1.length≤n
def bdBs (n:Nat) (l:List (List Int)):Prop:=l.length≤n∧∀ x∈l,x.length≤n
def bdPe (n:Nat) (q:Pee):Prop:=bdIts n q.2.1.2.1∧bdBs n q.2.1.2.2.1∧bdIts n q.2.2.1.2.1
def bdPo (n:Nat) (p:Pos):Prop:=p.2.1.2.2.1.length≤n∧p.2.2.1.length≤n∧∀ q∈p.2.2.1,bdPe n q
def bytIts (l:List Itm):Prop:=∀ x∈l,byt x.2.1
def bytBs (l:List (List Int)):Prop:=∀ x∈l,byt x
def bytOut (o:Ouq):Prop:=bytIts o.2.1∧bytBs o.2.2.1
def bytIn (i:Inq):Prop:=bytIts i.2.1
def bytPe (q:Pee):Prop:=bytOut q.2.1∧bytIn q.2.2.1
def bytPo (p:Pos):Prop:=∀ q∈p.2.2.1,bytPe q
def okCl (x:Cli):Prop:=bdPo 10000000 x.2.1∧okSt x.2.1.2.1∧bytPo x.2.1∧okQw x.2.2.1∧byt x.2.2.2.2.1
theorem srvF_len (c:Cfg) (l:List Int):(srvF c l).length=l.length:=by unfold srvF;rw [List.length_map]
theorem nonF_len (k:List Int) (s:Sta):(nonF k s).length=s.2.2.1.length:=by unfold nonF;rw [List.length_map,List.length_range]
theorem non16 (k:List Int) (s:Sta):(nonF k s).all is16=true:=by
  rw [List.all_eq_true]
  intro y hy
  unfold nonF at hy
  obtain ⟨i,_,rfl⟩:=List.mem_map.1 hy
  unfold is16
  rw [beq_iff_eq,List.length_take,tagF_len]
  rfl
theorem owm_t {c:Cfg} {k:List Int} {s:Sta} {b:List Int} (hs:stChk s=0) (hb:b.length=78):owmF (srvF c s.2.2.1) (nonF k s) b=true:=by
  obtain ⟨l1,l8⟩:=okS_len (stChk_0 hs)
  unfold owmF
  rw [srvF_len,nonF_len,non16,decide_eq_true l1,decide_eq_true l8,beq_self_eq_true,hb]
  rfl
theorem oni_wr {c:Cfg} {k:List Int} {s:Sta} {l:Let} (hs:stChk s=0) (hl:lcF l=0):wrF (srvF c s.2.2.1) (nonF k s) (lpB l)=(wrG (srvF c s.2.2.1) (nonF k s) s.2.2.1.length (lpB l),0,()):=by
  rw [wrF,if_pos (owm_t hs (lpB_len hl)),srvF_len]
theorem hd_nil {q:Que} (h:(qhF q).2.1=false):hdL q=cvL:=by
  unfold qhF at h
  unfold hdL
  split at h
  · cases h
  · rename_i e
    rw [e]
theorem hd_cons {q:Que} (h:(qhF q).2.1=true):hdL q=(qhF q).1∧hdL q∈q.2.1:=by
  unfold qhF at h ⊢
  unfold hdL
  split at h
  · rename_i e
    rw [e]
    exact ⟨rfl,List.mem_cons_self ..⟩
  · cases h
theorem onk_len (c:Cfg) (n:Int):(onkF c n).length=32:=tagF_len _ _
theorem sec_len (c:Cfg) (n:Int):(secF c n).length=32:=tagF_len _ _
theorem last_of {l:List (List Int)} {n:Nat} {y:List Int} (hn:l.length=n) (h:l[n - 1]?=some y):lastF l=y:=by
  unfold lastF
  rw [List.getD_eq_getElem?_getD,hn,h]
  rfl
theorem anN_len {h:Hea}:(anN h).1.length≤100000:=by
  unfold anN npF
  by_cases e:nkE (3,[(anO h).1],0,false,())=0
  · rw [beq_iff_eq.2 e,cond_true]
    obtain ⟨n1,n2⟩:=nkE_0 e
    have q:=npP_len n2
    have p2:=putR2_len ([(anO h).1].length:Nat)
    show (npL _).length≤_
    unfold npL
    rw [show ((3:Int)==7)=false from rfl,cond_false,List.append_nil,List.length_append,List.length_append]
    dsimp only at q n1 p2 ⊢
    simp only [List.length_cons,List.length_nil] at q p2 ⊢
    omega
  · rw [beq_eq_false_iff_ne.2 e,cond_false]
    exact Nat.zero_le _
theorem parF_1 (c:Cfg) (p:Pos) (tn:Int) (b:List Int) (now:Int):(psF c p tn b now).2.1.length≤1:=by
  unfold psF
  split
  · exact Nat.zero_le 1
  · split
    · exact Nat.zero_le 1
    · have e:∀ l:List Itm,(iparF c (sndP c p tn b now) tn l true).length≤l.length:=fun l=>by
        unfold iparF
        induction l with
        | nil=>exact Nat.le_refl _
        | cons a l ih =>
          have:=parF_len c ((sndP c p tn b now).1,tn,(sndP c p tn b now).2.1,1,a.1,a.2.1,()) true
          rw [List.flatMap_cons,List.length_append,List.length_cons]
          omega
      exact Nat.le_trans (e _) (sendF_len _ _ _ _)
theorem qo_mem {q:Que} {s:Int}:∀ l∈(qoF q s).1.2.1,l∈q.2.1:=by
  unfold qoF
  split
  · rename_i a r e
    split
    · intro l hl
      rw [e]
      exact List.mem_cons_of_mem _ hl
    · exact fun l h=>h
  · exact fun l h=>h
theorem qo_ok {q:Que} {s:Int} (h:okQw q):okQw (qoF q s).1:=by
  refine ⟨⟨?_,fun l hl=>h.1.2 l (qo_mem l hl)⟩,fun l hl=>h.2 l (qo_mem l hl)⟩
  have h1:=h.1.1
  unfold qoF
  split
  · rename_i a r e
    split
    · rw [e] at h1
      exact Nat.le_trans (Nat.le_succ _) h1
    · exact h1
  · exact h1
theorem ann_n {h:Hea} (e:anY h=false):annF h=h:=by rw [annF,if_pos e]
theorem ann_sta {c:Cfg} {p:Pos} {tn:Int} {b:List Int} {now:Int} (e:(psF c p tn b now).2.2.1=0):(psF c p tn b now).1.2.1=p.2.1:=by
  unfold psF at e ⊢
  split at e
  · cases e
  rename_i h1
  rw [if_neg h1]
  split at e
  · cases e
  rename_i h2
  rw [if_neg h2]
  rfl
theorem onW_byt (c:Cfg) (x:Cli) (s:Sta):byt (onW c x s):=by
  unfold onW
  split
  · exact fun y hy=>(List.not_mem_nil hy).elim
  · exact tagF_byt _ _
theorem oni_byt (c:Cfg) (x:Cli) (s:Sta):byt (oniF c x s).2.1:=by
  unfold oniF
  split
  · exact fun y hy=>(List.not_mem_nil hy).elim
  · exact onW_byt _ _ _
theorem ann_ok {h:Hea} (ok:okHe h) (hb:byt (heW h)) (hl:h.2.2.2.2.1.length+(bif heD h then 0 else 1)≤2000000000):okHe (annF h)∧byt (heW (annF h))∧(annF h).2.2.2.2.1.length+(bif heD (annF h) then 0 else 1)≤2000000000:=by
  unfold annF
  split
  · exact ⟨ok,hb,hl⟩
  rename_i a1
  split
  · exact ⟨ok,hb,hl⟩
  split
  · exact ⟨ok,hb,hl⟩
  split
  · exact ⟨ok,hb,hl⟩
  rename_i a4
  have hd:heD h=false:=by
    unfold anY at a1
    cases e:heD h
    · rfl
    · rw [e,Bool.not_true,Bool.and_false,Bool.and_false] at a1
      exact absurd rfl a1
  rw [hd,cond_false] at hl
  have p1:(anS h).2.1.length≤1:=parF_1 _ _ _ _ _
  have ll:(h.2.2.2.2.1++(anS h).2.1).length≤2000000000:=by rw [List.length_append];omega
  refine ⟨⟨ok.1,(fun e=>by cases e),?_,ok.2.2.2.1,ll⟩,oni_byt _ _ _,ll⟩
  show okSt (anS h).1.2.1
  rw [show (anS h).1.2.1=(heP h).2.1 from ann_sta (Decidable.not_not.1 a4)]
  exact ok.2.2.1
theorem rec_ok {h:Hea} {p:List Int} (ok:okHe h) (hb:byt (heW h)) (hl:h.2.2.2.2.1.length+(bif heD h then 0 else 1)≤2000000000):okHe (recF h p)∧byt (heW (recF h p))∧(recF h p).2.2.2.2.1.length+(bif heD (recF h p) then 0 else 1)≤2000000000:=by
  unfold recF
  split
  · exact ⟨ok,hb,hl⟩
  · exact ⟨⟨ok.1,ok.2.1,ok.2.2.1,qo_ok ok.2.2.2.1,ok.2.2.2.2⟩,fun y hy=>(List.not_mem_nil hy).elim,hl⟩
theorem hrGo_at {l:List (List Int)} {i:Nat} {b:List Int} {h:Hea} (hx:l[i]?=some b):hrGo (l.drop i) h=hrGo (l.drop (i+1)) (hrS h b):=by
  rw [drop_of hx]
  rfl
theorem bdIts_ok {n:Nat} {l:List Itm} (h:bdIts n l) (hn:n≤big):okIts l:=⟨Nat.le_trans h.1 hn,fun x hx=>Nat.le_trans (h.2 x hx) hn⟩
theorem bdBs_ok {n:Nat} {l:List (List Int)} (h:bdBs n l) (hn:n≤big):okBs l:=⟨Nat.le_trans h.1 hn,fun x hx=>Nat.le_trans (h.2 x hx) hn⟩
theorem bdPo_ok {n:Nat} {p:Pos} (h:bdPo n p) (hn:n≤big):okPo p:=
  ⟨Nat.le_trans h.1 hn,Nat.le_trans h.2.1 hn,fun q hq=>⟨⟨bdIts_ok (h.2.2 q hq).1 hn,bdBs_ok (h.2.2 q hq).2.1 hn⟩,bdIts_ok (h.2.2 q hq).2.2 hn⟩⟩
theorem bdIts_up {n m:Nat} {l:List Itm} (h:bdIts n l) (hn:n≤m):bdIts m l:=⟨Nat.le_trans h.1 hn,fun x hx=>Nat.le_trans (h.2 x hx) hn⟩
theorem bdBs_up {n m:Nat} {l:List (List Int)} (h:bdBs n l) (hn:n≤m):bdBs m l:=⟨Nat.le_trans h.1 hn,fun x hx=>Nat.le_trans (h.2 x hx) hn⟩
theorem bdPe_up {n m:Nat} {q:Pee} (h:bdPe n q) (hn:n≤m):bdPe m q:=⟨bdIts_up h.1 hn,bdBs_up h.2.1 hn,bdIts_up h.2.2 hn⟩
theorem bd_lnk {n:Nat} {l:List Pee} (h:∀ q∈l,bdPe n q) (k:Int):∀ q∈lnkL l k,bdPe n q:=by
  unfold lnkL
  split
  · intro q hq
    unfold insF at hq
    rw [List.mem_append,List.mem_append,List.mem_singleton] at hq
    rcases hq with (hq | rfl) | hq
    · exact h q (List.mem_of_mem_take hq)
    · exact ⟨⟨Nat.zero_le _,fun x h=>(List.not_mem_nil h).elim⟩,⟨Nat.zero_le _,fun x h=>(List.not_mem_nil h).elim⟩,⟨Nat.zero_le _,fun x h=>(List.not_mem_nil h).elim⟩⟩
    · exact h q (List.mem_of_mem_drop hq)
  · exact h
theorem lnkL_len (l:List Pee) (n:Int):(lnkL l n).length≤l.length+1:=by
  unfold lnkL
  split
  · have g2:gtAt l n≤l.length:=fIdx_le _ l
    rw [insF_len _ _ _ g2]
    exact Nat.le_refl _
  · exact Nat.le_succ _
theorem linkE_mem (p:Pos) (n:Int):linkE p n∈lnkL p.2.2.1 n:=by
  unfold linkE
  rw [List.getD_eq_getElem?_getD,List.getElem?_eq_getElem (lnkI_lt p.2.2.1 n)]
  exact List.getElem_mem _
theorem bd_put {n:Nat} {p:Pos} (h:bdPo n p) (k:Int) {q:Pee} {m:Nat} (hq:bdPe m q) (hm:n+1≤m):bdPo m (putPe p k q):=by
  have up:n≤m:=by omega
  refine ⟨Nat.le_trans h.1 up,?_,fun r hr=>?_⟩
  · show ((lnkL _ _).set _ _).length≤_
    rw [List.length_set]
    have:=lnkL_len p.2.2.1 k
    have:=h.2.1
    omega
  · rcases List.mem_or_eq_of_mem_set hr with hr | rfl
    · exact bdPe_up (bd_lnk h.2.2 k r hr) up
    · exact hq
theorem bd_ackGo {n:Nat} (w now:Int):∀ (l:List (List Int)) (nx:Int) (s t:List Itm),(∀ x∈s,x.2.1.length≤n)→(∀ b∈l,b.length≤n)→
    (ackGo w now nx s t l).1.2.1.length≤s.length+l.length∧(∀ x∈(ackGo w now nx s t l).1.2.1,x.2.1.length≤n)∧(ackGo w now nx s t l).1.2.2.1.length≤l.length∧∀ b∈(ackGo w now nx s t l).1.2.2.1,b.length≤n
  | [],nx,s,t,hs,hl=>⟨Nat.le_refl _,hs,Nat.le_refl _,hl⟩
  | b :: r, nx, s, t, hs, hl => by
    rw [ackGo]
    split
    · have hb:=hl b (List.mem_cons_self ..)
      obtain ⟨h1,h2,h3,h4⟩:=bd_ackGo w now r (i64 (nx+1)) (s++[itm nx b now]) (t++[itm nx b now]) (fun x hx=>by
        rcases List.mem_append.1 hx with hx | hx
        · exact hs x hx
        · rw [List.mem_singleton.1 hx];exact hb) fun b hb=>hl b (List.mem_cons_of_mem _ hb)
      refine ⟨Nat.le_trans h1 ?_,h2,Nat.le_succ_of_le h3,h4⟩
      rw [List.length_append,List.length_cons,List.length_cons,List.length_nil]
      omega
    · exact ⟨Nat.le_add_right _ _,hs,Nat.le_refl _,hl⟩
theorem tkK_mem:∀ (l:List Itm) (g:List Bool),(tkK l g).length≤l.length∧∀ x∈tkK l g,x∈l
  | [],_=>⟨Nat.le_refl _,fun x h=>by unfold tkK at h;exact h⟩
  | _::_,[]=>⟨Nat.zero_le _,fun x h=>by unfold tkK at h;exact (List.not_mem_nil h).elim⟩
  | x :: l, g :: r => by
    obtain ⟨h1,h2⟩:=tkK_mem l r
    unfold tkK
    split
    · exact ⟨Nat.le_succ_of_le h1,fun y hy=>List.mem_cons_of_mem _ (h2 y hy)⟩
    · refine ⟨Nat.succ_le_succ h1,fun y hy=>?_⟩
      rcases List.mem_cons.1 hy with rfl | hy
      · exact List.mem_cons_self ..
      · exact List.mem_cons_of_mem _ (h2 y hy)
theorem bd_take {n:Nat} {c:Cfg} {p:Pos} {fr now:Int} {b:List Int} (h:bdPo n p) (hn:65536≤n) (hb:byt b):bdPo (2*n+1) (ptF c p fr b now).1∧(ptF c p fr b now).2.2.1.length≤n+1:=by
  have z:∀ {L:List (List Int)} {e:Int},bdPo (2*n+1) ((zPo,L,[],e,()):Pos×List (List Int)×List Par×Int×Unit).1∧((zPo,L,[],e,()):Pos×List (List Int)×List Par×Int×Unit).2.2.1.length≤n+1:=⟨⟨Nat.zero_le _,Nat.zero_le _,fun q hq=>(List.not_mem_nil hq).elim⟩,Nat.zero_le _⟩
  unfold ptF
  split
  · exact z
  split
  · exact z
  rename_i e
  obtain ⟨f1,f2,f3,f4⟩:=frTk_ok hb (Decidable.not_not.1 e)
  generalize frTkF (pairF c fr p.1) b=f at f1 f2 f3 f4
  unfold ptG
  split
  · exact z
  split
  · exact z
  have hg:bdPo n (goF p f.2.2.1):=by
    unfold goF
    split
    · exact h
    · exact ⟨by show f.2.2.1.2.2.1.length≤n;omega,Nat.zero_le _,fun q hq=>(List.not_mem_nil hq).elim⟩
  have hl:=bd_lnk hg.2.2 fr _ (linkE_mem (goF p f.2.2.1) fr)
  obtain ⟨⟨s1,s2⟩,⟨w1,w2⟩,⟨k1,k2⟩⟩:=hl
  split
  · have sf:(ackS (linkE (goF p f.2.2.1) fr).2.1.2.1 f.2.2.2.2.1).length≤n:=Nat.le_trans (List.length_filter_le _ _) s1
    obtain ⟨a1,a2,a3,a4⟩:=bd_ackGo (n:=n) (winC c) now (linkE (goF p f.2.2.1) fr).2.1.2.2.1 (linkE (goF p f.2.2.1) fr).2.1.1 (ackS (linkE (goF p f.2.2.1) fr).2.1.2.1 f.2.2.2.2.1) [] (fun x hx=>s2 x (List.mem_filter.1 (show x∈List.filter _ _ from hx)).1) w2
    refine ⟨bd_put hg fr ⟨⟨?_,fun x hx=>Nat.le_trans (a2 x hx) (by omega)⟩,⟨Nat.le_trans a3 (by omega),fun x hx=>Nat.le_trans (a4 x hx) (by omega)⟩,bdIts_up ⟨k1,k2⟩ (by omega)⟩ (by omega),?_⟩
    · exact Nat.le_trans a1 (by omega)
    · have al:=ackGo_len (winC c) now (linkE (goF p f.2.2.1) fr).2.1.2.2.1 (linkE (goF p f.2.2.1) fr).2.1.1 (ackS (linkE (goF p f.2.2.1) fr).2.1.2.1 f.2.2.2.2.1) []
      have e:∀ l:List Itm,(iparF c (tkAP c p fr f now) fr l true).length≤l.length:=fun l=>by
        unfold iparF
        induction l with
        | nil=>exact Nat.le_refl _
        | cons a l ih =>
          have:=parF_len c ((tkAP c p fr f now).1,fr,(tkAP c p fr f now).2.1,1,a.1,a.2.1,()) true
          rw [List.flatMap_cons,List.length_append,List.length_cons]
          omega
      refine Nat.le_trans (e _) (Nat.le_trans al ?_)
      rw [List.length_nil]
      omega
  · refine ⟨bd_put hg fr ⟨bdIts_up ⟨s1,s2⟩ (by omega),bdBs_up ⟨w1,w2⟩ (by omega),?_⟩ (by omega),Nat.le_trans (parF_len _ _ _) (by omega)⟩
    obtain ⟨t1,t2⟩:=tkK_mem (tkL (linkE (goF p f.2.2.1) fr).2.2.1 f.2.2.2.2.1 f.2.2.2.2.2.1 (winC c)) (tkE (linkE (goF p f.2.2.1) fr).2.2.1 f.2.2.2.2.1 f.2.2.2.2.2.1 (winC c)).2.1
    have tl:(tkL (linkE (goF p f.2.2.1) fr).2.2.1 f.2.2.2.2.1 f.2.2.2.2.2.1 (winC c)).length≤n+1∧∀ x∈tkL (linkE (goF p f.2.2.1) fr).2.2.1 f.2.2.2.2.1 f.2.2.2.2.2.1 (winC c),x.2.1.length≤n:=by
      unfold tkL
      split
      · refine ⟨by rw [List.length_append,List.length_cons,List.length_nil];omega,fun x hx=>?_⟩
        rcases List.mem_append.1 hx with hx | hx
        · exact k2 x hx
        · rw [List.mem_singleton.1 hx]
          exact Nat.le_trans f3 hn
      · exact ⟨Nat.le_succ_of_le k1,k2⟩
    exact ⟨Nat.le_trans t1 (by omega),fun x hx=>Nat.le_trans (tl.2 x (t2 x hx)) (by omega)⟩
theorem pt_st {c:Cfg} {p:Pos} {fr now:Int} {b:List Int} (h:okSt p.2.1) (hb:byt b):okSt (ptF c p fr b now).1.2.1:=by
  have z:∀ {L:List (List Int)} {e:Int},okSt ((zPo,L,[],e,()):Pos×List (List Int)×List Par×Int×Unit).1.2.1:=fun {L e}=>show okSt (0,0,[],()) from ⟨⟨by decide,by decide⟩,⟨by decide,by decide⟩⟩
  unfold ptF
  split
  · exact z
  split
  · exact z
  rename_i e
  obtain ⟨f1,f2,f3,f4⟩:=frTk_ok hb (Decidable.not_not.1 e)
  generalize frTkF (pairF c fr p.1) b=f at f1 f2 f3 f4
  unfold ptG
  split
  · exact z
  split
  · exact z
  split
  · exact goF_st h f1
  · exact goF_st h f1
theorem bytPe_lnk {l:List Pee} (h:∀ q∈l,bytPe q) (k:Int):∀ q∈lnkL l k,bytPe q:=by
  unfold lnkL
  split
  · intro q hq
    unfold insF at hq
    rw [List.mem_append,List.mem_append,List.mem_singleton] at hq
    rcases hq with (hq | rfl) | hq
    · exact h q (List.mem_of_mem_take hq)
    · exact ⟨⟨fun x h=>(List.not_mem_nil h).elim,fun x h=>(List.not_mem_nil h).elim⟩,fun x h=>(List.not_mem_nil h).elim⟩
    · exact h q (List.mem_of_mem_drop hq)
  · exact h
theorem tkGo_mem (m:List (Int×Int)) (l:List Itm):∀ (n:Nat) (e:Int) (g:List Bool) (bs:List (List Int)),(∀ x∈l,byt x.2.1)→bytBs bs→bytBs (tkGo m l n e g bs).2.2
  | 0,_,_,_,_,h=>h
  | n + 1, e, g, bs, hl, h => by
    rw [tkGo]
    split
    · refine tkGo_mem m l n _ _ _ hl fun x hx=>?_
      rcases List.mem_append.1 hx with hx | hx
      · exact h x hx
      · rw [List.mem_singleton.1 hx,List.getD_eq_getElem?_getD]
        cases e:l[(mget m _).toNat]? with
        | none=>exact fun y hy=>(List.not_mem_nil hy).elim
        | some q=>exact hl q (List.mem_of_getElem? e)
    · exact h
theorem frRd_byt {b:List Int} (hb:byt b):byt (frRdF b).2.2.2.2.2.1:=by
  unfold frRdF
  split
  · show byt (List.drop 9 (frRest b))
    refine byt_drop ?_ _
    unfold frRest
    first
      | exact byt_drop (byt_drop hb _) _
      | exact byt_drop hb _
  · exact fun y hy=>(List.not_mem_nil hy).elim
theorem frTk_byt {k b:List Int} (hb:byt b):byt (frTkF k b).2.2.2.2.2.1:=by
  unfold frTkF
  split
  · exact frRd_byt (byt_take hb _)
  · exact fun y hy=>(List.not_mem_nil hy).elim
theorem pt_byt {c:Cfg} {p:Pos} {fr now:Int} {b:List Int} (h:bytPo p) (hb:byt b):bytBs (ptF c p fr b now).2.1:=by
  have z:bytBs []:=fun x hx=>(List.not_mem_nil hx).elim
  unfold ptF
  split
  · exact z
  split
  · exact z
  have f3:=frTk_byt (k:=pairF c fr p.1) hb
  generalize frTkF (pairF c fr p.1) b=f at f3
  unfold ptG
  split
  · exact z
  split
  · exact z
  split
  · exact z
  have hg:bytPo (goF p f.2.2.1):=by
    unfold goF
    split
    · exact h
    · exact fun q hq=>(List.not_mem_nil hq).elim
  have hl:=bytPe_lnk hg fr _ (linkE_mem (goF p f.2.2.1) fr)
  refine tkGo_mem _ _ _ _ _ _ (fun x hx=>?_) z
  unfold tkL at hx
  split at hx
  · rcases List.mem_append.1 hx with hx | hx
    · exact hl.2 x hx
    · rw [List.mem_singleton.1 hx]
      exact f3
  · exact hl.2 x hx
theorem tpGo_bytP:∀ (n:Nat) (ps:List (List Int)) (r:List Int),bytBs ps→byt r→bytBs (tpGo n ps r).1
  | 0,_,_,h,_=>h
  | n + 1, ps, r, h, hr => by
    rw [tpGo]
    split
    · exact fun x hx=>(List.not_mem_nil hx).elim
    split
    · exact fun x hx=>(List.not_mem_nil hx).elim
    · have t:=(tnum_bd hr).2.2
      refine tpGo_bytP n _ _ (fun x hx=>?_) (byt_drop t _)
      rcases List.mem_append.1 hx with hx | hx
      · exact h x hx
      · rw [List.mem_singleton.1 hx]
        exact byt_take t _
theorem ntF_byt {b:List Int} (hb:byt b):bytBs (ntF b).1.2.1:=by
  have z:bytBs []:=fun x hx=>(List.not_mem_nil hx).elim
  have t:bytBs (tpF (b.drop 1)).1:=by
    unfold tpF
    split
    · exact z
    · exact tpGo_bytP _ _ _ z (tnum_bd (byt_drop hb 1)).2.2
  unfold ntF
  cases ntE b
  · exact z
  · rw [cond_true]
    show bytBs (ntN b).2.1
    unfold ntN
    cases b.getD 0 0==7
    · exact t
    · exact t
end DoorU
def S_new2:Spec:=⟨.pair aC (.pair nI .unit),.pair (.tup (.pair vPo (.pair nI .unit))) .unit,fun _=>True,fun (x:Cfg×Int×Unit)=>((nwF x.1 x.2.1,()):(Pos×Int×Unit)×Unit)⟩
theorem en_new2 (us:Array Value) (u:World):(callFunc 40 us).run Tryz.prog u=.ok (.enter 40 us) u:=by kernel_rfl
theorem sc_new2:SC Tryz.prog 40 S_new2:=by
  have h:=sc_new
  have e:S_new=S_new2:=by
    unfold S_new S_new2
    simp only [nwF_eq]
  rw [e] at h
  exact h
def S_cnew:Spec:=⟨.pair aC (.pair nI .unit),.pair (.tup (.pair vCl (.pair nI .unit))) .unit,fun _=>True,fun (x:Cfg×Int×Unit)=>((cnwF x.1 x.2.1,()):(Cli×Int×Unit)×Unit)⟩
def S_oni:Spec:=⟨.pair aC (.pair aCl (.pair aSt .unit)),.pair (.tup (.pair vY (.pair vY (.pair nI .unit)))) .unit,fun (x:Cfg×Cli×Sta×Unit)=>x.1.1.length≤1048576∧okQw x.2.1.2.2.1∧okSt x.2.2.1,fun (x:Cfg×Cli×Sta×Unit)=>((oniF x.1 x.2.1 x.2.2.1,()):(List Int×List Int×Int×Unit)×Unit)⟩
def A_oni (x:Cfg×Cli×Sta×Unit):Nat→Option LA
  | 0=>some ⟨[42,11,7],[],.pair nI (.pair oYs (.pair vY .unit)),fun (v:Int×List (List Int)×List Int×Unit)=>v.2.2.1=[]∧0≤v.1∧v.1≤(x.2.2.1.2.2.1.length:Nat)∧v.2.1=srvF x.1 (x.2.2.1.2.2.1.take v.1.toNat)∧(x.2.2.1.2.2.1.take v.1.toNat).all (isSv x.1)=true,fun (v:Int×List (List Int)×List Int×Unit)=>((x.2.2.1.2.2.1.length:Nat) - v.1).toNat⟩
  | _=>none
def S_fir:Spec:=⟨.pair pHe .unit,.pair (.tup (.pair nI (.pair .bool .unit))) (.pair pHe .unit),fun _=>True,fun (x:Hea×Unit)=>((firF x.1,x.1,()):(Int×Bool×Unit)×Hea×Unit)⟩
def S_ann:Spec:=⟨.pair pHe .unit,.pair (.tup .unit) (.pair pHe .unit),fun (x:Hea×Unit)=>okHe x.1,fun (x:Hea×Unit)=>(((),annF x.1,()):Unit×Hea×Unit)⟩
def S_rec:Spec:=⟨.pair pHe (.pair lY .unit),.pair (.tup .unit) (.pair pHe .unit),fun (x:Hea×List Int×Unit)=>okQu (heQ x.1)∧byt (heW x.1)∧byt x.2.1,fun (x:Hea×List Int×Unit)=>(((),recF x.1 x.2.1,()):Unit×Hea×Unit)⟩
def S_hear:Spec:=⟨.pair vCf (.pair vCl (.pair nI (.pair vY (.pair nI .unit)))),.pair (.tup (.pair vCl (.pair vPas (.pair nI .unit)))) .unit,fun (x:Cfg×Cli×Int×List Int×Int×Unit)=>x.1.1.length≤1048576∧okCl x.2.1∧x.2.2.2.1.length≤1048576∧byt x.2.2.2.1,fun (x:Cfg×Cli×Int×List Int×Int×Unit)=>((hrF x.1 x.2.1 x.2.2.1 x.2.2.2.1 x.2.2.2.2.1,()):(Cli×List Par×Int×Unit)×Unit)⟩
def A_hear (x:Cfg×Cli×Int×List Int×Int×Unit):Nat→Option LA
  | 0=>some ⟨[74,17],[],.pair nI (.pair pHe .unit),fun (v:Int×Hea×Unit)=>0≤v.1∧v.1≤((hrP x.1 x.2.1 x.2.2.1 x.2.2.2.1 x.2.2.2.2.1).2.1.length:Nat)∧okHe v.2.1∧byt (heW v.2.1)∧hrGo ((hrP x.1 x.2.1 x.2.2.1 x.2.2.2.1 x.2.2.2.2.1).2.1.drop v.1.toNat) v.2.1=hrH x.1 x.2.1 x.2.2.1 x.2.2.2.1 x.2.2.2.2.1∧v.2.1.2.2.2.2.1.length+(bif heD v.2.1 then 0 else 1)≤2000000000,fun (v:Int×Hea×Unit)=>(((hrP x.1 x.2.1 x.2.2.1 x.2.2.2.1 x.2.2.2.2.1).2.1.length:Nat) - v.1).toNat⟩
  | _=>none
theorem vc_cnew:VC Tryz.prog Tryz.f17 (bodyOf Tryz.f17) S_cnew [(18,S_node),(40,S_new2),(41,S_qnew)] (fun _ _=>none)=(∀ (x:(List Int×Int×Int×Int×Int×Int×Int×Int×Int×Int×Int×Unit)×Int×Unit),True→
  List.length x.fst.fst≤(9223372036854775807:Nat)→
  True∧bif decide (nodeF x.fst x.snd.fst < (0:Int)) then ((((0:Int),((0:Int),((0:Int),(0:Int),[],()),[],()),((0:Int),[],()),false,[],(0:Int),()),(1:Int),()),())=(cnwF x.fst x.snd.fst,()) else True∧bif nwE x.fst (nodeF x.fst x.snd.fst) != (0:Int) then ((((0:Int),((0:Int),((0:Int),(0:Int),[],()),[],()),((0:Int),[],()),false,[],(0:Int),()),nwE x.fst (nodeF x.fst x.snd.fst),()),())=(cnwF x.fst x.snd.fst,()) else True∧(((x.snd.fst,(nwN x.fst (nodeF x.fst x.snd.fst),((0:Int),(0:Int),[],()),[],()),(x.fst.snd.snd.snd.snd.snd.snd.snd.snd.snd.snd.fst,[],()),false,[],(0:Int),()),(0:Int),()),())=(cnwF x.fst x.snd.fst,())):=by kernel_rfl
theorem sc_cnew:SC Tryz.prog 17 S_cnew:=by
  refine SC.of Tryz.func17 (c:=bodyOf Tryz.f17) (by kernel_rfl) (by kernel_rfl) (fun x=>(by decide:(2:Nat)≤Tryz.f17.ntmps)) (DOk.cons sc_node en_node (DOk.cons sc_new2 en_new2 (DOk.cons sc_qnew en_qnew DOk.nil))) (Eq.mpr vc_cnew ?_)
  rintro ⟨c,w,⟨⟩⟩ - -
  dsimp only
  refine ⟨trivial,?_⟩
  by_cases a1:nodeF c w < 0
  · rw [decide_eq_true a1,cond_true,cnwF,if_pos a1]
    rfl
  rw [decide_eq_false a1,cond_false]
  refine ⟨trivial,?_⟩
  by_cases a2:nwE c (nodeF c w)=0
  · rw [bneF a2,cond_false,cnwF,if_neg a1,if_neg (fun h=>h a2)]
    exact ⟨trivial,rfl⟩
  · rw [bneT a2,cond_true,cnwF,if_neg a1,if_pos a2]
    rfl
theorem vc_oni:VC Tryz.prog Tryz.f63 (bodyOf Tryz.f63) S_oni [(18,S_node),(99,S_sec),(98,S_onon),(20,S_isS),(100,S_onk),(9,S_qhead),(101,S_lput),(102,S_wrap),(104,S_lkey),(103,S_lrep)] A_oni=(∀ (x:(List Int×Int×Int×Int×Int×Int×Int×Int×Int×Int×Int×Unit)×(Int×(Int×(Int×Int×List Int×Unit)×List (Int×(Int×List (Int×List Int×Int×Unit)×List (List Int)×Unit)×(Int×List (Int×List Int×Int×Unit)×Unit)×Unit)×Unit)×(Int×List (Bool×Int×Int×Int×List Int×Unit)×Unit)×Bool×List Int×Int×Unit)×(Int×Int×List Int×Unit)×Unit),List.length x.fst.fst≤(1048576:Nat)∧okQw x.snd.fst.snd.snd.fst∧okSt x.snd.snd.fst→
  List.length x.fst.fst≤(9223372036854775807:Nat)→
  List.length x.snd.fst.snd.fst.snd.fst.snd.snd.fst≤(9223372036854775807:Nat)→
  List.length x.snd.fst.snd.fst.snd.snd.fst≤(9223372036854775807:Nat)→
  List.length x.snd.fst.snd.snd.fst.snd.fst≤(9223372036854775807:Nat)→
  List.length x.snd.fst.snd.snd.snd.snd.fst≤(9223372036854775807:Nat)→
  List.length x.snd.snd.fst.snd.snd.fst≤(9223372036854775807:Nat)→
  True∧bif decide (nodeF x.fst x.snd.fst.fst < (0:Int)) then (([],[],(1:Int),()),())=(oniF x.fst x.snd.fst x.snd.snd.fst,()) else List.length x.fst.fst≤(1000000000:Nat)∧(List.length (secF x.fst (nodeF x.fst x.snd.fst.fst))≤(1048576:Nat)∧okSt x.snd.snd.fst)∧bif (onoF (secF x.fst (nodeF x.fst x.snd.fst.fst)) x.snd.snd.fst).snd.fst != (0:Int) then (([],[],(onoF (secF x.fst (nodeF x.fst x.snd.fst.fst)) x.snd.snd.fst).snd),())=(oniF x.fst x.snd.fst x.snd.snd.fst,()) else List.length x.snd.snd.fst.snd.snd.fst≤(9223372036854775807:Nat)→
  (0:Int)≤(0:Int)∧(0:Int)≤(↑(List.length x.snd.snd.fst.snd.snd.fst):Int)∧(24:Int)*(↑(List.length x.snd.snd.fst.snd.snd.fst):Int)≤(281474976710656:Int)∧(↑(List.length x.snd.snd.fst.snd.snd.fst):Int)≤(140737488351232:Int)∧(List.length x.snd.snd.fst.snd.snd.fst≤(9223372036854775807:Nat)→
  (([]:List Int)=[]∧(0:Int)≤(0:Int)∧(0:Int)≤(↑(List.length x.snd.snd.fst.snd.snd.fst):Int)∧[]=srvF x.fst (List.take (Int.toNat (0:Int)) x.snd.snd.fst.snd.snd.fst)∧true=true)∧∀ (v:Int×List (List Int)×List Int×Unit),v.snd.snd.fst=[]∧(0:Int)≤v.fst∧v.fst≤(↑(List.length x.snd.snd.fst.snd.snd.fst):Int)∧v.snd.fst=srvF x.fst (List.take (Int.toNat v.fst) x.snd.snd.fst.snd.snd.fst)∧List.all (List.take (Int.toNat v.fst) x.snd.snd.fst.snd.snd.fst) (isSv x.fst)=true→
  bif decide (v.fst < (↑(List.length x.snd.snd.fst.snd.snd.fst):Int)) then (0:Int)≤v.fst∧v.fst < (↑(List.length x.snd.snd.fst.snd.snd.fst):Int)∧∀ (c0:Int),x.snd.snd.fst.snd.snd.fst[Int.toNat v.fst]?=some c0→
  True∧bif !wit c0 (1:Int) (serversF x.fst) then (([],[],(1:Int),()),())=(oniF x.fst x.snd.fst x.snd.snd.fst,()) else List.length x.fst.fst≤(1000000000:Nat)∧(List.length v.snd.fst+List.length [onkF x.fst c0])*(24:Nat)≤(140737488351232:Nat)∧(v.snd.snd.fst=[]∧(0:Int)≤IntKind.wrap IntKind.i64 (v.fst+(1:Int))∧IntKind.wrap IntKind.i64 (v.fst+(1:Int))≤(↑(List.length x.snd.snd.fst.snd.snd.fst):Int)∧v.snd.fst++[onkF x.fst c0]=srvF x.fst (List.take (Int.toNat (IntKind.wrap IntKind.i64 (v.fst+(1:Int)))) x.snd.snd.fst.snd.snd.fst)∧List.all (List.take (Int.toNat (IntKind.wrap IntKind.i64 (v.fst+(1:Int)))) x.snd.snd.fst.snd.snd.fst) (isSv x.fst)=true)∧Int.toNat ((↑(List.length x.snd.snd.fst.snd.snd.fst):Int) - IntKind.wrap IntKind.i64 (v.fst+(1:Int))) < Int.toNat ((↑(List.length x.snd.snd.fst.snd.snd.fst):Int) - v.fst) else okQu x.snd.fst.snd.snd.fst∧bif !(qhF x.snd.fst.snd.snd.fst).snd.fst then okW (0:Int)∧bif (0:Int) != (0:Int) then (([],[],(0:Int),()),())=(oniF x.fst x.snd.fst x.snd.snd.fst,()) else (∀ (k:List Int),k∈v.snd.fst→
  List.length k≤(1048576:Nat))∧bif (wrF v.snd.fst (onoF (secF x.fst (nodeF x.fst x.snd.fst.fst)) x.snd.snd.fst).fst (lpB (true,(0:Int),(0:Int),(0:Int),[],()))).snd.fst != (0:Int) then (([],[],(wrF v.snd.fst (onoF (secF x.fst (nodeF x.fst x.snd.fst.fst)) x.snd.snd.fst).fst (lpB (true,(0:Int),(0:Int),(0:Int),[],()))).snd),())=(oniF x.fst x.snd.fst x.snd.snd.fst,()) else (((wrF v.snd.fst (onoF (secF x.fst (nodeF x.fst x.snd.fst.fst)) x.snd.snd.fst).fst (lpB (true,(0:Int),(0:Int),(0:Int),[],()))).fst,v.snd.snd.fst,(0:Int),()),())=(oniF x.fst x.snd.fst x.snd.snd.fst,()) else okW (qhF x.snd.fst.snd.snd.fst).fst.snd.snd.snd.fst∧bif (lpF (qhF x.snd.fst.snd.snd.fst).fst).snd.fst != (0:Int) then (([],[],(lpF (qhF x.snd.fst.snd.snd.fst).fst).snd),())=(oniF x.fst x.snd.fst x.snd.snd.fst,()) else (∀ (k:List Int),k∈v.snd.fst→
  List.length k≤(1048576:Nat))∧bif (wrF v.snd.fst (onoF (secF x.fst (nodeF x.fst x.snd.fst.fst)) x.snd.snd.fst).fst (lpF (qhF x.snd.fst.snd.snd.fst).fst).fst).snd.fst != (0:Int) then (([],[],(wrF v.snd.fst (onoF (secF x.fst (nodeF x.fst x.snd.fst.fst)) x.snd.snd.fst).fst (lpF (qhF x.snd.fst.snd.snd.fst).fst).fst).snd),())=(oniF x.fst x.snd.fst x.snd.snd.fst,()) else bif !(qhF x.snd.fst.snd.snd.fst).fst.fst then (0:Int)≤IntKind.wrap IntKind.i64 ((↑(List.length v.snd.fst):Int) - (1:Int))∧IntKind.wrap IntKind.i64 ((↑(List.length v.snd.fst):Int) - (1:Int)) < (↑(List.length v.snd.fst):Int)∧Int.toNat (IntKind.wrap IntKind.i64 ((↑(List.length v.snd.fst):Int) - (1:Int))) < List.length v.snd.fst∧∀ (x_1:List Int),v.snd.fst[Int.toNat (IntKind.wrap IntKind.i64 ((↑(List.length v.snd.fst):Int) - (1:Int)))]?=some x_1→
  (0:Int)≤IntKind.wrap IntKind.i64 ((↑(List.length v.snd.fst):Int) - (1:Int))∧IntKind.wrap IntKind.i64 ((↑(List.length v.snd.fst):Int) - (1:Int)) < (↑(List.length (onoF (secF x.fst (nodeF x.fst x.snd.fst.fst)) x.snd.snd.fst).fst):Int)∧∀ (c0:List Int),(onoF (secF x.fst (nodeF x.fst x.snd.fst.fst)) x.snd.snd.fst).fst[Int.toNat (IntKind.wrap IntKind.i64 ((↑(List.length v.snd.fst):Int) - (1:Int)))]?=some c0→
  (List.length x_1≤(1000000000:Nat)∧List.length c0≤(100000000:Nat))∧List.length (tagF x_1 c0)≤(1000000000:Nat)∧(((wrF v.snd.fst (onoF (secF x.fst (nodeF x.fst x.snd.fst.fst)) x.snd.snd.fst).fst (lpF (qhF x.snd.fst.snd.snd.fst).fst).fst).fst,repF (tagF x_1 c0) (1:Int),(0:Int),()),())=(oniF x.fst x.snd.fst x.snd.snd.fst,()) else (((wrF v.snd.fst (onoF (secF x.fst (nodeF x.fst x.snd.fst.fst)) x.snd.snd.fst).fst (lpF (qhF x.snd.fst.snd.snd.fst).fst).fst).fst,v.snd.snd.fst,(0:Int),()),())=(oniF x.fst x.snd.fst x.snd.snd.fst,()))):=by kernel_rfl
theorem en_oni (us:Array Value) (u:World):(callFunc 63 us).run Tryz.prog u=.ok (.enter 63 us) u:=by kernel_rfl
theorem sc_oni:SC Tryz.prog 63 S_oni:=by
  refine SC.of Tryz.func63 (c:=bodyOf Tryz.f63) (by kernel_rfl) (by kernel_rfl) (fun x=>(by decide:(3:Nat)≤Tryz.f63.ntmps)) (DOk.cons sc_node en_node (DOk.cons sc_sec en_sec (DOk.cons sc_onon en_onon (DOk.cons sc_isS en_isS (DOk.cons sc_onk en_onk (DOk.cons sc_qhead en_qhead (DOk.cons sc_lput en_lput (DOk.cons sc_wrap en_wrap (DOk.cons sc_lkey en_lkey (DOk.cons sc_lrep en_lrep DOk.nil)))))))))) (Eq.mpr vc_oni ?_)
  rintro ⟨c,x,s,⟨⟩⟩ ⟨h1,h2,h3⟩ - - - - - -
  dsimp only at h1 h2 h3 ⊢
  have bad:(nodeF c x.1 < 0∨stChk s≠0∨s.2.2.1.all (isSv c)=false)→((([],[],1,()),()):(List Int×List Int×Int×Unit)×Unit)=(oniF c x s,()):=fun g=>by
    have e:onE c x s=1:=by rw [onE,if_pos g]
    rw [oniF,e,if_pos (by decide)]
  refine ⟨trivial,?_⟩
  by_cases a1:nodeF c x.1 < 0
  · rw [decide_eq_true a1,cond_true]
    exact bad (.inl a1)
  rw [decide_eq_false a1,cond_false]
  refine ⟨by omega,⟨by rw [sec_len];decide,h3⟩,?_⟩
  by_cases a2:stChk s=0
  rotate_left 1
  · have e:onoF (secF c (nodeF c x.1)) s=([],1,()):=by rw [onoF,if_pos a2]
    rw [e]
    exact bad (.inr (.inl a2))
  have eo:onoF (secF c (nodeF c x.1)) s=(onnF c x s,0,()):=by rw [onoF,if_neg (fun g=>g a2)];rfl
  obtain ⟨l1,l8⟩:=okS_len (stChk_0 a2)
  rw [eo,bneF rfl,cond_false]
  intro _
  refine ⟨Int.le_refl 0,by omega,by omega,by omega,fun _=>⟨⟨rfl,Int.le_refl 0,by omega,rfl,rfl⟩,?_⟩⟩
  rintro ⟨i,o,w,⟨⟩⟩ ⟨hw,i0,i1,ho,ha⟩
  dsimp only at hw i0 i1 ho ha ⊢
  subst hw
  by_cases hi:i < (s.2.2.1.length:Int)
  · have wi:IntKind.i64.wrap (i+1)=i+1:=IntWalk.i64_in _ (by omega)
    rw [decide_eq_true hi,cond_true,wi]
    refine ⟨i0,hi,fun n hn=>⟨trivial,?_⟩⟩
    cases hv:wit n 1 (serversF c)
    · refine bad (.inr (.inr ?_))
      rw [List.all_eq_false]
      exact ⟨n,List.mem_of_getElem? hn,by rw [isSv,hv];decide⟩
    · rw [Bool.not_true,cond_false]
      have ol:o.length≤8:=by rw [ho,srvF_len,List.length_take];omega
      refine ⟨by omega,by rw [List.length_cons,List.length_nil];omega,⟨rfl,by omega,by omega,?_,?_⟩,by omega⟩
      · rw [show (i+1).toNat=i.toNat+1 by omega,take_snoc hn,ho]
        unfold srvF
        rw [List.map_append]
        rfl
      · rw [show (i+1).toNat=i.toNat+1 by omega,take_snoc hn,List.all_append,ha,Bool.true_and,List.all_cons,List.all_nil,Bool.and_true]
        exact hv
  rw [decide_eq_false hi,cond_false]
  rw [List.take_of_length_le (by omega)] at ho ha
  subst ho
  have nb:¬ (nodeF c x.1 < 0∨stChk s≠0∨s.2.2.1.all (isSv c)=false):=by
    rintro (g | g | g)
    · exact a1 g
    · exact g a2
    · rw [ha] at g;cases g
  have eE:onE c x s=lcF (hdL x.2.2.1):=by rw [onE,if_neg nb]
  have lk:∀ k∈srvF c s.2.2.1,k.length≤1048576:=fun k hk=>by
    unfold srvF at hk
    obtain ⟨n,_,rfl⟩:=List.mem_map.1 hk
    rw [onk_len];decide
  refine ⟨h2.1,?_⟩
  cases b1:(qhF x.2.2.1).2.1
  · have eh:=hd_nil b1
    have e0:lcF (hdL x.2.2.1)=0:=by rw [eh];rfl
    have ew:wrF (srvF c s.2.2.1) (onnF c x s) (lpB (true,0,0,0,[],()))=(onB c x s,0,()):=by
      have:=oni_wr (c:=c) (k:=secF c (nodeF c x.1)) a2 e0
      rw [eh] at this
      unfold onB
      rw [eh]
      exact this
    rw [Bool.not_false,cond_true,ew,bneF rfl,cond_false]
    refine ⟨⟨by decide,by decide⟩,lk,?_⟩
    rw [cond_false,oniF,eE,e0,if_neg (fun g=>g rfl),onW,eh,if_pos (show cvL.1=true from rfl)]
  · obtain ⟨eh,em⟩:=hd_cons b1
    have ok:=h2.2 _ em
    rw [eh] at ok eE
    rw [Bool.not_true,cond_false]
    refine ⟨ok,?_⟩
    by_cases c1:lcF (qhF x.2.2.1).1=0
    rotate_left 1
    · have e:lpF (qhF x.2.2.1).1=([],lcF (qhF x.2.2.1).1,()):=by rw [lpF,if_pos c1]
      rw [e,bneT c1,cond_true,oniF,eE,if_pos c1]
    have e:lpF (qhF x.2.2.1).1=(lpB (qhF x.2.2.1).1,0,()):=by rw [lpF,if_neg (fun g=>g c1)]
    have ew:wrF (srvF c s.2.2.1) (onnF c x s) (lpB (qhF x.2.2.1).1)=(onB c x s,0,()):=by
      unfold onB
      rw [eh]
      exact oni_wr a2 c1
    rw [e,bneF rfl,cond_false]
    refine ⟨lk,?_⟩
    rw [ew,bneF rfl,cond_false,oniF,eE,c1,if_neg (fun g=>g rfl),onW,eh]
    cases c2:(qhF x.2.2.1).1.1
    · have wl:IntKind.i64.wrap (((srvF c s.2.2.1).length:Int) - 1)=(s.2.2.1.length:Int) - 1:=by rw [srvF_len];exact IntWalk.i64_in _ (by omega)
      have ln:(onnF c x s).length=s.2.2.1.length:=nonF_len _ _
      rw [Bool.not_false,cond_true,wl,if_neg (by decide)]
      refine ⟨by omega,by rw [srvF_len];omega,by rw [srvF_len];omega,fun y hy=>⟨by omega,by rw [ln];omega,fun z hz=>?_⟩⟩
      rw [show ((s.2.2.1.length:Int) - 1).toNat=s.2.2.1.length - 1 by omega] at hy hz
      have ly:=lk y (List.mem_of_getElem? hy)
      have lz:z.length=16:=by
        have:=List.all_eq_true.1 (non16 (secF c (nodeF c x.1)) s) z (List.mem_of_getElem? hz)
        unfold is16 at this
        exact eq_of_beq this
      rw [last_of (srvF_len c _) hy,last_of ln hz]
      exact ⟨⟨by omega,by omega⟩,by rw [tagF_len];decide,rfl⟩
    · rw [Bool.not_true,cond_false,if_pos rfl]
theorem vc_fir:VC Tryz.prog Tryz.f62 (bodyOf Tryz.f62) S_fir [] (fun _ _=>none)=(∀ (x:((Int×(Int×(Int×Int×List Int×Unit)×List (Int×(Int×List (Int×List Int×Int×Unit)×List (List Int)×Unit)×(Int×List (Int×List Int×Int×Unit)×Unit)×Unit)×Unit)×(Int×List (Bool×Int×Int×Int×List Int×Unit)×Unit)×Bool×List Int×Int×Unit)×(List Int×Int×Int×Int×Int×Int×Int×Int×Int×Int×Int×Unit)×Int×Int×List (Int×List Int×Bool×Unit)×Unit)×Unit),True→
  List.length x.fst.fst.snd.fst.snd.fst.snd.snd.fst≤(9223372036854775807:Nat)→
  List.length x.fst.fst.snd.fst.snd.snd.fst≤(9223372036854775807:Nat)→
  List.length x.fst.fst.snd.snd.fst.snd.fst≤(9223372036854775807:Nat)→
  List.length x.fst.fst.snd.snd.snd.snd.fst≤(9223372036854775807:Nat)→
  List.length x.fst.snd.fst.fst≤(9223372036854775807:Nat)→
  List.length x.fst.snd.snd.snd.snd.fst≤(9223372036854775807:Nat)→
  List.length x.fst.fst.snd.fst.snd.fst.snd.snd.fst≤(9223372036854775807:Nat)→
  bif (↑(List.length x.fst.fst.snd.fst.snd.fst.snd.snd.fst):Int)==(0:Int) then (((0:Int),false,()),x)=(firF x.fst,x) else (0:Int)≤(0:Int)∧(0:Int) < (↑(List.length x.fst.fst.snd.fst.snd.fst.snd.snd.fst):Int)∧∀ (c0:Int),x.fst.fst.snd.fst.snd.fst.snd.snd.fst[(0:Nat)]?=some c0→
  ((c0,true,()),x)=(firF x.fst,x)):=by kernel_rfl
theorem en_fir (us:Array Value) (u:World):(callFunc 62 us).run Tryz.prog u=.ok (.enter 62 us) u:=by kernel_rfl
theorem sc_fir:SC Tryz.prog 62 S_fir:=by
  refine SC.of Tryz.func62 (c:=bodyOf Tryz.f62) (by kernel_rfl) (by kernel_rfl) (fun x=>(by decide:(1:Nat)≤Tryz.f62.ntmps)) DOk.nil (Eq.mpr vc_fir ?_)
  rintro ⟨⟨⟨who,⟨n,⟨ep,ro,ch,⟨⟩⟩,pe,⟨⟩⟩,q,sd,wt,sq,⟨⟩⟩,c,fr,now,out,⟨⟩⟩,⟨⟩⟩ - - - - - - - -
  dsimp only
  cases ch with
  | nil=>rfl
  | cons y r =>
    rw [beq_eq_false_iff_ne.2 (by rw [List.length_cons];omega),cond_false]
    refine ⟨by decide,by rw [List.length_cons];omega,fun c0 h0=>?_⟩
    obtain rfl:y=c0:=Option.some.inj h0
    rfl
theorem vc_ann:VC Tryz.prog Tryz.f32 (bodyOf Tryz.f32) S_ann [(62,S_fir),(63,S_oni),(64,S_nput),(65,S_psend),(9,S_qhead)] (fun _ _=>none)=(∀ (x:((Int×(Int×(Int×Int×List Int×Unit)×List (Int×(Int×List (Int×List Int×Int×Unit)×List (List Int)×Unit)×(Int×List (Int×List Int×Int×Unit)×Unit)×Unit)×Unit)×(Int×List (Bool×Int×Int×Int×List Int×Unit)×Unit)×Bool×List Int×Int×Unit)×(List Int×Int×Int×Int×Int×Int×Int×Int×Int×Int×Int×Unit)×Int×Int×List (Int×List Int×Bool×Unit)×Unit)×Unit),okHe x.fst→
  List.length x.fst.fst.snd.fst.snd.fst.snd.snd.fst≤(9223372036854775807:Nat)→
  List.length x.fst.fst.snd.fst.snd.snd.fst≤(9223372036854775807:Nat)→
  List.length x.fst.fst.snd.snd.fst.snd.fst≤(9223372036854775807:Nat)→
  List.length x.fst.fst.snd.snd.snd.snd.fst≤(9223372036854775807:Nat)→
  List.length x.fst.snd.fst.fst≤(9223372036854775807:Nat)→
  List.length x.fst.snd.snd.snd.snd.fst≤(9223372036854775807:Nat)→
  True∧bif !(firF x.fst).snd.fst then ((),x)=((),annF x.fst,()) else bif x.fst.snd.snd.fst != (0:Int) then ((),x)=((),annF x.fst,()) else bif x.fst.fst.snd.snd.snd.fst then ((),x)=((),annF x.fst,()) else (List.length x.fst.snd.fst.fst≤(1048576:Nat)∧okQw x.fst.fst.snd.snd.fst∧okSt x.fst.fst.snd.fst.snd.fst)∧bif (oniF x.fst.snd.fst x.fst.fst x.fst.fst.snd.fst.snd.fst).snd.snd.fst != (0:Int) then ((),x)=((),annF x.fst,()) else True∧bif (npF ((3:Int),[(oniF x.fst.snd.fst x.fst.fst x.fst.fst.snd.fst.snd.fst).fst],(0:Int),false,())).snd.fst != (0:Int) then ((),x)=((),annF x.fst,()) else (List.length x.fst.snd.fst.fst≤big∧okPo x.fst.fst.snd.fst∧okSt x.fst.fst.snd.fst.snd.fst∧List.length (npF ((3:Int),[(oniF x.fst.snd.fst x.fst.fst x.fst.fst.snd.fst.snd.fst).fst],(0:Int),false,())).fst≤big)∧bif (psF x.fst.snd.fst x.fst.fst.snd.fst (firF x.fst).fst (npF ((3:Int),[(oniF x.fst.snd.fst x.fst.fst x.fst.fst.snd.fst.snd.fst).fst],(0:Int),false,())).fst x.fst.snd.snd.snd.fst).snd.snd.fst != (0:Int) then ((),x)=((),annF x.fst,()) else okQu x.fst.fst.snd.snd.fst∧(List.length x.fst.snd.snd.snd.snd.fst+List.length (psF x.fst.snd.fst x.fst.fst.snd.fst (firF x.fst).fst (npF ((3:Int),[(oniF x.fst.snd.fst x.fst.fst x.fst.fst.snd.fst.snd.fst).fst],(0:Int),false,())).fst x.fst.snd.snd.snd.fst).snd.fst)*(40:Nat)≤(140737488351232:Nat)∧((),((x.fst.fst.fst,(psF x.fst.snd.fst x.fst.fst.snd.fst (firF x.fst).fst (npF ((3:Int),[(oniF x.fst.snd.fst x.fst.fst x.fst.fst.snd.fst.snd.fst).fst],(0:Int),false,())).fst x.fst.snd.snd.snd.fst).fst,x.fst.fst.snd.snd.fst,true,(oniF x.fst.snd.fst x.fst.fst x.fst.fst.snd.fst.snd.fst).snd.fst,(qhF x.fst.fst.snd.snd.fst).fst.snd.snd.snd.fst,()),x.fst.snd.fst,x.fst.snd.snd.fst,x.fst.snd.snd.snd.fst,x.fst.snd.snd.snd.snd.fst++(psF x.fst.snd.fst x.fst.fst.snd.fst (firF x.fst).fst (npF ((3:Int),[(oniF x.fst.snd.fst x.fst.fst x.fst.fst.snd.fst.snd.fst).fst],(0:Int),false,())).fst x.fst.snd.snd.snd.fst).snd.fst,()),())=((),annF x.fst,())):=by kernel_rfl
theorem en_ann (us:Array Value) (u:World):(callFunc 32 us).run Tryz.prog u=.ok (.enter 32 us) u:=by kernel_rfl
theorem sc_ann:SC Tryz.prog 32 S_ann:=by
  refine SC.of Tryz.func32 (c:=bodyOf Tryz.f32) (by kernel_rfl) (by kernel_rfl) (fun x=>(by decide:(1:Nat)≤Tryz.f32.ntmps)) (DOk.cons sc_fir en_fir (DOk.cons sc_oni en_oni (DOk.cons sc_nput en_nput (DOk.cons sc_psend en_psend (DOk.cons sc_qhead en_qhead DOk.nil))))) (Eq.mpr vc_ann ?_)
  rintro ⟨h,⟨⟩⟩ ⟨k1,k2,k3,k4,k5⟩ - - - - - -
  dsimp only at k1 k2 k3 k4 k5 ⊢
  have eY:anY h=((firF h).2.1&&(h.2.2.1==0 && !h.1.2.2.2.1)):=rfl
  have hn:anY h=false→(((),h,()):Unit×Hea×Unit)=((),annF h,()):=fun e=>by rw [ann_n e]
  refine ⟨trivial,?_⟩
  cases a1:(firF h).2.1
  · exact hn (by rw [eY,a1];rfl)
  rw [Bool.not_true,cond_false]
  by_cases a2:h.2.2.1=0
  rotate_left 1
  · rw [bneT a2,cond_true]
    exact hn (by rw [eY,beq_eq_false_iff_ne.2 a2,Bool.false_and,Bool.and_false])
  rw [bneF a2,cond_false]
  cases a3:h.1.2.2.2.1
  rotate_left 1
  · exact hn (by rw [eY,a3,Bool.not_true,Bool.and_false,Bool.and_false])
  rw [cond_false]
  have y:¬ anY h=false:=by rw [eY,a1,beq_iff_eq.2 a2,a3];decide
  refine ⟨⟨k1,k4,k3⟩,?_⟩
  rw [show oniF h.2.1 h.1 h.1.2.1.2.1=anO h from rfl,show npF (3,[(anO h).1],0,false,())=anN h from rfl,show psF h.2.1 h.1.2.1 (firF h).1 (anN h).1 h.2.2.2.1=anS h from rfl]
  have ep:((h.1,h.2.1,h.2.2.1,h.2.2.2.1,h.2.2.2.2.1,()):Hea)=h:=rfl
  by_cases a4:(anO h).2.2.1=0
  rotate_left 1
  · rw [bneT a4,cond_true,annF,if_neg y,if_pos a4]
  rw [bneF a4,cond_false]
  refine ⟨trivial,?_⟩
  by_cases a5:(anN h).2.1=0
  rotate_left 1
  · rw [bneT a5,cond_true,annF,if_neg y,if_neg (fun g=>g a4),if_pos a5]
  rw [bneF a5,cond_false]
  have al:=anN_len (h:=h)
  refine ⟨⟨Nat.le_trans k1 (by decide),k2 a3,k3,Nat.le_trans al (by decide)⟩,?_⟩
  by_cases a6:(anS h).2.2.1=0
  rotate_left 1
  · rw [bneT a6,cond_true,annF,if_neg y,if_neg (fun g=>g a4),if_neg (fun g=>g a5),if_pos a6]
  rw [bneF a6,cond_false]
  have p1:(anS h).2.1.length≤1:=parF_1 _ _ _ _ _
  refine ⟨k4.1,by omega,?_⟩
  rw [annF,if_neg y,if_neg (fun g=>g a4),if_neg (fun g=>g a5),if_neg (fun g=>g a6)]
  rfl
theorem vc_rec:VC Tryz.prog Tryz.f33 (bodyOf Tryz.f33) S_rec [(62,S_fir),(66,S_eq),(14,S_qpop)] (fun _ _=>none)=(∀ (x:((Int×(Int×(Int×Int×List Int×Unit)×List (Int×(Int×List (Int×List Int×Int×Unit)×List (List Int)×Unit)×(Int×List (Int×List Int×Int×Unit)×Unit)×Unit)×Unit)×(Int×List (Bool×Int×Int×Int×List Int×Unit)×Unit)×Bool×List Int×Int×Unit)×(List Int×Int×Int×Int×Int×Int×Int×Int×Int×Int×Int×Unit)×Int×Int×List (Int×List Int×Bool×Unit)×Unit)×List Int×Unit),(okQu (heQ x.fst)∧(∀ (x_1:Int),x_1∈heW x.fst→
  (0:Int)≤x_1∧x_1 < (256:Int))∧∀ (x_1:Int),x_1∈x.snd.fst→
  (0:Int)≤x_1∧x_1 < (256:Int))→
  List.length x.fst.fst.snd.fst.snd.fst.snd.snd.fst≤(9223372036854775807:Nat)→
  List.length x.fst.fst.snd.fst.snd.snd.fst≤(9223372036854775807:Nat)→
  List.length x.fst.fst.snd.snd.fst.snd.fst≤(9223372036854775807:Nat)→
  List.length x.fst.fst.snd.snd.snd.snd.fst≤(9223372036854775807:Nat)→
  List.length x.fst.snd.fst.fst≤(9223372036854775807:Nat)→
  List.length x.fst.snd.snd.snd.snd.fst≤(9223372036854775807:Nat)→
  List.length x.snd.fst≤(9223372036854775807:Nat)→
  True∧bif !(firF x.fst).snd.fst then ((),x.fst,())=((),recF x.fst x.snd.fst,()) else bif x.fst.snd.snd.fst != (firF x.fst).fst then ((),x.fst,())=((),recF x.fst x.snd.fst,()) else List.length x.fst.fst.snd.snd.snd.snd.fst≤(9223372036854775807:Nat)→
  bif (↑(List.length x.fst.fst.snd.snd.snd.snd.fst):Int)==(0:Int) then ((),x.fst,())=((),recF x.fst x.snd.fst,()) else ((∀ (x_1:Int),x_1∈x.fst.fst.snd.snd.snd.snd.fst→
  (0:Int)≤x_1∧x_1 < (256:Int))∧∀ (x_1:Int),x_1∈x.snd.fst→
  (0:Int)≤x_1∧x_1 < (256:Int))∧bif !x.fst.fst.snd.snd.snd.snd.fst==x.snd.fst then ((),x.fst,())=((),recF x.fst x.snd.fst,()) else okQu x.fst.fst.snd.snd.fst∧((),((x.fst.fst.fst,x.fst.fst.snd.fst,(qoF x.fst.fst.snd.snd.fst x.fst.fst.snd.snd.snd.snd.snd.fst).fst,x.fst.fst.snd.snd.snd.fst,[],(0:Int),()),x.fst.snd),())=((),recF x.fst x.snd.fst,())):=by kernel_rfl
theorem en_rec (us:Array Value) (u:World):(callFunc 33 us).run Tryz.prog u=.ok (.enter 33 us) u:=by kernel_rfl
theorem sc_rec:SC Tryz.prog 33 S_rec:=by
  refine SC.of Tryz.func33 (c:=bodyOf Tryz.f33) (by kernel_rfl) (by kernel_rfl) (fun x=>(by decide:(2:Nat)≤Tryz.f33.ntmps)) (DOk.cons sc_fir en_fir (DOk.cons sc_eq en_eq (DOk.cons sc_qpop en_qpop DOk.nil))) (Eq.mpr vc_rec ?_)
  rintro ⟨h,p,⟨⟩⟩ ⟨h1,h2,h3⟩ - - - - - - -
  dsimp only at h1 h2 h3 ⊢
  have hn:rcY h p=false→(((),h,()):Unit×Hea×Unit)=((),recF h p,()):=fun e=>by rw [recF,if_pos e]
  have eY:rcY h p=((firF h).2.1&&(h.2.2.1==(firF h).1&&(!(h.1.2.2.2.2.1.length==0)&&h.1.2.2.2.2.1==p))):=rfl
  refine ⟨trivial,?_⟩
  cases a1:(firF h).2.1
  · exact hn (by rw [eY,a1];rfl)
  rw [Bool.not_true,cond_false]
  by_cases a2:h.2.2.1=(firF h).1
  rotate_left 1
  · rw [bneT a2,cond_true]
    exact hn (by rw [eY,beq_eq_false_iff_ne.2 a2,Bool.false_and,Bool.and_false])
  rw [bneF a2,cond_false]
  intro _
  by_cases a3:(h.1.2.2.2.2.1.length:Int)=0
  · rw [beq_iff_eq.2 a3,cond_true]
    exact hn (by rw [eY,beq_iff_eq.2 (show h.1.2.2.2.2.1.length=0 by omega),Bool.not_true,Bool.false_and,Bool.and_false,Bool.and_false])
  rw [beq_eq_false_iff_ne.2 a3,cond_false]
  refine ⟨⟨h2,h3⟩,?_⟩
  cases a4:h.1.2.2.2.2.1==p
  · exact hn (by rw [eY,a4,Bool.and_false,Bool.and_false,Bool.and_false])
  rw [Bool.not_true,cond_false]
  refine ⟨h1,?_⟩
  rw [recF,if_neg (by rw [eY,a1,beq_iff_eq.2 a2,beq_eq_false_iff_ne.2 (show h.1.2.2.2.2.1.length≠0 by omega),a4];decide)]
  rfl
def HearRest (x:Cfg×Cli×Int×List Int×Int×Unit):Prop:=∀ (v:Int×((Int×(Int×(Int×Int×List Int×Unit)×List (Int×(Int×List (Int×List Int×Int×Unit)×List (List Int)×Unit)×(Int×List (Int×List Int×Int×Unit)×Unit)×Unit)×Unit)×(Int×List (Bool×Int×Int×Int×List Int×Unit)×Unit)×Bool×List Int×Int×Unit)×(List Int×Int×Int×Int×Int×Int×Int×Int×Int×Int×Int×Unit)×Int×Int×List (Int×List Int×Bool×Unit)×Unit)×Unit),(0:Int)≤v.fst∧v.fst≤(↑(List.length (hrP x.fst x.snd.fst x.snd.snd.fst x.snd.snd.snd.fst x.snd.snd.snd.snd.fst).snd.fst):Int)∧okHe v.snd.fst∧(∀ (x:Int),x∈heW v.snd.fst→
  (0:Int)≤x∧x < (256:Int))∧hrGo (List.drop (Int.toNat v.fst) (hrP x.fst x.snd.fst x.snd.snd.fst x.snd.snd.snd.fst x.snd.snd.snd.snd.fst).snd.fst) v.snd.fst=hrH x.fst x.snd.fst x.snd.snd.fst x.snd.snd.snd.fst x.snd.snd.snd.snd.fst∧(List.length v.snd.fst.snd.snd.snd.snd.fst+bif heD v.snd.fst then (0:Nat) else (1:Nat))≤(2000000000:Nat)→
  bif decide (v.fst < (↑(List.length (ptF x.fst x.snd.fst.snd.fst x.snd.snd.fst x.snd.snd.snd.fst x.snd.snd.snd.snd.fst).snd.fst):Int)) then (0:Int)≤v.fst∧v.fst < (↑(List.length (ptF x.fst x.snd.fst.snd.fst x.snd.snd.fst x.snd.snd.snd.fst x.snd.snd.snd.snd.fst).snd.fst):Int)∧∀ (c0:List Int),(ptF x.fst x.snd.fst.snd.fst x.snd.snd.fst x.snd.snd.snd.fst x.snd.snd.snd.snd.fst).snd.fst[Int.toNat v.fst]?=some c0→
  (∀ (x:Int),x∈c0→
  (0:Int)≤x∧x < (256:Int))∧bif (ntF c0).snd.fst != (0:Int) then ((0:Int)≤IntKind.wrap IntKind.i64 (v.fst+(1:Int))∧IntKind.wrap IntKind.i64 (v.fst+(1:Int))≤(↑(List.length (hrP x.fst x.snd.fst x.snd.snd.fst x.snd.snd.snd.fst x.snd.snd.snd.snd.fst).snd.fst):Int)∧okHe v.snd.fst∧(∀ (x:Int),x∈heW v.snd.fst→
  (0:Int)≤x∧x < (256:Int))∧hrGo (List.drop (Int.toNat (IntKind.wrap IntKind.i64 (v.fst+(1:Int)))) (hrP x.fst x.snd.fst x.snd.snd.fst x.snd.snd.snd.fst x.snd.snd.snd.snd.fst).snd.fst) v.snd.fst=hrH x.fst x.snd.fst x.snd.snd.fst x.snd.snd.snd.fst x.snd.snd.snd.snd.fst∧(List.length v.snd.fst.snd.snd.snd.snd.fst+bif heD v.snd.fst then (0:Nat) else (1:Nat))≤(2000000000:Nat))∧Int.toNat ((↑(List.length (hrP x.fst x.snd.fst x.snd.snd.fst x.snd.snd.snd.fst x.snd.snd.snd.snd.fst).snd.fst):Int) - IntKind.wrap IntKind.i64 (v.fst+(1:Int))) < Int.toNat ((↑(List.length (hrP x.fst x.snd.fst x.snd.snd.fst x.snd.snd.snd.fst x.snd.snd.snd.snd.fst).snd.fst):Int) - v.fst) else bif (ntF c0).fst.fst==(1:Int) then okHe v.snd.fst∧((0:Int)≤IntKind.wrap IntKind.i64 (v.fst+(1:Int))∧IntKind.wrap IntKind.i64 (v.fst+(1:Int))≤(↑(List.length (hrP x.fst x.snd.fst x.snd.snd.fst x.snd.snd.snd.fst x.snd.snd.snd.snd.fst).snd.fst):Int)∧okHe (annF v.snd.fst)∧(∀ (x:Int),x∈heW (annF v.snd.fst)→
  (0:Int)≤x∧x < (256:Int))∧hrGo (List.drop (Int.toNat (IntKind.wrap IntKind.i64 (v.fst+(1:Int)))) (hrP x.fst x.snd.fst x.snd.snd.fst x.snd.snd.snd.fst x.snd.snd.snd.snd.fst).snd.fst) (annF v.snd.fst)=hrH x.fst x.snd.fst x.snd.snd.fst x.snd.snd.snd.fst x.snd.snd.snd.snd.fst∧(List.length (annF v.snd.fst).snd.snd.snd.snd.fst+bif heD (annF v.snd.fst) then (0:Nat) else (1:Nat))≤(2000000000:Nat))∧Int.toNat ((↑(List.length (hrP x.fst x.snd.fst x.snd.snd.fst x.snd.snd.snd.fst x.snd.snd.snd.snd.fst).snd.fst):Int) - IntKind.wrap IntKind.i64 (v.fst+(1:Int))) < Int.toNat ((↑(List.length (hrP x.fst x.snd.fst x.snd.snd.fst x.snd.snd.snd.fst x.snd.snd.snd.snd.fst).snd.fst):Int) - v.fst) else bif (ntF c0).fst.fst==(6:Int) then List.length (ntF c0).fst.snd.fst≤(9223372036854775807:Nat)→
  bif (↑(List.length (ntF c0).fst.snd.fst):Int)==(1:Int) then (0:Int)≤(0:Int)∧(0:Int) < (↑(List.length (ntF c0).fst.snd.fst):Int)∧∀ (c0_1:List Int),(ntF c0).fst.snd.fst[(0:Nat)]?=some c0_1→
  (okQu (heQ v.snd.fst)∧(∀ (x:Int),x∈heW v.snd.fst→
  (0:Int)≤x∧x < (256:Int))∧∀ (x:Int),x∈c0_1→
  (0:Int)≤x∧x < (256:Int))∧((0:Int)≤IntKind.wrap IntKind.i64 (v.fst+(1:Int))∧IntKind.wrap IntKind.i64 (v.fst+(1:Int))≤(↑(List.length (hrP x.fst x.snd.fst x.snd.snd.fst x.snd.snd.snd.fst x.snd.snd.snd.snd.fst).snd.fst):Int)∧okHe (recF v.snd.fst c0_1)∧(∀ (x:Int),x∈heW (recF v.snd.fst c0_1)→
  (0:Int)≤x∧x < (256:Int))∧hrGo (List.drop (Int.toNat (IntKind.wrap IntKind.i64 (v.fst+(1:Int)))) (hrP x.fst x.snd.fst x.snd.snd.fst x.snd.snd.snd.fst x.snd.snd.snd.snd.fst).snd.fst) (recF v.snd.fst c0_1)=hrH x.fst x.snd.fst x.snd.snd.fst x.snd.snd.snd.fst x.snd.snd.snd.snd.fst∧(List.length (recF v.snd.fst c0_1).snd.snd.snd.snd.fst+bif heD (recF v.snd.fst c0_1) then (0:Nat) else (1:Nat))≤(2000000000:Nat))∧Int.toNat ((↑(List.length (hrP x.fst x.snd.fst x.snd.snd.fst x.snd.snd.snd.fst x.snd.snd.snd.snd.fst).snd.fst):Int) - IntKind.wrap IntKind.i64 (v.fst+(1:Int))) < Int.toNat ((↑(List.length (hrP x.fst x.snd.fst x.snd.snd.fst x.snd.snd.snd.fst x.snd.snd.snd.snd.fst).snd.fst):Int) - v.fst) else ((0:Int)≤IntKind.wrap IntKind.i64 (v.fst+(1:Int))∧IntKind.wrap IntKind.i64 (v.fst+(1:Int))≤(↑(List.length (hrP x.fst x.snd.fst x.snd.snd.fst x.snd.snd.snd.fst x.snd.snd.snd.snd.fst).snd.fst):Int)∧okHe v.snd.fst∧(∀ (x:Int),x∈heW v.snd.fst→
  (0:Int)≤x∧x < (256:Int))∧hrGo (List.drop (Int.toNat (IntKind.wrap IntKind.i64 (v.fst+(1:Int)))) (hrP x.fst x.snd.fst x.snd.snd.fst x.snd.snd.snd.fst x.snd.snd.snd.snd.fst).snd.fst) v.snd.fst=hrH x.fst x.snd.fst x.snd.snd.fst x.snd.snd.snd.fst x.snd.snd.snd.snd.fst∧(List.length v.snd.fst.snd.snd.snd.snd.fst+bif heD v.snd.fst then (0:Nat) else (1:Nat))≤(2000000000:Nat))∧Int.toNat ((↑(List.length (hrP x.fst x.snd.fst x.snd.snd.fst x.snd.snd.snd.fst x.snd.snd.snd.snd.fst).snd.fst):Int) - IntKind.wrap IntKind.i64 (v.fst+(1:Int))) < Int.toNat ((↑(List.length (hrP x.fst x.snd.fst x.snd.snd.fst x.snd.snd.snd.fst x.snd.snd.snd.snd.fst).snd.fst):Int) - v.fst) else ((0:Int)≤IntKind.wrap IntKind.i64 (v.fst+(1:Int))∧IntKind.wrap IntKind.i64 (v.fst+(1:Int))≤(↑(List.length (hrP x.fst x.snd.fst x.snd.snd.fst x.snd.snd.snd.fst x.snd.snd.snd.snd.fst).snd.fst):Int)∧okHe v.snd.fst∧(∀ (x:Int),x∈heW v.snd.fst→
  (0:Int)≤x∧x < (256:Int))∧hrGo (List.drop (Int.toNat (IntKind.wrap IntKind.i64 (v.fst+(1:Int)))) (hrP x.fst x.snd.fst x.snd.snd.fst x.snd.snd.snd.fst x.snd.snd.snd.snd.fst).snd.fst) v.snd.fst=hrH x.fst x.snd.fst x.snd.snd.fst x.snd.snd.snd.fst x.snd.snd.snd.snd.fst∧(List.length v.snd.fst.snd.snd.snd.snd.fst+bif heD v.snd.fst then (0:Nat) else (1:Nat))≤(2000000000:Nat))∧Int.toNat ((↑(List.length (hrP x.fst x.snd.fst x.snd.snd.fst x.snd.snd.snd.fst x.snd.snd.snd.snd.fst).snd.fst):Int) - IntKind.wrap IntKind.i64 (v.fst+(1:Int))) < Int.toNat ((↑(List.length (hrP x.fst x.snd.fst x.snd.snd.fst x.snd.snd.snd.fst x.snd.snd.snd.snd.fst).snd.fst):Int) - v.fst) else ((v.snd.fst.fst,v.snd.fst.snd.snd.snd.snd.fst,(0:Int),()),())=(hrF x.fst x.snd.fst x.snd.snd.fst x.snd.snd.snd.fst x.snd.snd.snd.snd.fst,())
theorem hearRest_ok {c:Cfg} {x:Cli} {fr now:Int} {b:List Int} (g3:bytPo x.2.1) (h4:byt b) (hL:(hrP c x fr b now).2.1.length≤9223372036854775807) (hF:hrF c x fr b now=((hrH c x fr b now).1,(hrH c x fr b now).2.2.2.2.1,0,())):HearRest (c,x,fr,b,now,()):=by
  unfold HearRest
  rintro ⟨i,h,⟨⟩⟩ ⟨i0,i1,ok,hw,hg,hl⟩
  dsimp only at i0 i1 ok hw hg hl ⊢
  rw [show ptF c x.2.1 fr b now=hrP c x fr b now from rfl]
  have bb:bytBs (hrP c x fr b now).2.1:=pt_byt g3 h4
  by_cases hi:i < ((hrP c x fr b now).2.1.length:Int)
  rotate_left 1
  · rw [decide_eq_false hi,cond_false,hF,← hg,List.drop_eq_nil_of_le (by omega)]
    rfl
  have wi:i+1≤9223372036854775807→IntKind.i64.wrap (i+1)=i+1:=fun _=>IntWalk.i64_in _ (by omega)
  rw [decide_eq_true hi,cond_true]
  refine ⟨i0,hi,fun d hd=>?_⟩
  rw [wi (by omega)]
  have bd:=bb d (List.mem_of_getElem? hd)
  rw [hrGo_at hd] at hg
  have nx:∀ h':Hea,hrS h d=h'→hrGo ((hrP c x fr b now).2.1.drop (i+1).toNat) h'=hrH c x fr b now:=fun h' e=>by
    rw [show (i+1).toNat=i.toNat+1 by omega,← e]
    exact hg
  refine ⟨bd,?_⟩
  by_cases a1:(ntF d).2.1=0
  rotate_left 1
  · rw [bneT a1,cond_true]
    exact ⟨⟨by omega,by omega,ok,hw,nx _ (by rw [hrS,if_pos a1]),hl⟩,by omega⟩
  rw [bneF a1,cond_false]
  by_cases a2:(ntF d).1.1=1
  · rw [beq_iff_eq.2 a2,cond_true]
    obtain ⟨o1,o2,o3⟩:=ann_ok ok hw hl
    exact ⟨ok,⟨by omega,by omega,o1,o2,nx _ (by rw [hrS,if_neg (fun g=>g a1),if_pos a2]),o3⟩,by omega⟩
  rw [beq_eq_false_iff_ne.2 a2,cond_false]
  have no:¬ ((ntF d).1.1=6∧(ntF d).1.2.1.length=1)→hrS h d=h:=fun g=>by rw [hrS,if_neg (fun g=>g a1),if_neg a2,if_neg g]
  by_cases a3:(ntF d).1.1=6
  rotate_left 1
  · rw [beq_eq_false_iff_ne.2 a3,cond_false]
    exact ⟨⟨by omega,by omega,ok,hw,nx _ (no fun g=>a3 g.1),hl⟩,by omega⟩
  rw [beq_iff_eq.2 a3,cond_true]
  intro _
  by_cases a4:((ntF d).1.2.1.length:Int)=1
  rotate_left 1
  · rw [beq_eq_false_iff_ne.2 a4,cond_false]
    exact ⟨⟨by omega,by omega,ok,hw,nx _ (no fun g=>a4 (by omega)),hl⟩,by omega⟩
  rw [beq_iff_eq.2 a4,cond_true]
  refine ⟨by decide,by omega,fun e he=>?_⟩
  obtain ⟨o1,o2,o3⟩:=rec_ok (p:=e) ok hw hl
  refine ⟨⟨ok.2.2.2.1.1,hw,ntF_byt bd e (List.mem_of_getElem? he)⟩,⟨by omega,by omega,o1,o2,nx _ ?_,o3⟩,by omega⟩
  rw [hrS,if_neg (fun g=>g a1),if_neg a2,if_pos ⟨a3,by omega⟩,List.getD_eq_getElem?_getD,he]
  rfl
theorem vc_hear:VC Tryz.prog Tryz.f11 (bodyOf Tryz.f11) S_hear [(30,S_ptake),(31,S_ntake),(32,S_ann),(33,S_rec)] A_hear=(∀ (x:(List Int×Int×Int×Int×Int×Int×Int×Int×Int×Int×Int×Unit)×(Int×(Int×(Int×Int×List Int×Unit)×List (Int×(Int×List (Int×List Int×Int×Unit)×List (List Int)×Unit)×(Int×List (Int×List Int×Int×Unit)×Unit)×Unit)×Unit)×(Int×List (Bool×Int×Int×Int×List Int×Unit)×Unit)×Bool×List Int×Int×Unit)×Int×List Int×Int×Unit),(List.length x.fst.fst≤(1048576:Nat)∧okCl x.snd.fst∧List.length x.snd.snd.snd.fst≤(1048576:Nat)∧∀ (x_1:Int),x_1∈x.snd.snd.snd.fst→
  (0:Int)≤x_1∧x_1 < (256:Int))→
  List.length x.fst.fst≤(9223372036854775807:Nat)→
  List.length x.snd.fst.snd.fst.snd.fst.snd.snd.fst≤(9223372036854775807:Nat)→
  List.length x.snd.fst.snd.fst.snd.snd.fst≤(9223372036854775807:Nat)→
  List.length x.snd.fst.snd.snd.fst.snd.fst≤(9223372036854775807:Nat)→
  List.length x.snd.fst.snd.snd.snd.snd.fst≤(9223372036854775807:Nat)→
  List.length x.snd.snd.snd.fst≤(9223372036854775807:Nat)→
  (List.length x.fst.fst≤big∧okPo x.snd.fst.snd.fst∧okSt x.snd.fst.snd.fst.snd.fst∧List.length x.snd.snd.snd.fst≤(100000000:Nat)∧∀ (x_1:Int),x_1∈x.snd.snd.snd.fst→
  (0:Int)≤x_1∧x_1 < (256:Int))∧bif (ptF x.fst x.snd.fst.snd.fst x.snd.snd.fst x.snd.snd.snd.fst x.snd.snd.snd.snd.fst).snd.snd.snd.fst != (0:Int) then ((((0:Int),((0:Int),((0:Int),(0:Int),[],()),[],()),((0:Int),[],()),false,[],(0:Int),()),[],(ptF x.fst x.snd.fst.snd.fst x.snd.snd.fst x.snd.snd.snd.fst x.snd.snd.snd.snd.fst).snd.snd.snd),())=(hrF x.fst x.snd.fst x.snd.snd.fst x.snd.snd.snd.fst x.snd.snd.snd.snd.fst,()) else bif (ptF x.fst x.snd.fst.snd.fst x.snd.snd.fst x.snd.snd.snd.fst x.snd.snd.snd.snd.fst).fst.snd.fst.fst != x.snd.fst.snd.fst.snd.fst.fst then List.length (ptF x.fst x.snd.fst.snd.fst x.snd.snd.fst x.snd.snd.snd.fst x.snd.snd.snd.snd.fst).snd.fst≤(9223372036854775807:Nat)→
  ((0:Int)≤(0:Int)∧(0:Int)≤(↑(List.length (hrP x.fst x.snd.fst x.snd.snd.fst x.snd.snd.snd.fst x.snd.snd.snd.snd.fst).snd.fst):Int)∧okHe ((x.snd.fst.fst,(ptF x.fst x.snd.fst.snd.fst x.snd.snd.fst x.snd.snd.snd.fst x.snd.snd.snd.snd.fst).fst,x.snd.fst.snd.snd.fst,false,[],(0:Int),()),x.fst,x.snd.snd.fst,x.snd.snd.snd.snd.fst,(ptF x.fst x.snd.fst.snd.fst x.snd.snd.fst x.snd.snd.snd.fst x.snd.snd.snd.snd.fst).snd.snd.fst,())∧(∀ (x_1:Int),x_1∈heW ((x.snd.fst.fst,(ptF x.fst x.snd.fst.snd.fst x.snd.snd.fst x.snd.snd.snd.fst x.snd.snd.snd.snd.fst).fst,x.snd.fst.snd.snd.fst,false,[],(0:Int),()),x.fst,x.snd.snd.fst,x.snd.snd.snd.snd.fst,(ptF x.fst x.snd.fst.snd.fst x.snd.snd.fst x.snd.snd.snd.fst x.snd.snd.snd.snd.fst).snd.snd.fst,())→
  (0:Int)≤x_1∧x_1 < (256:Int))∧hrGo (List.drop (Int.toNat (0:Int)) (hrP x.fst x.snd.fst x.snd.snd.fst x.snd.snd.snd.fst x.snd.snd.snd.snd.fst).snd.fst) ((x.snd.fst.fst,(ptF x.fst x.snd.fst.snd.fst x.snd.snd.fst x.snd.snd.snd.fst x.snd.snd.snd.snd.fst).fst,x.snd.fst.snd.snd.fst,false,[],(0:Int),()),x.fst,x.snd.snd.fst,x.snd.snd.snd.snd.fst,(ptF x.fst x.snd.fst.snd.fst x.snd.snd.fst x.snd.snd.snd.fst x.snd.snd.snd.snd.fst).snd.snd.fst,())=hrH x.fst x.snd.fst x.snd.snd.fst x.snd.snd.snd.fst x.snd.snd.snd.snd.fst∧(List.length (ptF x.fst x.snd.fst.snd.fst x.snd.snd.fst x.snd.snd.snd.fst x.snd.snd.snd.snd.fst).snd.snd.fst+bif heD ((x.snd.fst.fst,(ptF x.fst x.snd.fst.snd.fst x.snd.snd.fst x.snd.snd.snd.fst x.snd.snd.snd.snd.fst).fst,x.snd.fst.snd.snd.fst,false,[],(0:Int),()),x.fst,x.snd.snd.fst,x.snd.snd.snd.snd.fst,(ptF x.fst x.snd.fst.snd.fst x.snd.snd.fst x.snd.snd.snd.fst x.snd.snd.snd.snd.fst).snd.snd.fst,()) then (0:Nat) else (1:Nat))≤(2000000000:Nat))∧HearRest x else bif (ptF x.fst x.snd.fst.snd.fst x.snd.snd.fst x.snd.snd.snd.fst x.snd.snd.snd.snd.fst).fst.snd.fst.snd.fst != x.snd.fst.snd.fst.snd.fst.snd.fst then List.length (ptF x.fst x.snd.fst.snd.fst x.snd.snd.fst x.snd.snd.snd.fst x.snd.snd.snd.snd.fst).snd.fst≤(9223372036854775807:Nat)→
  ((0:Int)≤(0:Int)∧(0:Int)≤(↑(List.length (hrP x.fst x.snd.fst x.snd.snd.fst x.snd.snd.snd.fst x.snd.snd.snd.snd.fst).snd.fst):Int)∧okHe ((x.snd.fst.fst,(ptF x.fst x.snd.fst.snd.fst x.snd.snd.fst x.snd.snd.snd.fst x.snd.snd.snd.snd.fst).fst,x.snd.fst.snd.snd.fst,false,[],(0:Int),()),x.fst,x.snd.snd.fst,x.snd.snd.snd.snd.fst,(ptF x.fst x.snd.fst.snd.fst x.snd.snd.fst x.snd.snd.snd.fst x.snd.snd.snd.snd.fst).snd.snd.fst,())∧(∀ (x_1:Int),x_1∈heW ((x.snd.fst.fst,(ptF x.fst x.snd.fst.snd.fst x.snd.snd.fst x.snd.snd.snd.fst x.snd.snd.snd.snd.fst).fst,x.snd.fst.snd.snd.fst,false,[],(0:Int),()),x.fst,x.snd.snd.fst,x.snd.snd.snd.snd.fst,(ptF x.fst x.snd.fst.snd.fst x.snd.snd.fst x.snd.snd.snd.fst x.snd.snd.snd.snd.fst).snd.snd.fst,())→
  (0:Int)≤x_1∧x_1 < (256:Int))∧hrGo (List.drop (Int.toNat (0:Int)) (hrP x.fst x.snd.fst x.snd.snd.fst x.snd.snd.snd.fst x.snd.snd.snd.snd.fst).snd.fst) ((x.snd.fst.fst,(ptF x.fst x.snd.fst.snd.fst x.snd.snd.fst x.snd.snd.snd.fst x.snd.snd.snd.snd.fst).fst,x.snd.fst.snd.snd.fst,false,[],(0:Int),()),x.fst,x.snd.snd.fst,x.snd.snd.snd.snd.fst,(ptF x.fst x.snd.fst.snd.fst x.snd.snd.fst x.snd.snd.snd.fst x.snd.snd.snd.snd.fst).snd.snd.fst,())=hrH x.fst x.snd.fst x.snd.snd.fst x.snd.snd.snd.fst x.snd.snd.snd.snd.fst∧(List.length (ptF x.fst x.snd.fst.snd.fst x.snd.snd.fst x.snd.snd.snd.fst x.snd.snd.snd.snd.fst).snd.snd.fst+bif heD ((x.snd.fst.fst,(ptF x.fst x.snd.fst.snd.fst x.snd.snd.fst x.snd.snd.snd.fst x.snd.snd.snd.snd.fst).fst,x.snd.fst.snd.snd.fst,false,[],(0:Int),()),x.fst,x.snd.snd.fst,x.snd.snd.snd.snd.fst,(ptF x.fst x.snd.fst.snd.fst x.snd.snd.fst x.snd.snd.snd.fst x.snd.snd.snd.snd.fst).snd.snd.fst,()) then (0:Nat) else (1:Nat))≤(2000000000:Nat))∧HearRest x else List.length (ptF x.fst x.snd.fst.snd.fst x.snd.snd.fst x.snd.snd.snd.fst x.snd.snd.snd.snd.fst).snd.fst≤(9223372036854775807:Nat)→
  ((0:Int)≤(0:Int)∧(0:Int)≤(↑(List.length (hrP x.fst x.snd.fst x.snd.snd.fst x.snd.snd.snd.fst x.snd.snd.snd.snd.fst).snd.fst):Int)∧okHe ((x.snd.fst.fst,(ptF x.fst x.snd.fst.snd.fst x.snd.snd.fst x.snd.snd.snd.fst x.snd.snd.snd.snd.fst).fst,x.snd.fst.snd.snd),x.fst,x.snd.snd.fst,x.snd.snd.snd.snd.fst,(ptF x.fst x.snd.fst.snd.fst x.snd.snd.fst x.snd.snd.snd.fst x.snd.snd.snd.snd.fst).snd.snd.fst,())∧(∀ (x_1:Int),x_1∈heW ((x.snd.fst.fst,(ptF x.fst x.snd.fst.snd.fst x.snd.snd.fst x.snd.snd.snd.fst x.snd.snd.snd.snd.fst).fst,x.snd.fst.snd.snd),x.fst,x.snd.snd.fst,x.snd.snd.snd.snd.fst,(ptF x.fst x.snd.fst.snd.fst x.snd.snd.fst x.snd.snd.snd.fst x.snd.snd.snd.snd.fst).snd.snd.fst,())→
  (0:Int)≤x_1∧x_1 < (256:Int))∧hrGo (List.drop (Int.toNat (0:Int)) (hrP x.fst x.snd.fst x.snd.snd.fst x.snd.snd.snd.fst x.snd.snd.snd.snd.fst).snd.fst) ((x.snd.fst.fst,(ptF x.fst x.snd.fst.snd.fst x.snd.snd.fst x.snd.snd.snd.fst x.snd.snd.snd.snd.fst).fst,x.snd.fst.snd.snd),x.fst,x.snd.snd.fst,x.snd.snd.snd.snd.fst,(ptF x.fst x.snd.fst.snd.fst x.snd.snd.fst x.snd.snd.snd.fst x.snd.snd.snd.snd.fst).snd.snd.fst,())=hrH x.fst x.snd.fst x.snd.snd.fst x.snd.snd.snd.fst x.snd.snd.snd.snd.fst∧(List.length (ptF x.fst x.snd.fst.snd.fst x.snd.snd.fst x.snd.snd.snd.fst x.snd.snd.snd.snd.fst).snd.snd.fst+bif heD ((x.snd.fst.fst,(ptF x.fst x.snd.fst.snd.fst x.snd.snd.fst x.snd.snd.snd.fst x.snd.snd.snd.snd.fst).fst,x.snd.fst.snd.snd),x.fst,x.snd.snd.fst,x.snd.snd.snd.snd.fst,(ptF x.fst x.snd.fst.snd.fst x.snd.snd.fst x.snd.snd.snd.fst x.snd.snd.snd.snd.fst).snd.snd.fst,()) then (0:Nat) else (1:Nat))≤(2000000000:Nat))∧HearRest x):=by kernel_rfl
theorem en_hear (us:Array Value) (u:World):(callFunc 11 us).run Tryz.prog u=.ok (.enter 11 us) u:=by kernel_rfl
theorem sc_hear:SC Tryz.prog 11 S_hear:=by
  refine SC.of Tryz.func11 (c:=bodyOf Tryz.f11) (by kernel_rfl) (by kernel_rfl) (fun x=>(by decide:(5:Nat)≤Tryz.f11.ntmps)) (DOk.cons sc_ptake en_ptake (DOk.cons sc_ntake en_ntake (DOk.cons sc_ann en_ann (DOk.cons sc_rec en_rec DOk.nil)))) (Eq.mpr vc_hear ?_)
  rintro ⟨c,x,fr,b,now,⟨⟩⟩ ⟨h1,⟨g1,g2,g3,g4,g5⟩,h3,h4⟩ - - - - - -
  dsimp only at h1 g1 g2 g3 g4 g5 h3 h4 ⊢
  refine ⟨⟨Nat.le_trans h1 (by decide),bdPo_ok g1 (by decide),g2,by omega,h4⟩,?_⟩
  have eP:ptF c x.2.1 fr b now=hrP c x fr b now:=rfl
  have R:=fun hL=>hearRest_ok (c:=c) (x:=x) (fr:=fr) (b:=b) (now:=now) g3 h4 hL
  rw [eP]
  by_cases a1:(hrP c x fr b now).2.2.2.1=0
  rotate_left 1
  · rw [bneT a1,cond_true,hrF,if_pos a1]
    rfl
  rw [bneF a1,cond_false]
  have hF:hrF c x fr b now=((hrH c x fr b now).1,(hrH c x fr b now).2.2.2.2.1,0,()):=by rw [hrF,if_neg (fun g=>g a1)]
  replace R:=fun hL=>R hL hF
  obtain ⟨bd1,bd2⟩:=bd_take (c:=c) (fr:=fr) (now:=now) g1 (by decide) h4
  have oP:okPo (hrP c x fr b now).1:=bdPo_ok bd1 (by decide)
  have oS:okSt (hrP c x fr b now).1.2.1:=pt_st g2 h4
  have oL:(hrP c x fr b now).2.2.1.length≤10000001:=bd2
  have nb:byt []:=fun y hy=>(List.not_mem_nil hy).elim
  by_cases a2:(hrP c x fr b now).1.2.1.1=x.2.1.2.1.1
  rotate_left 1
  · rw [bneT a2,cond_true]
    have eN:hrN x (hrP c x fr b now).1=true:=by rw [hrN,bneT a2,Bool.true_or]
    intro hL
    refine ⟨⟨Int.le_refl 0,by omega,⟨h1,fun _=>oP,oS,g4,by show (hrP c x fr b now).2.2.1.length≤2000000000;omega⟩,nb,?_,?_⟩,R hL⟩
    · show hrGo _ _=hrGo _ _
      rw [hr0,eN]
      rfl
    · show (hrP c x fr b now).2.2.1.length+1≤_
      omega
  rw [bneF a2,cond_false]
  by_cases a3:(hrP c x fr b now).1.2.1.2.1=x.2.1.2.1.2.1
  rotate_left 1
  · rw [bneT a3,cond_true]
    have eN:hrN x (hrP c x fr b now).1=true:=by rw [hrN,bneT a3,Bool.or_true]
    intro hL
    refine ⟨⟨Int.le_refl 0,by omega,⟨h1,fun _=>oP,oS,g4,by show (hrP c x fr b now).2.2.1.length≤2000000000;omega⟩,nb,?_,?_⟩,R hL⟩
    · show hrGo _ _=hrGo _ _
      rw [hr0,eN]
      rfl
    · show (hrP c x fr b now).2.2.1.length+1≤_
      omega
  rw [bneF a3,cond_false]
  have eN:hrN x (hrP c x fr b now).1=false:=by rw [hrN,bneF a2,bneF a3];rfl
  intro hL
  refine ⟨⟨Int.le_refl 0,by omega,⟨h1,fun _=>oP,oS,g4,by show (hrP c x fr b now).2.2.1.length≤2000000000;omega⟩,g5,?_,?_⟩,R hL⟩
  · show hrGo _ _=hrGo _ _
    rw [hr0,eN]
    rfl
  · show (hrP c x fr b now).2.2.1.length+(bif x.2.2.2.1 then 0 else 1)≤_
    cases x.2.2.2.1
    · rw [cond_false];omega
    · rw [cond_true];omega
end Go.Proofs.YtjkbkhjalimebaaGreatDoor
namespace Go.Proofs.YtjkbkhjalimebaaGreatDoor
open Go.RowKit DoorU
set_option linter.unusedVariables false
set_option linter.unusedSimpArgs false
set_option maxRecDepth 100000
set_option maxHeartbeats 1000000
namespace DoorU
def trOk (n:Int):Prop:=n∈([2,6,7,11,13,17,18,19,22,25]:List Int)
def blkM (h v:List Int) (i:Nat):List Int:=(blkH h v i).take i++v.drop i
def pdR (b:List Int) (k:Nat):List Int:=b++[128]++List.replicate (padN b.length - 9 - b.length) 0++(List.range k).map fun i:Nat=>IntKind.u8.wrap (shrI .u64 (IntKind.u64.wrap (IntKind.u64.wrap b.length*8)) (56 - 8*(i:Int)))
def bk0 (k:List Int):List Int:=if 64 < k.length then sumF k else k
def wiF (k:List Int) (x:Int):List Int:=k.map fun a=>xorI .u8 a x
def anB:List Int:=[1,0,0]
theorem orI_comm (k:IntKind) (a b:Int):orI k a b=orI k b a:=by unfold orI;rw [BitVec.or_comm]
theorem turn_down {n:Int} (h:trOk n) (x:Int):0≤n∧0≤IntKind.u64.wrap (32 - n)∧orI .u32 (shrI .u32 x n) (shlI .u32 x (IntKind.u64.wrap (32 - n)))=down x n:=by
  have key:∀ m:Int,andI .u64 (IntKind.u64.wrap (IntKind.i64.wrap (0 - m))) 31=IntKind.u64.wrap (32 - m)→IntKind.u64.wrap (32 - IntKind.u64.wrap (32 - m))=m→orI .u32 (shrI .u32 x m) (shlI .u32 x (IntKind.u64.wrap (32 - m)))=down x m:=fun m h1 h2=>by
    unfold down rotl
    rw [h1,h2,orI_comm]
  unfold trOk at h
  simp only [List.mem_cons,List.not_mem_nil,or_false] at h
  rcases h with rfl | rfl | rfl | rfl | rfl | rfl | rfl | rfl | rfl | rfl <;> exact ⟨by decide,by decide,key _ (by decide) (by decide)⟩
theorem padA_get (l:List Int) (i:Nat) (h:i < padN l.length):(padA l 8)[i]?=(pdR l 8)[i]?:=by
  have hp:=padN_ge l.length
  unfold pdR
  have e0:((l++List.replicate (padN l.length - l.length) (0:Int)).set l.length 128)=l++[128]++List.replicate (padN l.length - 9 - l.length) 0++List.replicate 8 0:=by
    rw [show padN l.length - l.length=(padN l.length - 9 - l.length+8)+1 by omega,set_rep,← List.replicate_append_replicate,List.append_assoc (l++[128])]
  obtain ⟨A,hA⟩:∃ A,l++[128]++List.replicate (padN l.length - 9 - l.length) (0:Int)=A:=⟨_,rfl⟩
  have hl:A.length=padN l.length - 8:=by rw [← hA];simp only [List.length_append,List.length_cons,List.length_nil,List.length_replicate];omega
  obtain ⟨g,hg⟩:∃ g:Int→Int,(fun s=>IntKind.u8.wrap (shrI .u64 (IntKind.u64.wrap (IntKind.u64.wrap l.length*8)) s))=g:=⟨_,rfl⟩
  have e1:padA l 8=A++[g 56,g 48,g 40,g 32,g 24,g 16,g 8,g 0]:=by
    have hs:∀ (k:Nat) (Z:List Int) (v:Int),k < 8→Z.length=8→(A++Z).set (padN l.length - 1 - k) v=A++Z.set (7 - k) v:=fun k Z v hk hZ=>by
      rw [List.set_append_right _ _ (by omega),hl,show padN l.length - 1 - k - (padN l.length - 8)=7 - k by omega]
    simp only [padA,e0,hA]
    rw [hs 0 _ _ (by decide) rfl,hs 1 _ _ (by decide) rfl,hs 2 _ _ (by decide) rfl,hs 3 _ _ (by decide) rfl,hs 4 _ _ (by decide) rfl,hs 5 _ _ (by decide) rfl,hs 6 _ _ (by decide) rfl,hs 7 _ _ (by decide) rfl,← hg]
    rfl
  rw [e1,hA,← hg]
  rfl
theorem pad_eq (l:List Int):pad l=pdR l 8:=by
  apply List.ext_getElem?
  intro i
  by_cases h:i < padN l.length
  · exact padA_get l i h
  · have h1:(pad l).length=padN l.length:=padA_len l 8
    have h2:(pdR l 8).length=padN l.length:=by
      have:=padN_ge l.length
      simp only [pdR,List.length_append,List.length_cons,List.length_nil,List.length_replicate,List.length_map,List.length_range];omega
    rw [List.getElem?_eq_none_iff.2 (by omega),List.getElem?_eq_none_iff.2 (by omega)]
theorem pdR_succ (b:List Int) (k:Nat):pdR b (k+1)=pdR b k++[IntKind.u8.wrap (shrI .u64 (IntKind.u64.wrap (IntKind.u64.wrap b.length*8)) (56 - 8*(k:Int)))]:=by
  unfold pdR
  rw [List.range_succ,List.map_append,← List.append_assoc]
  rfl
theorem blkH_get (h v:List Int):∀ (i j:Nat),i≤j→(blkH h v i)[j]?=h[j]?
  | 0,_,_=>rfl
  | i+1,j,hij=>by rw [blkH,List.getElem?_set_ne (by omega)];exact blkH_get h v i j (by omega)
theorem blkM_succ {h v:List Int} (hh:h.length=8) (hv:v.length=8) {i:Nat} (hi:i < 8) {a b:Int} (ha:v[i]?=some a) (hb:h[i]?=some b):(blkM h v i).set i (IntKind.u32.wrap (a+b))=blkM h v (i+1):=by
  have l1:=blkH_len h v hh i
  unfold blkM
  have e1:v.drop i=a::v.drop (i+1):=(List.getElem?_eq_some_iff.1 ha).2▸List.drop_eq_getElem_cons _
  have e2:((blkH h v i).take i).length=i:=by rw [List.length_take,l1];omega
  rw [e1,List.set_append_right _ _ (by omega),e2,Nat.sub_self,List.set_cons_zero]
  have e3:(blkH h v i).getD i 0=b:=by rw [List.getD_eq_getElem?_getD,blkH_get h v i i (Nat.le_refl _),hb];rfl
  have e4:v.getD i 0=a:=getD_of ha rfl
  have e5:blkH h v (i+1)=(blkH h v i).set i (IntKind.u32.wrap (b+a)):=by rw [blkH,e3,e4]
  rw [e5,List.take_set,List.take_add_one,List.getElem?_eq_getElem (by omega),Option.toList_some,List.set_append_right _ _ (by omega),e2,Nat.sub_self,List.set_cons_zero,Int.add_comm a b,List.append_assoc]
  rfl
theorem blkM_get {h v:List Int} (hh:h.length=8) {i:Nat} (hi:i < 8):(blkM h v i)[i]?=v[i]?:=by
  have l1:=blkH_len h v hh i
  have e2:((blkH h v i).take i).length=i:=by rw [List.length_take,l1];omega
  unfold blkM
  rw [List.getElem?_append_right (by omega),e2,Nat.sub_self,List.getElem?_drop,Nat.add_zero]
theorem blkM_len {h v:List Int} (hh:h.length=8) (hv:v.length=8) {i:Nat} (hi:i≤8):(blkM h v i).length=8:=by
  have l1:=blkH_len h v hh i
  unfold blkM
  rw [List.length_append,List.length_take,List.length_drop,l1];omega
theorem blkM_8 {h v:List Int} (hh:h.length=8) (hv:v.length=8):blkM h v 8=blkH h v 8:=by
  have l1:=blkH_len h v hh 8
  unfold blkM
  rw [List.take_of_length_le (by omega),List.drop_eq_nil_of_le (by omega),List.append_nil]
theorem step_at {v:List Int} (hl:v.length=8) {a0 a1 a2 a3 a4 a5 a6 a7:Int} (h0:v[0]?=some a0) (h1:v[1]?=some a1) (h2:v[2]?=some a2) (h3:v[3]?=some a3) (h4:v[4]?=some a4) (h5:v[5]?=some a5) (h6:v[6]?=some a6) (h7:v[7]?=some a7) (w k:Int):
    blkStep v w k=[IntKind.u32.wrap (blkT a7 a4 a5 a6 k w+blkW a0 a1 a2),a0,a1,a2,IntKind.u32.wrap (a3+blkT a7 a4 a5 a6 k w),a4,a5,a6]:=by
  match v,hl with
  | [b0, b1, b2, b3, b4, b5, b6, b7], _ =>
    cases h0;cases h1;cases h2;cases h3;cases h4;cases h5;cases h6;cases h7
    rfl
theorem hsOf_snoc (p:List Int) (k:Nat):hsOf p (List.range (k+1))=blk (hsOf p (List.range k)) (chunk p k):=by
  unfold hsOf
  rw [List.range_succ,List.foldl_append]
  rfl
theorem bk_snoc (A:List Int) (m:Nat):(A++List.replicate m (0:Int))++[0]=A++List.replicate (m+1) 0:=by
  rw [List.append_assoc,List.replicate_succ']
theorem bk0_le (k:List Int):(bk0 k).length≤64:=by
  unfold bk0
  split
  · rw [sumF_len];decide
  · omega
theorem putI_cons (n:Int) (k:Nat):(n / 256 ^ k % 256)::putI n k=putI n (k+1):=by
  unfold putI
  rw [List.range_succ_eq_map,List.map_cons,List.map_map]
  congr 1
  apply List.map_congr_left
  intro j hj
  show _=n / 256 ^ (k+1 - 1 - (j+1)) % 256
  rw [show k+1 - 1 - (j+1)=k - 1 - j by omega]
theorem okG_go:∀ {l p:List Int},okG p l=true→∀ {i:Nat} {c:Int},l[i]?=some c→∀ {d:Int},d∈p++l.take i→d≠c
  | [],p,_,i,c,hc,d,_=>by cases hc
  | n :: r, p, h, i, c, hc, d, hd => by
    simp only [okG,Bool.and_eq_true,decide_eq_true_eq,Bool.not_eq_true'] at h
    cases i with
    | zero =>
      cases hc
      rw [List.take_zero,List.append_nil] at hd
      rintro rfl
      have:=h.2.2.1
      rw [List.contains_eq_mem,decide_eq_false_iff_not] at this
      exact this hd
    | succ i =>
      rw [List.take_succ_cons] at hd
      exact okG_go h.2.2.2 (i:=i) hc (by rw [List.append_assoc];exact hd)
def anBt (c:Cfg) (fr tn:Int) (s:Sta) (q:Int):List Int:=frPutF (pairF c fr tn) (fr,tn,s,1,q,anB,())
end DoorU
def S_putO:Spec:=⟨.pair nW (.pair nI .unit),.pair (.tup (.pair oY (.pair nI .unit))) .unit,fun (x:Int×Int×Unit)=>0≤x.1∧x.1 < 18446744073709551616,fun (x:Int×Int×Unit)=>(((putR x.1 x.2.1,putE x.1 x.2.1,()),()):(List Int×Int×Unit)×Unit)⟩
def S_rturn:Spec:=⟨.pair nU (.pair nW .unit),.pair nU .unit,fun (x:Int×Int×Unit)=>trOk x.2.1,fun (x:Int×Int×Unit)=>((down x.1 x.2.1,()):Int×Unit)⟩
def S_rcons:Spec:=⟨.unit,.pair (.arr tU) .unit,fun _=>True,fun _=>((tabL,()):List Int×Unit)⟩
def S_rpad:Spec:=⟨.pair lY .unit,.pair oY .unit,fun (x:List Int×Unit)=>x.1.length≤1000000000,fun (x:List Int×Unit)=>((pad x.1,()):List Int×Unit)⟩
def A_rpad (x:List Int×Unit):Nat→Option LA
  | 0=>some ⟨[3],[],.pair oY .unit,fun (v:List Int×Unit)=>x.1.length+1≤v.1.length∧v.1.length+8≤padN x.1.length∧v.1=x.1++[128]++List.replicate (v.1.length - 1 - x.1.length) 0,fun (v:List Int×Unit)=>padN x.1.length - v.1.length⟩
  | 1=>some ⟨[22,3],[],.pair nI (.pair oY .unit),fun (v:Int×List Int×Unit)=>0≤v.1∧v.1≤8∧v.2.1=pdR x.1 v.1.toNat,fun (v:Int×List Int×Unit)=>(8 - v.1).toNat⟩
  | _=>none
def A_rblk (x:List Int×List Int×Unit):Nat→Option LA
  | 0=>some ⟨[29,7],[],.pair nI (.pair (.pa tU 216) .unit),fun (v:Int×List Int×Unit)=>0≤v.1∧v.1≤16∧v.2.1=schA x.2.1 v.1.toNat,fun (v:Int×List Int×Unit)=>(16 - v.1).toNat⟩
  | 1=>some ⟨[9,7],[],.pair nI (.pair (.pa tU 216) .unit),fun (v:Int×List Int×Unit)=>16≤v.1∧v.1≤64∧v.2.1=schB x.2.1 (v.1.toNat - 16),fun (v:Int×List Int×Unit)=>(64 - v.1).toNat⟩
  | 2=>some ⟨[122,12],[],.pair nI (.pair (.pa tU 210) .unit),fun (v:Int×List Int×Unit)=>0≤v.1∧v.1≤64∧v.2.1=blkV x.1 (sch x.2.1) v.1.toNat,fun (v:Int×List Int×Unit)=>(64 - v.1).toNat⟩
  | 3=>some ⟨[206,12],[],.pair nI (.pair (.pa tU 210) .unit),fun (v:Int×List Int×Unit)=>0≤v.1∧v.1≤8∧v.2.1=blkM x.1 (blkV x.1 (sch x.2.1) 64) v.1.toNat,fun (v:Int×List Int×Unit)=>(8 - v.1).toNat⟩
  | _=>none
def S_rbyt:Spec:=⟨.pair (.arr tU) .unit,.pair oY .unit,fun (x:List Int×Unit)=>x.1.length=8,fun (x:List Int×Unit)=>((outP x.1 8,()):List Int×Unit)⟩
def A_rbyt (x:List Int×Unit):Nat→Option LA
  | 0=>some ⟨[7,3],[(3,tY,5)],.pair nI (.pair oY .unit),fun (v:Int×List Int×Unit)=>0≤v.1∧v.1≤8∧v.2.1=outP x.1 v.1.toNat,fun (v:Int×List Int×Unit)=>(8 - v.1).toNat⟩
  | _=>none
def A_rsum (x:List Int×Unit):Nat→Option LA
  | 0=>some ⟨[5,4],[],.pair nI (.pair (.pa tU 210) .unit),fun (v:Int×List Int×Unit)=>0≤v.1∧v.1≤(pad x.1).length∧v.1 % 64=0∧v.2.1=hsOf (pad x.1) (List.range (v.1.toNat / 64)),fun (v:Int×List Int×Unit)=>((pad x.1).length - v.1).toNat⟩
  | _=>none
def S_r2blk:Spec:=⟨.pair lY .unit,.pair oY .unit,fun (x:List Int×Unit)=>x.1.length≤1000000000,fun (x:List Int×Unit)=>((blockF x.1,()):List Int×Unit)⟩
def A_r2blk (x:List Int×Unit):Nat→Option LA
  | 0=>some ⟨[3],[],.pair oY .unit,fun (v:List Int×Unit)=>(bk0 x.1).length≤v.1.length∧v.1.length≤64∧v.1=bk0 x.1++List.replicate (v.1.length - (bk0 x.1).length) 0,fun (v:List Int×Unit)=>64 - v.1.length⟩
  | _=>none
def S_r2w:Spec:=⟨.pair lY (.pair nY .unit),.pair oY .unit,fun (x:List Int×Int×Unit)=>x.1.length≤1048576,fun (x:List Int×Int×Unit)=>((wiF x.1 x.2.1,()):List Int×Unit)⟩
def A_r2w (x:List Int×Int×Unit):Nat→Option LA
  | 0=>some ⟨[10,5],[(5,tY,5)],.pair nI (.pair oY .unit),fun (v:Int×List Int×Unit)=>0≤v.1∧v.1≤(x.1.length:Nat)∧v.2.1=wiF (x.1.take v.1.toNat) x.2.1,fun (v:Int×List Int×Unit)=>((x.1.length:Nat) - v.1).toNat⟩
  | _=>none
def A_r3put (x:Int×Int×Unit):Nat→Option LA
  | 0=>some ⟨[14,6,0],[(6,tY,5)],.pair nI (.pair oY (.pair nW .unit)),fun (v:Int×List Int×Int×Unit)=>0≤v.1∧v.1≤x.2.1∧v.2.1=putI x.1 v.1.toNat∧v.2.2.1=x.1 / 256 ^ v.1.toNat,fun (v:Int×List Int×Int×Unit)=>(x.2.1 - v.1).toNat⟩
  | _=>none
def S_rmust:Spec:=⟨.pair nI (.pair nI .unit),.pair vY .unit,fun (x:Int×Int×Unit)=>0≤x.1∧x.1 < 4294967296,fun (x:Int×Int×Unit)=>((putR x.1 x.2.1,()):List Int×Unit)⟩
def S_r4chk:Spec:=⟨.pair aSt .unit,.pair nI .unit,fun (x:Sta×Unit)=>okS x.1=true,fun _=>((0,()):Int×Unit)⟩
def A_r4chk (x:Sta×Unit):Nat→Option LA
  | 0=>some ⟨[20],[],.pair nI .unit,fun (v:Int×Unit)=>0≤v.1∧v.1≤(x.1.2.2.1.length:Nat),fun (v:Int×Unit)=>((x.1.2.2.1.length:Nat) - v.1).toNat⟩
  | 1=>some ⟨[36],[],.pair nI .unit,fun (v:Int×Unit)=>0≤v.1∧v.1≤(x.1.2.2.1.length:Nat),fun (v:Int×Unit)=>((x.1.2.2.1.length:Nat) - v.1).toNat⟩
  | _=>none
def S_r4put:Spec:=⟨.pair aSt .unit,.pair (.tup (.pair vY (.pair nI .unit))) .unit,fun (x:Sta×Unit)=>okS x.1=true∧okSt x.1,fun (x:Sta×Unit)=>(((stL x.1,0,()),()):(List Int×Int×Unit)×Unit)⟩
def A_r4put (x:Sta×Unit):Nat→Option LA
  | 0=>some ⟨[40,5],[],.pair nI (.pair oY .unit),fun (v:Int×List Int×Unit)=>0≤v.1∧v.1≤(x.1.2.2.1.length:Nat)∧v.2.1=putI x.1.1 8++putI x.1.2.1 8++[w8 x.1.2.2.1.length]++(x.1.2.2.1.take v.1.toNat).map w8,fun (v:Int×List Int×Unit)=>((x.1.2.2.1.length:Nat) - v.1).toNat⟩
  | _=>none
def S_r5chk:Spec:=⟨.pair aFr .unit,.pair nI .unit,fun (x:Fra×Unit)=>frChk x.1=0,fun _=>((0,()):Int×Unit)⟩
def S_r5put:Spec:=⟨.pair lY (.pair aFr .unit),.pair (.tup (.pair vY (.pair nI .unit))) .unit,fun (x:List Int×Fra×Unit)=>frChk x.2.1=0∧okSt x.2.1.2.2.1∧x.1.length≤1000000000,fun (x:List Int×Fra×Unit)=>(((frPutF x.1 x.2.1,0,()),()):(List Int×Int×Unit)×Unit)⟩
def S_r6chk:Spec:=⟨.pair aNo .unit,.pair nI .unit,fun (x:Nte×Unit)=>x.1=(1,[],0,false,()),fun _=>((0,()):Int×Unit)⟩
def A_r6chk (x:Nte×Unit):Nat→Option LA
  | 0=>some ⟨[54],[],.pair nI .unit,fun (v:Int×Unit)=>v.1=0,fun (v:Int×Unit)=>0⟩
  | _=>none
def S_r6put:Spec:=⟨.pair aNo .unit,.pair (.tup (.pair vY (.pair nI .unit))) .unit,fun (x:Nte×Unit)=>x.1=(1,[],0,false,()),fun (x:Nte×Unit)=>(((anB,0,()),()):(List Int×Int×Unit)×Unit)⟩
def A_r6put (x:Nte×Unit):Nat→Option LA
  | 0=>some ⟨[26,5],[],.pair nI (.pair oY .unit),fun (v:Int×List Int×Unit)=>v.1=0∧v.2.1=anB,fun (v:Int×List Int×Unit)=>0⟩
  | _=>none
def S_rnote:Spec:=⟨.pair aC (.pair nI (.pair nI (.pair aSt (.pair nI (.pair aNo .unit))))),.pair vY .unit,fun (x:Cfg×Int×Int×Sta×Int×Nte×Unit)=>x.1.1.length≤1000000000∧x.2.2.2.2.2.1=(1,[],0,false,())∧okSt x.2.2.2.1∧frChk (x.2.1,x.2.2.1,x.2.2.2.1,1,x.2.2.2.2.1,anB,())=0,fun (x:Cfg×Int×Int×Sta×Int×Nte×Unit)=>((anBt x.1 x.2.1 x.2.2.1 x.2.2.2.1 x.2.2.2.2.1,()):List Int×Unit)⟩
def S_annc:Spec:=⟨.pair aC (.pair aCl (.pair aSt .unit)),.pair vY .unit,fun (x:Cfg×Cli×Sta×Unit)=>x.1.1.length≤1000000000∧okSt x.2.2.1∧frChk (0,x.2.1.2.1.1,x.2.2.1,1,0,anB,())=0,fun (x:Cfg×Cli×Sta×Unit)=>((anBt x.1 0 x.2.1.2.1.1 x.2.2.1 0,()):List Int×Unit)⟩
theorem vc_rturn:VC Tryz.prog Tryz.f152 (bodyOf Tryz.f152) S_rturn [] (fun _ _=>none)=(∀ (x:Int×Int×Unit),trOk x.snd.fst→
  (0:Int)≤x.snd.fst∧(0:Int)≤IntKind.wrap IntKind.u64 ((32:Int) - x.snd.fst)∧(orI IntKind.u32 (shrI IntKind.u32 x.fst x.snd.fst) (shlI IntKind.u32 x.fst (IntKind.wrap IntKind.u64 ((32:Int) - x.snd.fst))),())=(down x.fst x.snd.fst,())):=by kernel_rfl
theorem en_rturn (us:Array Value) (u:World):(callFunc 152 us).run Tryz.prog u=.ok (.enter 152 us) u:=by kernel_rfl
theorem sc_rturn:SC Tryz.prog 152 S_rturn:=by
  refine SC.of Tryz.func152 (c:=bodyOf Tryz.f152) (by kernel_rfl) (by kernel_rfl) (fun x=>(by decide:(2:Nat)≤Tryz.f152.ntmps)) DOk.nil (Eq.mpr vc_rturn ?_)
  rintro ⟨x,n,⟨⟩⟩ h
  dsimp only at h ⊢
  obtain ⟨h1,h2,h3⟩:=turn_down h x
  exact ⟨h1,h2,by rw [h3]⟩
theorem vc_rcons:VC Tryz.prog Tryz.f151 (bodyOf Tryz.f151) S_rcons [] (fun _ _=>none)=(∀ (x:Unit),True→
  (64:Nat)=(64:Nat)∧(64:Nat)=(64:Nat)∧(64:Nat)=(64:Nat)∧([(1116352408:Int),(1899447441:Int),(3049323471:Int),(3921009573:Int),(961987163:Int),(1508970993:Int),(2453635748:Int),(2870763221:Int),(3624381080:Int),(310598401:Int),(607225278:Int),(1426881987:Int),(1925078388:Int),(2162078206:Int),(2614888103:Int),(3248222580:Int),(3835390401:Int),(4022224774:Int),(264347078:Int),(604807628:Int),(770255983:Int),(1249150122:Int),(1555081692:Int),(1996064986:Int),(2554220882:Int),(2821834349:Int),(2952996808:Int),(3210313671:Int),(3336571891:Int),(3584528711:Int),(113926993:Int),(338241895:Int),(666307205:Int),(773529912:Int),(1294757372:Int),(1396182291:Int),(1695183700:Int),(1986661051:Int),(2177026350:Int),(2456956037:Int),(2730485921:Int),(2820302411:Int),(3259730800:Int),(3345764771:Int),(3516065817:Int),(3600352804:Int),(4094571909:Int),(275423344:Int),(430227734:Int),(506948616:Int),(659060556:Int),(883997877:Int),(958139571:Int),(1322822218:Int),(1537002063:Int),(1747873779:Int),(1955562222:Int),(2024104815:Int),(2227730452:Int),(2361852424:Int),(2428436474:Int),(2756734187:Int),(3204031479:Int),(3329325298:Int)],())=(tabL,())):=by kernel_rfl
theorem en_rcons (us:Array Value) (u:World):(callFunc 151 us).run Tryz.prog u=.ok (.enter 151 us) u:=by kernel_rfl
theorem sc_rcons:SC Tryz.prog 151 S_rcons:=by
  refine SC.of Tryz.func151 (c:=bodyOf Tryz.f151) (by kernel_rfl) (by kernel_rfl) (fun x=>(by decide:(0:Nat)≤Tryz.f151.ntmps)) DOk.nil (Eq.mpr vc_rcons ?_)
  intro _ _
  exact ⟨rfl,rfl,rfl,rfl⟩
theorem vc_rstart:VC Tryz.prog Tryz.f144 (bodyOf Tryz.f144) S_start [] (fun _ _=>none)=(∀ (x:Unit),True→
  (8:Nat)=(8:Nat)∧(8:Nat)=(8:Nat)∧(8:Nat)=(8:Nat)∧([(1779033703:Int),(3144134277:Int),(1013904242:Int),(2773480762:Int),(1359893119:Int),(2600822924:Int),(528734635:Int),(1541459225:Int)],())=(startL,())):=by kernel_rfl
theorem en_rstart (us:Array Value) (u:World):(callFunc 144 us).run Tryz.prog u=.ok (.enter 144 us) u:=by kernel_rfl
theorem sc_rstart:SC Tryz.prog 144 S_start:=by
  refine SC.of Tryz.func144 (c:=bodyOf Tryz.f144) (by kernel_rfl) (by kernel_rfl) (fun x=>(by decide:(0:Nat)≤Tryz.f144.ntmps)) DOk.nil (Eq.mpr vc_rstart ?_)
  intro _ _
  exact ⟨rfl,rfl,rfl,rfl⟩
theorem vc_rpad:VC Tryz.prog Tryz.f143 (bodyOf Tryz.f143) S_rpad [] A_rpad=(∀ (x:List Int×Unit),List.length x.fst≤(1000000000:Nat)→
  List.length x.fst≤(9223372036854775807:Nat)→
  List.length x.fst*(1:Nat)≤(140737488351232:Nat)∧(List.length x.fst+(1:Nat))*(1:Nat)≤(140737488351232:Nat)∧(List.length x.fst+(1:Nat)≤List.length (x.fst++[(128:Int)])∧List.length (x.fst++[(128:Int)])+(8:Nat)≤padN (List.length x.fst)∧x.fst++[(128:Int)]=x.fst++[(128:Int)]++List.replicate (List.length (x.fst++[(128:Int)]) - (1:Nat) - List.length x.fst) (0:Int))∧∀ (v:List Int×Unit),List.length x.fst+(1:Nat)≤List.length v.fst∧List.length v.fst+(8:Nat)≤padN (List.length x.fst)∧v.fst=x.fst++[(128:Int)]++List.replicate (List.length v.fst - (1:Nat) - List.length x.fst) (0:Int)→
  (64:Int)≠(0:Int)∧bif Int.tmod (↑(List.length v.fst):Int) (64:Int) != (56:Int) then (List.length v.fst+(1:Nat))*(1:Nat)≤(140737488351232:Nat)∧(List.length x.fst+(1:Nat)≤List.length (v.fst++[(0:Int)])∧List.length (v.fst++[(0:Int)])+(8:Nat)≤padN (List.length x.fst)∧v.fst++[(0:Int)]=x.fst++[(128:Int)]++List.replicate (List.length (v.fst++[(0:Int)]) - (1:Nat) - List.length x.fst) (0:Int))∧padN (List.length x.fst) - List.length (v.fst++[(0:Int)]) < padN (List.length x.fst) - List.length v.fst else List.length x.fst≤(9223372036854775807:Nat)→
  ((0:Int)≤(0:Int)∧(0:Int)≤(8:Int)∧v.fst=pdR x.fst (Int.toNat (0:Int)))∧∀ (v:Int×List Int×Unit),(0:Int)≤v.fst∧v.fst≤(8:Int)∧v.snd.fst=pdR x.fst (Int.toNat v.fst)→
  bif decide (v.fst < (8:Int)) then (0:Int)≤IntKind.wrap IntKind.u64 ((56:Int) - IntKind.wrap IntKind.u64 ((8:Int)*IntKind.wrap IntKind.u64 v.fst))∧(List.length v.snd.fst+List.length [IntKind.wrap IntKind.u8 (shrI IntKind.u64 (IntKind.wrap IntKind.u64 (IntKind.wrap IntKind.u64 (↑(List.length x.fst):Int)*(8:Int))) (IntKind.wrap IntKind.u64 ((56:Int) - IntKind.wrap IntKind.u64 ((8:Int)*IntKind.wrap IntKind.u64 v.fst))))])*(1:Nat)≤(140737488351232:Nat)∧((0:Int)≤IntKind.wrap IntKind.i64 (v.fst+(1:Int))∧IntKind.wrap IntKind.i64 (v.fst+(1:Int))≤(8:Int)∧v.snd.fst++[IntKind.wrap IntKind.u8 (shrI IntKind.u64 (IntKind.wrap IntKind.u64 (IntKind.wrap IntKind.u64 (↑(List.length x.fst):Int)*(8:Int))) (IntKind.wrap IntKind.u64 ((56:Int) - IntKind.wrap IntKind.u64 ((8:Int)*IntKind.wrap IntKind.u64 v.fst))))]=pdR x.fst (Int.toNat (IntKind.wrap IntKind.i64 (v.fst+(1:Int)))))∧Int.toNat ((8:Int) - IntKind.wrap IntKind.i64 (v.fst+(1:Int))) < Int.toNat ((8:Int) - v.fst) else v.snd=(pad x.fst,())):=by kernel_rfl
theorem en_rpad (us:Array Value) (u:World):(callFunc 143 us).run Tryz.prog u=.ok (.enter 143 us) u:=by kernel_rfl
theorem sc_rpad:SC Tryz.prog 143 S_rpad:=by
  refine SC.of Tryz.func143 (c:=bodyOf Tryz.f143) (by kernel_rfl) (by kernel_rfl) (fun x=>(by decide:(1:Nat)≤Tryz.f143.ntmps)) DOk.nil (Eq.mpr vc_rpad ?_)
  rintro ⟨l,⟨⟩⟩ hl -
  dsimp only at hl ⊢
  have hp1:=padN_ge l.length
  have hp2:=padN_le l.length
  have hp3:=padN_mod l.length
  have l1:(l++[(128:Int)]).length=l.length+1:=by rw [List.length_append];rfl
  rw [l1]
  refine ⟨by omega,by omega,⟨Nat.le_refl _,by omega,by rw [Nat.add_sub_cancel,Nat.sub_self];exact (List.append_nil _).symm⟩,?_⟩
  rintro ⟨o,⟨⟩⟩ ⟨h1,h2,ho⟩
  dsimp only at h1 h2 ho ⊢
  refine ⟨by decide,?_⟩
  by_cases c:Int.tmod (o.length:Int) 64=56
  rotate_left 1
  · rw [bneT c,cond_true]
    rw [Int.tmod_eq_emod_of_nonneg (by omega)] at c
    rw [List.length_append,List.length_cons,List.length_nil]
    refine ⟨by omega,⟨by omega,by omega,?_⟩,by omega⟩
    rw [show o.length+(0+1) - 1 - l.length=(o.length - 1 - l.length)+1 by omega,← bk_snoc,← ho]
  rw [bneF c,cond_false]
  rw [Int.tmod_eq_emod_of_nonneg (by omega)] at c
  intro _
  have eo:o=pdR l 0:=by
    unfold pdR
    rw [List.range_zero,List.map_nil,List.append_nil,show padN l.length - 9 - l.length=o.length - 1 - l.length by unfold padN at h2 ⊢;omega]
    exact ho
  refine ⟨⟨Int.le_refl 0,by decide,eo⟩,?_⟩
  clear ho eo c h1 h2
  rintro ⟨i,u,⟨⟩⟩ ⟨h1,h2,hu⟩
  dsimp only at h1 h2 hu ⊢
  by_cases hi:i < 8
  · have wi:IntKind.i64.wrap (i+1)=i+1:=IntWalk.i64_in _ (by omega)
    have v1:IntKind.u64.wrap i=i:=u64_of h1 (by omega)
    have v2:IntKind.u64.wrap (8*i)=8*i:=u64_of (by omega) (by omega)
    have v3:IntKind.u64.wrap (56 - 8*i)=56 - 8*i:=u64_of (by omega) (by omega)
    have ul:u.length≤l.length+80:=by
      rw [hu]
      simp only [pdR,List.length_append,List.length_cons,List.length_nil,List.length_replicate,List.length_map,List.length_range];omega
    rw [decide_eq_true hi,cond_true,wi,v1,v2,v3]
    refine ⟨by omega,by rw [List.length_cons,List.length_nil];omega,⟨by omega,by omega,?_⟩,by omega⟩
    rw [show (i+1).toNat=i.toNat+1 by omega,pdR_succ,← hu,show ((i.toNat:Nat):Int)=i by omega]
  · rw [decide_eq_false hi,cond_false]
    obtain rfl:i=8:=by omega
    rw [hu,pad_eq]
    rfl
theorem vc_rblk:VC Tryz.prog Tryz.f145 (bodyOf Tryz.f145) S_blk [(151,S_rcons),(152,S_rturn)] A_rblk=(∀ (x:List Int×List Int×Unit),List.length x.fst=(8:Nat)∧List.length x.snd.fst=(64:Nat)→
  List.length x.snd.fst≤(9223372036854775807:Nat)→
  List.length x.fst≤(9223372036854775807:Nat)∧(List.length x.snd.fst≤(9223372036854775807:Nat)→
  bif (↑(List.length x.snd.fst):Int) != (64:Int) then (8:Nat)=(8:Nat)∧(8:Nat)=(8:Nat)∧(8:Nat)=(8:Nat)∧(([(0:Int),(0:Int),(0:Int),(0:Int),(0:Int),(0:Int),(0:Int),(0:Int)],(1:Int),()),())=((blk x.fst x.snd.fst,(0:Int),()),()) else True∧(64:Nat)=(64:Nat)∧List.length tabL=(64:Nat)∧(64:Nat)=(64:Nat)∧(64:Nat)=(64:Nat)∧((0:Int)≤(0:Int)∧(0:Int)≤(16:Int)∧[(0:Int),(0:Int),(0:Int),(0:Int),(0:Int),(0:Int),(0:Int),(0:Int),(0:Int),(0:Int),(0:Int),(0:Int),(0:Int),(0:Int),(0:Int),(0:Int),(0:Int),(0:Int),(0:Int),(0:Int),(0:Int),(0:Int),(0:Int),(0:Int),(0:Int),(0:Int),(0:Int),(0:Int),(0:Int),(0:Int),(0:Int),(0:Int),(0:Int),(0:Int),(0:Int),(0:Int),(0:Int),(0:Int),(0:Int),(0:Int),(0:Int),(0:Int),(0:Int),(0:Int),(0:Int),(0:Int),(0:Int),(0:Int),(0:Int),(0:Int),(0:Int),(0:Int),(0:Int),(0:Int),(0:Int),(0:Int),(0:Int),(0:Int),(0:Int),(0:Int),(0:Int),(0:Int),(0:Int),(0:Int)]=schA x.snd.fst (Int.toNat (0:Int)))∧∀ (v:Int×List Int×Unit),(0:Int)≤v.fst∧v.fst≤(16:Int)∧v.snd.fst=schA x.snd.fst (Int.toNat v.fst)→
  bif decide (v.fst < (16:Int)) then (0:Int)≤IntKind.wrap IntKind.i64 ((4:Int)*v.fst)∧IntKind.wrap IntKind.i64 ((4:Int)*v.fst) < (↑(List.length x.snd.fst):Int)∧∀ (c0:Int),x.snd.fst[Int.toNat (IntKind.wrap IntKind.i64 ((4:Int)*v.fst))]?=some c0→
  (0:Int)≤(24:Int)∧(0:Int)≤IntKind.wrap IntKind.i64 (IntKind.wrap IntKind.i64 ((4:Int)*v.fst)+(1:Int))∧IntKind.wrap IntKind.i64 (IntKind.wrap IntKind.i64 ((4:Int)*v.fst)+(1:Int)) < (↑(List.length x.snd.fst):Int)∧∀ (c0_1:Int),x.snd.fst[Int.toNat (IntKind.wrap IntKind.i64 (IntKind.wrap IntKind.i64 ((4:Int)*v.fst)+(1:Int)))]?=some c0_1→
  (0:Int)≤(16:Int)∧(0:Int)≤IntKind.wrap IntKind.i64 (IntKind.wrap IntKind.i64 ((4:Int)*v.fst)+(2:Int))∧IntKind.wrap IntKind.i64 (IntKind.wrap IntKind.i64 ((4:Int)*v.fst)+(2:Int)) < (↑(List.length x.snd.fst):Int)∧∀ (c0_2:Int),x.snd.fst[Int.toNat (IntKind.wrap IntKind.i64 (IntKind.wrap IntKind.i64 ((4:Int)*v.fst)+(2:Int)))]?=some c0_2→
  (0:Int)≤(8:Int)∧(0:Int)≤IntKind.wrap IntKind.i64 (IntKind.wrap IntKind.i64 ((4:Int)*v.fst)+(3:Int))∧IntKind.wrap IntKind.i64 (IntKind.wrap IntKind.i64 ((4:Int)*v.fst)+(3:Int)) < (↑(List.length x.snd.fst):Int)∧∀ (c0_3:Int),x.snd.fst[Int.toNat (IntKind.wrap IntKind.i64 (IntKind.wrap IntKind.i64 ((4:Int)*v.fst)+(3:Int)))]?=some c0_3→
  (0:Int)≤v.fst∧v.fst < Int.ofNat (64:Nat)∧Int.toNat v.fst < List.length v.snd.fst∧∀ (x0:Int),v.snd.fst[Int.toNat v.fst]?=some x0→
  ((0:Int)≤IntKind.wrap IntKind.i64 (v.fst+(1:Int))∧IntKind.wrap IntKind.i64 (v.fst+(1:Int))≤(16:Int)∧List.set v.snd.fst (Int.toNat v.fst) (orI IntKind.u32 (orI IntKind.u32 (orI IntKind.u32 (shlI IntKind.u32 (IntKind.wrap IntKind.u32 c0) (24:Int)) (shlI IntKind.u32 (IntKind.wrap IntKind.u32 c0_1) (16:Int))) (shlI IntKind.u32 (IntKind.wrap IntKind.u32 c0_2) (8:Int))) (IntKind.wrap IntKind.u32 c0_3))=schA x.snd.fst (Int.toNat (IntKind.wrap IntKind.i64 (v.fst+(1:Int)))))∧Int.toNat ((16:Int) - IntKind.wrap IntKind.i64 (v.fst+(1:Int))) < Int.toNat ((16:Int) - v.fst) else ((16:Int)≤(16:Int)∧(16:Int)≤(64:Int)∧v.snd.fst=schB x.snd.fst (Int.toNat (16:Int) - (16:Nat)))∧∀ (v:Int×List Int×Unit),(16:Int)≤v.fst∧v.fst≤(64:Int)∧v.snd.fst=schB x.snd.fst (Int.toNat v.fst - (16:Nat))→
  bif decide (v.fst < (64:Int)) then (0:Int)≤IntKind.wrap IntKind.i64 (v.fst - (15:Int))∧IntKind.wrap IntKind.i64 (v.fst - (15:Int)) < Int.ofNat (64:Nat)∧Int.toNat (IntKind.wrap IntKind.i64 (v.fst - (15:Int))) < List.length v.snd.fst∧∀ (x_1:Int),v.snd.fst[Int.toNat (IntKind.wrap IntKind.i64 (v.fst - (15:Int)))]?=some x_1→
  trOk (7:Int)∧(0:Int)≤IntKind.wrap IntKind.i64 (v.fst - (15:Int))∧IntKind.wrap IntKind.i64 (v.fst - (15:Int)) < Int.ofNat (64:Nat)∧Int.toNat (IntKind.wrap IntKind.i64 (v.fst - (15:Int))) < List.length v.snd.fst∧∀ (x_2:Int),v.snd.fst[Int.toNat (IntKind.wrap IntKind.i64 (v.fst - (15:Int)))]?=some x_2→
  trOk (18:Int)∧(0:Int)≤IntKind.wrap IntKind.i64 (v.fst - (15:Int))∧IntKind.wrap IntKind.i64 (v.fst - (15:Int)) < Int.ofNat (64:Nat)∧Int.toNat (IntKind.wrap IntKind.i64 (v.fst - (15:Int))) < List.length v.snd.fst∧∀ (x_3:Int),v.snd.fst[Int.toNat (IntKind.wrap IntKind.i64 (v.fst - (15:Int)))]?=some x_3→
  (0:Int)≤(3:Int)∧(0:Int)≤IntKind.wrap IntKind.i64 (v.fst - (2:Int))∧IntKind.wrap IntKind.i64 (v.fst - (2:Int)) < Int.ofNat (64:Nat)∧Int.toNat (IntKind.wrap IntKind.i64 (v.fst - (2:Int))) < List.length v.snd.fst∧∀ (x_4:Int),v.snd.fst[Int.toNat (IntKind.wrap IntKind.i64 (v.fst - (2:Int)))]?=some x_4→
  trOk (17:Int)∧(0:Int)≤IntKind.wrap IntKind.i64 (v.fst - (2:Int))∧IntKind.wrap IntKind.i64 (v.fst - (2:Int)) < Int.ofNat (64:Nat)∧Int.toNat (IntKind.wrap IntKind.i64 (v.fst - (2:Int))) < List.length v.snd.fst∧∀ (x_5:Int),v.snd.fst[Int.toNat (IntKind.wrap IntKind.i64 (v.fst - (2:Int)))]?=some x_5→
  trOk (19:Int)∧(0:Int)≤IntKind.wrap IntKind.i64 (v.fst - (2:Int))∧IntKind.wrap IntKind.i64 (v.fst - (2:Int)) < Int.ofNat (64:Nat)∧Int.toNat (IntKind.wrap IntKind.i64 (v.fst - (2:Int))) < List.length v.snd.fst∧∀ (x_6:Int),v.snd.fst[Int.toNat (IntKind.wrap IntKind.i64 (v.fst - (2:Int)))]?=some x_6→
  (0:Int)≤(10:Int)∧(0:Int)≤IntKind.wrap IntKind.i64 (v.fst - (16:Int))∧IntKind.wrap IntKind.i64 (v.fst - (16:Int)) < Int.ofNat (64:Nat)∧Int.toNat (IntKind.wrap IntKind.i64 (v.fst - (16:Int))) < List.length v.snd.fst∧∀ (x_7:Int),v.snd.fst[Int.toNat (IntKind.wrap IntKind.i64 (v.fst - (16:Int)))]?=some x_7→
  (0:Int)≤IntKind.wrap IntKind.i64 (v.fst - (7:Int))∧IntKind.wrap IntKind.i64 (v.fst - (7:Int)) < Int.ofNat (64:Nat)∧Int.toNat (IntKind.wrap IntKind.i64 (v.fst - (7:Int))) < List.length v.snd.fst∧∀ (x_8:Int),v.snd.fst[Int.toNat (IntKind.wrap IntKind.i64 (v.fst - (7:Int)))]?=some x_8→
  (0:Int)≤v.fst∧v.fst < Int.ofNat (64:Nat)∧Int.toNat v.fst < List.length v.snd.fst∧∀ (x0:Int),v.snd.fst[Int.toNat v.fst]?=some x0→
  ((16:Int)≤IntKind.wrap IntKind.i64 (v.fst+(1:Int))∧IntKind.wrap IntKind.i64 (v.fst+(1:Int))≤(64:Int)∧List.set v.snd.fst (Int.toNat v.fst) (IntKind.wrap IntKind.u32 (IntKind.wrap IntKind.u32 (IntKind.wrap IntKind.u32 (x_7+xorI IntKind.u32 (xorI IntKind.u32 (down x_1 (7:Int)) (down x_2 (18:Int))) (shrI IntKind.u32 x_3 (3:Int)))+x_8)+xorI IntKind.u32 (xorI IntKind.u32 (down x_4 (17:Int)) (down x_5 (19:Int))) (shrI IntKind.u32 x_6 (10:Int))))=schB x.snd.fst (Int.toNat (IntKind.wrap IntKind.i64 (v.fst+(1:Int))) - (16:Nat)))∧Int.toNat ((64:Int) - IntKind.wrap IntKind.i64 (v.fst+(1:Int))) < Int.toNat ((64:Int) - v.fst) else List.length x.fst=(8:Nat)∧(8:Nat)=(8:Nat)∧List.length x.fst=(8:Nat)∧((0:Int)≤(0:Int)∧(0:Int)≤(64:Int)∧x.fst=blkV x.fst (sch x.snd.fst) (Int.toNat (0:Int)))∧∀ (v_1:Int×List Int×Unit),(0:Int)≤v_1.fst∧v_1.fst≤(64:Int)∧v_1.snd.fst=blkV x.fst (sch x.snd.fst) (Int.toNat v_1.fst)→
  bif decide (v_1.fst < (64:Int)) then (0:Int)≤(0:Int)∧(0:Int) < Int.ofNat (8:Nat)∧(0:Nat) < List.length v_1.snd.fst∧∀ (x_1:Int),v_1.snd.fst[(0:Nat)]?=some x_1→
  (0:Int)≤(1:Int)∧(1:Int) < Int.ofNat (8:Nat)∧(1:Nat) < List.length v_1.snd.fst∧∀ (x_2:Int),v_1.snd.fst[(1:Nat)]?=some x_2→
  (0:Int)≤(2:Int)∧(2:Int) < Int.ofNat (8:Nat)∧(2:Nat) < List.length v_1.snd.fst∧∀ (x_3:Int),v_1.snd.fst[(2:Nat)]?=some x_3→
  (0:Int)≤(4:Int)∧(4:Int) < Int.ofNat (8:Nat)∧(4:Nat) < List.length v_1.snd.fst∧∀ (x_4:Int),v_1.snd.fst[(4:Nat)]?=some x_4→
  (0:Int)≤(5:Int)∧(5:Int) < Int.ofNat (8:Nat)∧(5:Nat) < List.length v_1.snd.fst∧∀ (x_5:Int),v_1.snd.fst[(5:Nat)]?=some x_5→
  (0:Int)≤(6:Int)∧(6:Int) < Int.ofNat (8:Nat)∧(6:Nat) < List.length v_1.snd.fst∧∀ (x_6:Int),v_1.snd.fst[(6:Nat)]?=some x_6→
  (0:Int)≤(7:Int)∧(7:Int) < Int.ofNat (8:Nat)∧(7:Nat) < List.length v_1.snd.fst∧∀ (x_7:Int),v_1.snd.fst[(7:Nat)]?=some x_7→
  trOk (6:Int)∧trOk (11:Int)∧trOk (25:Int)∧(0:Int)≤v_1.fst∧v_1.fst < Int.ofNat (64:Nat)∧Int.toNat v_1.fst < List.length tabL∧∀ (x_8:Int),tabL[Int.toNat v_1.fst]?=some x_8→
  (0:Int)≤v_1.fst∧v_1.fst < Int.ofNat (64:Nat)∧Int.toNat v_1.fst < List.length v.snd.fst∧∀ (x_9:Int),v.snd.fst[Int.toNat v_1.fst]?=some x_9→
  trOk (2:Int)∧trOk (13:Int)∧trOk (22:Int)∧(0:Int)≤(0:Int)∧(0:Int) < Int.ofNat (8:Nat)∧(0:Nat) < List.length v_1.snd.fst∧∀ (x_10:Int),v_1.snd.fst[(0:Nat)]?=some x_10→
  (0:Int)≤(1:Int)∧(1:Int) < Int.ofNat (8:Nat)∧(1:Nat) < List.length v_1.snd.fst∧∀ (x_11:Int),v_1.snd.fst[(1:Nat)]?=some x_11→
  (0:Int)≤(2:Int)∧(2:Int) < Int.ofNat (8:Nat)∧(2:Nat) < List.length v_1.snd.fst∧∀ (x_12:Int),v_1.snd.fst[(2:Nat)]?=some x_12→
  (0:Int)≤(3:Int)∧(3:Int) < Int.ofNat (8:Nat)∧(3:Nat) < List.length v_1.snd.fst∧∀ (x_13:Int),v_1.snd.fst[(3:Nat)]?=some x_13→
  (0:Int)≤(4:Int)∧(4:Int) < Int.ofNat (8:Nat)∧(4:Nat) < List.length v_1.snd.fst∧∀ (x_14:Int),v_1.snd.fst[(4:Nat)]?=some x_14→
  (0:Int)≤(5:Int)∧(5:Int) < Int.ofNat (8:Nat)∧(5:Nat) < List.length v_1.snd.fst∧∀ (x_15:Int),v_1.snd.fst[(5:Nat)]?=some x_15→
  (0:Int)≤(6:Int)∧(6:Int) < Int.ofNat (8:Nat)∧(6:Nat) < List.length v_1.snd.fst∧∀ (x_16:Int),v_1.snd.fst[(6:Nat)]?=some x_16→
  List.length v_1.snd.fst=(8:Nat)∧List.length [IntKind.wrap IntKind.u32 (IntKind.wrap IntKind.u32 (IntKind.wrap IntKind.u32 (IntKind.wrap IntKind.u32 (IntKind.wrap IntKind.u32 (x_7+xorI IntKind.u32 (xorI IntKind.u32 (down x_4 (6:Int)) (down x_4 (11:Int))) (down x_4 (25:Int)))+xorI IntKind.u32 (andI IntKind.u32 x_4 x_5) (andI IntKind.u32 (notI IntKind.u32 x_4) x_6))+x_8)+x_9)+IntKind.wrap IntKind.u32 (xorI IntKind.u32 (xorI IntKind.u32 (down x_1 (2:Int)) (down x_1 (13:Int))) (down x_1 (22:Int))+xorI IntKind.u32 (xorI IntKind.u32 (andI IntKind.u32 x_1 x_2) (andI IntKind.u32 x_1 x_3)) (andI IntKind.u32 x_2 x_3))),x_10,x_11,x_12,IntKind.wrap IntKind.u32 (x_13+IntKind.wrap IntKind.u32 (IntKind.wrap IntKind.u32 (IntKind.wrap IntKind.u32 (IntKind.wrap IntKind.u32 (x_7+xorI IntKind.u32 (xorI IntKind.u32 (down x_4 (6:Int)) (down x_4 (11:Int))) (down x_4 (25:Int)))+xorI IntKind.u32 (andI IntKind.u32 x_4 x_5) (andI IntKind.u32 (notI IntKind.u32 x_4) x_6))+x_8)+x_9)),x_14,x_15,x_16]=(8:Nat)∧((0:Int)≤IntKind.wrap IntKind.i64 (v_1.fst+(1:Int))∧IntKind.wrap IntKind.i64 (v_1.fst+(1:Int))≤(64:Int)∧[IntKind.wrap IntKind.u32 (IntKind.wrap IntKind.u32 (IntKind.wrap IntKind.u32 (IntKind.wrap IntKind.u32 (IntKind.wrap IntKind.u32 (x_7+xorI IntKind.u32 (xorI IntKind.u32 (down x_4 (6:Int)) (down x_4 (11:Int))) (down x_4 (25:Int)))+xorI IntKind.u32 (andI IntKind.u32 x_4 x_5) (andI IntKind.u32 (notI IntKind.u32 x_4) x_6))+x_8)+x_9)+IntKind.wrap IntKind.u32 (xorI IntKind.u32 (xorI IntKind.u32 (down x_1 (2:Int)) (down x_1 (13:Int))) (down x_1 (22:Int))+xorI IntKind.u32 (xorI IntKind.u32 (andI IntKind.u32 x_1 x_2) (andI IntKind.u32 x_1 x_3)) (andI IntKind.u32 x_2 x_3))),x_10,x_11,x_12,IntKind.wrap IntKind.u32 (x_13+IntKind.wrap IntKind.u32 (IntKind.wrap IntKind.u32 (IntKind.wrap IntKind.u32 (IntKind.wrap IntKind.u32 (x_7+xorI IntKind.u32 (xorI IntKind.u32 (down x_4 (6:Int)) (down x_4 (11:Int))) (down x_4 (25:Int)))+xorI IntKind.u32 (andI IntKind.u32 x_4 x_5) (andI IntKind.u32 (notI IntKind.u32 x_4) x_6))+x_8)+x_9)),x_14,x_15,x_16]=blkV x.fst (sch x.snd.fst) (Int.toNat (IntKind.wrap IntKind.i64 (v_1.fst+(1:Int)))))∧Int.toNat ((64:Int) - IntKind.wrap IntKind.i64 (v_1.fst+(1:Int))) < Int.toNat ((64:Int) - v_1.fst) else ((0:Int)≤(0:Int)∧(0:Int)≤(8:Int)∧v_1.snd.fst=blkM x.fst (blkV x.fst (sch x.snd.fst) (64:Nat)) (Int.toNat (0:Int)))∧∀ (v:Int×List Int×Unit),(0:Int)≤v.fst∧v.fst≤(8:Int)∧v.snd.fst=blkM x.fst (blkV x.fst (sch x.snd.fst) (64:Nat)) (Int.toNat v.fst)→
  bif decide (v.fst < (8:Int)) then (0:Int)≤v.fst∧v.fst < Int.ofNat (8:Nat)∧Int.toNat v.fst < List.length v.snd.fst∧∀ (x_1:Int),v.snd.fst[Int.toNat v.fst]?=some x_1→
  (0:Int)≤v.fst∧v.fst < Int.ofNat (8:Nat)∧Int.toNat v.fst < List.length x.fst∧∀ (x_2:Int),x.fst[Int.toNat v.fst]?=some x_2→
  (0:Int)≤v.fst∧v.fst < Int.ofNat (8:Nat)∧Int.toNat v.fst < List.length v.snd.fst∧∀ (x0:Int),v.snd.fst[Int.toNat v.fst]?=some x0→
  ((0:Int)≤IntKind.wrap IntKind.i64 (v.fst+(1:Int))∧IntKind.wrap IntKind.i64 (v.fst+(1:Int))≤(8:Int)∧List.set v.snd.fst (Int.toNat v.fst) (IntKind.wrap IntKind.u32 (x_1+x_2))=blkM x.fst (blkV x.fst (sch x.snd.fst) (64:Nat)) (Int.toNat (IntKind.wrap IntKind.i64 (v.fst+(1:Int)))))∧Int.toNat ((8:Int) - IntKind.wrap IntKind.i64 (v.fst+(1:Int))) < Int.toNat ((8:Int) - v.fst) else List.length v.snd.fst=(8:Nat)∧(8:Nat)=(8:Nat)∧List.length v.snd.fst=(8:Nat)∧List.length v.snd.fst=(8:Nat)∧((v.snd.fst,(0:Int),()),())=((blk x.fst x.snd.fst,(0:Int),()),()))):=by kernel_rfl
theorem en_rblk (us:Array Value) (u:World):(callFunc 145 us).run Tryz.prog u=.ok (.enter 145 us) u:=by kernel_rfl
theorem sc_rblk:SC Tryz.prog 145 S_blk:=by
  refine SC.of Tryz.func145 (c:=bodyOf Tryz.f145) (by kernel_rfl) (by kernel_rfl) (fun x=>(by decide:(2:Nat)≤Tryz.f145.ntmps)) (DOk.cons sc_rcons en_rcons (DOk.cons sc_rturn en_rturn DOk.nil)) (Eq.mpr vc_rblk ?_)
  rintro ⟨h,l,⟨⟩⟩ ⟨hh,hl⟩ -
  dsimp only at hh hl ⊢
  have tr:∀ n:Int,n∈([2,6,7,11,13,17,18,19,22,25]:List Int)→trOk n:=fun n h=>h
  refine ⟨by omega,fun _=>?_⟩
  rw [show (((l.length:Nat):Int) != 64)=false by rw [hl];rfl,cond_false]
  refine ⟨trivial,rfl,rfl,rfl,rfl,⟨Int.le_refl 0,by decide,rfl⟩,?_⟩
  rintro ⟨i,w,⟨⟩⟩ ⟨h0,h1,hw⟩
  dsimp only at h0 h1 hw ⊢
  have wl:w.length=64:=by rw [hw];exact schA_len _ _
  by_cases hi:i < 16
  · have wi:IntKind.i64.wrap (i+1)=i+1:=IntWalk.i64_in _ (by omega)
    have w4:IntKind.i64.wrap (4*i)=4*i:=IntWalk.i64_in _ (by omega)
    have w5:IntKind.i64.wrap (4*i+1)=4*i+1:=IntWalk.i64_in _ (by omega)
    have w6:IntKind.i64.wrap (4*i+2)=4*i+2:=IntWalk.i64_in _ (by omega)
    have w7:IntKind.i64.wrap (4*i+3)=4*i+3:=IntWalk.i64_in _ (by omega)
    rw [decide_eq_true hi,cond_true]
    simp only [w4,w5,w6,w7,wi,hl]
    refine ⟨by omega,by omega,fun c0 hc0=>⟨by omega,by omega,by omega,fun c1 hc1=>⟨by omega,by omega,by omega,fun c2 hc2=>⟨by omega,by omega,by omega,fun c3 hc3=>⟨by omega,by simp;omega,by omega,fun x0 _=>⟨⟨by omega,by omega,?_⟩,by omega⟩⟩⟩⟩⟩⟩
    rw [show (i+1).toNat=i.toNat+1 by omega]
    show _=(schA l i.toNat).set i.toNat (sch0 l i.toNat)
    rw [← hw]
    unfold sch0
    rw [getD_of (m:=4*i.toNat) hc0 (by omega),getD_of (m:=4*i.toNat+1) hc1 (by omega),getD_of (m:=4*i.toNat+2) hc2 (by omega),getD_of (m:=4*i.toNat+3) hc3 (by omega)]
  rw [decide_eq_false hi,cond_false]
  obtain rfl:i=16:=by omega
  refine ⟨⟨by decide,by decide,hw⟩,?_⟩
  clear hw wl hi h0 h1
  clear w
  rintro ⟨i,w,⟨⟩⟩ ⟨h0,h1,hw⟩
  dsimp only at h0 h1 hw ⊢
  have wl:w.length=64:=by rw [hw];exact schB_len _ _
  by_cases hi:i < 64
  · have wi:IntKind.i64.wrap (i+1)=i+1:=IntWalk.i64_in _ (by omega)
    have w4:IntKind.i64.wrap (i - 15)=i - 15:=IntWalk.i64_in _ (by omega)
    have w5:IntKind.i64.wrap (i - 2)=i - 2:=IntWalk.i64_in _ (by omega)
    have w6:IntKind.i64.wrap (i - 16)=i - 16:=IntWalk.i64_in _ (by omega)
    have w7:IntKind.i64.wrap (i - 7)=i - 7:=IntWalk.i64_in _ (by omega)
    rw [decide_eq_true hi,cond_true]
    simp only [w4,w5,w6,w7,wi,wl]
    have b1:0≤i - 15∧i - 15 < Int.ofNat 64∧(i - 15).toNat < 64:=⟨by omega,by simp;omega,by omega⟩
    have b2:0≤i - 2∧i - 2 < Int.ofNat 64∧(i - 2).toNat < 64:=⟨by omega,by simp;omega,by omega⟩
    refine ⟨b1.1,b1.2.1,b1.2.2,fun x1 e1=>⟨tr 7 (by decide),b1.1,b1.2.1,b1.2.2,fun x2 e2=>⟨tr 18 (by decide),b1.1,b1.2.1,b1.2.2,fun x3 e3=>?_⟩⟩⟩
    obtain rfl:=Option.some.inj (e1.symm.trans e2)
    obtain rfl:=Option.some.inj (e1.symm.trans e3)
    refine ⟨by decide,b2.1,b2.2.1,b2.2.2,fun x4 e4=>⟨tr 17 (by decide),b2.1,b2.2.1,b2.2.2,fun x5 e5=>⟨tr 19 (by decide),b2.1,b2.2.1,b2.2.2,fun x6 e6=>?_⟩⟩⟩
    obtain rfl:=Option.some.inj (e4.symm.trans e5)
    obtain rfl:=Option.some.inj (e4.symm.trans e6)
    refine ⟨by decide,by omega,by simp;omega,by omega,fun x7 e7=>⟨by omega,by simp;omega,by omega,fun x8 e8=>⟨by omega,by simp;omega,by omega,fun x0 _=>⟨⟨by omega,by omega,?_⟩,by omega⟩⟩⟩⟩
    rw [show (i+1).toNat - 16=(i.toNat - 16)+1 by omega]
    show _=(schB l (i.toNat - 16)).set (16+(i.toNat - 16)) (schS (schB l (i.toNat - 16)) (16+(i.toNat - 16)))
    rw [← hw,show 16+(i.toNat - 16)=i.toNat by omega]
    unfold schS
    rw [getD_of (m:=i.toNat - 15) e1 (by omega),getD_of (m:=i.toNat - 2) e4 (by omega),getD_of (m:=i.toNat - 16) e7 (by omega),getD_of (m:=i.toNat - 7) e8 (by omega)]
    rfl
  rw [decide_eq_false hi,cond_false]
  obtain rfl:i=64:=by omega
  have hs:w=sch l:=hw
  clear hw hi h0 h1
  refine ⟨hh,rfl,hh,⟨Int.le_refl 0,by decide,rfl⟩,?_⟩
  rintro ⟨i,v,⟨⟩⟩ ⟨h0,h1,hv⟩
  dsimp only at h0 h1 hv ⊢
  have vl:v.length=8:=by rw [hv];exact blkV_len _ _ hh _
  by_cases hi:i < 64
  · have wi:IntKind.i64.wrap (i+1)=i+1:=IntWalk.i64_in _ (by omega)
    rw [decide_eq_true hi,cond_true]
    simp only [vl,wl,wi]
    refine ⟨by decide,by decide,by decide,fun x1 e1=>⟨by decide,by decide,by decide,fun x2 e2=>⟨by decide,by decide,by decide,fun x3 e3=>⟨by decide,by decide,by decide,fun x4 e4=>⟨by decide,by decide,by decide,fun x5 e5=>⟨by decide,by decide,by decide,fun x6 e6=>⟨by decide,by decide,by decide,fun x7 e7=>⟨tr 6 (by decide),tr 11 (by decide),tr 25 (by decide),?_⟩⟩⟩⟩⟩⟩⟩⟩
    refine ⟨by omega,by simp;omega,by show i.toNat < 64;omega,fun k ek=>⟨by omega,by simp;omega,by omega,fun u eu=>⟨tr 2 (by decide),tr 13 (by decide),tr 22 (by decide),?_⟩⟩⟩
    refine ⟨by decide,by decide,by decide,fun y1 f1=>⟨by decide,by decide,by decide,fun y2 f2=>⟨by decide,by decide,by decide,fun y3 f3=>⟨by decide,by decide,by decide,fun y4 f4=>⟨by decide,by decide,by decide,fun y5 f5=>⟨by decide,by decide,by decide,fun y6 f6=>⟨by decide,by decide,by decide,fun y7 f7=>?_⟩⟩⟩⟩⟩⟩⟩
    obtain rfl:=Option.some.inj (e1.symm.trans f1)
    obtain rfl:=Option.some.inj (e2.symm.trans f2)
    obtain rfl:=Option.some.inj (e3.symm.trans f3)
    obtain rfl:=Option.some.inj (e4.symm.trans f5)
    obtain rfl:=Option.some.inj (e5.symm.trans f6)
    obtain rfl:=Option.some.inj (e6.symm.trans f7)
    refine ⟨trivial,rfl,⟨by omega,by omega,?_⟩,by omega⟩
    rw [show (i+1).toNat=i.toNat+1 by omega]
    show _=blkStep (blkV h (sch l) i.toNat) ((sch l).getD i.toNat 0) (tabL.getD i.toNat 0)
    rw [← hv,← hs,getD_of ek rfl,getD_of eu rfl,step_at vl e1 e2 e3 f4 e4 e5 e6 e7]
    rfl
  rw [decide_eq_false hi,cond_false]
  obtain rfl:i=64:=by omega
  have hv':v=blkV h (sch l) 64:=hv
  clear hv hi h0 h1
  have b0:v=blkM h (blkV h (sch l) 64) 0:=by rw [← hv'];rfl
  refine ⟨⟨Int.le_refl 0,by decide,b0⟩,?_⟩
  clear b0
  rw [← hv']
  rintro ⟨i,u,⟨⟩⟩ ⟨h0,h1,hu⟩
  dsimp only at h0 h1 hu ⊢
  have ul:u.length=8:=by rw [hu];exact blkM_len hh vl (by omega)
  by_cases hi:i < 8
  · have wi:IntKind.i64.wrap (i+1)=i+1:=IntWalk.i64_in _ (by omega)
    rw [decide_eq_true hi,cond_true]
    simp only [ul,hh,wi]
    refine ⟨by omega,by simp;omega,by omega,fun x1 e1=>⟨by omega,by simp;omega,by omega,fun x2 e2=>⟨by omega,by simp;omega,by omega,fun x0 _=>⟨⟨by omega,by omega,?_⟩,by omega⟩⟩⟩⟩
    rw [show (i+1).toNat=i.toNat+1 by omega,hu]
    rw [hu,blkM_get hh (by omega)] at e1
    exact blkM_succ hh vl (by omega) e1 e2
  · rw [decide_eq_false hi,cond_false]
    obtain rfl:i=8:=by omega
    refine ⟨ul,rfl,ul,ul,?_⟩
    have e:u=blk h l:=by
      rw [hu]
      show blkM h v 8=blkH h (blkV h (sch l) 64) 8
      rw [blkM_8 hh vl,hv']
    rw [e]
theorem vc_rbyt:VC Tryz.prog Tryz.f146 (bodyOf Tryz.f146) S_rbyt [] A_rbyt=(∀ (x:List Int×Unit),List.length x.fst=(8:Nat)→
  List.length x.fst≤(9223372036854775807:Nat)∧List.length x.fst=(8:Nat)∧((0:Int)≤(0:Int)∧(0:Int)≤(8:Int)∧[]=outP x.fst (Int.toNat (0:Int)))∧∀ (v:Int×List Int×Unit),(0:Int)≤v.fst∧v.fst≤(8:Int)∧v.snd.fst=outP x.fst (Int.toNat v.fst)→
  bif decide (v.fst < (8:Int)) then (0:Int)≤v.fst∧v.fst < Int.ofNat (8:Nat)∧v.fst < (↑(List.length x.fst):Int)∧∀ (c0:Int),x.fst[Int.toNat v.fst]?=some c0→
  (0:Int)≤(24:Int)∧(0:Int)≤(16:Int)∧(0:Int)≤(8:Int)∧(List.length v.snd.fst+List.length [IntKind.wrap IntKind.u8 (shrI IntKind.u32 c0 (24:Int)),IntKind.wrap IntKind.u8 (shrI IntKind.u32 c0 (16:Int)),IntKind.wrap IntKind.u8 (shrI IntKind.u32 c0 (8:Int)),IntKind.wrap IntKind.u8 c0])*(1:Nat)≤(140737488351232:Nat)∧((0:Int)≤IntKind.wrap IntKind.i64 (v.fst+(1:Int))∧IntKind.wrap IntKind.i64 (v.fst+(1:Int))≤(8:Int)∧v.snd.fst++[IntKind.wrap IntKind.u8 (shrI IntKind.u32 c0 (24:Int)),IntKind.wrap IntKind.u8 (shrI IntKind.u32 c0 (16:Int)),IntKind.wrap IntKind.u8 (shrI IntKind.u32 c0 (8:Int)),IntKind.wrap IntKind.u8 c0]=outP x.fst (Int.toNat (IntKind.wrap IntKind.i64 (v.fst+(1:Int)))))∧Int.toNat ((8:Int) - IntKind.wrap IntKind.i64 (v.fst+(1:Int))) < Int.toNat ((8:Int) - v.fst) else v.snd=(outP x.fst (8:Nat),())):=by kernel_rfl
theorem en_rbyt (us:Array Value) (u:World):(callFunc 146 us).run Tryz.prog u=.ok (.enter 146 us) u:=by kernel_rfl
theorem sc_rbyt:SC Tryz.prog 146 S_rbyt:=by
  refine SC.of Tryz.func146 (c:=bodyOf Tryz.f146) (by kernel_rfl) (by kernel_rfl) (fun x=>(by decide:(1:Nat)≤Tryz.f146.ntmps)) DOk.nil (Eq.mpr vc_rbyt ?_)
  rintro ⟨hs,⟨⟩⟩ h8
  dsimp only at h8 ⊢
  refine ⟨by omega,h8,⟨by decide,by decide,rfl⟩,?_⟩
  rintro ⟨i,o,⟨⟩⟩ ⟨h0,h1,ho⟩
  dsimp only at h0 h1 ho ⊢
  have wi:IntKind.i64.wrap (i+1)=i+1:=IntWalk.i64_in _ (by omega)
  have ol:o.length≤32:=by rw [ho,outP_len];omega
  by_cases hi:i < 8
  · rw [decide_eq_true hi,cond_true]
    refine ⟨h0,hi,by rw [h8];exact hi,fun c0 hc=>⟨by decide,by decide,by decide,by simp only [List.length_cons,List.length_nil];omega,⟨by omega,by omega,?_⟩,by omega⟩⟩
    rw [wi,show (i+1).toNat=i.toNat+1 by omega]
    show _=outP hs i.toNat++w4 (hs.getD i.toNat 0)
    rw [← ho,getD_of hc rfl]
    rfl
  · rw [decide_eq_false hi,cond_false]
    obtain rfl:i=8:=by omega
    rw [ho]
    rfl
theorem vc_rsum:VC Tryz.prog Tryz.f134 (bodyOf Tryz.f134) S_sum [(143,S_rpad),(144,S_start),(145,S_blk),(146,S_rbyt)] A_rsum=(∀ (x:List Int×Unit),List.length x.fst≤(1000000000:Nat)→
  List.length x.fst≤(9223372036854775807:Nat)→
  List.length x.fst≤(1000000000:Nat)∧True∧(8:Nat)=(8:Nat)∧List.length startL=(8:Nat)∧((0:Int)≤(0:Int)∧(0:Int)≤(↑(List.length (pad x.fst)):Int)∧(0:Int) % (64:Int)=(0:Int)∧startL=hsOf (pad x.fst) (List.range (Int.toNat (0:Int) / (64:Nat))))∧∀ (v:Int×List Int×Unit),(0:Int)≤v.fst∧v.fst≤(↑(List.length (pad x.fst)):Int)∧v.fst % (64:Int)=(0:Int)∧v.snd.fst=hsOf (pad x.fst) (List.range (Int.toNat v.fst / (64:Nat)))→
  bif decide (v.fst < (↑(List.length (pad x.fst)):Int)) then List.length v.snd.fst=(8:Nat)∧(0:Int)≤v.fst∧v.fst≤IntKind.wrap IntKind.i64 (v.fst+(64:Int))∧IntKind.wrap IntKind.i64 (v.fst+(64:Int))≤(↑(List.length (pad x.fst)):Int)∧(0:Nat)+Int.toNat v.fst+(Int.toNat (IntKind.wrap IntKind.i64 (v.fst+(64:Int))) - Int.toNat v.fst)≤List.length (pad x.fst)∧(List.length v.snd.fst=(8:Nat)∧List.length (List.take (Int.toNat (IntKind.wrap IntKind.i64 (v.fst+(64:Int))) - Int.toNat v.fst) (List.drop ((0:Nat)+Int.toNat v.fst) (pad x.fst)))=(64:Nat))∧List.length v.snd.fst=(8:Nat)∧List.length (blk v.snd.fst (List.take (Int.toNat (IntKind.wrap IntKind.i64 (v.fst+(64:Int))) - Int.toNat v.fst) (List.drop ((0:Nat)+Int.toNat v.fst) (pad x.fst))))=(8:Nat)∧((0:Int)≤IntKind.wrap IntKind.i64 (v.fst+(64:Int))∧IntKind.wrap IntKind.i64 (v.fst+(64:Int))≤(↑(List.length (pad x.fst)):Int)∧IntKind.wrap IntKind.i64 (v.fst+(64:Int)) % (64:Int)=(0:Int)∧blk v.snd.fst (List.take (Int.toNat (IntKind.wrap IntKind.i64 (v.fst+(64:Int))) - Int.toNat v.fst) (List.drop ((0:Nat)+Int.toNat v.fst) (pad x.fst)))=hsOf (pad x.fst) (List.range (Int.toNat (IntKind.wrap IntKind.i64 (v.fst+(64:Int))) / (64:Nat))))∧Int.toNat ((↑(List.length (pad x.fst)):Int) - IntKind.wrap IntKind.i64 (v.fst+(64:Int))) < Int.toNat ((↑(List.length (pad x.fst)):Int) - v.fst) else List.length v.snd.fst=(8:Nat)∧List.length v.snd.fst=(8:Nat)∧(outP v.snd.fst (8:Nat),())=(sumF x.fst,())):=by kernel_rfl
theorem en_rsum (us:Array Value) (u:World):(callFunc 134 us).run Tryz.prog u=.ok (.enter 134 us) u:=by kernel_rfl
theorem sc_rsum:SC Tryz.prog 134 S_sum:=by
  refine SC.of Tryz.func134 (c:=bodyOf Tryz.f134) (by kernel_rfl) (by kernel_rfl) (fun x=>(by decide:(1:Nat)≤Tryz.f134.ntmps)) (DOk.cons sc_rpad en_rpad (DOk.cons sc_rstart en_rstart (DOk.cons sc_rblk en_rblk (DOk.cons sc_rbyt en_rbyt DOk.nil)))) (Eq.mpr vc_rsum ?_)
  rintro ⟨l,⟨⟩⟩ hl -
  dsimp only at hl ⊢
  have hp:(pad l).length=padN l.length:=padA_len l 8
  have hp2:=padN_le l.length
  have hp3:=padN_mod l.length
  refine ⟨hl,trivial,rfl,rfl,⟨Int.le_refl 0,by omega,rfl,rfl⟩,?_⟩
  rintro ⟨i,h,⟨⟩⟩ ⟨h0,h1,h2,hh⟩
  dsimp only at h0 h1 h2 hh ⊢
  have h8:h.length=8:=by rw [hh];exact hsOf_8 _ _
  by_cases hi:i < ((pad l).length:Int)
  · have wi:IntKind.i64.wrap (i+64)=i+64:=IntWalk.i64_in _ (by omega)
    rw [decide_eq_true hi,cond_true,wi]
    have e1:(i+64).toNat - i.toNat=64:=by omega
    have e2:List.take 64 (List.drop (0+i.toNat) (pad l))=chunk (pad l) (i.toNat / 64):=by
      unfold chunk
      rw [show 64*(i.toNat / 64)=0+i.toNat by omega]
    have e3:(chunk (pad l) (i.toNat / 64)).length=64:=by
      unfold chunk
      rw [List.length_take,List.length_drop];omega
    rw [e1,e2]
    refine ⟨h8,h0,by omega,by omega,by omega,⟨h8,e3⟩,h8,blk_len _ _ h8,⟨by omega,by omega,by omega,?_⟩,by omega⟩
    rw [show (i+64).toNat / 64=i.toNat / 64+1 by omega,hsOf_snoc,hh]
  · rw [decide_eq_false hi,cond_false]
    refine ⟨h8,h8,?_⟩
    have e:i.toNat=(pad l).length:=by omega
    rw [hh,e]
    rfl
theorem vc_r2blk:VC Tryz.prog Tryz.f133 (bodyOf Tryz.f133) S_r2blk [(134,S_sum)] A_r2blk=(∀ (x:List Int×Unit),List.length x.fst≤(1000000000:Nat)→
  List.length x.fst≤(9223372036854775807:Nat)→
  List.length x.fst*(1:Nat)≤(140737488351232:Nat)∧bif decide ((64:Int) < (↑(List.length x.fst):Int)) then List.length x.fst≤(1000000000:Nat)∧(List.length (bk0 x.fst)≤List.length (sumF x.fst)∧List.length (sumF x.fst)≤(64:Nat)∧sumF x.fst=bk0 x.fst++List.replicate (List.length (sumF x.fst) - List.length (bk0 x.fst)) (0:Int))∧∀ (v:List Int×Unit),List.length (bk0 x.fst)≤List.length v.fst∧List.length v.fst≤(64:Nat)∧v.fst=bk0 x.fst++List.replicate (List.length v.fst - List.length (bk0 x.fst)) (0:Int)→
  bif decide ((↑(List.length v.fst):Int) < (64:Int)) then (List.length v.fst+(1:Nat))*(1:Nat)≤(140737488351232:Nat)∧(List.length (bk0 x.fst)≤List.length (v.fst++[(0:Int)])∧List.length (v.fst++[(0:Int)])≤(64:Nat)∧v.fst++[(0:Int)]=bk0 x.fst++List.replicate (List.length (v.fst++[(0:Int)]) - List.length (bk0 x.fst)) (0:Int))∧(64:Nat) - List.length (v.fst++[(0:Int)]) < (64:Nat) - List.length v.fst else v=(blockF x.fst,()) else (List.length (bk0 x.fst)≤List.length x.fst∧List.length x.fst≤(64:Nat)∧x.fst=bk0 x.fst++List.replicate (List.length x.fst - List.length (bk0 x.fst)) (0:Int))∧∀ (v:List Int×Unit),List.length (bk0 x.fst)≤List.length v.fst∧List.length v.fst≤(64:Nat)∧v.fst=bk0 x.fst++List.replicate (List.length v.fst - List.length (bk0 x.fst)) (0:Int)→
  bif decide ((↑(List.length v.fst):Int) < (64:Int)) then (List.length v.fst+(1:Nat))*(1:Nat)≤(140737488351232:Nat)∧(List.length (bk0 x.fst)≤List.length (v.fst++[(0:Int)])∧List.length (v.fst++[(0:Int)])≤(64:Nat)∧v.fst++[(0:Int)]=bk0 x.fst++List.replicate (List.length (v.fst++[(0:Int)]) - List.length (bk0 x.fst)) (0:Int))∧(64:Nat) - List.length (v.fst++[(0:Int)]) < (64:Nat) - List.length v.fst else v=(blockF x.fst,())):=by kernel_rfl
theorem en_r2blk (us:Array Value) (u:World):(callFunc 133 us).run Tryz.prog u=.ok (.enter 133 us) u:=by kernel_rfl
theorem sc_r2blk:SC Tryz.prog 133 S_r2blk:=by
  refine SC.of Tryz.func133 (c:=bodyOf Tryz.f133) (by kernel_rfl) (by kernel_rfl) (fun x=>(by decide:(1:Nat)≤Tryz.f133.ntmps)) (DOk.cons sc_rsum en_rsum DOk.nil) (Eq.mpr vc_r2blk ?_)
  rintro ⟨k,⟨⟩⟩ hk -
  dsimp only at hk ⊢
  have b0:=bk0_le k
  have rest:∀ v:List Int×Unit,(bk0 k).length≤v.1.length∧v.1.length≤64∧v.1=bk0 k++List.replicate (v.1.length - (bk0 k).length) 0→
      bif decide ((v.1.length:Int) < 64) then (v.1.length+1)*1≤140737488351232∧((bk0 k).length≤(v.1++[(0:Int)]).length∧(v.1++[(0:Int)]).length≤64∧v.1++[(0:Int)]=bk0 k++List.replicate ((v.1++[(0:Int)]).length - (bk0 k).length) 0)∧64 - (v.1++[(0:Int)]).length < 64 - v.1.length else v=(blockF k,()):=by
    rintro ⟨o,⟨⟩⟩ ⟨h1,h2,ho⟩
    dsimp only at h1 h2 ho ⊢
    by_cases c:(o.length:Int) < 64
    · rw [decide_eq_true c,cond_true,List.length_append,List.length_cons,List.length_nil]
      refine ⟨by omega,⟨by omega,by omega,?_⟩,by omega⟩
      rw [show o.length+(0+1) - (bk0 k).length=(o.length - (bk0 k).length)+1 by omega,← bk_snoc,← ho]
    · rw [decide_eq_false c,cond_false]
      have e:o.length=64:=by omega
      rw [e] at ho
      rw [ho]
      rfl
  refine ⟨by omega,?_⟩
  by_cases c:(64:Int) < (k.length:Int)
  · have e:bk0 k=sumF k:=if_pos (by omega)
    rw [decide_eq_true c,cond_true]
    exact ⟨hk,⟨by rw [e];exact Nat.le_refl _,by rw [sumF_len];decide,by rw [e,Nat.sub_self];exact (List.append_nil _).symm⟩,rest⟩
  · have e:bk0 k=k:=if_neg (by omega)
    rw [decide_eq_false c,cond_false]
    exact ⟨⟨by rw [e];exact Nat.le_refl _,by omega,by rw [e,Nat.sub_self];exact (List.append_nil _).symm⟩,rest⟩
theorem vc_r2w:VC Tryz.prog Tryz.f135 (bodyOf Tryz.f135) S_r2w [] A_r2w=(∀ (x:List Int×Int×Unit),List.length x.fst≤(1048576:Nat)→
  List.length x.fst≤(9223372036854775807:Nat)→
  List.length x.fst≤(9223372036854775807:Nat)→
  ((0:Int)≤(0:Int)∧(0:Int)≤(↑(List.length x.fst):Int)∧[]=wiF (List.take (Int.toNat (0:Int)) x.fst) x.snd.fst)∧∀ (v:Int×List Int×Unit),(0:Int)≤v.fst∧v.fst≤(↑(List.length x.fst):Int)∧v.snd.fst=wiF (List.take (Int.toNat v.fst) x.fst) x.snd.fst→
  bif decide (v.fst < (↑(List.length x.fst):Int)) then (0:Int)≤v.fst∧v.fst < (↑(List.length x.fst):Int)∧∀ (c0:Int),x.fst[Int.toNat v.fst]?=some c0→
  (List.length v.snd.fst+List.length [xorI IntKind.u8 c0 x.snd.fst])*(1:Nat)≤(140737488351232:Nat)∧((0:Int)≤IntKind.wrap IntKind.i64 (v.fst+(1:Int))∧IntKind.wrap IntKind.i64 (v.fst+(1:Int))≤(↑(List.length x.fst):Int)∧v.snd.fst++[xorI IntKind.u8 c0 x.snd.fst]=wiF (List.take (Int.toNat (IntKind.wrap IntKind.i64 (v.fst+(1:Int)))) x.fst) x.snd.fst)∧Int.toNat ((↑(List.length x.fst):Int) - IntKind.wrap IntKind.i64 (v.fst+(1:Int))) < Int.toNat ((↑(List.length x.fst):Int) - v.fst) else v.snd=(wiF x.fst x.snd.fst,())):=by kernel_rfl
theorem en_r2w (us:Array Value) (u:World):(callFunc 135 us).run Tryz.prog u=.ok (.enter 135 us) u:=by kernel_rfl
theorem sc_r2w:SC Tryz.prog 135 S_r2w:=by
  refine SC.of Tryz.func135 (c:=bodyOf Tryz.f135) (by kernel_rfl) (by kernel_rfl) (fun x=>(by decide:(2:Nat)≤Tryz.f135.ntmps)) DOk.nil (Eq.mpr vc_r2w ?_)
  rintro ⟨l,x,⟨⟩⟩ hl - -
  dsimp only at hl ⊢
  refine ⟨⟨Int.le_refl 0,by omega,rfl⟩,?_⟩
  rintro ⟨i,o,⟨⟩⟩ ⟨h0,h1,ho⟩
  dsimp only at h0 h1 ho ⊢
  by_cases hi:i < (l.length:Int)
  · have wi:IntKind.i64.wrap (i+1)=i+1:=IntWalk.i64_in _ (by omega)
    have ol:o.length≤l.length:=by rw [ho,wiF,List.length_map,List.length_take];omega
    rw [decide_eq_true hi,cond_true,wi]
    refine ⟨h0,hi,fun c hc=>⟨by rw [List.length_cons,List.length_nil];omega,⟨by omega,by omega,?_⟩,by omega⟩⟩
    rw [show (i+1).toNat=i.toNat+1 by omega,take_snoc hc,ho]
    unfold wiF
    rw [List.map_append]
    rfl
  · rw [decide_eq_false hi,cond_false]
    rw [List.take_of_length_le (by omega)] at ho
    rw [ho]
theorem vc_r2tag:VC Tryz.prog Tryz.f113 (bodyOf Tryz.f113) S_tag [(133,S_r2blk),(135,S_r2w),(134,S_sum)] (fun _ _=>none)=(∀ (x:List Int×List Int×Unit),List.length x.fst≤(1000000000:Nat)∧List.length x.snd.fst≤(100000000:Nat)→
  List.length x.fst≤(9223372036854775807:Nat)→
  List.length x.snd.fst≤(9223372036854775807:Nat)→
  List.length x.fst≤(1000000000:Nat)∧List.length (blockF x.fst)≤(1048576:Nat)∧(List.length (wiF (blockF x.fst) (54:Int))+List.length x.snd.fst)*(1:Nat)≤(140737488351232:Nat)∧List.length (wiF (blockF x.fst) (54:Int)++x.snd.fst)≤(1000000000:Nat)∧List.length (blockF x.fst)≤(1048576:Nat)∧(List.length (wiF (blockF x.fst) (92:Int))+List.length (sumF (wiF (blockF x.fst) (54:Int)++x.snd.fst)))*(1:Nat)≤(140737488351232:Nat)∧List.length (wiF (blockF x.fst) (92:Int)++sumF (wiF (blockF x.fst) (54:Int)++x.snd.fst))≤(1000000000:Nat)∧(sumF (wiF (blockF x.fst) (92:Int)++sumF (wiF (blockF x.fst) (54:Int)++x.snd.fst)),())=(tagF x.fst x.snd.fst,())):=by kernel_rfl
theorem en_r2tag (us:Array Value) (u:World):(callFunc 113 us).run Tryz.prog u=.ok (.enter 113 us) u:=by kernel_rfl
theorem sc_r2tag:SC Tryz.prog 113 S_tag:=by
  refine SC.of Tryz.func113 (c:=bodyOf Tryz.f113) (by kernel_rfl) (by kernel_rfl) (fun x=>(by decide:(2:Nat)≤Tryz.f113.ntmps)) (DOk.cons sc_r2blk en_r2blk (DOk.cons sc_r2w en_r2w (DOk.cons sc_rsum en_rsum DOk.nil))) (Eq.mpr vc_r2tag ?_)
  rintro ⟨k,b,⟨⟩⟩ ⟨h1,h2⟩ - -
  dsimp only at h1 h2 ⊢
  have e:∀ x,(wiF (blockF k) x).length=64:=fun x=>by rw [wiF,List.length_map,blockF_len]
  refine ⟨h1,by rw [blockF_len];decide,by rw [e];omega,by rw [List.length_append,e];omega,by rw [blockF_len];decide,by rw [e,sumF_len];decide,by rw [List.length_append,e,sumF_len];decide,rfl⟩
theorem vc_r3put:VC Tryz.prog Tryz.f131 (bodyOf Tryz.f131) S_putO [] A_r3put=(∀ (x:Int×Int×Unit),(0:Int)≤x.fst∧x.fst < (18446744073709551616:Int)→
  bif decide (x.snd.fst < (1:Int)) then (([],(1:Int),()),())=((putR x.fst x.snd.fst,putE x.fst x.snd.fst,()),()) else bif decide ((8:Int) < x.snd.fst) then (([],(1:Int),()),())=((putR x.fst x.snd.fst,putE x.fst x.snd.fst,()),()) else ((0:Int)≤(0:Int)∧(0:Int)≤x.snd.fst∧[]=putI x.fst (Int.toNat (0:Int))∧x.fst=x.fst / (256:Int) ^ Int.toNat (0:Int))∧∀ (v:Int×List Int×Int×Unit),(0:Int)≤v.fst∧v.fst≤x.snd.fst∧v.snd.fst=putI x.fst (Int.toNat v.fst)∧v.snd.snd.fst=x.fst / (256:Int) ^ Int.toNat v.fst→
  bif decide (v.fst < x.snd.fst) then (256:Int)≠(0:Int)∧(List.length [IntKind.wrap IntKind.u8 (Int.tmod v.snd.snd.fst (256:Int))]+List.length v.snd.fst)*(1:Nat)≤(140737488351232:Nat)∧(256:Int)≠(0:Int)∧((0:Int)≤IntKind.wrap IntKind.i64 (v.fst+(1:Int))∧IntKind.wrap IntKind.i64 (v.fst+(1:Int))≤x.snd.fst∧[IntKind.wrap IntKind.u8 (Int.tmod v.snd.snd.fst (256:Int))]++v.snd.fst=putI x.fst (Int.toNat (IntKind.wrap IntKind.i64 (v.fst+(1:Int))))∧IntKind.wrap IntKind.u64 (Int.tdiv v.snd.snd.fst (256:Int))=x.fst / (256:Int) ^ Int.toNat (IntKind.wrap IntKind.i64 (v.fst+(1:Int))))∧Int.toNat (x.snd.fst - IntKind.wrap IntKind.i64 (v.fst+(1:Int))) < Int.toNat (x.snd.fst - v.fst) else bif decide ((0:Int) < v.snd.snd.fst) then (([],(2:Int),()),())=((putR x.fst x.snd.fst,putE x.fst x.snd.fst,()),()) else ((v.snd.fst,(0:Int),()),())=((putR x.fst x.snd.fst,putE x.fst x.snd.fst,()),())):=by kernel_rfl
theorem en_r3put (us:Array Value) (u:World):(callFunc 131 us).run Tryz.prog u=.ok (.enter 131 us) u:=by kernel_rfl
theorem sc_r3put:SC Tryz.prog 131 S_putO:=by
  refine SC.of Tryz.func131 (c:=bodyOf Tryz.f131) (by kernel_rfl) (by kernel_rfl) (fun x=>(by decide:(2:Nat)≤Tryz.f131.ntmps)) DOk.nil (Eq.mpr vc_r3put ?_)
  rintro ⟨n,w,⟨⟩⟩ ⟨h0,h1⟩
  dsimp only at h0 h1 ⊢
  by_cases a1:w < 1
  · have hE:putE n w=1:=if_pos a1
    rw [decide_eq_true a1,cond_true,hE,putR,if_neg (by rw [hE];decide)]
  rw [decide_eq_false a1,cond_false]
  by_cases a2:8 < w
  · have hE:putE n w=1:=by rw [putE,if_neg a1,if_pos a2]
    rw [decide_eq_true a2,cond_true,hE,putR,if_neg (by rw [hE];decide)]
  rw [decide_eq_false a2,cond_false]
  refine ⟨⟨Int.le_refl 0,by omega,rfl,(Int.ediv_one n).symm⟩,?_⟩
  rintro ⟨i,o,m,⟨⟩⟩ ⟨h2,h3,ho,hm⟩
  dsimp only at h2 h3 ho hm ⊢
  have pp:(0:Int) < 256 ^ i.toNat:=Int.pow_pos (by decide)
  have m0:0≤m:=by rw [hm];exact Int.ediv_nonneg h0 (Int.le_of_lt pp)
  have m1:m < 18446744073709551616:=by rw [hm];exact Int.lt_of_le_of_lt (Int.ediv_le_self _ h0) h1
  by_cases hi:i < w
  · have wi:IntKind.i64.wrap (i+1)=i+1:=IntWalk.i64_in _ (by omega)
    have t1:Int.tmod m 256=m % 256:=Int.tmod_eq_emod_of_nonneg m0
    have t2:Int.tdiv m 256=m / 256:=Int.tdiv_eq_ediv_of_nonneg m0
    have t3:IntKind.u8.wrap (m % 256)=m % 256:=by rw [w8_of];omega
    have t4:IntKind.u64.wrap (m / 256)=m / 256:=u64_of (by omega) (by omega)
    rw [decide_eq_true hi,cond_true,wi,t1,t2,t3,t4]
    refine ⟨by decide,by rw [ho,putI_len,List.length_cons,List.length_nil];omega,by decide,⟨by omega,by omega,?_,?_⟩,by omega⟩
    · rw [show (i+1).toNat=i.toNat+1 by omega,← putI_cons,ho,hm]
      rfl
    · rw [show (i+1).toNat=i.toNat+1 by omega,Int.pow_succ,hm,Int.ediv_ediv_of_nonneg (Int.le_of_lt pp)]
  rw [decide_eq_false hi,cond_false]
  obtain rfl:i=w:=by omega
  have e0:(2:Int) ^ (8*i).toNat=256 ^ i.toNat:=by rw [← pow256];congr 1;omega
  have hE:putE n i=if i < 8 then (if m=0 then 0 else 2) else 0:=by rw [putE,if_neg a1,if_neg a2,e0,← hm]
  by_cases c:0 < m
  · have i8:i < 8:=by
      by_cases c8:i < 8
      · exact c8
      · obtain rfl:i=8:=by omega
        have:m=0:=by rw [hm];exact Int.ediv_eq_zero_of_lt h0 (by show n < (256:Int) ^ 8;omega)
        omega
    have hE2:putE n i=2:=by rw [hE,if_pos i8,if_neg (by omega)]
    rw [decide_eq_true c,cond_true,hE2,putR,if_neg (by rw [hE2];decide)]
  · have hE2:putE n i=0:=by
      rw [hE]
      split
      · rw [if_pos (by omega)]
      · rfl
    rw [decide_eq_false c,cond_false,hE2,putR,if_pos hE2,ho]
theorem vc_rmust:VC Tryz.prog Tryz.f110 (bodyOf Tryz.f110) S_rmust [(131,S_putO)] (fun _ _=>none)=(∀ (x:Int×Int×Unit),(0:Int)≤x.fst∧x.fst < (4294967296:Int)→
  ((0:Int)≤IntKind.wrap IntKind.u64 x.fst∧IntKind.wrap IntKind.u64 x.fst < (18446744073709551616:Int))∧(putR (IntKind.wrap IntKind.u64 x.fst) x.snd.fst,())=(putR x.fst x.snd.fst,())):=by kernel_rfl
theorem en_rmust (us:Array Value) (u:World):(callFunc 110 us).run Tryz.prog u=.ok (.enter 110 us) u:=by kernel_rfl
theorem sc_rmust:SC Tryz.prog 110 S_rmust:=by
  refine SC.of Tryz.func110 (c:=bodyOf Tryz.f110) (by kernel_rfl) (by kernel_rfl) (fun x=>(by decide:(2:Nat)≤Tryz.f110.ntmps)) (DOk.cons sc_r3put en_r3put DOk.nil) (Eq.mpr vc_rmust ?_)
  rintro ⟨n,w,⟨⟩⟩ ⟨h0,h1⟩
  dsimp only at h0 h1 ⊢
  rw [u64_of h0 (by omega)]
  exact ⟨⟨h0,by omega⟩,rfl⟩
theorem vc_r4chk:VC Tryz.prog Tryz.f132 (bodyOf Tryz.f132) S_r4chk [] A_r4chk=(∀ (x:(Int×Int×List Int×Unit)×Unit),okS x.fst=true→
  List.length x.fst.snd.snd.fst≤(9223372036854775807:Nat)→
  List.length x.fst.snd.snd.fst≤(9223372036854775807:Nat)→
  bif decide ((↑(List.length x.fst.snd.snd.fst):Int) < (1:Int)) then ((1:Int),())=((0:Int),()) else List.length x.fst.snd.snd.fst≤(9223372036854775807:Nat)→
  bif decide ((8:Int) < (↑(List.length x.fst.snd.snd.fst):Int)) then ((1:Int),())=((0:Int),()) else List.length x.fst.snd.snd.fst≤(9223372036854775807:Nat)→
  ((0:Int)≤(0:Int)∧(0:Int)≤(↑(List.length x.fst.snd.snd.fst):Int))∧∀ (v:Int×Unit),(0:Int)≤v.fst∧v.fst≤(↑(List.length x.fst.snd.snd.fst):Int)→
  bif decide (v.fst < (↑(List.length x.fst.snd.snd.fst):Int)) then (0:Int)≤v.fst∧v.fst < (↑(List.length x.fst.snd.snd.fst):Int)∧∀ (c0:Int),x.fst.snd.snd.fst[Int.toNat v.fst]?=some c0→
  bif decide (c0 < (1:Int)) then ((1:Int),())=((0:Int),()) else bif decide ((16:Int) < c0) then ((1:Int),())=((0:Int),()) else (0:Int)≤(0:Int)∧(0:Int)≤v.fst∧v.fst≤(↑(List.length x.fst.snd.snd.fst):Int)∧(List.length (List.take (Int.toNat v.fst - (0:Nat)) (List.drop ((0:Nat)) x.fst.snd.snd.fst))≤(9223372036854775807:Nat)→
  ((0:Int)≤(0:Int)∧(0:Int)≤(↑(List.length x.fst.snd.snd.fst):Int))∧∀ (v_1:Int×Unit),(0:Int)≤v_1.fst∧v_1.fst≤(↑(List.length x.fst.snd.snd.fst):Int)→
  bif decide (v_1.fst < (↑(List.length (List.take (Int.toNat v.fst - (0:Nat)) (List.drop ((0:Nat)) x.fst.snd.snd.fst))):Int)) then (0:Int)≤v_1.fst∧v_1.fst < (↑(List.length (List.take (Int.toNat v.fst - (0:Nat)) (List.drop ((0:Nat)) x.fst.snd.snd.fst))):Int)∧∀ (c0_1:Int),(List.take (Int.toNat v.fst - (0:Nat)) (List.drop ((0:Nat)) x.fst.snd.snd.fst))[Int.toNat v_1.fst]?=some c0_1→
  bif c0_1==c0 then ((1:Int),())=((0:Int),()) else ((0:Int)≤IntKind.wrap IntKind.i64 (v_1.fst+(1:Int))∧IntKind.wrap IntKind.i64 (v_1.fst+(1:Int))≤(↑(List.length x.fst.snd.snd.fst):Int))∧Int.toNat ((↑(List.length x.fst.snd.snd.fst):Int) - IntKind.wrap IntKind.i64 (v_1.fst+(1:Int))) < Int.toNat ((↑(List.length x.fst.snd.snd.fst):Int) - v_1.fst) else ((0:Int)≤IntKind.wrap IntKind.i64 (v.fst+(1:Int))∧IntKind.wrap IntKind.i64 (v.fst+(1:Int))≤(↑(List.length x.fst.snd.snd.fst):Int))∧Int.toNat ((↑(List.length x.fst.snd.snd.fst):Int) - IntKind.wrap IntKind.i64 (v.fst+(1:Int))) < Int.toNat ((↑(List.length x.fst.snd.snd.fst):Int) - v.fst)) else ((0:Int),())=((0:Int),())):=by kernel_rfl
theorem en_r4chk (us:Array Value) (u:World):(callFunc 132 us).run Tryz.prog u=.ok (.enter 132 us) u:=by kernel_rfl
theorem sc_r4chk:SC Tryz.prog 132 S_r4chk:=by
  refine SC.of Tryz.func132 (c:=bodyOf Tryz.f132) (by kernel_rfl) (by kernel_rfl) (fun x=>(by decide:(1:Nat)≤Tryz.f132.ntmps)) DOk.nil (Eq.mpr vc_r4chk ?_)
  rintro ⟨⟨a,b,l,⟨⟩⟩,⟨⟩⟩ h - -
  dsimp only at h ⊢
  have hm:=okS_mem h
  simp only [okS,Bool.and_eq_true,decide_eq_true_eq] at h
  obtain ⟨h1,h2,h3⟩:=h
  rw [decide_eq_false (by omega),cond_false]
  intro _
  rw [decide_eq_false (by omega),cond_false]
  intro _
  refine ⟨⟨Int.le_refl 0,by omega⟩,?_⟩
  rintro ⟨i,⟨⟩⟩ ⟨i0,i1⟩
  dsimp only at i0 i1 ⊢
  by_cases hi:i < (l.length:Int)
  rotate_left 1
  · rw [decide_eq_false hi,cond_false]
  have wi:IntKind.i64.wrap (i+1)=i+1:=IntWalk.i64_in _ (by omega)
  rw [decide_eq_true hi,cond_true,wi]
  refine ⟨i0,hi,fun c hc=>?_⟩
  have hc2:=hm c (List.mem_of_getElem? hc)
  rw [decide_eq_false (by omega),cond_false,decide_eq_false (by omega),cond_false]
  refine ⟨Int.le_refl 0,i0,by omega,fun _=>⟨⟨Int.le_refl 0,by omega⟩,?_⟩⟩
  rintro ⟨j,⟨⟩⟩ ⟨j0,j1⟩
  dsimp only at j0 j1 ⊢
  have el:(List.take (i.toNat - 0) (List.drop 0 l)).length=i.toNat:=by rw [List.length_take,List.length_drop];omega
  rw [el]
  by_cases hj:j < ((i.toNat:Nat):Int)
  · have wj:IntKind.i64.wrap (j+1)=j+1:=IntWalk.i64_in _ (by omega)
    rw [decide_eq_true hj,cond_true,wj]
    refine ⟨j0,hj,fun d hd=>?_⟩
    have hne:d≠c:=okG_go h3 hc (List.mem_of_getElem? (by rw [Nat.sub_zero,List.drop_zero] at hd;exact hd))
    rw [beq_eq_false_iff_ne.2 hne,cond_false]
    exact ⟨⟨by omega,by omega⟩,by omega⟩
  · rw [decide_eq_false hj,cond_false]
    exact ⟨⟨by omega,by omega⟩,by omega⟩
theorem vc_r4put:VC Tryz.prog Tryz.f112 (bodyOf Tryz.f112) S_r4put [(132,S_r4chk),(131,S_putO)] A_r4put=(∀ (x:(Int×Int×List Int×Unit)×Unit),okS x.fst=true∧okSt x.fst→
  List.length x.fst.snd.snd.fst≤(9223372036854775807:Nat)→
  okS x.fst=true∧bif (0:Int) != (0:Int) then (([],(0:Int),()),())=((stL x.fst,(0:Int),()),()) else ((0:Int)≤x.fst.fst∧x.fst.fst < (18446744073709551616:Int))∧((0:Int)≤x.fst.snd.fst∧x.fst.snd.fst < (18446744073709551616:Int))∧(List.length (putR x.fst.fst (8:Int))+List.length (putR x.fst.snd.fst (8:Int)))*(1:Nat)≤(140737488351232:Nat)∧(List.length (putR x.fst.fst (8:Int)++putR x.fst.snd.fst (8:Int))+List.length [IntKind.wrap IntKind.u8 (↑(List.length x.fst.snd.snd.fst):Int)])*(1:Nat)≤(140737488351232:Nat)∧(List.length x.fst.snd.snd.fst≤(9223372036854775807:Nat)→
  ((0:Int)≤(0:Int)∧(0:Int)≤(↑(List.length x.fst.snd.snd.fst):Int)∧putR x.fst.fst (8:Int)++putR x.fst.snd.fst (8:Int)++[IntKind.wrap IntKind.u8 (↑(List.length x.fst.snd.snd.fst):Int)]=putI x.fst.fst (8:Nat)++putI x.fst.snd.fst (8:Nat)++[w8 (↑(List.length x.fst.snd.snd.fst):Int)]++List.map w8 (List.take (Int.toNat (0:Int)) x.fst.snd.snd.fst))∧∀ (v:Int×List Int×Unit),(0:Int)≤v.fst∧v.fst≤(↑(List.length x.fst.snd.snd.fst):Int)∧v.snd.fst=putI x.fst.fst (8:Nat)++putI x.fst.snd.fst (8:Nat)++[w8 (↑(List.length x.fst.snd.snd.fst):Int)]++List.map w8 (List.take (Int.toNat v.fst) x.fst.snd.snd.fst)→
  bif decide (v.fst < (↑(List.length x.fst.snd.snd.fst):Int)) then (0:Int)≤v.fst∧v.fst < (↑(List.length x.fst.snd.snd.fst):Int)∧∀ (c0:Int),x.fst.snd.snd.fst[Int.toNat v.fst]?=some c0→
  (List.length v.snd.fst+List.length [IntKind.wrap IntKind.u8 c0])*(1:Nat)≤(140737488351232:Nat)∧((0:Int)≤IntKind.wrap IntKind.i64 (v.fst+(1:Int))∧IntKind.wrap IntKind.i64 (v.fst+(1:Int))≤(↑(List.length x.fst.snd.snd.fst):Int)∧v.snd.fst++[IntKind.wrap IntKind.u8 c0]=putI x.fst.fst (8:Nat)++putI x.fst.snd.fst (8:Nat)++[w8 (↑(List.length x.fst.snd.snd.fst):Int)]++List.map w8 (List.take (Int.toNat (IntKind.wrap IntKind.i64 (v.fst+(1:Int)))) x.fst.snd.snd.fst))∧Int.toNat ((↑(List.length x.fst.snd.snd.fst):Int) - IntKind.wrap IntKind.i64 (v.fst+(1:Int))) < Int.toNat ((↑(List.length x.fst.snd.snd.fst):Int) - v.fst) else ((v.snd.fst,(0:Int),()),())=((stL x.fst,(0:Int),()),()))):=by kernel_rfl
theorem en_r4put (us:Array Value) (u:World):(callFunc 112 us).run Tryz.prog u=.ok (.enter 112 us) u:=by kernel_rfl
theorem sc_r4put:SC Tryz.prog 112 S_r4put:=by
  refine SC.of Tryz.func112 (c:=bodyOf Tryz.f112) (by kernel_rfl) (by kernel_rfl) (fun x=>(by decide:(1:Nat)≤Tryz.f112.ntmps)) (DOk.cons sc_r4chk en_r4chk (DOk.cons sc_r3put en_r3put DOk.nil)) (Eq.mpr vc_r4put ?_)
  rintro ⟨⟨a,b,l,⟨⟩⟩,⟨⟩⟩ ⟨h,w1,w2⟩ -
  dsimp only at h w1 w2 ⊢
  have hl:l.length≤8:=by
    simp only [okS,Bool.and_eq_true,decide_eq_true_eq] at h
    exact h.2.1
  have la:=putI_len a 8
  have lb:=putI_len b 8
  rw [bneF rfl,cond_false,putR8,putR8]
  refine ⟨h,w1,w2,by omega,by simp only [List.length_append,List.length_cons,List.length_nil];omega,fun _=>⟨⟨Int.le_refl 0,by omega,(List.append_nil _).symm⟩,?_⟩⟩
  rintro ⟨i,o,⟨⟩⟩ ⟨h0,h1,ho⟩
  dsimp only at h0 h1 ho ⊢
  by_cases hi:i < (l.length:Int)
  · have wi:IntKind.i64.wrap (i+1)=i+1:=IntWalk.i64_in _ (by omega)
    rw [decide_eq_true hi,cond_true,wi]
    refine ⟨h0,hi,fun c hc=>⟨?_,⟨by omega,by omega,?_⟩,by omega⟩⟩
    · rw [ho]
      simp only [List.length_append,List.length_cons,List.length_nil,List.length_map,List.length_take];omega
    · rw [show (i+1).toNat=i.toNat+1 by omega,take_snoc hc,ho,List.map_append]
      simp only [List.append_assoc]
      rfl
  · rw [decide_eq_false hi,cond_false]
    rw [List.take_of_length_le (by omega)] at ho
    rw [ho]
    rfl
theorem vc_r5chk:VC Tryz.prog Tryz.f111 (bodyOf Tryz.f111) S_r5chk [(132,S_r4chk)] (fun _ _=>none)=(∀ (x:(Int×Int×(Int×Int×List Int×Unit)×Int×Int×List Int×Unit)×Unit),frChk x.fst=(0:Int)→
  List.length x.fst.snd.snd.fst.snd.snd.fst≤(9223372036854775807:Nat)→
  List.length x.fst.snd.snd.snd.snd.snd.fst≤(9223372036854775807:Nat)→
  bif decide (x.fst.fst < (0:Int)) then ((1:Int),())=((0:Int),()) else bif decide ((24:Int) < x.fst.fst) then ((1:Int),())=((0:Int),()) else bif decide (x.fst.snd.fst < (0:Int)) then ((1:Int),())=((0:Int),()) else bif decide ((24:Int) < x.fst.snd.fst) then ((1:Int),())=((0:Int),()) else bif x.fst.fst==x.fst.snd.fst then ((1:Int),())=((0:Int),()) else okS x.fst.snd.snd.fst=true∧bif (0:Int) != (0:Int) then ((1:Int),())=((0:Int),()) else bif decide (x.fst.snd.snd.snd.snd.fst < (0:Int)) then ((1:Int),())=((0:Int),()) else bif decide ((2147483648:Int)≤x.fst.snd.snd.snd.snd.fst) then ((1:Int),())=((0:Int),()) else bif x.fst.snd.snd.snd.fst != (1:Int) then bif x.fst.snd.snd.snd.fst != (2:Int) then ((1:Int),())=((0:Int),()) else List.length x.fst.snd.snd.snd.snd.snd.fst≤(9223372036854775807:Nat)→
  bif decide ((0:Int) < (↑(List.length x.fst.snd.snd.snd.snd.snd.fst):Int)) then ((1:Int),())=((0:Int),()) else List.length x.fst.snd.snd.snd.snd.snd.fst≤(9223372036854775807:Nat)→
  bif decide ((65536:Int) < (↑(List.length x.fst.snd.snd.snd.snd.snd.fst):Int)) then ((2:Int),())=((0:Int),()) else ((0:Int),())=((0:Int),()) else List.length x.fst.snd.snd.snd.snd.snd.fst≤(9223372036854775807:Nat)→
  bif decide ((65536:Int) < (↑(List.length x.fst.snd.snd.snd.snd.snd.fst):Int)) then ((2:Int),())=((0:Int),()) else ((0:Int),())=((0:Int),())):=by kernel_rfl
theorem en_r5chk (us:Array Value) (u:World):(callFunc 111 us).run Tryz.prog u=.ok (.enter 111 us) u:=by kernel_rfl
theorem sc_r5chk:SC Tryz.prog 111 S_r5chk:=by
  refine SC.of Tryz.func111 (c:=bodyOf Tryz.f111) (by kernel_rfl) (by kernel_rfl) (fun x=>(by decide:(1:Nat)≤Tryz.f111.ntmps)) (DOk.cons sc_r4chk en_r4chk DOk.nil) (Eq.mpr vc_r5chk ?_)
  rintro ⟨⟨fr,tn,s,k,q,b,⟨⟩⟩,⟨⟩⟩ h - -
  obtain ⟨c1,c2,c3,c4,c5,c6,c7,c8,c9⟩:=frChk_0 h
  dsimp only at c1 c2 c3 c4 c5 c6 c7 c8 c9 ⊢
  rw [decide_eq_false (by omega),cond_false,decide_eq_false (by omega),cond_false,decide_eq_false (by omega),cond_false,decide_eq_false (by omega),cond_false,beq_eq_false_iff_ne.2 c5,cond_false]
  refine ⟨stChk_0 c6,?_⟩
  rw [bneF rfl,cond_false,decide_eq_false (by omega),cond_false,decide_eq_false (by omega),cond_false]
  rcases c9 with ⟨k1,l1⟩ | ⟨k2,l2⟩
  · rw [bneF k1,cond_false]
    intro _
    rw [decide_eq_false (by omega),cond_false]
  · rw [bneT (by omega),cond_true,bneF k2,cond_false]
    intro _
    rw [decide_eq_false (by omega),cond_false]
    intro _
    rw [decide_eq_false (by omega),cond_false]
theorem vc_r5put:VC Tryz.prog Tryz.f72 (bodyOf Tryz.f72) S_r5put [(111,S_r5chk),(112,S_r4put),(110,S_rmust),(113,S_tag)] (fun _ _=>none)=(∀ (x:List Int×(Int×Int×(Int×Int×List Int×Unit)×Int×Int×List Int×Unit)×Unit),frChk x.snd.fst=(0:Int)∧okSt x.snd.fst.snd.snd.fst∧List.length x.fst≤(1000000000:Nat)→
  List.length x.fst≤(9223372036854775807:Nat)→
  List.length x.snd.fst.snd.snd.fst.snd.snd.fst≤(9223372036854775807:Nat)→
  List.length x.snd.fst.snd.snd.snd.snd.snd.fst≤(9223372036854775807:Nat)→
  frChk x.snd.fst=(0:Int)∧bif (0:Int) != (0:Int) then (([],(0:Int),()),())=((frPutF x.fst x.snd.fst,(0:Int),()),()) else (okS x.snd.fst.snd.snd.fst=true∧okSt x.snd.fst.snd.snd.fst)∧(List.length [IntKind.wrap IntKind.u8 x.snd.fst.fst,IntKind.wrap IntKind.u8 x.snd.fst.snd.fst]+List.length (stL x.snd.fst.snd.snd.fst))*(1:Nat)≤(140737488351232:Nat)∧(List.length ([IntKind.wrap IntKind.u8 x.snd.fst.fst,IntKind.wrap IntKind.u8 x.snd.fst.snd.fst]++stL x.snd.fst.snd.snd.fst)+List.length [IntKind.wrap IntKind.u8 x.snd.fst.snd.snd.snd.fst])*(1:Nat)≤(140737488351232:Nat)∧((0:Int)≤x.snd.fst.snd.snd.snd.snd.fst∧x.snd.fst.snd.snd.snd.snd.fst < (4294967296:Int))∧(List.length ([IntKind.wrap IntKind.u8 x.snd.fst.fst,IntKind.wrap IntKind.u8 x.snd.fst.snd.fst]++stL x.snd.fst.snd.snd.fst++[IntKind.wrap IntKind.u8 x.snd.fst.snd.snd.snd.fst])+List.length (putR x.snd.fst.snd.snd.snd.snd.fst (4:Int)))*(1:Nat)≤(140737488351232:Nat)∧(List.length x.snd.fst.snd.snd.snd.snd.snd.fst≤(9223372036854775807:Nat)→
  ((0:Int)≤(↑(List.length x.snd.fst.snd.snd.snd.snd.snd.fst):Int)∧(↑(List.length x.snd.fst.snd.snd.snd.snd.snd.fst):Int) < (4294967296:Int))∧(List.length ([IntKind.wrap IntKind.u8 x.snd.fst.fst,IntKind.wrap IntKind.u8 x.snd.fst.snd.fst]++stL x.snd.fst.snd.snd.fst++[IntKind.wrap IntKind.u8 x.snd.fst.snd.snd.snd.fst]++putR x.snd.fst.snd.snd.snd.snd.fst (4:Int))+List.length (putR (↑(List.length x.snd.fst.snd.snd.snd.snd.snd.fst):Int) (4:Int)))*(1:Nat)≤(140737488351232:Nat)∧(List.length ([IntKind.wrap IntKind.u8 x.snd.fst.fst,IntKind.wrap IntKind.u8 x.snd.fst.snd.fst]++stL x.snd.fst.snd.snd.fst++[IntKind.wrap IntKind.u8 x.snd.fst.snd.snd.snd.fst]++putR x.snd.fst.snd.snd.snd.snd.fst (4:Int)++putR (↑(List.length x.snd.fst.snd.snd.snd.snd.snd.fst):Int) (4:Int))+List.length x.snd.fst.snd.snd.snd.snd.snd.fst)*(1:Nat)≤(140737488351232:Nat)∧(List.length x.fst≤(1000000000:Nat)∧List.length ([IntKind.wrap IntKind.u8 x.snd.fst.fst,IntKind.wrap IntKind.u8 x.snd.fst.snd.fst]++stL x.snd.fst.snd.snd.fst++[IntKind.wrap IntKind.u8 x.snd.fst.snd.snd.snd.fst]++putR x.snd.fst.snd.snd.snd.snd.fst (4:Int)++putR (↑(List.length x.snd.fst.snd.snd.snd.snd.snd.fst):Int) (4:Int)++x.snd.fst.snd.snd.snd.snd.snd.fst)≤(100000000:Nat))∧(List.length ([IntKind.wrap IntKind.u8 x.snd.fst.fst,IntKind.wrap IntKind.u8 x.snd.fst.snd.fst]++stL x.snd.fst.snd.snd.fst++[IntKind.wrap IntKind.u8 x.snd.fst.snd.snd.snd.fst]++putR x.snd.fst.snd.snd.snd.snd.fst (4:Int)++putR (↑(List.length x.snd.fst.snd.snd.snd.snd.snd.fst):Int) (4:Int)++x.snd.fst.snd.snd.snd.snd.snd.fst)+List.length (tagF x.fst ([IntKind.wrap IntKind.u8 x.snd.fst.fst,IntKind.wrap IntKind.u8 x.snd.fst.snd.fst]++stL x.snd.fst.snd.snd.fst++[IntKind.wrap IntKind.u8 x.snd.fst.snd.snd.snd.fst]++putR x.snd.fst.snd.snd.snd.snd.fst (4:Int)++putR (↑(List.length x.snd.fst.snd.snd.snd.snd.snd.fst):Int) (4:Int)++x.snd.fst.snd.snd.snd.snd.snd.fst)))*(1:Nat)≤(140737488351232:Nat)∧(([IntKind.wrap IntKind.u8 x.snd.fst.fst,IntKind.wrap IntKind.u8 x.snd.fst.snd.fst]++stL x.snd.fst.snd.snd.fst++[IntKind.wrap IntKind.u8 x.snd.fst.snd.snd.snd.fst]++putR x.snd.fst.snd.snd.snd.snd.fst (4:Int)++putR (↑(List.length x.snd.fst.snd.snd.snd.snd.snd.fst):Int) (4:Int)++x.snd.fst.snd.snd.snd.snd.snd.fst++tagF x.fst ([IntKind.wrap IntKind.u8 x.snd.fst.fst,IntKind.wrap IntKind.u8 x.snd.fst.snd.fst]++stL x.snd.fst.snd.snd.fst++[IntKind.wrap IntKind.u8 x.snd.fst.snd.snd.snd.fst]++putR x.snd.fst.snd.snd.snd.snd.fst (4:Int)++putR (↑(List.length x.snd.fst.snd.snd.snd.snd.snd.fst):Int) (4:Int)++x.snd.fst.snd.snd.snd.snd.snd.fst),(0:Int),()),())=((frPutF x.fst x.snd.fst,(0:Int),()),()))):=by kernel_rfl
theorem en_r5put (us:Array Value) (u:World):(callFunc 72 us).run Tryz.prog u=.ok (.enter 72 us) u:=by kernel_rfl
theorem sc_r5put:SC Tryz.prog 72 S_r5put:=by
  refine SC.of Tryz.func72 (c:=bodyOf Tryz.f72) (by kernel_rfl) (by kernel_rfl) (fun x=>(by decide:(2:Nat)≤Tryz.f72.ntmps)) (DOk.cons sc_r5chk en_r5chk (DOk.cons sc_r4put en_r4put (DOk.cons sc_rmust en_rmust (DOk.cons sc_r2tag en_r2tag DOk.nil)))) (Eq.mpr vc_r5put ?_)
  rintro ⟨key,f,⟨⟩⟩ ⟨h1,h2,h3⟩ - - -
  dsimp only at h1 h2 h3 ⊢
  obtain ⟨-,-,-,-,-,c6,c2,c3,c9⟩:=frChk_0 h1
  have c1:=stChk_0 c6
  have c4:f.2.2.2.2.2.1.length≤65536:=by rcases c9 with ⟨_,h⟩ | ⟨_,h⟩ <;> omega
  have sl:(stL f.2.2.1).length=17+f.2.2.1.2.2.1.length:=stL_len _
  have s8:f.2.2.1.2.2.1.length≤8:=by simp only [okS,Bool.and_eq_true,decide_eq_true_eq] at c1;exact c1.2.1
  have p4:∀ {n:Int},0≤n→n < 4294967296→putR n 4=putI n 4:=fun h0 hn=>putR4 h0 hn
  rw [bneF rfl,cond_false,p4 c2 (by omega)]
  have hL:(putI f.2.2.2.2.1 4).length=4:=putI_len _ _
  refine ⟨h1,⟨c1,h2⟩,by rw [sl];simp only [List.length_cons,List.length_nil];omega,by simp only [List.length_append,List.length_cons,List.length_nil,sl];omega,⟨c2,by omega⟩,by simp only [List.length_append,List.length_cons,List.length_nil,sl,hL];omega,fun _=>?_⟩
  rw [p4 (n:=(f.2.2.2.2.2.1.length:Nat)) (by omega) (by omega)]
  have hM:(putI (f.2.2.2.2.2.1.length:Nat) 4).length=4:=putI_len _ _
  refine ⟨⟨by omega,by omega⟩,by simp only [List.length_append,List.length_cons,List.length_nil,sl,hL,hM];omega,by simp only [List.length_append,List.length_cons,List.length_nil,sl,hL,hM];omega,⟨h3,by simp only [List.length_append,List.length_cons,List.length_nil,sl,hL,hM];omega⟩,by rw [tagF_len];simp only [List.length_append,List.length_cons,List.length_nil,sl,hL,hM];omega,?_⟩
  rw [frPutF,if_pos h1]
  rfl
theorem vc_r6chk:VC Tryz.prog Tryz.f109 (bodyOf Tryz.f109) S_r6chk [] A_r6chk=(∀ (x:(Int×List (List Int)×Int×Bool×Unit)×Unit),x.fst=((1:Int),[],(0:Int),false,())→
  List.length x.fst.snd.fst≤(9223372036854775807:Nat)→
  bif x.fst.fst==(1:Int) then List.length x.fst.snd.fst≤(9223372036854775807:Nat)→
  bif decide ((0:Int) < (↑(List.length x.fst.snd.fst):Int)) then ((1:Int),())=((0:Int),()) else bif x.fst.fst != (7:Int) then bif x.fst.snd.snd.fst != (0:Int) then ((1:Int),())=((0:Int),()) else bif x.fst.snd.snd.snd.fst then ((1:Int),())=((0:Int),()) else bif decide (x.fst.snd.snd.fst < (0:Int)) then ((1:Int),())=((0:Int),()) else bif decide ((7:Int) < x.fst.snd.snd.fst) then ((1:Int),())=((0:Int),()) else List.length x.fst.snd.fst≤(9223372036854775807:Nat)→
  (0:Int)=(0:Int)∧∀ (v:Int×Unit),v.fst=(0:Int)→
  bif decide (v.fst < (↑(List.length x.fst.snd.fst):Int)) then (0:Int)≤v.fst∧v.fst < (↑(List.length x.fst.snd.fst):Int)∧∀ (c0:List Int),x.fst.snd.fst[Int.toNat v.fst]?=some c0→
  List.length c0≤(9223372036854775807:Nat)→
  bif decide ((1024:Int) < (↑(List.length c0):Int)) then ((2:Int),())=((0:Int),()) else IntKind.wrap IntKind.i64 (v.fst+(1:Int))=(0:Int)∧(0:Nat) < (0:Nat) else ((0:Int),())=((0:Int),()) else bif decide (x.fst.snd.snd.fst < (0:Int)) then ((1:Int),())=((0:Int),()) else bif decide ((7:Int) < x.fst.snd.snd.fst) then ((1:Int),())=((0:Int),()) else List.length x.fst.snd.fst≤(9223372036854775807:Nat)→
  (0:Int)=(0:Int)∧∀ (v:Int×Unit),v.fst=(0:Int)→
  bif decide (v.fst < (↑(List.length x.fst.snd.fst):Int)) then (0:Int)≤v.fst∧v.fst < (↑(List.length x.fst.snd.fst):Int)∧∀ (c0:List Int),x.fst.snd.fst[Int.toNat v.fst]?=some c0→
  List.length c0≤(9223372036854775807:Nat)→
  bif decide ((1024:Int) < (↑(List.length c0):Int)) then ((2:Int),())=((0:Int),()) else IntKind.wrap IntKind.i64 (v.fst+(1:Int))=(0:Int)∧(0:Nat) < (0:Nat) else ((0:Int),())=((0:Int),()) else bif x.fst.fst==(2:Int) then List.length x.fst.snd.fst≤(9223372036854775807:Nat)→
  bif decide ((0:Int) < (↑(List.length x.fst.snd.fst):Int)) then ((1:Int),())=((0:Int),()) else bif x.fst.fst != (7:Int) then bif x.fst.snd.snd.fst != (0:Int) then ((1:Int),())=((0:Int),()) else bif x.fst.snd.snd.snd.fst then ((1:Int),())=((0:Int),()) else bif decide (x.fst.snd.snd.fst < (0:Int)) then ((1:Int),())=((0:Int),()) else bif decide ((7:Int) < x.fst.snd.snd.fst) then ((1:Int),())=((0:Int),()) else List.length x.fst.snd.fst≤(9223372036854775807:Nat)→
  (0:Int)=(0:Int)∧∀ (v:Int×Unit),v.fst=(0:Int)→
  bif decide (v.fst < (↑(List.length x.fst.snd.fst):Int)) then (0:Int)≤v.fst∧v.fst < (↑(List.length x.fst.snd.fst):Int)∧∀ (c0:List Int),x.fst.snd.fst[Int.toNat v.fst]?=some c0→
  List.length c0≤(9223372036854775807:Nat)→
  bif decide ((1024:Int) < (↑(List.length c0):Int)) then ((2:Int),())=((0:Int),()) else IntKind.wrap IntKind.i64 (v.fst+(1:Int))=(0:Int)∧(0:Nat) < (0:Nat) else ((0:Int),())=((0:Int),()) else bif decide (x.fst.snd.snd.fst < (0:Int)) then ((1:Int),())=((0:Int),()) else bif decide ((7:Int) < x.fst.snd.snd.fst) then ((1:Int),())=((0:Int),()) else List.length x.fst.snd.fst≤(9223372036854775807:Nat)→
  (0:Int)=(0:Int)∧∀ (v:Int×Unit),v.fst=(0:Int)→
  bif decide (v.fst < (↑(List.length x.fst.snd.fst):Int)) then (0:Int)≤v.fst∧v.fst < (↑(List.length x.fst.snd.fst):Int)∧∀ (c0:List Int),x.fst.snd.fst[Int.toNat v.fst]?=some c0→
  List.length c0≤(9223372036854775807:Nat)→
  bif decide ((1024:Int) < (↑(List.length c0):Int)) then ((2:Int),())=((0:Int),()) else IntKind.wrap IntKind.i64 (v.fst+(1:Int))=(0:Int)∧(0:Nat) < (0:Nat) else ((0:Int),())=((0:Int),()) else bif x.fst.fst==(7:Int) then List.length x.fst.snd.fst≤(9223372036854775807:Nat)→
  bif decide ((0:Int) < (↑(List.length x.fst.snd.fst):Int)) then ((1:Int),())=((0:Int),()) else bif x.fst.fst != (7:Int) then bif x.fst.snd.snd.fst != (0:Int) then ((1:Int),())=((0:Int),()) else bif x.fst.snd.snd.snd.fst then ((1:Int),())=((0:Int),()) else bif decide (x.fst.snd.snd.fst < (0:Int)) then ((1:Int),())=((0:Int),()) else bif decide ((7:Int) < x.fst.snd.snd.fst) then ((1:Int),())=((0:Int),()) else List.length x.fst.snd.fst≤(9223372036854775807:Nat)→
  (0:Int)=(0:Int)∧∀ (v:Int×Unit),v.fst=(0:Int)→
  bif decide (v.fst < (↑(List.length x.fst.snd.fst):Int)) then (0:Int)≤v.fst∧v.fst < (↑(List.length x.fst.snd.fst):Int)∧∀ (c0:List Int),x.fst.snd.fst[Int.toNat v.fst]?=some c0→
  List.length c0≤(9223372036854775807:Nat)→
  bif decide ((1024:Int) < (↑(List.length c0):Int)) then ((2:Int),())=((0:Int),()) else IntKind.wrap IntKind.i64 (v.fst+(1:Int))=(0:Int)∧(0:Nat) < (0:Nat) else ((0:Int),())=((0:Int),()) else bif decide (x.fst.snd.snd.fst < (0:Int)) then ((1:Int),())=((0:Int),()) else bif decide ((7:Int) < x.fst.snd.snd.fst) then ((1:Int),())=((0:Int),()) else List.length x.fst.snd.fst≤(9223372036854775807:Nat)→
  (0:Int)=(0:Int)∧∀ (v:Int×Unit),v.fst=(0:Int)→
  bif decide (v.fst < (↑(List.length x.fst.snd.fst):Int)) then (0:Int)≤v.fst∧v.fst < (↑(List.length x.fst.snd.fst):Int)∧∀ (c0:List Int),x.fst.snd.fst[Int.toNat v.fst]?=some c0→
  List.length c0≤(9223372036854775807:Nat)→
  bif decide ((1024:Int) < (↑(List.length c0):Int)) then ((2:Int),())=((0:Int),()) else IntKind.wrap IntKind.i64 (v.fst+(1:Int))=(0:Int)∧(0:Nat) < (0:Nat) else ((0:Int),())=((0:Int),()) else bif x.fst.fst==(3:Int) then List.length x.fst.snd.fst≤(9223372036854775807:Nat)→
  bif (↑(List.length x.fst.snd.fst):Int) != (1:Int) then ((1:Int),())=((0:Int),()) else bif x.fst.fst != (7:Int) then bif x.fst.snd.snd.fst != (0:Int) then ((1:Int),())=((0:Int),()) else bif x.fst.snd.snd.snd.fst then ((1:Int),())=((0:Int),()) else bif decide (x.fst.snd.snd.fst < (0:Int)) then ((1:Int),())=((0:Int),()) else bif decide ((7:Int) < x.fst.snd.snd.fst) then ((1:Int),())=((0:Int),()) else List.length x.fst.snd.fst≤(9223372036854775807:Nat)→
  (0:Int)=(0:Int)∧∀ (v:Int×Unit),v.fst=(0:Int)→
  bif decide (v.fst < (↑(List.length x.fst.snd.fst):Int)) then (0:Int)≤v.fst∧v.fst < (↑(List.length x.fst.snd.fst):Int)∧∀ (c0:List Int),x.fst.snd.fst[Int.toNat v.fst]?=some c0→
  List.length c0≤(9223372036854775807:Nat)→
  bif decide ((1024:Int) < (↑(List.length c0):Int)) then ((2:Int),())=((0:Int),()) else IntKind.wrap IntKind.i64 (v.fst+(1:Int))=(0:Int)∧(0:Nat) < (0:Nat) else ((0:Int),())=((0:Int),()) else bif decide (x.fst.snd.snd.fst < (0:Int)) then ((1:Int),())=((0:Int),()) else bif decide ((7:Int) < x.fst.snd.snd.fst) then ((1:Int),())=((0:Int),()) else List.length x.fst.snd.fst≤(9223372036854775807:Nat)→
  (0:Int)=(0:Int)∧∀ (v:Int×Unit),v.fst=(0:Int)→
  bif decide (v.fst < (↑(List.length x.fst.snd.fst):Int)) then (0:Int)≤v.fst∧v.fst < (↑(List.length x.fst.snd.fst):Int)∧∀ (c0:List Int),x.fst.snd.fst[Int.toNat v.fst]?=some c0→
  List.length c0≤(9223372036854775807:Nat)→
  bif decide ((1024:Int) < (↑(List.length c0):Int)) then ((2:Int),())=((0:Int),()) else IntKind.wrap IntKind.i64 (v.fst+(1:Int))=(0:Int)∧(0:Nat) < (0:Nat) else ((0:Int),())=((0:Int),()) else bif x.fst.fst==(6:Int) then List.length x.fst.snd.fst≤(9223372036854775807:Nat)→
  bif (↑(List.length x.fst.snd.fst):Int) != (1:Int) then ((1:Int),())=((0:Int),()) else bif x.fst.fst != (7:Int) then bif x.fst.snd.snd.fst != (0:Int) then ((1:Int),())=((0:Int),()) else bif x.fst.snd.snd.snd.fst then ((1:Int),())=((0:Int),()) else bif decide (x.fst.snd.snd.fst < (0:Int)) then ((1:Int),())=((0:Int),()) else bif decide ((7:Int) < x.fst.snd.snd.fst) then ((1:Int),())=((0:Int),()) else List.length x.fst.snd.fst≤(9223372036854775807:Nat)→
  (0:Int)=(0:Int)∧∀ (v:Int×Unit),v.fst=(0:Int)→
  bif decide (v.fst < (↑(List.length x.fst.snd.fst):Int)) then (0:Int)≤v.fst∧v.fst < (↑(List.length x.fst.snd.fst):Int)∧∀ (c0:List Int),x.fst.snd.fst[Int.toNat v.fst]?=some c0→
  List.length c0≤(9223372036854775807:Nat)→
  bif decide ((1024:Int) < (↑(List.length c0):Int)) then ((2:Int),())=((0:Int),()) else IntKind.wrap IntKind.i64 (v.fst+(1:Int))=(0:Int)∧(0:Nat) < (0:Nat) else ((0:Int),())=((0:Int),()) else bif decide (x.fst.snd.snd.fst < (0:Int)) then ((1:Int),())=((0:Int),()) else bif decide ((7:Int) < x.fst.snd.snd.fst) then ((1:Int),())=((0:Int),()) else List.length x.fst.snd.fst≤(9223372036854775807:Nat)→
  (0:Int)=(0:Int)∧∀ (v:Int×Unit),v.fst=(0:Int)→
  bif decide (v.fst < (↑(List.length x.fst.snd.fst):Int)) then (0:Int)≤v.fst∧v.fst < (↑(List.length x.fst.snd.fst):Int)∧∀ (c0:List Int),x.fst.snd.fst[Int.toNat v.fst]?=some c0→
  List.length c0≤(9223372036854775807:Nat)→
  bif decide ((1024:Int) < (↑(List.length c0):Int)) then ((2:Int),())=((0:Int),()) else IntKind.wrap IntKind.i64 (v.fst+(1:Int))=(0:Int)∧(0:Nat) < (0:Nat) else ((0:Int),())=((0:Int),()) else bif x.fst.fst==(4:Int) then List.length x.fst.snd.fst≤(9223372036854775807:Nat)→
  bif decide ((64:Int) < (↑(List.length x.fst.snd.fst):Int)) then ((1:Int),())=((0:Int),()) else bif x.fst.fst != (7:Int) then bif x.fst.snd.snd.fst != (0:Int) then ((1:Int),())=((0:Int),()) else bif x.fst.snd.snd.snd.fst then ((1:Int),())=((0:Int),()) else bif decide (x.fst.snd.snd.fst < (0:Int)) then ((1:Int),())=((0:Int),()) else bif decide ((7:Int) < x.fst.snd.snd.fst) then ((1:Int),())=((0:Int),()) else List.length x.fst.snd.fst≤(9223372036854775807:Nat)→
  (0:Int)=(0:Int)∧∀ (v:Int×Unit),v.fst=(0:Int)→
  bif decide (v.fst < (↑(List.length x.fst.snd.fst):Int)) then (0:Int)≤v.fst∧v.fst < (↑(List.length x.fst.snd.fst):Int)∧∀ (c0:List Int),x.fst.snd.fst[Int.toNat v.fst]?=some c0→
  List.length c0≤(9223372036854775807:Nat)→
  bif decide ((1024:Int) < (↑(List.length c0):Int)) then ((2:Int),())=((0:Int),()) else IntKind.wrap IntKind.i64 (v.fst+(1:Int))=(0:Int)∧(0:Nat) < (0:Nat) else ((0:Int),())=((0:Int),()) else bif decide (x.fst.snd.snd.fst < (0:Int)) then ((1:Int),())=((0:Int),()) else bif decide ((7:Int) < x.fst.snd.snd.fst) then ((1:Int),())=((0:Int),()) else List.length x.fst.snd.fst≤(9223372036854775807:Nat)→
  (0:Int)=(0:Int)∧∀ (v:Int×Unit),v.fst=(0:Int)→
  bif decide (v.fst < (↑(List.length x.fst.snd.fst):Int)) then (0:Int)≤v.fst∧v.fst < (↑(List.length x.fst.snd.fst):Int)∧∀ (c0:List Int),x.fst.snd.fst[Int.toNat v.fst]?=some c0→
  List.length c0≤(9223372036854775807:Nat)→
  bif decide ((1024:Int) < (↑(List.length c0):Int)) then ((2:Int),())=((0:Int),()) else IntKind.wrap IntKind.i64 (v.fst+(1:Int))=(0:Int)∧(0:Nat) < (0:Nat) else ((0:Int),())=((0:Int),()) else bif x.fst.fst==(5:Int) then List.length x.fst.snd.fst≤(9223372036854775807:Nat)→
  bif decide ((64:Int) < (↑(List.length x.fst.snd.fst):Int)) then ((1:Int),())=((0:Int),()) else bif x.fst.fst != (7:Int) then bif x.fst.snd.snd.fst != (0:Int) then ((1:Int),())=((0:Int),()) else bif x.fst.snd.snd.snd.fst then ((1:Int),())=((0:Int),()) else bif decide (x.fst.snd.snd.fst < (0:Int)) then ((1:Int),())=((0:Int),()) else bif decide ((7:Int) < x.fst.snd.snd.fst) then ((1:Int),())=((0:Int),()) else List.length x.fst.snd.fst≤(9223372036854775807:Nat)→
  (0:Int)=(0:Int)∧∀ (v:Int×Unit),v.fst=(0:Int)→
  bif decide (v.fst < (↑(List.length x.fst.snd.fst):Int)) then (0:Int)≤v.fst∧v.fst < (↑(List.length x.fst.snd.fst):Int)∧∀ (c0:List Int),x.fst.snd.fst[Int.toNat v.fst]?=some c0→
  List.length c0≤(9223372036854775807:Nat)→
  bif decide ((1024:Int) < (↑(List.length c0):Int)) then ((2:Int),())=((0:Int),()) else IntKind.wrap IntKind.i64 (v.fst+(1:Int))=(0:Int)∧(0:Nat) < (0:Nat) else ((0:Int),())=((0:Int),()) else bif decide (x.fst.snd.snd.fst < (0:Int)) then ((1:Int),())=((0:Int),()) else bif decide ((7:Int) < x.fst.snd.snd.fst) then ((1:Int),())=((0:Int),()) else List.length x.fst.snd.fst≤(9223372036854775807:Nat)→
  (0:Int)=(0:Int)∧∀ (v:Int×Unit),v.fst=(0:Int)→
  bif decide (v.fst < (↑(List.length x.fst.snd.fst):Int)) then (0:Int)≤v.fst∧v.fst < (↑(List.length x.fst.snd.fst):Int)∧∀ (c0:List Int),x.fst.snd.fst[Int.toNat v.fst]?=some c0→
  List.length c0≤(9223372036854775807:Nat)→
  bif decide ((1024:Int) < (↑(List.length c0):Int)) then ((2:Int),())=((0:Int),()) else IntKind.wrap IntKind.i64 (v.fst+(1:Int))=(0:Int)∧(0:Nat) < (0:Nat) else ((0:Int),())=((0:Int),()) else ((1:Int),())=((0:Int),())):=by kernel_rfl
theorem en_r6chk (us:Array Value) (u:World):(callFunc 109 us).run Tryz.prog u=.ok (.enter 109 us) u:=by kernel_rfl
theorem sc_r6chk:SC Tryz.prog 109 S_r6chk:=by
  refine SC.of Tryz.func109 (c:=bodyOf Tryz.f109) (by kernel_rfl) (by kernel_rfl) (fun x=>(by decide:(1:Nat)≤Tryz.f109.ntmps)) DOk.nil (Eq.mpr vc_r6chk ?_)
  rintro ⟨x,⟨⟩⟩ h -
  dsimp only at h
  subst h
  refine fun _=>fun _=>⟨rfl,?_⟩
  rintro ⟨v,⟨⟩⟩ h
  obtain rfl:v=0:=h
  show ((0:Int),())=(0,())
  rfl
theorem vc_r6put:VC Tryz.prog Tryz.f71 (bodyOf Tryz.f71) S_r6put [(109,S_r6chk),(110,S_rmust)] A_r6put=(∀ (x:(Int×List (List Int)×Int×Bool×Unit)×Unit),x.fst=((1:Int),[],(0:Int),false,())→
  List.length x.fst.snd.fst≤(9223372036854775807:Nat)→
  x.fst=((1:Int),[],(0:Int),false,())∧bif (0:Int) != (0:Int) then (([],(0:Int),()),())=((anB,(0:Int),()),()) else ((0:Int)≤(↑(List.length x.fst.snd.fst):Int)∧(↑(List.length x.fst.snd.fst):Int) < (4294967296:Int))∧(List.length [IntKind.wrap IntKind.u8 x.fst.fst]+List.length (putR (↑(List.length x.fst.snd.fst):Int) (2:Int)))*(1:Nat)≤(140737488351232:Nat)∧(List.length x.fst.snd.fst≤(9223372036854775807:Nat)→
  ((0:Int)=(0:Int)∧[IntKind.wrap IntKind.u8 x.fst.fst]++putR (↑(List.length x.fst.snd.fst):Int) (2:Int)=anB)∧∀ (v:Int×List Int×Unit),v.fst=(0:Int)∧v.snd.fst=anB→
  bif decide (v.fst < (↑(List.length x.fst.snd.fst):Int)) then (0:Int)≤v.fst∧v.fst < (↑(List.length x.fst.snd.fst):Int)∧∀ (c0:List Int),x.fst.snd.fst[Int.toNat v.fst]?=some c0→
  List.length c0≤(9223372036854775807:Nat)→
  ((0:Int)≤(↑(List.length c0):Int)∧(↑(List.length c0):Int) < (4294967296:Int))∧(List.length v.snd.fst+List.length (putR (↑(List.length c0):Int) (2:Int)))*(1:Nat)≤(140737488351232:Nat)∧(List.length (v.snd.fst++putR (↑(List.length c0):Int) (2:Int))+List.length c0)*(1:Nat)≤(140737488351232:Nat)∧(IntKind.wrap IntKind.i64 (v.fst+(1:Int))=(0:Int)∧v.snd.fst++putR (↑(List.length c0):Int) (2:Int)++c0=anB)∧(0:Nat) < (0:Nat) else bif x.fst.fst==(7:Int) then bif x.fst.snd.snd.snd.fst then (List.length v.snd.fst+List.length [IntKind.wrap IntKind.u8 x.fst.snd.snd.fst,(1:Int)])*(1:Nat)≤(140737488351232:Nat)∧((v.snd.fst++[IntKind.wrap IntKind.u8 x.fst.snd.snd.fst,(1:Int)],(0:Int),()),())=((anB,(0:Int),()),()) else (List.length v.snd.fst+List.length [IntKind.wrap IntKind.u8 x.fst.snd.snd.fst,(0:Int)])*(1:Nat)≤(140737488351232:Nat)∧((v.snd.fst++[IntKind.wrap IntKind.u8 x.fst.snd.snd.fst,(0:Int)],(0:Int),()),())=((anB,(0:Int),()),()) else ((v.snd.fst,(0:Int),()),())=((anB,(0:Int),()),()))):=by kernel_rfl
theorem en_r6put (us:Array Value) (u:World):(callFunc 71 us).run Tryz.prog u=.ok (.enter 71 us) u:=by kernel_rfl
theorem sc_r6put:SC Tryz.prog 71 S_r6put:=by
  refine SC.of Tryz.func71 (c:=bodyOf Tryz.f71) (by kernel_rfl) (by kernel_rfl) (fun x=>(by decide:(1:Nat)≤Tryz.f71.ntmps)) (DOk.cons sc_r6chk en_r6chk (DOk.cons sc_rmust en_rmust DOk.nil)) (Eq.mpr vc_r6put ?_)
  rintro ⟨x,⟨⟩⟩ h -
  dsimp only at h
  subst h
  refine ⟨rfl,?_⟩
  have e:putR 0 2=[0,0]:=by decide
  show (_∧_)∧_
  refine ⟨⟨Int.le_refl 0,by decide⟩,?_⟩
  show (1+(putR 0 2).length)*1≤_∧_
  rw [e]
  refine ⟨by decide,fun _=>⟨⟨rfl,?_⟩,?_⟩⟩
  · show [IntKind.u8.wrap 1]++putR 0 2=anB
    rw [e]
    rfl
  rintro ⟨v,o,⟨⟩⟩ ⟨h1,h2⟩
  obtain rfl:v=0:=h1
  obtain rfl:o=anB:=h2
  show ((anB,(0:Int),()),())=((anB,0,()),())
  rfl
theorem vc_r7pair:VC Tryz.prog Tryz.f73 (bodyOf Tryz.f73) S_pair [(113,S_tag)] (fun _ _=>none)=(∀ (x:(List Int×Int×Int×Int×Int×Int×Int×Int×Int×Int×Int×Unit)×Int×Int×Unit),List.length x.fst.fst≤(1000000000:Nat)→
  List.length x.fst.fst≤(9223372036854775807:Nat)→
  (List.length x.fst.fst≤(1000000000:Nat)∧List.length [(1:Int),IntKind.wrap IntKind.u8 (if x.snd.snd.fst < x.snd.fst then x.snd.snd.fst else x.snd.fst),IntKind.wrap IntKind.u8 (if x.snd.fst < x.snd.snd.fst then x.snd.snd.fst else x.snd.fst)]≤(100000000:Nat))∧(tagF x.fst.fst [(1:Int),IntKind.wrap IntKind.u8 (if x.snd.snd.fst < x.snd.fst then x.snd.snd.fst else x.snd.fst),IntKind.wrap IntKind.u8 (if x.snd.fst < x.snd.snd.fst then x.snd.snd.fst else x.snd.fst)],())=(pairF x.fst x.snd.fst x.snd.snd.fst,())):=by kernel_rfl
theorem en_r7pair (us:Array Value) (u:World):(callFunc 73 us).run Tryz.prog u=.ok (.enter 73 us) u:=by kernel_rfl
theorem sc_r7pair:SC Tryz.prog 73 S_pair:=by
  refine SC.of Tryz.func73 (c:=bodyOf Tryz.f73) (by kernel_rfl) (by kernel_rfl) (fun x=>(by decide:(3:Nat)≤Tryz.f73.ntmps)) (DOk.cons sc_r2tag en_r2tag DOk.nil) (Eq.mpr vc_r7pair ?_)
  rintro ⟨c,a,b,⟨⟩⟩ h -
  exact ⟨⟨h,by show 3≤100000000;decide⟩,rfl⟩
theorem vc_rnote:VC Tryz.prog Tryz.f45 (bodyOf Tryz.f45) S_rnote [(71,S_r6put),(73,S_pair),(72,S_r5put)] (fun _ _=>none)=(∀ (x:(List Int×Int×Int×Int×Int×Int×Int×Int×Int×Int×Int×Unit)×Int×Int×(Int×Int×List Int×Unit)×Int×(Int×List (List Int)×Int×Bool×Unit)×Unit),List.length x.fst.fst≤(1000000000:Nat)∧x.snd.snd.snd.snd.snd.fst=((1:Int),[],(0:Int),false,())∧okSt x.snd.snd.snd.fst∧frChk (x.snd.fst,x.snd.snd.fst,x.snd.snd.snd.fst,(1:Int),x.snd.snd.snd.snd.fst,anB,())=(0:Int)→
  List.length x.fst.fst≤(9223372036854775807:Nat)→
  List.length x.snd.snd.snd.fst.snd.snd.fst≤(9223372036854775807:Nat)→
  List.length x.snd.snd.snd.snd.snd.fst.snd.fst≤(9223372036854775807:Nat)→
  x.snd.snd.snd.snd.snd.fst=((1:Int),[],(0:Int),false,())∧List.length x.fst.fst≤(1000000000:Nat)∧(frChk (x.snd.fst,x.snd.snd.fst,x.snd.snd.snd.fst,(1:Int),x.snd.snd.snd.snd.fst,anB,())=(0:Int)∧okSt x.snd.snd.snd.fst∧List.length (pairF x.fst x.snd.fst x.snd.snd.fst)≤(1000000000:Nat))∧(frPutF (pairF x.fst x.snd.fst x.snd.snd.fst) (x.snd.fst,x.snd.snd.fst,x.snd.snd.snd.fst,(1:Int),x.snd.snd.snd.snd.fst,anB,()),())=(anBt x.fst x.snd.fst x.snd.snd.fst x.snd.snd.snd.fst x.snd.snd.snd.snd.fst,())):=by kernel_rfl
theorem en_rnote (us:Array Value) (u:World):(callFunc 45 us).run Tryz.prog u=.ok (.enter 45 us) u:=by kernel_rfl
theorem sc_rnote:SC Tryz.prog 45 S_rnote:=by
  refine SC.of Tryz.func45 (c:=bodyOf Tryz.f45) (by kernel_rfl) (by kernel_rfl) (fun x=>(by decide:(6:Nat)≤Tryz.f45.ntmps)) (DOk.cons sc_r6put en_r6put (DOk.cons sc_r7pair en_r7pair (DOk.cons sc_r5put en_r5put DOk.nil))) (Eq.mpr vc_rnote ?_)
  rintro ⟨c,a,b,s,q,n,⟨⟩⟩ ⟨h1,h2,h3,h4⟩ - - -
  exact ⟨h2,h1,⟨h4,h3,by rw [pairF_len];decide⟩,rfl⟩
theorem vc_annc:VC Tryz.prog Tryz.f22 (bodyOf Tryz.f22) S_annc [(45,S_rnote)] (fun _ _=>none)=(∀ (x:(List Int×Int×Int×Int×Int×Int×Int×Int×Int×Int×Int×Unit)×(Int×(Int×(Int×Int×List Int×Unit)×List (Int×(Int×List (Int×List Int×Int×Unit)×List (List Int)×Unit)×(Int×List (Int×List Int×Int×Unit)×Unit)×Unit)×Unit)×(Int×List (Bool×Int×Int×Int×List Int×Unit)×Unit)×Bool×List Int×Int×Unit)×(Int×Int×List Int×Unit)×Unit),List.length x.fst.fst≤(1000000000:Nat)∧okSt x.snd.snd.fst∧frChk ((0:Int),x.snd.fst.snd.fst.fst,x.snd.snd.fst,(1:Int),(0:Int),anB,())=(0:Int)→
  List.length x.fst.fst≤(9223372036854775807:Nat)→
  List.length x.snd.fst.snd.fst.snd.fst.snd.snd.fst≤(9223372036854775807:Nat)→
  List.length x.snd.fst.snd.fst.snd.snd.fst≤(9223372036854775807:Nat)→
  List.length x.snd.fst.snd.snd.fst.snd.fst≤(9223372036854775807:Nat)→
  List.length x.snd.fst.snd.snd.snd.snd.fst≤(9223372036854775807:Nat)→
  List.length x.snd.snd.fst.snd.snd.fst≤(9223372036854775807:Nat)→
  (List.length x.fst.fst≤(1000000000:Nat)∧((1:Int),([]:List (List Int)),(0:Int),false,())=((1:Int),([]:List (List Int)),(0:Int),false,())∧okSt x.snd.snd.fst∧frChk ((0:Int),x.snd.fst.snd.fst.fst,x.snd.snd.fst,(1:Int),(0:Int),anB,())=(0:Int))∧(anBt x.fst (0:Int) x.snd.fst.snd.fst.fst x.snd.snd.fst (0:Int),())=(anBt x.fst (0:Int) x.snd.fst.snd.fst.fst x.snd.snd.fst (0:Int),())):=by kernel_rfl
theorem sc_annc:SC Tryz.prog 22 S_annc:=by
  refine SC.of Tryz.func22 (c:=bodyOf Tryz.f22) (by kernel_rfl) (by kernel_rfl) (fun x=>(by decide:(3:Nat)≤Tryz.f22.ntmps)) (DOk.cons sc_rnote en_rnote DOk.nil) (Eq.mpr vc_annc ?_)
  rintro ⟨c,x,s,⟨⟩⟩ ⟨h1,h2,h3⟩ - - - - - -
  exact ⟨⟨h1,rfl,h2,h3⟩,rfl⟩
end Go.Proofs.YtjkbkhjalimebaaGreatDoor
namespace Go.Proofs.YtjkbkhjalimebaaGreatDoor
open Go.RowKit DoorU
set_option linter.unusedVariables false
set_option linter.unusedSimpArgs false
set_option maxRecDepth 100000
set_option maxHeartbeats 1000000
namespace DoorU
def itSum:Int→List Itm→Int
  | s,[]=>s
  | s,x::r=>itSum (i64 (s+sz1 x.2.1.length)) r
def bsSum:Int→List (List Int)→Int
  | s,[]=>s
  | s,x::r=>bsSum (i64 (s+sz1 x.length)) r
def fewO (o:Ouq):Bool:=decide (bsSum (itSum 0 o.2.1) o.2.2.1≤150)
def fewI (i:Inq):Bool:=decide (itSum 0 i.2.1≤150)
def fewPe (q:Pee):Bool:=fewO q.2.1&&(fewI q.2.2.1 && !decide (30 < (q.2.1.2.1.length:Int)))
def fewP (p:Pos):Bool:=p.2.2.1.all fewPe&&(decide ((p.2.2.1.length:Int)≤8)&&decide ((p.2.1.2.2.1.length:Int)≤60))
def plainC:Cfg:=([],2,1,2,3,4,20,5,4,1,1,())
theorem byt_app {a b:List Int} (ha:byt a) (hb:byt b):byt (a++b):=fun x hx=>(List.mem_append.1 hx).elim (ha x) (hb x)
theorem w8_byt (n:Int):byt [w8 n]:=fun x hx=>by
  rw [List.mem_singleton] at hx
  subst hx
  show 0≤IntKind.u8.wrap n∧IntKind.u8.wrap n < 256
  rw [w8_of]
  omega
theorem frHd_byt {f:Fra} (hb:byt f.2.2.2.2.2.1):byt (frHd f):=by
  unfold frHd stL
  refine byt_app (byt_app (byt_app (byt_app (byt_app (byt_app (w8_byt _) (w8_byt _)) (byt_app (byt_app (byt_app (putI_byt _ _) (putI_byt _ _)) (w8_byt _)) fun x hx=>?_)) (w8_byt _)) (putI_byt _ _)) (putI_byt _ _)) hb
  obtain ⟨y,_,rfl⟩:=List.mem_map.1 hx
  exact w8_byt y _ (List.mem_singleton.2 rfl)
theorem frPutF_byt (k:List Int) {f:Fra} (hb:byt f.2.2.2.2.2.1):byt (frPutF k f):=by
  unfold frPutF
  split
  · exact byt_app (frHd_byt hb) (tagF_byt _ _)
  · exact fun x hx=>by cases hx
theorem frPutF_len (k:List Int) {f:Fra} (h:frChk f=0):(frPutF k f).length=60+f.2.2.1.2.2.1.length+f.2.2.2.2.2.1.length:=by
  rw [frPutF,if_pos h,List.length_append,frHd_len,tagF_len]
  omega
def lSum:Int→List Let→Int
  | s,[]=>s
  | s,x::r=>lSum (i64 (s+sz1 (txt x).length)) r
def fewQ (q:Que):Bool:=decide (lSum 0 q.2.1≤150)
def fewC (x:Cli):Bool:=fewP x.2.1&&(fewQ x.2.2.1&&decide ((x.2.2.2.2.1.length:Int)≤200))
def mayC (c:Cfg) (x:Cli):Bool:=kchkF c==0&&fewC x
end DoorU
def S_rwit:Spec:=⟨.pair nI (.pair nI (.pair nI .unit)),.pair .bool .unit,fun _=>True,fun (x:Int×Int×Int×Unit)=>((wit x.1 x.2.1 x.2.2.1,()):Bool×Unit)⟩
def S_rchk:Spec:=⟨.pair aC .unit,.pair nI .unit,fun _=>True,fun (x:Cfg×Unit)=>((kchkF x.1,()):Int×Unit)⟩
def S_fewo:Spec:=⟨.pair aOut .unit,.pair .bool .unit,fun (x:Ouq×Unit)=>x.1.2.1.length≤big∧x.1.2.2.1.length≤big,fun (x:Ouq×Unit)=>((fewO x.1,()):Bool×Unit)⟩
def A_fewo (x:Ouq×Unit):Nat→Option LA
  | 0=>some ⟨[11,3],[],.pair nI (.pair nI .unit),fun (v:Int×Int×Unit)=>0≤v.1∧v.1≤(x.1.2.1.length:Nat)∧itSum v.2.1 (x.1.2.1.drop v.1.toNat)=itSum 0 x.1.2.1,fun (v:Int×Int×Unit)=>((x.1.2.1.length:Nat) - v.1).toNat⟩
  | 1=>some ⟨[26,3],[],.pair nI (.pair nI .unit),fun (v:Int×Int×Unit)=>0≤v.1∧v.1≤(x.1.2.2.1.length:Nat)∧bsSum v.2.1 (x.1.2.2.1.drop v.1.toNat)=bsSum (itSum 0 x.1.2.1) x.1.2.2.1,fun (v:Int×Int×Unit)=>((x.1.2.2.1.length:Nat) - v.1).toNat⟩
  | _=>none
def S_fewi:Spec:=⟨.pair aIn .unit,.pair .bool .unit,fun (x:Inq×Unit)=>x.1.2.1.length≤big,fun (x:Inq×Unit)=>((fewI x.1,()):Bool×Unit)⟩
def A_fewi (x:Inq×Unit):Nat→Option LA
  | 0=>some ⟨[9,3],[],.pair nI (.pair nI .unit),fun (v:Int×Int×Unit)=>0≤v.1∧v.1≤(x.1.2.1.length:Nat)∧itSum v.2.1 (x.1.2.1.drop v.1.toNat)=itSum 0 x.1.2.1,fun (v:Int×Int×Unit)=>((x.1.2.1.length:Nat) - v.1).toNat⟩
  | _=>none
def S_few:Spec:=⟨.pair aPo .unit,.pair .bool .unit,fun (x:Pos×Unit)=>okPo x.1,fun (x:Pos×Unit)=>((fewP x.1,()):Bool×Unit)⟩
def A_few (x:Pos×Unit):Nat→Option LA
  | 0=>some ⟨[8],[],.pair nI .unit,fun (v:Int×Unit)=>0≤v.1∧v.1≤(x.1.2.2.1.length:Nat)∧(x.1.2.2.1.drop v.1.toNat).all fewPe=x.1.2.2.1.all fewPe,fun (v:Int×Unit)=>((x.1.2.2.1.length:Nat) - v.1).toNat⟩
  | _=>none
def S_fewq:Spec:=⟨.pair aQu .unit,.pair .bool .unit,fun (x:Que×Unit)=>x.1.2.1.length≤big,fun (x:Que×Unit)=>((fewQ x.1,()):Bool×Unit)⟩
def A_fewq (x:Que×Unit):Nat→Option LA
  | 0=>some ⟨[9,3],[],.pair nI (.pair nI .unit),fun (v:Int×Int×Unit)=>0≤v.1∧v.1≤(x.1.2.1.length:Nat)∧lSum v.2.1 (x.1.2.1.drop v.1.toNat)=lSum 0 x.1.2.1,fun (v:Int×Int×Unit)=>((x.1.2.1.length:Nat) - v.1).toNat⟩
  | _=>none
def S_fewc:Spec:=⟨.pair aCl .unit,.pair .bool .unit,fun (x:Cli×Unit)=>okPo x.1.2.1∧x.1.2.2.1.2.1.length≤big,fun (x:Cli×Unit)=>((fewC x.1,()):Bool×Unit)⟩
abbrev vC:Sh:=.agg (shOf false tC)
def S_plain:Spec:=⟨.unit,.pair vC .unit,fun _=>True,fun (x:Unit)=>((plainC,()):Cfg×Unit)⟩
def S_may:Spec:=⟨.pair aC (.pair aCl .unit),.pair .bool .unit,fun (x:Cfg×Cli×Unit)=>okPo x.2.1.2.1∧x.2.1.2.2.1.2.1.length≤big,fun (x:Cfg×Cli×Unit)=>((mayC x.1 x.2.1,()):Bool×Unit)⟩
theorem vc_rwit:VC Tryz.prog Tryz.f39 (bodyOf Tryz.f39) S_rwit [] (fun _ _=>none)=(∀ (x:Int×Int×Int×Unit),True→
  bif decide (x.snd.fst≤x.fst) then (decide (x.fst≤x.snd.snd.fst),())=(wit x.fst x.snd.fst x.snd.snd.fst,()) else (false,())=(wit x.fst x.snd.fst x.snd.snd.fst,())):=by kernel_rfl
theorem en_rwit (us:Array Value) (u:World):(callFunc 39 us).run Tryz.prog u=.ok (.enter 39 us) u:=by kernel_rfl
theorem sc_rwit:SC Tryz.prog 39 S_rwit:=by
  refine SC.of Tryz.func39 (c:=bodyOf Tryz.f39) (by kernel_rfl) (by kernel_rfl) (fun x=>(by decide:(3:Nat)≤Tryz.f39.ntmps)) DOk.nil (Eq.mpr vc_rwit ?_)
  rintro ⟨n,a,b,⟨⟩⟩ -
  dsimp only [wit]
  cases decide (a≤n) <;> rfl
theorem vc_rchk:VC Tryz.prog Tryz.f16 (bodyOf Tryz.f16) S_rchk [(39,S_rwit)] (fun _ _=>none)=(∀ (x:(List Int×Int×Int×Int×Int×Int×Int×Int×Int×Int×Int×Unit)×Unit),True→
  List.length x.fst.fst≤(9223372036854775807:Nat)→
  List.length x.fst.fst≤(9223372036854775807:Nat)→
  bif decide ((↑(List.length x.fst.fst):Int)≤(64:Int)) then True∧bif wit x.fst.snd.fst (1:Int) (8:Int) then True∧bif wit x.fst.snd.snd.fst (0:Int) (8:Int) then True∧bif wit x.fst.snd.snd.snd.fst (1:Int) (8:Int) then True∧bif wit x.fst.snd.snd.snd.snd.fst (1:Int) (64:Int) then True∧bif wit x.fst.snd.snd.snd.snd.snd.fst (1:Int) (10000:Int) then bif decide (x.fst.snd.snd.snd.snd.snd.fst < x.fst.snd.snd.snd.snd.snd.snd.fst) then bif decide (x.fst.snd.snd.snd.snd.snd.snd.fst≤(10000:Int)) then True∧bif wit x.fst.snd.snd.snd.snd.snd.snd.snd.fst (1:Int) (10000:Int) then True∧bif !wit x.fst.snd.snd.snd.snd.snd.snd.snd.snd.fst (1:Int) (64:Int) then ((1:Int),())=(kchkF x.fst,()) else bif decide (x.fst.snd.snd.snd.snd.snd.snd.snd.snd.snd.fst < (1:Int)) then ((1:Int),())=(kchkF x.fst,()) else bif decide (x.fst.snd.snd.snd.snd.snd.snd.snd.snd.snd.snd.fst < (1:Int)) then ((1:Int),())=(kchkF x.fst,()) else ((0:Int),())=(kchkF x.fst,()) else ((1:Int),())=(kchkF x.fst,()) else ((1:Int),())=(kchkF x.fst,()) else ((1:Int),())=(kchkF x.fst,()) else ((1:Int),())=(kchkF x.fst,()) else ((1:Int),())=(kchkF x.fst,()) else ((1:Int),())=(kchkF x.fst,()) else ((1:Int),())=(kchkF x.fst,()) else ((1:Int),())=(kchkF x.fst,()) else ((1:Int),())=(kchkF x.fst,())):=by kernel_rfl
theorem en_rchk (us:Array Value) (u:World):(callFunc 16 us).run Tryz.prog u=.ok (.enter 16 us) u:=by kernel_rfl
theorem sc_rchk:SC Tryz.prog 16 S_rchk:=by
  refine SC.of Tryz.func16 (c:=bodyOf Tryz.f16) (by kernel_rfl) (by kernel_rfl) (fun x=>(by decide:(1:Nat)≤Tryz.f16.ntmps)) (DOk.cons sc_rwit en_rwit DOk.nil) (Eq.mpr vc_rchk ?_)
  rintro ⟨⟨sd,ch,st,cl,qu,cs,lo,ag,wn,ro,sq,⟨⟩⟩,⟨⟩⟩ - - -
  have kc:∀ c:Cfg,kchkF c=bif okC c then 0 else 1:=fun c=>by
    unfold kchkF
    cases okC c <;> rfl
  rw [kc]
  dsimp only [okC]
  by_cases h1:sd.length≤64
  rotate_left 1
  · rw [decide_eq_false (by omega:¬ (sd.length:Int)≤64),decide_eq_false h1];rfl
  rw [decide_eq_true (by omega:(sd.length:Int)≤64),decide_eq_true h1,cond_true]
  refine ⟨trivial,?_⟩
  cases wit ch 1 8
  · rfl
  rw [cond_true]
  refine ⟨trivial,?_⟩
  cases wit st 0 8
  · rfl
  rw [cond_true]
  refine ⟨trivial,?_⟩
  cases wit cl 1 8
  · rfl
  rw [cond_true]
  refine ⟨trivial,?_⟩
  cases wit qu 1 64
  · rfl
  rw [cond_true]
  refine ⟨trivial,?_⟩
  cases wit cs 1 10000
  · rfl
  rw [cond_true]
  by_cases h2:cs < lo
  rotate_left 1
  · rw [decide_eq_false h2,decide_eq_true (by omega:lo≤cs)];rfl
  rw [decide_eq_true h2,decide_eq_false (by omega:¬ lo≤cs),cond_true]
  cases decide (lo≤10000)
  · rfl
  rw [cond_true]
  refine ⟨trivial,?_⟩
  cases wit ag 1 10000
  · rfl
  rw [cond_true]
  refine ⟨trivial,?_⟩
  cases wit wn 1 64
  · rfl
  rw [Bool.not_true,cond_false]
  by_cases h3:ro < 1
  · rw [decide_eq_true h3,decide_eq_false (by omega:¬ (1:Int)≤ro)];rfl
  rw [decide_eq_false h3,decide_eq_true (by omega:(1:Int)≤ro),cond_false]
  by_cases h4:sq < 1
  · rw [decide_eq_true h4,decide_eq_false (by omega:¬ (1:Int)≤sq)];rfl
  rw [decide_eq_false h4,decide_eq_true (by omega:(1:Int)≤sq)];rfl
theorem vc_fewo:VC Tryz.prog Tryz.f75 (bodyOf Tryz.f75) S_fewo [] A_fewo=(∀ (x:(Int×List (Int×List Int×Int×Unit)×List (List Int)×Unit)×Unit),List.length x.fst.snd.fst≤big∧List.length x.fst.snd.snd.fst≤big→
  List.length x.fst.snd.fst≤(9223372036854775807:Nat)→
  List.length x.fst.snd.snd.fst≤(9223372036854775807:Nat)→
  List.length x.fst.snd.fst≤(9223372036854775807:Nat)→
  ((0:Int)≤(0:Int)∧(0:Int)≤(↑(List.length x.fst.snd.fst):Int)∧itSum (0:Int) (List.drop (Int.toNat (0:Int)) x.fst.snd.fst)=itSum (0:Int) x.fst.snd.fst)∧∀ (v:Int×Int×Unit),(0:Int)≤v.fst∧v.fst≤(↑(List.length x.fst.snd.fst):Int)∧itSum v.snd.fst (List.drop (Int.toNat v.fst) x.fst.snd.fst)=itSum (0:Int) x.fst.snd.fst→
  bif decide (v.fst < (↑(List.length x.fst.snd.fst):Int)) then (0:Int)≤v.fst∧v.fst < (↑(List.length x.fst.snd.fst):Int)∧∀ (c0:Int×List Int×Int×Unit),x.fst.snd.fst[Int.toNat v.fst]?=some c0→
  List.length c0.snd.fst≤(9223372036854775807:Nat)→
  (64:Int)≠(0:Int)∧((0:Int)≤IntKind.wrap IntKind.i64 (v.fst+(1:Int))∧IntKind.wrap IntKind.i64 (v.fst+(1:Int))≤(↑(List.length x.fst.snd.fst):Int)∧itSum (IntKind.wrap IntKind.i64 (v.snd.fst+IntKind.wrap IntKind.i64 ((1:Int)+IntKind.wrap IntKind.i64 (Int.tdiv (↑(List.length c0.snd.fst):Int) (64:Int))))) (List.drop (Int.toNat (IntKind.wrap IntKind.i64 (v.fst+(1:Int)))) x.fst.snd.fst)=itSum (0:Int) x.fst.snd.fst)∧Int.toNat ((↑(List.length x.fst.snd.fst):Int) - IntKind.wrap IntKind.i64 (v.fst+(1:Int))) < Int.toNat ((↑(List.length x.fst.snd.fst):Int) - v.fst) else List.length x.fst.snd.snd.fst≤(9223372036854775807:Nat)→
  ((0:Int)≤(0:Int)∧(0:Int)≤(↑(List.length x.fst.snd.snd.fst):Int)∧bsSum v.snd.fst (List.drop (Int.toNat (0:Int)) x.fst.snd.snd.fst)=bsSum (itSum (0:Int) x.fst.snd.fst) x.fst.snd.snd.fst)∧∀ (v:Int×Int×Unit),(0:Int)≤v.fst∧v.fst≤(↑(List.length x.fst.snd.snd.fst):Int)∧bsSum v.snd.fst (List.drop (Int.toNat v.fst) x.fst.snd.snd.fst)=bsSum (itSum (0:Int) x.fst.snd.fst) x.fst.snd.snd.fst→
  bif decide (v.fst < (↑(List.length x.fst.snd.snd.fst):Int)) then (0:Int)≤v.fst∧v.fst < (↑(List.length x.fst.snd.snd.fst):Int)∧∀ (c0:List Int),x.fst.snd.snd.fst[Int.toNat v.fst]?=some c0→
  List.length c0≤(9223372036854775807:Nat)→
  (64:Int)≠(0:Int)∧((0:Int)≤IntKind.wrap IntKind.i64 (v.fst+(1:Int))∧IntKind.wrap IntKind.i64 (v.fst+(1:Int))≤(↑(List.length x.fst.snd.snd.fst):Int)∧bsSum (IntKind.wrap IntKind.i64 (v.snd.fst+IntKind.wrap IntKind.i64 ((1:Int)+IntKind.wrap IntKind.i64 (Int.tdiv (↑(List.length c0):Int) (64:Int))))) (List.drop (Int.toNat (IntKind.wrap IntKind.i64 (v.fst+(1:Int)))) x.fst.snd.snd.fst)=bsSum (itSum (0:Int) x.fst.snd.fst) x.fst.snd.snd.fst)∧Int.toNat ((↑(List.length x.fst.snd.snd.fst):Int) - IntKind.wrap IntKind.i64 (v.fst+(1:Int))) < Int.toNat ((↑(List.length x.fst.snd.snd.fst):Int) - v.fst) else (decide (v.snd.fst≤(150:Int)),())=(fewO x.fst,())):=by kernel_rfl
theorem en_fewo (us:Array Value) (u:World):(callFunc 75 us).run Tryz.prog u=.ok (.enter 75 us) u:=by kernel_rfl
theorem sc_fewo:SC Tryz.prog 75 S_fewo:=by
  refine SC.of Tryz.func75 (c:=bodyOf Tryz.f75) (by kernel_rfl) (by kernel_rfl) (fun x=>(by decide:(1:Nat)≤Tryz.f75.ntmps)) DOk.nil (Eq.mpr vc_fewo ?_)
  rintro ⟨⟨n,l,w,⟨⟩⟩,⟨⟩⟩ ⟨h1,h2⟩ - - -
  dsimp only at h1 h2 ⊢
  have e1:l.length≤1000000000:=h1
  have e2:w.length≤1000000000:=h2
  refine ⟨⟨Int.le_refl 0,by omega,rfl⟩,?_⟩
  rintro ⟨i,s,⟨⟩⟩ ⟨q0,q1,hg⟩
  dsimp only at q0 q1 hg ⊢
  have wi:IntKind.i64.wrap (i+1)=i+1:=IntWalk.i64_in _ (by omega)
  by_cases hi:i < (l.length:Int)
  · rw [decide_eq_true hi,cond_true,wi]
    refine ⟨q0,hi,fun c hc _=>?_⟩
    rw [drop_of hc,itSum] at hg
    refine ⟨by decide,⟨by omega,by omega,?_⟩,by omega⟩
    rw [show (i+1).toNat=i.toNat+1 by omega]
    exact hg
  rw [decide_eq_false hi,cond_false]
  rw [List.drop_eq_nil_of_le (by omega),itSum] at hg
  intro _
  subst hg
  refine ⟨⟨Int.le_refl 0,by omega,rfl⟩,?_⟩
  rintro ⟨k,s,⟨⟩⟩ ⟨k0,k1,hg⟩
  dsimp only at k0 k1 hg ⊢
  have wk:IntKind.i64.wrap (k+1)=k+1:=IntWalk.i64_in _ (by omega)
  by_cases hk:k < (w.length:Int)
  · rw [decide_eq_true hk,cond_true,wk]
    refine ⟨k0,hk,fun c hc _=>?_⟩
    rw [drop_of hc,bsSum] at hg
    refine ⟨by decide,⟨by omega,by omega,?_⟩,by omega⟩
    rw [show (k+1).toNat=k.toNat+1 by omega]
    exact hg
  · rw [decide_eq_false hk,cond_false]
    rw [List.drop_eq_nil_of_le (by omega),bsSum] at hg
    rw [hg]
    rfl
theorem vc_fewi:VC Tryz.prog Tryz.f76 (bodyOf Tryz.f76) S_fewi [] A_fewi=(∀ (x:(Int×List (Int×List Int×Int×Unit)×Unit)×Unit),List.length x.fst.snd.fst≤big→
  List.length x.fst.snd.fst≤(9223372036854775807:Nat)→
  List.length x.fst.snd.fst≤(9223372036854775807:Nat)→
  ((0:Int)≤(0:Int)∧(0:Int)≤(↑(List.length x.fst.snd.fst):Int)∧itSum (0:Int) (List.drop (Int.toNat (0:Int)) x.fst.snd.fst)=itSum (0:Int) x.fst.snd.fst)∧∀ (v:Int×Int×Unit),(0:Int)≤v.fst∧v.fst≤(↑(List.length x.fst.snd.fst):Int)∧itSum v.snd.fst (List.drop (Int.toNat v.fst) x.fst.snd.fst)=itSum (0:Int) x.fst.snd.fst→
  bif decide (v.fst < (↑(List.length x.fst.snd.fst):Int)) then (0:Int)≤v.fst∧v.fst < (↑(List.length x.fst.snd.fst):Int)∧∀ (c0:Int×List Int×Int×Unit),x.fst.snd.fst[Int.toNat v.fst]?=some c0→
  List.length c0.snd.fst≤(9223372036854775807:Nat)→
  (64:Int)≠(0:Int)∧((0:Int)≤IntKind.wrap IntKind.i64 (v.fst+(1:Int))∧IntKind.wrap IntKind.i64 (v.fst+(1:Int))≤(↑(List.length x.fst.snd.fst):Int)∧itSum (IntKind.wrap IntKind.i64 (v.snd.fst+IntKind.wrap IntKind.i64 ((1:Int)+IntKind.wrap IntKind.i64 (Int.tdiv (↑(List.length c0.snd.fst):Int) (64:Int))))) (List.drop (Int.toNat (IntKind.wrap IntKind.i64 (v.fst+(1:Int)))) x.fst.snd.fst)=itSum (0:Int) x.fst.snd.fst)∧Int.toNat ((↑(List.length x.fst.snd.fst):Int) - IntKind.wrap IntKind.i64 (v.fst+(1:Int))) < Int.toNat ((↑(List.length x.fst.snd.fst):Int) - v.fst) else (decide (v.snd.fst≤(150:Int)),())=(fewI x.fst,())):=by kernel_rfl
theorem en_fewi (us:Array Value) (u:World):(callFunc 76 us).run Tryz.prog u=.ok (.enter 76 us) u:=by kernel_rfl
theorem sc_fewi:SC Tryz.prog 76 S_fewi:=by
  refine SC.of Tryz.func76 (c:=bodyOf Tryz.f76) (by kernel_rfl) (by kernel_rfl) (fun x=>(by decide:(1:Nat)≤Tryz.f76.ntmps)) DOk.nil (Eq.mpr vc_fewi ?_)
  rintro ⟨⟨n,l,⟨⟩⟩,⟨⟩⟩ h1 - -
  dsimp only at h1 ⊢
  have e1:l.length≤1000000000:=h1
  refine ⟨⟨Int.le_refl 0,by omega,rfl⟩,?_⟩
  rintro ⟨i,s,⟨⟩⟩ ⟨q0,q1,hg⟩
  dsimp only at q0 q1 hg ⊢
  have wi:IntKind.i64.wrap (i+1)=i+1:=IntWalk.i64_in _ (by omega)
  by_cases hi:i < (l.length:Int)
  · rw [decide_eq_true hi,cond_true,wi]
    refine ⟨q0,hi,fun c hc _=>?_⟩
    rw [drop_of hc,itSum] at hg
    refine ⟨by decide,⟨by omega,by omega,?_⟩,by omega⟩
    rw [show (i+1).toNat=i.toNat+1 by omega]
    exact hg
  · rw [decide_eq_false hi,cond_false]
    rw [List.drop_eq_nil_of_le (by omega),itSum] at hg
    rw [hg]
    rfl
theorem vc_few:VC Tryz.prog Tryz.f48 (bodyOf Tryz.f48) S_few [(75,S_fewo),(76,S_fewi)] A_few=(∀ (x:(Int×(Int×Int×List Int×Unit)×List (Int×(Int×List (Int×List Int×Int×Unit)×List (List Int)×Unit)×(Int×List (Int×List Int×Int×Unit)×Unit)×Unit)×Unit)×Unit),okPo x.fst→
  List.length x.fst.snd.fst.snd.snd.fst≤(9223372036854775807:Nat)→
  List.length x.fst.snd.snd.fst≤(9223372036854775807:Nat)→
  List.length x.fst.snd.snd.fst≤(9223372036854775807:Nat)→
  ((0:Int)≤(0:Int)∧(0:Int)≤(↑(List.length x.fst.snd.snd.fst):Int)∧List.all (List.drop (Int.toNat (0:Int)) x.fst.snd.snd.fst) fewPe=List.all x.fst.snd.snd.fst fewPe)∧∀ (v:Int×Unit),(0:Int)≤v.fst∧v.fst≤(↑(List.length x.fst.snd.snd.fst):Int)∧List.all (List.drop (Int.toNat v.fst) x.fst.snd.snd.fst) fewPe=List.all x.fst.snd.snd.fst fewPe→
  bif decide (v.fst < (↑(List.length x.fst.snd.snd.fst):Int)) then (0:Int)≤v.fst∧v.fst < (↑(List.length x.fst.snd.snd.fst):Int)∧∀ (c0:Int×(Int×List (Int×List Int×Int×Unit)×List (List Int)×Unit)×(Int×List (Int×List Int×Int×Unit)×Unit)×Unit),x.fst.snd.snd.fst[Int.toNat v.fst]?=some c0→
  (List.length c0.snd.fst.snd.fst≤big∧List.length c0.snd.fst.snd.snd.fst≤big)∧bif !fewO c0.snd.fst then (false,())=(fewP x.fst,()) else List.length c0.snd.snd.fst.snd.fst≤big∧bif !fewI c0.snd.snd.fst then (false,())=(fewP x.fst,()) else List.length c0.snd.fst.snd.fst≤(9223372036854775807:Nat)→
  bif decide ((30:Int) < (↑(List.length c0.snd.fst.snd.fst):Int)) then (false,())=(fewP x.fst,()) else ((0:Int)≤IntKind.wrap IntKind.i64 (v.fst+(1:Int))∧IntKind.wrap IntKind.i64 (v.fst+(1:Int))≤(↑(List.length x.fst.snd.snd.fst):Int)∧List.all (List.drop (Int.toNat (IntKind.wrap IntKind.i64 (v.fst+(1:Int)))) x.fst.snd.snd.fst) fewPe=List.all x.fst.snd.snd.fst fewPe)∧Int.toNat ((↑(List.length x.fst.snd.snd.fst):Int) - IntKind.wrap IntKind.i64 (v.fst+(1:Int))) < Int.toNat ((↑(List.length x.fst.snd.snd.fst):Int) - v.fst) else List.length x.fst.snd.snd.fst≤(9223372036854775807:Nat)→
  bif decide ((↑(List.length x.fst.snd.snd.fst):Int)≤(8:Int)) then List.length x.fst.snd.fst.snd.snd.fst≤(9223372036854775807:Nat)→
  (decide ((↑(List.length x.fst.snd.fst.snd.snd.fst):Int)≤(60:Int)),())=(fewP x.fst,()) else (false,())=(fewP x.fst,())):=by kernel_rfl
theorem en_few (us:Array Value) (u:World):(callFunc 48 us).run Tryz.prog u=.ok (.enter 48 us) u:=by kernel_rfl
theorem sc_few:SC Tryz.prog 48 S_few:=by
  refine SC.of Tryz.func48 (c:=bodyOf Tryz.f48) (by kernel_rfl) (by kernel_rfl) (fun x=>(by decide:(1:Nat)≤Tryz.f48.ntmps)) (DOk.cons sc_fewo en_fewo (DOk.cons sc_fewi en_fewi DOk.nil)) (Eq.mpr vc_few ?_)
  rintro ⟨⟨n,s,l,⟨⟩⟩,⟨⟩⟩ ⟨h0,h1,h2⟩ - - -
  dsimp only at h0 h1 h2 ⊢
  have e1:l.length≤1000000000:=h1
  refine ⟨⟨Int.le_refl 0,by omega,rfl⟩,?_⟩
  rintro ⟨i,⟨⟩⟩ ⟨q0,q1,hg⟩
  dsimp only at q0 q1 hg ⊢
  have wi:IntKind.i64.wrap (i+1)=i+1:=IntWalk.i64_in _ (by omega)
  by_cases hi:i < (l.length:Int)
  · rw [decide_eq_true hi,cond_true,wi]
    refine ⟨q0,hi,fun c hc=>?_⟩
    obtain ⟨⟨k1,k2⟩,k3⟩:=h2 c (List.mem_of_getElem? hc)
    rw [drop_of hc,List.all_cons] at hg
    have bad:fewPe c=false→((false,()):Bool×Unit)=(fewP (n,s,l,()),()):=fun h=>by
      rw [h,Bool.false_and] at hg
      unfold fewP
      dsimp only
      rw [← hg]
      rfl
    refine ⟨⟨k1.1,k2.1⟩,?_⟩
    cases ha:fewO c.2.1
    · rw [Bool.not_false,cond_true]
      exact bad (by rw [fewPe,ha];rfl)
    rw [Bool.not_true,cond_false]
    refine ⟨k3.1,?_⟩
    cases hb:fewI c.2.2.1
    · rw [Bool.not_false,cond_true]
      exact bad (by rw [fewPe,ha,hb];rfl)
    rw [Bool.not_true,cond_false]
    intro _
    by_cases h30:30 < (c.2.1.2.1.length:Int)
    · rw [decide_eq_true h30,cond_true]
      exact bad (by rw [fewPe,ha,hb,decide_eq_true h30];rfl)
    rw [decide_eq_false h30,cond_false]
    refine ⟨⟨by omega,by omega,?_⟩,by omega⟩
    rw [show (i+1).toNat=i.toNat+1 by omega]
    rw [show fewPe c=true by rw [fewPe,ha,hb,decide_eq_false h30];rfl,Bool.true_and] at hg
    exact hg
  · rw [decide_eq_false hi,cond_false]
    rw [List.drop_eq_nil_of_le (by omega),List.all_nil] at hg
    intro _
    by_cases h8:(l.length:Int)≤8
    · rw [decide_eq_true h8,cond_true]
      intro _
      unfold fewP
      dsimp only
      rw [← hg,decide_eq_true h8]
      rfl
    · rw [decide_eq_false h8,cond_false]
      unfold fewP
      dsimp only
      rw [← hg,decide_eq_false h8]
      rfl
theorem vc_fewq:VC Tryz.prog Tryz.f8 (bodyOf Tryz.f8) S_fewq [] A_fewq=(∀ (x:(Int×List (Bool×Int×Int×Int×List Int×Unit)×Unit)×Unit),List.length x.fst.snd.fst≤big→
  List.length x.fst.snd.fst≤(9223372036854775807:Nat)→
  List.length x.fst.snd.fst≤(9223372036854775807:Nat)→
  ((0:Int)≤(0:Int)∧(0:Int)≤(↑(List.length x.fst.snd.fst):Int)∧lSum (0:Int) (List.drop (Int.toNat (0:Int)) x.fst.snd.fst)=lSum (0:Int) x.fst.snd.fst)∧∀ (v:Int×Int×Unit),(0:Int)≤v.fst∧v.fst≤(↑(List.length x.fst.snd.fst):Int)∧lSum v.snd.fst (List.drop (Int.toNat v.fst) x.fst.snd.fst)=lSum (0:Int) x.fst.snd.fst→
  bif decide (v.fst < (↑(List.length x.fst.snd.fst):Int)) then (0:Int)≤v.fst∧v.fst < (↑(List.length x.fst.snd.fst):Int)∧∀ (c0:Bool×Int×Int×Int×List Int×Unit),x.fst.snd.fst[Int.toNat v.fst]?=some c0→
  List.length c0.snd.snd.snd.snd.fst≤(9223372036854775807:Nat)→
  (64:Int)≠(0:Int)∧((0:Int)≤IntKind.wrap IntKind.i64 (v.fst+(1:Int))∧IntKind.wrap IntKind.i64 (v.fst+(1:Int))≤(↑(List.length x.fst.snd.fst):Int)∧lSum (IntKind.wrap IntKind.i64 (v.snd.fst+IntKind.wrap IntKind.i64 ((1:Int)+IntKind.wrap IntKind.i64 (Int.tdiv (↑(List.length c0.snd.snd.snd.snd.fst):Int) (64:Int))))) (List.drop (Int.toNat (IntKind.wrap IntKind.i64 (v.fst+(1:Int)))) x.fst.snd.fst)=lSum (0:Int) x.fst.snd.fst)∧Int.toNat ((↑(List.length x.fst.snd.fst):Int) - IntKind.wrap IntKind.i64 (v.fst+(1:Int))) < Int.toNat ((↑(List.length x.fst.snd.fst):Int) - v.fst) else (decide (v.snd.fst≤(150:Int)),())=(fewQ x.fst,())):=by kernel_rfl
theorem en_fewq (us:Array Value) (u:World):(callFunc 8 us).run Tryz.prog u=.ok (.enter 8 us) u:=by kernel_rfl
theorem sc_fewq:SC Tryz.prog 8 S_fewq:=by
  refine SC.of Tryz.func8 (c:=bodyOf Tryz.f8) (by kernel_rfl) (by kernel_rfl) (fun x=>(by decide:(1:Nat)≤Tryz.f8.ntmps)) DOk.nil (Eq.mpr vc_fewq ?_)
  rintro ⟨⟨n,l,⟨⟩⟩,⟨⟩⟩ h1 - -
  dsimp only at h1 ⊢
  have e1:l.length≤1000000000:=h1
  refine ⟨⟨Int.le_refl 0,by omega,rfl⟩,?_⟩
  rintro ⟨i,s,⟨⟩⟩ ⟨q0,q1,hg⟩
  dsimp only at q0 q1 hg ⊢
  have wi:IntKind.i64.wrap (i+1)=i+1:=IntWalk.i64_in _ (by omega)
  by_cases hi:i < (l.length:Int)
  · rw [decide_eq_true hi,cond_true,wi]
    refine ⟨q0,hi,fun c hc _=>?_⟩
    rw [drop_of hc,lSum] at hg
    refine ⟨by decide,⟨by omega,by omega,?_⟩,by omega⟩
    rw [show (i+1).toNat=i.toNat+1 by omega]
    exact hg
  · rw [decide_eq_false hi,cond_false]
    rw [List.drop_eq_nil_of_le (by omega),lSum] at hg
    rw [hg]
    rfl
theorem vc_fewc:VC Tryz.prog Tryz.f27 (bodyOf Tryz.f27) S_fewc [(48,S_few),(8,S_fewq)] (fun _ _=>none)=(∀ (x:(Int×(Int×(Int×Int×List Int×Unit)×List (Int×(Int×List (Int×List Int×Int×Unit)×List (List Int)×Unit)×(Int×List (Int×List Int×Int×Unit)×Unit)×Unit)×Unit)×(Int×List (Bool×Int×Int×Int×List Int×Unit)×Unit)×Bool×List Int×Int×Unit)×Unit),okPo x.fst.snd.fst∧List.length x.fst.snd.snd.fst.snd.fst≤big→
  List.length x.fst.snd.fst.snd.fst.snd.snd.fst≤(9223372036854775807:Nat)→
  List.length x.fst.snd.fst.snd.snd.fst≤(9223372036854775807:Nat)→
  List.length x.fst.snd.snd.fst.snd.fst≤(9223372036854775807:Nat)→
  List.length x.fst.snd.snd.snd.snd.fst≤(9223372036854775807:Nat)→
  okPo x.fst.snd.fst∧bif fewP x.fst.snd.fst then List.length x.fst.snd.snd.fst.snd.fst≤big∧bif fewQ x.fst.snd.snd.fst then List.length x.fst.snd.snd.snd.snd.fst≤(9223372036854775807:Nat)→
  (decide ((↑(List.length x.fst.snd.snd.snd.snd.fst):Int)≤(200:Int)),())=(fewC x.fst,()) else (false,())=(fewC x.fst,()) else (false,())=(fewC x.fst,())):=by kernel_rfl
theorem en_fewc (us:Array Value) (u:World):(callFunc 27 us).run Tryz.prog u=.ok (.enter 27 us) u:=by kernel_rfl
theorem sc_fewc:SC Tryz.prog 27 S_fewc:=by
  refine SC.of Tryz.func27 (c:=bodyOf Tryz.f27) (by kernel_rfl) (by kernel_rfl) (fun x=>(by decide:(1:Nat)≤Tryz.f27.ntmps)) (DOk.cons sc_few en_few (DOk.cons sc_fewq en_fewq DOk.nil)) (Eq.mpr vc_fewc ?_)
  rintro ⟨⟨w,p,q,sd,wn,sq,⟨⟩⟩,⟨⟩⟩ ⟨h1,h2⟩ - - - -
  dsimp only [fewC] at h1 h2 ⊢
  refine ⟨h1,?_⟩
  cases fewP p
  · rfl
  rw [cond_true]
  refine ⟨h2,?_⟩
  cases fewQ q
  · rfl
  rw [cond_true]
  exact fun _=>rfl
theorem vc_plain:VC Tryz.prog Tryz.f25 (bodyOf Tryz.f25) S_plain [] (fun _ _=>none)=(∀ (x:Unit),True→
  (([],(2:Int),(1:Int),(2:Int),(3:Int),(4:Int),(20:Int),(5:Int),(4:Int),(1:Int),(1:Int),()),())=(plainC,())):=by kernel_rfl
theorem en_plain (us:Array Value) (u:World):(callFunc 25 us).run Tryz.prog u=.ok (.enter 25 us) u:=by kernel_rfl
theorem sc_plain:SC Tryz.prog 25 S_plain:=by
  refine SC.of Tryz.func25 (c:=bodyOf Tryz.f25) (by kernel_rfl) (by kernel_rfl) (fun x=>(by decide:(0:Nat)≤Tryz.f25.ntmps)) DOk.nil (Eq.mpr vc_plain ?_)
  intro x _
  rfl
theorem vc_may:VC Tryz.prog Tryz.f7 (bodyOf Tryz.f7) S_may [(16,S_rchk),(27,S_fewc)] (fun _ _=>none)=(∀ (x:(List Int×Int×Int×Int×Int×Int×Int×Int×Int×Int×Int×Unit)×(Int×(Int×(Int×Int×List Int×Unit)×List (Int×(Int×List (Int×List Int×Int×Unit)×List (List Int)×Unit)×(Int×List (Int×List Int×Int×Unit)×Unit)×Unit)×Unit)×(Int×List (Bool×Int×Int×Int×List Int×Unit)×Unit)×Bool×List Int×Int×Unit)×Unit),okPo x.snd.fst.snd.fst∧List.length x.snd.fst.snd.snd.fst.snd.fst≤big→
  List.length x.fst.fst≤(9223372036854775807:Nat)→
  List.length x.snd.fst.snd.fst.snd.fst.snd.snd.fst≤(9223372036854775807:Nat)→
  List.length x.snd.fst.snd.fst.snd.snd.fst≤(9223372036854775807:Nat)→
  List.length x.snd.fst.snd.snd.fst.snd.fst≤(9223372036854775807:Nat)→
  List.length x.snd.fst.snd.snd.snd.snd.fst≤(9223372036854775807:Nat)→
  True∧bif kchkF x.fst==(0:Int) then (okPo x.snd.fst.snd.fst∧List.length x.snd.fst.snd.snd.fst.snd.fst≤big)∧(fewC x.snd.fst,())=(mayC x.fst x.snd.fst,()) else (false,())=(mayC x.fst x.snd.fst,())):=by kernel_rfl
theorem en_may (us:Array Value) (u:World):(callFunc 7 us).run Tryz.prog u=.ok (.enter 7 us) u:=by kernel_rfl
theorem sc_may:SC Tryz.prog 7 S_may:=by
  refine SC.of Tryz.func7 (c:=bodyOf Tryz.f7) (by kernel_rfl) (by kernel_rfl) (fun x=>(by decide:(2:Nat)≤Tryz.f7.ntmps)) (DOk.cons sc_rchk en_rchk (DOk.cons sc_fewc en_fewc DOk.nil)) (Eq.mpr vc_may ?_)
  rintro ⟨c,x,⟨⟩⟩ h - - - - -
  dsimp only [mayC] at h ⊢
  refine ⟨trivial,?_⟩
  cases kchkF c==0
  · rfl
  · exact ⟨h,rfl⟩
end Go.Proofs.YtjkbkhjalimebaaGreatDoor
namespace Go.Proofs.YtjkbkhjalimebaaGreatDoor
open Go.RowKit DoorU
set_option linter.unusedVariables false
set_option linter.unusedSimpArgs false
set_option maxRecDepth 100000
namespace DoorU
def anFr (node:Int) (s:Sta):Fra:=(0,node,s,1,0,anB,())
def ackFr (node:Int) (s:Sta):Fra:=(node,0,s,2,1,[],())
def pe0:Pee:=(0,(0,[],[],()),(1,[],()),())
def pe1 (n:Int) (b:List Int) (now:Int):Pee:=(n,(1,[itm 0 b now],[],()),(0,[],()),())
theorem kchk_ok {c:Cfg} (h:kchkF c=0):okC c=true:=by
  unfold kchkF at h
  split at h
  · assumption
  · cases h
theorem okC_in {c:Cfg} (h:kchkF c=0):c.1.length≤64∧(1≤c.2.1∧c.2.1≤8)∧(0≤c.2.2.1∧c.2.2.1≤8)∧(1≤c.2.2.2.1∧c.2.2.2.1≤8)∧(1≤winC c∧winC c≤64)∧1≤c.2.2.2.2.2.2.2.2.2.2.1:=by
  have h:=kchk_ok h
  unfold okC wit at h
  simp only [Bool.and_eq_true,decide_eq_true_eq] at h
  obtain ⟨h1,h2,h3,h4,_,_,_,_,_,h10,_,h12⟩:=h
  exact ⟨h1,h2,h3,h4,h10,h12⟩
theorem serv_in {c:Cfg} (h:kchkF c=0):serversF c=c.2.1+c.2.2.1∧nodesF c=1+c.2.1+c.2.2.1+c.2.2.2.1:=by
  obtain ⟨_,h2,h3,h4,_⟩:=okC_in h
  have e1:serversF c=c.2.1+c.2.2.1:=by unfold serversF;exact IntWalk.i64_in _ (by omega)
  refine ⟨e1,?_⟩
  unfold nodesF
  rw [e1,IntWalk.i64_in (1+(c.2.1+c.2.2.1)) (by omega),IntWalk.i64_in _ (by omega)]
  omega
theorem node_in {c:Cfg} (h:kchkF c=0) {w:Int} (h0:¬ nodeF c w < 0):0≤w∧w < c.2.2.2.1∧nodeF c w=1+c.2.1+c.2.2.1+w:=by
  obtain ⟨_,h2,h3,h4,_⟩:=okC_in h
  obtain ⟨e1,_⟩:=serv_in h
  unfold nodeF at h0 ⊢
  by_cases a1:w < 0
  · rw [decide_eq_true a1,cond_true] at h0
    exact absurd (by decide) h0
  rw [decide_eq_false a1,cond_false] at h0 ⊢
  by_cases a2:c.2.2.2.1≤w
  · rw [decide_eq_true a2,cond_true] at h0
    exact absurd (by decide) h0
  rw [decide_eq_false a2,cond_false] at h0 ⊢
  refine ⟨by omega,by omega,?_⟩
  unfold i64
  rw [e1,IntWalk.i64_in (1+(c.2.1+c.2.2.1)) (by omega),IntWalk.i64_in _ (by omega)]
  omega
theorem frChk_of {a b:Int} {s:Sta} {k q:Int} {bd:List Int} (ha:0≤a∧a≤24) (hb:0≤b∧b≤24) (hab:a≠b) (hs:stChk s=0) (hq:0≤q∧q≤2147483647) (hk:(k=1∧bd.length≤65536)∨(k=2∧bd.length=0)):frChk (a,b,s,k,q,bd,())=0:=by
  unfold frChk
  dsimp only
  rw [if_neg (by omega),if_neg (by omega),if_neg (by omega),if_neg (by omega),if_neg hab,if_pos hs,if_neg (by omega),if_neg (by omega)]
  rcases hk with ⟨h1,h2⟩ | ⟨h1,h2⟩
  · rw [if_pos h1,if_neg (by omega)]
  · rw [if_neg (by omega),if_pos h1,if_neg (by omega)]
theorem nt_an:ntF anB=((1,[],0,false,()),0,()):=by decide
theorem tak_new {w:Int} (h1:1≤w) (h2:w≤64):takF (0,[],()) 0 anB w=((1,[],()),[anB],1,()):=by
  have hw:i64 (0+w)=w:=by unfold i64;rw [Int.zero_add];exact IntWalk.i64_in _ (by omega)
  have ht:tkH (0,[],()) 0 w=true:=by
    unfold tkH
    dsimp only
    rw [hw,decide_eq_true (Int.le_refl 0),decide_eq_true (by omega:(0:Int) < w)]
    rfl
  have hL:tkL (0,[],()) 0 anB w=[itm 0 anB 0]:=by unfold tkL;rw [if_pos ht];rfl
  have hM:tkM (0,[],()) 0 w=[(0,0)]:=by unfold tkM;rw [if_pos ht];rfl
  have hE:tkE (0,[],()) 0 anB w=(1,[true],[anB]):=by unfold tkE;rw [hL,hM];rfl
  unfold takF
  rw [hE,hL]
  rfl
theorem okSt_S {s:Sta} (h:stChk s=0):1≤s.2.2.1.length∧s.2.2.1.length≤8:=okS_len (stChk_0 h)
theorem pt_an {c:Cfg} (hc:kchkF c=0) {P:Pos} {s:Sta} (now:Int) (hn:0 < P.1∧P.1≤24) (hs:stChk s=0) (ho:okSt s):ptF c P 0 (anBt c 0 P.1 s 0) now=ptG c P 0 (anFr P.1 s) now:=by
  obtain ⟨e1,e2⟩:=serv_in hc
  obtain ⟨_,h2,h3,h4,_⟩:=okC_in hc
  have hi:isNodeF c 0=true:=by
    unfold isNodeF
    rw [e2,decide_eq_true (Int.le_refl 0),decide_eq_true (by omega)]
    rfl
  have hf:frChk (anFr P.1 s)=0:=frChk_of (by omega) (by omega) (by omega) hs (by omega) (.inl ⟨rfl,by decide⟩)
  obtain ⟨t0,t1⟩:=frTk_put (pairF c 0 P.1) (f:=anFr P.1 s) hf ho
  unfold ptF
  rw [if_neg (by rw [hi];rintro (h | h);cases h;omega),show anBt c 0 P.1 s 0=frPutF (pairF c 0 P.1) (anFr P.1 s) from rfl,if_neg (fun h=>h t0),t1]
theorem pt_new {c:Cfg} (hc:kchkF c=0) {P:Pos} {s:Sta} (now:Int) (hn:0 < P.1∧P.1≤24) (hs:stChk s=0) (ho:okSt s) (hb:0 < stCmp s P.2.1):ptF c P 0 (anBt c 0 P.1 s 0) now=((P.1,s,[pe0],()),[anB],[(0,frPutF (pairF c P.1 0) (ackFr P.1 s),false,())],0,()):=by
  obtain ⟨_,_,_,_,hw,_⟩:=okC_in hc
  have hg:goF P s=(P.1,s,[],()):=by rw [goF,if_neg (by omega)]
  have hE:linkE (P.1,s,[],()) 0=newPe 0:=rfl
  have hT:tkT c P 0 (anFr P.1 s)=((1,[],()),[anB],1,()):=by
    unfold tkT
    rw [show (anFr P.1 s).2.2.1=s from rfl,hg,hE]
    exact tak_new hw.1 hw.2
  have hP:tkTP c P 0 (anFr P.1 s)=(P.1,s,[pe0],()):=by
    unfold tkTP
    rw [hT,show (anFr P.1 s).2.2.1=s from rfl,hg,hE]
    rfl
  rw [pt_an hc now hn hs ho,ptG,if_neg (by rintro (h | h);exact h rfl;exact h rfl),if_neg (by rw [show (anFr P.1 s).2.2.1=s from rfl];omega),if_neg (by show ¬ (1:Int)=2;decide),hT,hP,show (anFr P.1 s).2.2.1=s from rfl,hg]
  dsimp only
  rw [parF,if_pos (frChk_of (by omega) (by omega) (by omega) hs (by omega) (.inr ⟨rfl,rfl⟩))]
  rfl
theorem cmp_0 {a b:Int} (h:a=b):cmpF a b=0:=by unfold cmpF;rw [if_neg (by omega),if_neg (by omega)]
theorem stCmp_ne {s t:Sta} (h:stCmp s t≠0):s.1≠t.1∨s.2.1≠t.2.1:=by
  by_cases e1:s.1=t.1
  · by_cases e2:s.2.1=t.2.1
    · exfalso
      apply h
      unfold stCmp
      rw [if_pos (cmp_0 e1),cmp_0 e2]
    · exact .inr e2
  · exact .inl e1
theorem wrG_len {s n:List (List Int)} (hn:∀ c∈n,c.length=16):∀ (L:Nat) (b:List Int),L≤n.length→(wrG s n L b).length=b.length+48*L
  | 0,b,_=>rfl
  | L + 1, b, h => by
    rw [wrG,wrG_len hn L _ (by omega),seF_len,List.getD_eq_getElem?_getD,List.getElem?_eq_getElem (by omega),show (some (n[L]'(by omega))).getD []=n[L]'(by omega) from rfl,hn _ (List.getElem_mem _)]
    omega
theorem non_16 {k:List Int} {s:Sta}:∀ c∈nonF k s,c.length=16:=fun c hc=>by
  have:=List.all_eq_true.1 (non16 k s) c hc
  unfold is16 at this
  exact eq_of_beq this
theorem onB_len {c:Cfg} {x:Cli} {s:Sta} (hl:lcF (hdL x.2.2.1)=0):(onB c x s).length=78+48*s.2.2.1.length:=by
  unfold onB onnF
  rw [wrG_len non_16 _ _ (by rw [nonF_len];exact Nat.le_refl _),lpB_len hl]
theorem hid_byt (k b:List Int):byt (hidF k b):=fun x hx=>by
  unfold hidF xorF at hx
  rw [List.zipWith_eq_zipWith_take_min] at hx
  obtain ⟨i,hi⟩:=List.getElem?_of_mem hx
  rw [List.getElem?_zipWith] at hi
  have key:∀ a b:Int,0≤xorI .u8 a b∧xorI .u8 a b < 256:=fun a b=>by unfold xorI;rw [w8_of];omega
  split at hi
  · cases hi
    exact key _ _
  · cases hi
theorem se_byt {s n p:List Int} (hn:byt n):byt (seF s n p):=by
  unfold seF seB
  exact byt_app (byt_app hn (hid_byt _ _)) (tagF_byt _ _)
theorem wrG_byt {s n:List (List Int)} (hn:∀ c∈n,byt c):∀ (L:Nat) (b:List Int),1≤L→L≤n.length→byt (wrG s n L b)
  | 1, b, _, h => by
    rw [wrG,wrG]
    refine se_byt ?_
    rw [List.getD_eq_getElem?_getD,List.getElem?_eq_getElem (by omega)]
    exact hn _ (List.getElem_mem _)
  | L + 2, b, _, h => by
    rw [wrG]
    exact wrG_byt hn (L+1) _ (by omega) (by omega)
theorem non_byt {k:List Int} {s:Sta}:∀ c∈nonF k s,byt c:=fun c hc=>by
  unfold nonF at hc
  obtain ⟨i,_,rfl⟩:=List.mem_map.1 hc
  exact byt_take (tagF_byt _ _) 16
theorem putR_byt (n w:Int):byt (putR n w):=by
  unfold putR
  split
  · exact putI_byt _ _
  · exact fun x hx=>(List.not_mem_nil hx).elim
def subL (o:List Int):List Int:=([w8 3]++putR 1 2)++(putR o.length 2++o)
theorem sub_eq {o:List Int} (ho:o.length≤1024):npF (3,[o],0,false,())=(subL o,0,())∧(subL o).length=5+o.length:=by
  have hE:nkE (3,[o],0,false,())=0:=by
    unfold nkE noteE
    dsimp only
    have hS:spanOf 3=(1,1,true):=by decide
    rw [hS,if_neg (by rintro (h | h | h);cases h;(simp at h);(simp at h)),if_neg (by rintro (⟨h,_⟩ | ⟨_,h⟩);cases h;(rcases h with h | h;exact h rfl;cases h)),if_neg]
    rintro ⟨l,h1,h2⟩
    rw [List.mem_singleton] at h1
    subst h1
    omega
  refine ⟨?_,?_⟩
  · rw [npF,beq_iff_eq.2 hE,cond_true]
    unfold npL subL npP
    simp only [List.flatMap_cons,List.flatMap_nil,List.append_nil]
    rw [show ((3:Int)==7)=false from rfl,cond_false,List.append_nil]
    rfl
  · unfold subL
    rw [List.length_append,List.length_append,List.length_append,putR2 (n:=1) (by decide) (by decide),putR2 (n:=(o.length:Nat)) (by omega) (by omega),putI_len,putI_len]
    show 1+2+(2+o.length)=_
    omega
end DoorU
end Go.Proofs.YtjkbkhjalimebaaGreatDoor
namespace Go.Proofs.YtjkbkhjalimebaaGreatDoor
open Go.RowKit DoorU
set_option linter.unusedVariables false
set_option linter.unusedSimpArgs false
set_option maxRecDepth 100000
namespace DoorU
theorem link_1 {n:Int} (hn:0 < n):lnkL [pe0] n=[pe0,newPe n]∧lnkI [pe0] n=1:=by
  have e1:eqAt [pe0] n=1:=by
    unfold eqAt
    rw [List.findIdx_cons,show (pe0.1==n)=false from beq_eq_false_iff_ne.2 (by show (0:Int)≠n;omega)]
    rfl
  have e2:gtAt [pe0] n=1:=by
    unfold gtAt
    rw [List.findIdx_cons,show decide (n < pe0.1)=false from decide_eq_false (by show ¬ n < 0;omega)]
    rfl
  unfold lnkL lnkI
  rw [e1,e2]
  exact ⟨rfl,rfl⟩
theorem ps_new {c:Cfg} (hc:kchkF c=0) {n n0 now:Int} {s:Sta} {b:List Int} (hn:0 < n∧n≤24) (h0:isSv c n0=true) (hne:n0≠n) (hs:stChk s=0) (hb:b.length≤65536):
    psF c (n,s,[pe0],()) n0 b now=((n,s,[pe0,pe1 n0 b now],()),[(n0,frPutF (pairF c n n0) (n,n0,s,1,0,b,()),true,())],0,())∧(frPutF (pairF c n n0) (n,n0,s,1,0,b,())).length=60+s.2.2.1.length+b.length:=by
  obtain ⟨e1,e2⟩:=serv_in hc
  obtain ⟨_,h2,h3,h4,hw,_⟩:=okC_in hc
  unfold isSv wit at h0
  rw [e1,Bool.and_eq_true,decide_eq_true_eq,decide_eq_true_eq] at h0
  have hi:isNodeF c n0=true:=by
    unfold isNodeF
    rw [e2,decide_eq_true (by omega),decide_eq_true (by omega)]
    rfl
  obtain ⟨l1,l2⟩:=link_1 (n:=n0) (by omega)
  have hE:linkE (n,s,[pe0],()) n0=newPe n0:=by unfold linkE;dsimp only;rw [l1,l2];rfl
  have hQ:sndQ c (n,s,[pe0],()) n0 b now=((1,[itm 0 b now],[],()),[itm 0 b now],()):=by
    unfold sndQ
    rw [hE]
    unfold sendF
    rw [if_neg (by show ¬ winC c≤((0:Nat):Int);omega)]
    rfl
  have hP:sndP c (n,s,[pe0],()) n0 b now=(n,s,[pe0,pe1 n0 b now],()):=by
    unfold sndP
    rw [hQ,hE]
    unfold putPe
    dsimp only
    rw [l1,l2]
    rfl
  have hf:frChk (n,n0,s,1,0,b,())=0:=frChk_of (by omega) (by omega) (by omega) hs (by omega) (.inl ⟨rfl,hb⟩)
  refine ⟨?_,frPutF_len _ hf⟩
  unfold psF
  rw [if_neg (by rw [hi];rintro (h | h | h);cases h;exact hne h;exact h hs),if_neg (by omega),hP,hQ]
  have eI:iparF c (n,s,[pe0,pe1 n0 b now],()) n0 [itm 0 b now] true=[(n0,frPutF (pairF c n n0) (n,n0,s,1,0,b,()),true,())]:=by
    unfold iparF
    rw [List.flatMap_cons,List.flatMap_nil,List.append_nil]
    show parF c (n,n0,s,1,0,b,()) true=_
    rw [parF,if_pos hf]
  exact congrArg (fun z=>((n,s,[pe0,pe1 n0 b now],()),z,0,())) eI
theorem hear_new {c:Cfg} (hc:kchkF c=0) {x:Cli} {s:Sta} (now:Int) (hw:¬ nodeF c x.1 < 0) (hx:x.2.1.1=nodeF c x.1) (hs:stChk s=0) (ho:okSt s) (hv:s.2.2.1.all (isSv c)=true) (hq:lcF (hdL x.2.2.1)=0) (hb:0 < stCmp s x.2.1.2.1):
    ∃ (n0 : Int) (b ab pb want : List Int) (sq : Int) (r : List Int), s.2.2.1 = n0 :: r ∧ isSv c n0 = true ∧ b.length ≤ 65536 ∧ byt b ∧ byt want ∧ ((hdL x.2.2.1).1 = true → want = []) ∧ pb.length = 60 + s.2.2.1.length + 5 + (78 + 48 * s.2.2.1.length) ∧
      hrF c x 0 (anBt c 0 x.2.1.1 s 0) now=((x.1,(x.2.1.1,s,[pe0,pe1 n0 b now],()),x.2.2.1,true,want,sq,()),[(0,ab,false,()),(n0,pb,true,())],0,()):=by
  obtain ⟨l1,l8⟩:=okSt_S hs
  obtain ⟨w0,w1,w2⟩:=node_in hc hw
  obtain ⟨e1,e2⟩:=serv_in hc
  obtain ⟨_,h2,h3,h4,_⟩:=okC_in hc
  have hn:0 < x.2.1.1∧x.2.1.1≤24:=by rw [hx,w2];omega
  obtain ⟨n0,r,hch⟩:∃ n0 r,s.2.2.1=n0::r:=by
    cases h:s.2.2.1 with
    | nil=>rw [h] at l1;simp at l1
    | cons a r=>exact ⟨a,r,rfl⟩
  have hSv:isSv c n0=true:=List.all_eq_true.1 hv n0 (by rw [hch];exact List.mem_cons_self ..)
  have h0':=hSv
  unfold isSv wit at h0'
  rw [e1,Bool.and_eq_true,decide_eq_true_eq,decide_eq_true_eq] at h0'
  have hne:n0≠x.2.1.1:=by rw [hx,w2];omega
  have eP:hrP c x 0 (anBt c 0 x.2.1.1 s 0) now=((x.2.1.1,s,[pe0],()),[anB],[(0,frPutF (pairF c x.2.1.1 0) (ackFr x.2.1.1 s),false,())],0,()):=pt_new hc now hn hs ho hb
  have hN:hrN x (x.2.1.1,s,[pe0],())=true:=by
    unfold hrN
    rcases stCmp_ne (s:=s) (t:=x.2.1.2.1) (by omega) with h | h
    · rw [bneT h,Bool.true_or]
    · rw [bneT h,Bool.or_true]
  obtain ⟨ab,hab⟩:∃ ab,frPutF (pairF c x.2.1.1 0) (ackFr x.2.1.1 s)=ab:=⟨_,rfl⟩
  rw [hab] at eP
  let x0:Cli:=(x.1,(x.2.1.1,s,[pe0],()),x.2.2.1,false,[],0,())
  let h0:Hea:=(x0,c,0,now,[(0,ab,false,())],())
  have eO:anO h0=(onB c x0 s,onW c x0 s,0,()):=by
    have hE:onE c x0 s=0:=by
      unfold onE
      rw [if_neg (by rintro (h | h | h);exact hw h;exact h hs;(rw [hv] at h;cases h))]
      exact hq
    show oniF c x0 s=_
    unfold oniF
    rw [if_neg (by rw [hE];decide)]
  have ol:(onB c x0 s).length=78+48*s.2.2.1.length:=onB_len hq
  obtain ⟨sb1,sb2⟩:=sub_eq (o:=onB c x0 s) (by omega)
  have eN:anN h0=(subL (onB c x0 s),0,()):=by
    unfold anN
    rw [eO]
    exact sb1
  have eF:firF h0=(n0,true,()):=by
    unfold firF heS heP
    show (match s.2.2.1 with | x::_=>(x,true,()) | []=>(0,false,()))=_
    rw [hch]
  obtain ⟨eS,eL⟩:=ps_new (now:=now) hc hn hSv hne hs (b:=subL (onB c x0 s)) (by omega)
  have eS':anS h0=((x.2.1.1,s,[pe0,pe1 n0 (subL (onB c x0 s)) now],()),[(n0,frPutF (pairF c x.2.1.1 n0) (x.2.1.1,n0,s,1,0,subL (onB c x0 s),()),true,())],0,()):=by
    unfold anS
    rw [eF,eN]
    exact eS
  have eY:anY h0=true:=by
    unfold anY
    rw [eF]
    rfl
  have eA:annF h0=((x.1,(x.2.1.1,s,[pe0,pe1 n0 (subL (onB c x0 s)) now],()),x.2.2.1,true,onW c x0 s,(qhF x.2.2.1).1.2.2.2.1,()),c,0,now,[(0,ab,false,()),(n0,frPutF (pairF c x.2.1.1 n0) (x.2.1.1,n0,s,1,0,subL (onB c x0 s),()),true,())],()):=by
    unfold annF
    rw [if_neg (by rw [eY];decide),eO,if_neg (fun h=>h rfl),eN,if_neg (fun h=>h rfl),eS',if_neg (fun h=>h rfl)]
    rfl
  refine ⟨n0,subL (onB c x0 s),ab,frPutF (pairF c x.2.1.1 n0) (x.2.1.1,n0,s,1,0,subL (onB c x0 s),()),onW c x0 s,(qhF x.2.2.1).1.2.2.2.1,r,hch,hSv,by omega,?_,onW_byt _ _ _,fun h=>?_,by rw [eL,sb2,ol];omega,?_⟩
  · unfold subL
    refine byt_app (byt_app (w8_byt _) (putR_byt _ _)) (byt_app (putR_byt _ _) ?_)
    unfold onB onnF
    exact wrG_byt non_byt _ _ l1 (by rw [nonF_len];exact Nat.le_refl _)
  · unfold onW
    rw [if_pos h]
  · unfold hrF hrH
    rw [eP,if_neg (fun h=>h rfl)]
    have e0:hr0 c x 0 now (x.2.1.1,s,[pe0],()) [(0,ab,false,())]=h0:=by
      unfold hr0
      rw [hN]
      rfl
    dsimp only
    rw [e0]
    have eG:hrGo [anB] h0=annF h0:=by
      show hrS h0 anB=_
      unfold hrS
      rw [nt_an,if_neg (by decide),if_pos rfl]
    rw [eG,eA]
end DoorU
end Go.Proofs.YtjkbkhjalimebaaGreatDoor
namespace Go.Proofs.YtjkbkhjalimebaaGreatDoor
open Go.RowKit DoorU
set_option linter.unusedVariables false
set_option linter.unusedSimpArgs false
set_option maxRecDepth 100000
namespace DoorU
theorem ann_f0 {h:Hea} {r:List Int} (hS:(heS h).2.2.1=h.2.2.1::r):annF h=h:=by
  by_cases a1:anY h=false
  · exact ann_n a1
  have e0:h.2.2.1=0:=by
    unfold anY at a1
    cases e:(h.2.2.1==0)
    · rw [e,Bool.false_and,Bool.and_false] at a1
      exact absurd rfl a1
    · exact eq_of_beq e
  have e1:onE h.2.1 h.1 (heS h)=1:=by
    unfold onE
    rw [if_pos]
    refine .inr (.inr ?_)
    rw [hS,List.all_cons,e0]
    unfold isSv wit
    rw [show decide ((1:Int)≤0)=false from rfl,Bool.false_and,Bool.false_and]
  have e2:(anO h).2.2.1=1:=by
    show (oniF h.2.1 h.1 (heS h)).2.2.1=1
    unfold oniF
    rw [if_pos (by rw [e1];decide)]
    exact e1
  rw [annF,if_neg a1,if_pos (by rw [e2];decide)]
theorem ann_q {h:Hea}:heQ (annF h)=heQ h∧heS (annF h)=heS h∧(annF h).2.2.1=h.2.2.1∧(annF h).1.1=h.1.1∧(annF h).2.1=h.2.1:=by
  unfold annF
  split
  · exact ⟨rfl,rfl,rfl,rfl,rfl⟩
  split
  · exact ⟨rfl,rfl,rfl,rfl,rfl⟩
  split
  · exact ⟨rfl,rfl,rfl,rfl,rfl⟩
  split
  · exact ⟨rfl,rfl,rfl,rfl,rfl⟩
  rename_i a4
  exact ⟨rfl,ann_sta (Decidable.not_not.1 a4),rfl,rfl,rfl⟩
theorem fir_cons {h:Hea} (e:(firF h).2.1=true):∃ r,(heS h).2.2.1=(firF h).1::r:=by
  unfold firF at e ⊢
  split at e
  · rename_i a r e1
    rw [e1]
    exact ⟨r,rfl⟩
  · cases e
end DoorU
end Go.Proofs.YtjkbkhjalimebaaGreatDoor

