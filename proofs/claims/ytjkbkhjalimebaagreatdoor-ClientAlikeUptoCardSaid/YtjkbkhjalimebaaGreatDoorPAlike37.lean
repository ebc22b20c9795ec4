import Derived.Test.YtjkbkhjalimebaaGreatDoorPAlike36
namespace Go.Proofs.YtjkbkhjalimebaaGreatDoor
open Go.RowKit Go.Shelf DoorU
set_option linter.unusedVariables false
set_option linter.unusedSimpArgs false
set_option maxRecDepth 100000
set_option maxHeartbeats 2000000
def DoorU.w4 (n:Int):List Int:=[IntKind.u8.wrap (shrI .u32 n 24),IntKind.u8.wrap (shrI .u32 n 16),IntKind.u8.wrap (shrI .u32 n 8),IntKind.u8.wrap n]
def DoorU.outP (hs:List Int):Nat→List Int
  | 0=>[]
  | n+1=>outP hs n++w4 (hs.getD n 0)
def DoorU.chunk (p:List Int) (i:Nat):List Int:=(p.drop (64*i)).take 64
def DoorU.hsOf (p:List Int) (is:List Nat):List Int:=is.foldl (fun h i=>blk h (chunk p i)) startL
def DoorU.sumF (l:List Int):List Int:=outP (hsOf (pad l) (List.range ((pad l).length / 64))) 8
def sB (ch:List Int):Nat→TV:=fun t=>bif Nat.beq t 3 then .ptr 0 0 0 else bif Nat.beq t 4 then .view true tY ch else .und
def sT:Nat→TV:=fun t=>bif Nat.beq t 3 then .ptr 0 0 0 else .und
def K_sumB (hs ch:List Int):Exit→TS→Nat→Prop:=fun e σ _=>match e,σ.blk 0 with
  | .normal,.row T e' l=>(match castL T tU l with | some l'=>l'=blk hs ch∧e'=210 | none=>False)
  | _,_=>False
def K_sumT (hs:List Int):Exit→TS→Nat→Prop:=fun e σ _=>match e,σ.tmp 2 with
  | .ret,.own g=>(match σ.blk g with | .row T e' l=>(match castL T tY l with | some l'=>l'=outP hs 8∧e'=5 | none=>False) | _=>False)
  | _,_=>False
def A_sumT (hs:List Int):Nat→Option LA
  | 0=>some ⟨[21,5],[],.pair nI (.pair oY .unit),fun (v:Int×List Int×Unit)=>0≤v.1∧v.1≤8∧v.2.1=outP hs v.1.toNat,fun (v:Int×List Int×Unit)=>(8 - v.1).toNat⟩
  | _=>none
end Go.Proofs.YtjkbkhjalimebaaGreatDoor
namespace Go.Proofs.YtjkbkhjalimebaaGreatDoor
open Go.RowKit Go.Shelf DoorU
set_option linter.unusedVariables false
set_option linter.unusedSimpArgs false
set_option maxRecDepth 100000
set_option maxHeartbeats 2000000
theorem vc_sumB:(∀ (hs ch:List Int),hs.length=8→ch.length=64→evC Tryz.prog [(156,S_blk)] 40 (fun _=>none) (rangeBody (bodyOf Tryz.f147)) (fun _=>false) 0 (K_sumB hs ch) ⟨sB ch,BB .u32 210 hs⟩ 64)=(∀ (hs ch:List Int),List.length hs=(8:Nat)→
  List.length ch=(64:Nat)→
  List.length hs=nat_lit 8∧(List.length hs=(8:Nat)∧List.length ch=(64:Nat))∧List.length hs=nat_lit 8∧List.length (blk hs ch)=nat_lit 8∧blk hs ch=blk hs ch∧(210:Nat)=(210:Nat)):=by kernel_rfl
theorem vc_sumT:(∀ (hs:List Int),hs.length=8→evC Tryz.prog [] 40 (A_sumT hs) (rangeTail (bodyOf Tryz.f147)) (fun _=>false) 0 (K_sumT hs) ⟨sT,BB .u32 210 hs⟩ 64)=(∀ (hs:List Int),List.length hs=(8:Nat)→
  (0:Int)≤(0:Int)∧(0:Int)≤(32:Int)∧Int.ofNat (nat_lit 32)≤(281474976710656:Int)∧(32:Int)≤(140737488351232:Int)∧List.length hs=nat_lit 8∧((0:Int)≤(0:Int)∧(0:Int)≤(8:Int)∧[]=outP hs (Int.toNat (0:Int)))∧∀ (v:Int×List Int×Unit),(0:Int)≤v.fst∧v.fst≤(8:Int)∧v.2.fst=outP hs (Int.toNat v.fst)→
  bif decide (v.fst < (8:Int)) then (0:Int)≤v.fst∧v.fst < Int.ofNat (8:Nat)∧v.fst < (↑(List.length hs):Int)∧∀ (c0:Int),hs[Int.toNat v.fst]?=some c0→
  (0:Int)≤(24:Int)∧(0:Int)≤(16:Int)∧(0:Int)≤(8:Int)∧(List.length v.2.fst+List.length [IntKind.wrap IntKind.u8 (shrI IntKind.u32 c0 (24:Int)),IntKind.wrap IntKind.u8 (shrI IntKind.u32 c0 (16:Int)),IntKind.wrap IntKind.u8 (shrI IntKind.u32 c0 (8:Int)),IntKind.wrap IntKind.u8 c0])*nat_lit 1≤(140737488351232:Nat)∧((0:Int)≤IntKind.wrap IntKind.i64 (v.fst+(1:Int))∧IntKind.wrap IntKind.i64 (v.fst+(1:Int))≤(8:Int)∧v.2.fst++[IntKind.wrap IntKind.u8 (shrI IntKind.u32 c0 (24:Int)),IntKind.wrap IntKind.u8 (shrI IntKind.u32 c0 (16:Int)),IntKind.wrap IntKind.u8 (shrI IntKind.u32 c0 (8:Int)),IntKind.wrap IntKind.u8 c0]=outP hs (Int.toNat (IntKind.wrap IntKind.i64 (v.fst+(1:Int)))))∧Int.toNat ((8:Int) - IntKind.wrap IntKind.i64 (v.fst+(1:Int))) < Int.toNat ((8:Int) - v.fst) else v.2.fst=outP hs (8:Nat)∧(5:Nat)=(5:Nat)):=by kernel_rfl
attribute [local go_sem] Oper.semAt_some
theorem sumB_ok (hs ch:List Int) (h8:hs.length=8) (h64:ch.length=64):evC Tryz.prog [(156,S_blk)] 40 (fun _=>none) (rangeBody (bodyOf Tryz.f147)) (fun _=>false) 0 (K_sumB hs ch) ⟨sB ch,BB .u32 210 hs⟩ 64:=
  (Eq.mpr vc_sumB fun hs ch h8 h64=>⟨h8,⟨h8,h64⟩,h8,blk_len hs ch h8,rfl,rfl⟩) hs ch h8 h64
theorem outP_len (hs:List Int):∀ n,(outP hs n).length=4*n
  | 0=>rfl
  | n+1=>by simp only [outP,w4,List.length_append,outP_len hs n,List.length_cons,List.length_nil];omega
theorem sumT_ok (hs:List Int) (h8:hs.length=8):evC Tryz.prog [] 40 (A_sumT hs) (rangeTail (bodyOf Tryz.f147)) (fun _=>false) 0 (K_sumT hs) ⟨sT,BB .u32 210 hs⟩ 64:=by
  refine Eq.mpr vc_sumT ?_ hs h8
  intro hs h8
  refine ⟨by decide,by decide,by decide,by decide,h8,⟨by decide,by decide,rfl⟩,?_⟩
  rintro ⟨i,o,⟨⟩⟩ ⟨h0,h1,ho⟩
  dsimp only at h0 h1 ho ⊢
  have wi:IntKind.i64.wrap (i+1)=i+1:=IntWalk.i64_in _ (by omega)
  have ol:o.length≤32:=by rw [ho,outP_len];omega
  by_cases hi:i < 8
  · rw [decide_eq_true hi,cond_true]
    refine ⟨h0,hi,by rw [h8];exact hi,fun c0 hc=>⟨by decide,by decide,by decide,by simp only [List.length_cons,List.length_nil];omega,⟨by omega,by omega,?_⟩,by omega⟩⟩
    rw [wi,show (i+1).toNat=i.toNat+1 by omega]
    show _=outP hs i.toNat++w4 (hs.getD i.toNat 0)
    rw [← ho,getD_of hc rfl]
    rfl
  · rw [decide_eq_false hi,cond_false]
    obtain rfl:i=8:=by omega
    exact ⟨ho,rfl⟩
theorem hsOf_len (p:List Int):∀ (is:List Nat) (h:List Int),h.length=8→(is.foldl (fun h i=>blk h (chunk p i)) h).length=8
  | [],h,hh=>hh
  | i::is,h,hh=>hsOf_len p is _ (blk_len h _ hh)
theorem hsOf_8 (p:List Int) (is:List Nat):(hsOf p is).length=8:=hsOf_len p is _ rfl
theorem sumF_len (l:List Int):(sumF l).length=32:=outP_len _ 8
theorem blkDelta:DOk Tryz.prog [(156,S_blk)]:=DOk.cons sc_blk en_blk DOk.nil
theorem round_in {W:World} (hT:TabIn W) {b:Nat} {hs ch:List Int} (h8:hs.length=8) (h64:ch.length=64) (hb:W.heap[b]?=some (.cells (hs.map (Value.int .u32)).toArray 210 (0,0))) (htb:∀ g x,tabAt g=some x→g≠b)
    {a:Act} (hsz:a.tmps.size=40) (hd:a.defers=[]) (h3:a.tmps.getD 3 undef=.pointer (some ⟨b,0,none⟩)) (h4:∀ (E:Env) (U:Nat→Prop) (base:Nat),VA E W (fun q=>q=b) U base (.lent 1 (denS (T:=.int .u8) ch)) (a.tmps.getD 4 undef)) (r:Option Nat) (n:Nat):
    (rangeBody (bodyOf Tryz.f147)).wpIn (FR r) n Tryz.prog (fun e a' W'=>e=.normal∧Below 0 W W'∧(∀ k,k < W.heap.size→k≠b→W'.heap[k]?=W.heap[k]?)∧W'.heap[b]?=some (.cells ((blk hs ch).map (Value.int .u32)).toArray 210 (0,0))) a W:=by
  have hr:=TRel.box (k:=.u32) hT (b:=b) (nt:=40) (e:=210) (hs:=hs) (by decide) hb htb (by rw [h8];decide) (ds:=[]) (fun D h=>by cases h) (a:=a) hsz hd (f:=sB ch) (fun t=>by
    unfold sB
    by_cases e3:t=3
    · subst e3
      show VA _ _ _ _ _ (.ptr 0 0 0) _
      rw [h3]
      exact .ptr rfl
    by_cases e4:t=4
    · subst e4
      exact h4 _ _ _
    have q3:Nat.beq t 3=false:=by cases hq:Nat.beq t 3 with | false=>rfl | true=>exact absurd (Nat.eq_of_beq_eq_true hq) e3
    have q4:Nat.beq t 4=false:=by cases hq:Nat.beq t 4 with | false=>rfl | true=>exact absurd (Nat.eq_of_beq_eq_true hq) e4
    rw [q3,q4]
    exact .und _)
  refine wpIn_mono (evC_ok (P:=Tryz.prog) blkDelta _ _ 0 _ _ 64 (fun g hg=>?_) (sumB_ok hs ch h8 h64) r n _ _ _ a W hr) fun e a' W' ⟨σ,E',h1,k',_,_,_,hK⟩=>?_
  · cases g with
    | zero=>omega
    | succ g=>rfl
  · unfold K_sumB at hK
    split at hK
    · rename_i T e' l he _
      split at hK
      · rename_i l' hc
        obtain rfl:=castL_ty hc
        obtain rfl:=castL_self hc
        obtain ⟨rfl,rfl⟩:=hK
        exact ⟨rfl,h1.rest.1,h1.rest.2.2,h1.boxed (by decide) he (by rw [blk_len hs ch h8,h8])⟩
      · exact hK.elim
    · exact hK.elim
theorem tail_in {W:World} (hT:TabIn W) {b:Nat} {hs:List Int} (h8:hs.length=8) (hb:W.heap[b]?=some (.cells (hs.map (Value.int .u32)).toArray 210 (0,0))) (htb:∀ g x,tabAt g=some x→g≠b) {D:Nat} (hD:W.heap[D]?=some (.deferred (some [])))
    {a:Act} (hsz:a.tmps.size=40) (hd:a.defers=[{ target:=.collected D,args:=#[] }]) (h3:a.tmps.getD 3 undef=.pointer (some ⟨b,0,none⟩)) (n:Nat):
    (rangeTail (bodyOf Tryz.f147)).wpIn Fence.wide n Tryz.prog (fun e a' W'=>e=.ret∧a'.defers=[{ target:=.collected D,args:=#[] }]∧W'.heap[D]?=some (.deferred (some []))∧Below 0 W W'∧(∀ k,k < W.heap.size→k≠b→W'.heap[k]?=W.heap[k]?)∧∃ ad m cap,a'.tmps.getD 2 undef=.slice ad m cap∧(∀ base,base≤W.heap.size→base≤b→W'.ownsRow base 5 1 (.slice ad m cap) m ((outP hs 8).map (Value.int .u8)))) a W:=by
  have hr:=TRel.box (k:=.u32) hT (b:=b) (nt:=40) (e:=210) (hs:=hs) (by decide) hb htb (by rw [h8];decide) (ds:=[D]) (fun D' h=>by rw [List.mem_singleton.1 h];exact hD) (a:=a) hsz hd (f:=sT) (fun t=>by
    unfold sT
    by_cases e3:t=3
    · subst e3
      show VA _ _ _ _ _ (.ptr 0 0 0) _
      rw [h3]
      exact .ptr rfl
    have q3:Nat.beq t 3=false:=by cases hq:Nat.beq t 3 with | false=>rfl | true=>exact absurd (Nat.eq_of_beq_eq_true hq) e3
    rw [q3]
    exact .und _)
  refine wpIn_mono (evC_ok (P:=Tryz.prog) DOk.nil _ _ 0 _ _ 64 (fun g hg=>?_) (sumT_ok hs h8) none n _ _ _ a W hr) fun e a' W' ⟨σ,E',h1,k',_,_,_,hK⟩=>?_
  · cases g with
    | zero=>omega
    | succ g=>rfl
  · unfold K_sumT at hK
    split at hK
    · rename_i g ht _
      split at hK
      · rename_i T e' l he
        split at hK
        · rename_i l' hc
          obtain rfl:=castL_ty hc
          obtain rfl:=castL_self hc
          obtain ⟨rfl,rfl⟩:=hK
          obtain ⟨ad,m,cap,q1,_⟩:=h1.ownOut (k:=.u8) (base:=0) ht he (fun _ _=>Nat.zero_le _)
          refine ⟨rfl,h1.defers.1,h1.defers.2 D (List.mem_singleton.2 rfl),h1.rest.1,h1.rest.2.2,ad,m,cap,q1,fun base hb1 hb2=>?_⟩
          obtain ⟨ad',m',cap',q2,q3⟩:=h1.ownOut (k:=.u8) (base:=base) ht he (fun q hq=>by
            rcases hq with hq | hq
            · exact Nat.le_trans hb1 hq
            · have hq':q=b:=hq
              rw [hq'];exact hb2)
          rw [q1] at q2
          cases q2
          exact q3
        · exact hK.elim
      · exact hK.elim
    · exact hK.elim
def S_sum:Spec:=⟨.pair lY .unit,.pair oY .unit,fun (x:List Int×Unit)=>x.1.length≤1000000000,fun (x:List Int×Unit)=>((sumF x.1,()):List Int×Unit)⟩
theorem start_in (w:World) (ht:TabIn w):Calls Tryz.prog 153 #[] w fun e w'=>e=.returned (.agg #[.int .u32 1779033703,.int .u32 3144134277,.int .u32 1013904242,.int .u32 2773480762,.int .u32 1359893119,.int .u32 2600822924,.int .u32 528734635,.int .u32 1541459225])∧Below w.heap.size w w':=
  (SC.use (U:=NoF) sc_start rfl rfl () trivial rfl ht rfl (vs:=[]) rfl (fun i y v h=>by cases h)).mono fun e w' ⟨v,he,hb,E',hv⟩=>by
    rw [arr_val (B:=fun _=>.free) hv] at he
    exact ⟨he,hb⟩
theorem TabIn.below {w w':World} (h:TabIn w) (hb:Below w.heap.size w w'):TabIn w':=fun g k l hg=>by
  obtain ⟨h1,e,fr,h2⟩:=h g k l hg
  exact ⟨Nat.lt_of_lt_of_le h1 hb.size,e,fr,(hb.block g h1).trans h2⟩
theorem lent_later {w w':World} {sz:Nat} {es:List (List D)} {v:Value} (h:∀ (E:Env) (U:Nat→Prop) (base:Nat),VA E w NoF U base (.lent sz es) v) (hb:Below w.heap.size w w'):∀ (E:Env) (U:Nat→Prop) (base:Nat),VA E w' NoF U base (.lent sz es) v:=
  fun E U base=>(h E U base).keep hb.size (fun b hlt _=>hb.block b hlt) (fun _ _ h=>h) fun _ hk=>⟨hk,rfl,rfl,rfl,rfl⟩
theorem chunk_at {p:List Int} {i N j:Nat} {x:Int} (hp:64*N=p.length) (hi:i < N) (h:(chunk p i)[j]?=some x):p[64*i+j]?=some x:=by
  unfold chunk at h
  rw [List.getElem?_take] at h
  split at h
  · rwa [List.getElem?_drop] at h
  · cases h
theorem chunk_len {p:List Int} {i N:Nat} (hp:64*N=p.length) (hi:i < N):(chunk p i).length=64:=by
  unfold chunk
  rw [List.length_take,List.length_drop]
  omega
theorem pad_ne (l:List Int):pad l≠[]:=fun h=>by
  have h1:=padA_len l 8
  rw [show padA l 8=[] from h] at h1
  have:=padN_ge l.length
  simp at h1;omega
theorem pad_in (w:World) (ht:TabIn w) {l:List Int} (hl:l.length≤1000000000) {v:Value} (hv:∀ E U base,VA E w NoF U base (.lent 1 (denS (T:=.int .u8) l)) v):
    Calls Tryz.prog 155 #[v] w fun e w'=>Below w.heap.size w w'∧∃ b off cap,e=.returned (.slice (some ⟨b,off,none⟩) (pad l).length cap)∧(pad l).length≤cap∧cap≤maxLen∧w.heap.size≤b∧b < w'.heap.size∧∀ i x,(pad l)[i]?=some x→w'.cell? ⟨b,off+i,none⟩=some (.int .u8 x):=
  (SC.use (U:=NoF) sc_pad rfl rfl (l,()) hl rfl ht rfl (vs:=[v]) rfl (fun i y u hy hu=>by
    cases i with
    | zero =>
      cases hy;cases hu
      exact hv _ _ _
    | succ i=>cases hy)).mono fun e w' ⟨v,he,hb,E',hv⟩=>by
    subst he
    cases hv with
    | d hv =>
      obtain ⟨b,off,cap,rfl,h1,h2,h3,h4,h5,h6⟩:=view_cells (k:=.u8) hv (pad_ne l)
      exact ⟨hb,b,off,cap,rfl,h1,h2,h3.elim False.elim id,h5,h6⟩
set_option maxRecDepth 100000 in
set_option maxHeartbeats 4000000 in
theorem sum_in {l:List Int} (hl:l.length≤1000000000) {v:Value} {w:World} (ht:TabIn w) (hv:∀ E U base,VA E w NoF U base (.lent 1 (denS (T:=.int .u8) l)) v):
    Calls Tryz.prog 147 #[v] w fun e w'=>∃ ad m cap,e=.returned (.slice ad m cap)∧Below w.heap.size w w'∧w'.ownsRow w.heap.size 5 1 (.slice ad m cap) m ((sumF l).map (Value.int .u8)):=by
  refine (callsIn_wide (n:=6)).1 ?_
  refine callsIn_of_wp_marks Tryz.func147 rfl trivial ?_ rfl
  simp only [Tryz.ntmps147,List.size_toArray,List.length_cons,List.length_nil,Nat.reduceAdd,Nat.reduceSub,Array.replicate_succ,Array.replicate_zero,List.push_toArray,List.append_toArray,List.nil_append,List.cons_append]
  have hmod:64*((pad l).length / 64)=(pad l).length:=by
    have h1:(pad l).length=padN l.length:=padA_len l 8
    have h2:=padN_mod l.length
    omega
  have hple:(pad l).length≤1000000072:=by
    have h1:(pad l).length=padN l.length:=padA_len l 8
    have h2:=padN_le l.length
    omega
  gi_wp2_with (first
    | (refine ⟨trivial,?_⟩;gi_at_call 153;refine (callsIn_wide.2 (start_in _ ht)).mono ?_;rintro e w1 ⟨rfl,hb1⟩
       have ht2:=ht.below (hb1.trans ((Below.refl w.heap.size w1).alloc hb1.size (.cells #[.int .u32 1779033703,.int .u32 3144134277,.int .u32 1013904242,.int .u32 2773480762,.int .u32 1359893119,.int .u32 2600822924,.int .u32 528734635,.int .u32 1541459225] 210))))
    | (refine ⟨trivial,?_⟩;gi_at_call 155;refine (callsIn_wide.2 (pad_in _ ht2 hl ?_)).mono ?_
       rotate_left 1
       rintro e w2 ⟨hb2,bq,off,cap,rfl,hq1,hq2,hq3,hq4,hq5⟩)
    | (refine ⟨trivial,?_⟩;gi_at_call 154;refine (callsIn_wide.2 (blocks_in _ _ _ _)).mono ?_;rintro e w3 ⟨rfl,rfl⟩))
  ·
    generalize hN:(pad l).length / 64=N at hmod
    have hpl:64*N=(pad l).length:=hmod
    rw [← hpl] at hq1
    have hs1:(w1.alloc (.cells #[.int .u32 1779033703,.int .u32 3144134277,.int .u32 1013904242,.int .u32 2773480762,.int .u32 1359893119,.int .u32 2600822924,.int .u32 528734635,.int .u32 1541459225] 210)).heap.size=w1.heap.size+1:=World.size_alloc _ _
    rw [hs1] at hq3
    have hb2':=hb2.size
    rw [hs1] at hb2'
    have hbx:w2.heap[w1.heap.size]?=some (.cells #[.int .u32 1779033703,.int .u32 3144134277,.int .u32 1013904242,.int .u32 2773480762,.int .u32 1359893119,.int .u32 2600822924,.int .u32 528734635,.int .u32 1541459225] 210 (0,0)):=
      (hb2.block _ (by rw [hs1];omega)).trans (World.alloc_heap_new w1 _)
    have hB2:Below w.heap.size w w2:=(hb1.trans ((Below.refl w.heap.size w1).alloc hb1.size _)).trans (hb2.mono (by rw [hs1];have:=hb1.size;omega))
    obtain ⟨W0,hW0⟩:∃ W0,w2.alloc (.cells #[.slice (some ⟨bq,off,none⟩) (pad l).length cap] 22)=W0:=⟨_,rfl⟩
    have hBs:W0.heap[w2.heap.size]?=some (.cells #[.slice (some ⟨bq,off,none⟩) (64*N) cap] 22 (0,0)):=by rw [← hW0,hpl];exact World.alloc_heap_new w2 _
    have hs0:W0.heap.size=w2.heap.size+1:=by rw [← hW0];exact World.size_alloc _ _
    have hold:∀ k,k < w2.heap.size→W0.heap[k]?=w2.heap[k]?:=fun k hk=>by rw [← hW0];exact Below.heap_alloc _ _ _ hk
    have hB0:Below w.heap.size w W0:=by rw [← hW0];exact hB2.trans ((Below.refl w.heap.size w2).alloc hB2.size _)
    rw [hW0]
    have hbp1:=hb1.size
    refine wpIn_rangeFunc_ownF rfl (by omega) (gf:=158) (lb:=#[.pointer (some ⟨w2.heap.size,0,none⟩)]) rfl trivial (enters_of Tryz.func158 (by kernel_rfl) rfl)
      (blocks_stops w2.heap.size bq bq off cap N hq1 (by omega) W0 (by omega) hBs) (fun h k=>h.t k) (fun W r o o' hr hW ho hw=>⟨?k1,?k2⟩) (Below.refl _ _) (fun _=>rfl)
      (fun pre W=>(W.heap[w1.heap.size]?=some (.cells ((hsOf (pad l) (pre.map (·.val))).map (Value.int .u32)).toArray 210 (0,0))∧(∀ i x,(pad l)[i]?=some x→W.cell? ⟨bq,off+i,none⟩=some (.int .u8 x))∧W0.heap.size≤W.heap.size)∧Below w.heap.size w W)
      (fun _ _ _=>False) (OwnFrom.and ?own (ownFrom_below (Nat.le_refl _) (by omega))) (fun _ _ _ _ _ hs _ _=>hs) ⟨⟨(hold _ (by omega)).trans hbx,fun i x hx=>(World.cell?_of_block (hold bq hq4)).trans (hq5 i x hx),Nat.le_refl _⟩,hB0⟩
      (fun x=>{ tmps:=#[v,undef,.slice none 0 0,.pointer (some ⟨w1.heap.size,0,none⟩),.slice (some ⟨bq,off+64*x.val,none⟩) 64 (cap - 64*x.val),undef,undef,undef,.agg #[.int .u32 1779033703,.int .u32 3144134277,.int .u32 1013904242,.int .u32 2773480762,.int .u32 1359893119,.int .u32 2600822924,.int .u32 528734635,.int .u32 1541459225],v,.slice (some ⟨bq,off,none⟩) (pad l).length cap,.func (.func 158) #[] #[.pointer (some ⟨w2.heap.size,0,none⟩)],.slice (some ⟨bq,off+64*x.val,none⟩) 64 (cap - 64*x.val),undef,undef,undef,undef,undef,undef,undef,undef,undef,undef,undef,undef,undef,undef,undef,undef,undef,undef,undef,undef,undef,undef,undef,undef,undef,undef,undef],defers:=[] }) ?assign ?body ?done ?stop
    case k1=>exact World.putObj_heap_other (by omega)
    case k2=>exact World.putObj_heap_other (by omega)
    case own=>
      rintro pre A B row ⟨h1,h2,h3⟩ hg hr
      have hne:∀ k cs e fr,A.heap[k]?=some (.cells cs e fr)→some k≠row:=fun k cs e fr hk e1=>by
        obtain ⟨_,o,ho,hc⟩:=hr k e1.symm
        rw [hk] at ho
        cases ho
        cases hc
      refine ⟨(hg.block _ (Array.getElem?_eq_some_iff.1 h1).1 (hne _ _ _ _ h1)).trans h1,fun i x hx=>?_,Nat.le_trans h3 hg.size⟩
      exact cell_kept (h2 i x hx) hg (fun r e=>(hr r e).2)
    case assign=>
      intro l x W K hK
      gi_wp2
      exact hK
    case body=>
      rintro r pre x W ⟨⟨h1,h2,h3⟩,hB⟩ hlt
      refine wpIn_mono (round_in (W:=W) (b:=w1.heap.size) (ht.below hB) (hsOf_8 _ _) (chunk_len hpl x.isLt) h1 (fun g y hg e=>?tb) rfl rfl rfl (fun E U base=>?ch) (some r) 4) ?fin
      case tb=>
        obtain ⟨q1,_⟩:=ht g y.1 y.2 hg
        omega
      case ch=>
        have hcl:=chunk_len hpl x.isLt
        have:=lent_cells (k:=.u8) (E:=E) (w:=W) (F:=fun q=>q=w1.heap.size) (U:=U) (base:=base) (l:=chunk (pad l) x.val) (b:=bq) (off:=off+64*x.val) (cap:=cap - 64*x.val) (by rw [hcl];have:=x.isLt;omega) (by omega) (by omega) (by omega) (fun i y hy=>by
          rw [Nat.add_assoc]
          exact h2 _ _ (chunk_at hpl x.isLt hy))
        rw [hcl] at this
        exact this
      case fin=>
        rintro e a' W' ⟨rfl,hb0,hkp,hbx'⟩
        refine ⟨⟨hb0.size,fun k o hk ho=>?_⟩,⟨hkp _ (by omega) (by omega),hkp _ (by omega) (by omega)⟩,⟨?_,fun i y hy=>?_,Nat.le_trans h3 hb0.size⟩,hB.trans ⟨hb0.os,hb0.tape,hb0.output,hb0.size,fun k hk=>hkp k (by have:=hB.size;omega) (by omega)⟩⟩
        · refine (hkp k (Array.getElem?_eq_some_iff.1 hk).1 ?_).trans hk
          rintro rfl
          rw [h1] at hk
          cases hk
          cases ho
        · rw [hbx']
          simp only [hsOf,List.map_append,List.foldl_append,List.map_cons,List.map_nil,List.foldl_cons,List.foldl_nil]
        · exact (World.cell?_of_block (hkp bq (by omega) (by omega))).trans (h2 i y hy)
    case stop=>
      rintro D c pre W _ _ h _
      exact h.elim
    case done=>
      rintro D ys W hD rfl ⟨⟨h1,h2,h3⟩,hB⟩ hK
      rename_i Q0 K0 hgo
      show K0 _ W
      refine hgo _ _ (wpIn_mono (tail_in (W:=W) (b:=w1.heap.size) (ht.below hB) (hsOf_8 _ _) h1 (fun g y hg e=>?tb2) hK rfl rfl rfl 6) ?fin2)
      case tb2=>
        obtain ⟨q1,_⟩:=ht g y.1 y.2 hg
        omega
      case fin2=>
        rintro e a' W' ⟨rfl,hd',hD',hb0,hkp,ad,m,cap',hv2,hvd⟩
        have hBW:Below w.heap.size W W':=⟨hb0.os,hb0.tape,hb0.output,hb0.size,fun k hk=>hkp k (by have:=hB.size;omega) (by omega)⟩
        show LeavesInM Fence.wide 6 _ _ a'.tmps _ a'.defers .returning W'
        rw [hd']
        refine ⟨by simp,.inl ⟨_,_,rfl,run_takeDeferred hD',?_⟩⟩
        refine ⟨_,results_tmp rfl _ _ _,ad,m,cap',by rw [hv2],(hB.trans hBW).trans (belowK_b (w:=w) (Nat.le_refl _) W' D _ _ (by omega) hD' rfl rfl),?_⟩
        have e2:hsOf (pad l) ((upto N N (Nat.le_refl _)).map (·.val))=hsOf (pad l) (List.range ((pad l).length / 64)):=by rw [upto_val,hN]
        rw [e2] at hvd
        exact ownsRow_putObj (hvd w.heap.size (by have:=hB.size;omega) hbp1) _ hD' rfl
  · exact lent_later hv (hb1.trans ((Below.refl w.heap.size w1).alloc hb1.size _))
theorem sc_sum:SC Tryz.prog 147 S_sum:=
  SC.own .u8 5 (by decide) rfl (fun _=>rfl) (fun x=>sumF x.1) (fun _=>rfl) (fun _=>rfl) fun x hx w U E vs hT hl hv=>by
    obtain ⟨l,⟨⟩⟩:=x
    obtain ⟨v,rfl⟩:∃ v,vs=[v]:=by
      match vs,hl with
      | [v],_=>exact ⟨v,rfl⟩
    have h1:=hv 0 (.view true tY l) v rfl rfl
    have h2:VA E w NoF U w.heap.size (.lent 1 (denS (T:=.int .u8) l)) v:=h1
    refine (sum_in hx hT (fun E' U' base=>?_)).mono ?_
    · cases h2 with
      | lent u q1 q2 q3 q4 q5 q6 q7 =>
        refine .lent u q1 q2 q3 q4 q5 (fun i x hx=>?_) (fun i x j d hx hd=>?_)
        · obtain ⟨b,off,r1,⟨r2,r3,_⟩,r4⟩:=q6 i x hx
          exact ⟨b,off,r1,⟨r2,r3,fun h=>by cases h⟩,r4⟩
        · have hx':=hx
          rw [dS,List.getElem?_map] at hx
          obtain ⟨y,_,rfl⟩:=Option.map_eq_some_iff.1 hx
          cases j with
          | zero =>
            obtain rfl:D.int .u8 y=d:=by simpa using hd
            have h3:=q7 i _ 0 (D.int .u8 y) hx' rfl
            generalize u i 0=q at h3 ⊢
            cases h3
            exact .int _ _
          | succ j=>simp at hd
    · rintro e w' ⟨ad,m,cap,rfl,hb,ho⟩
      exact ⟨_,_,_,rfl,hb,ho⟩
theorem en_sum (us:Array Value) (u:World):(callFunc 147 us).run Tryz.prog u=.ok (.enter 147 us) u:=by kernel_rfl
end Go.Proofs.YtjkbkhjalimebaaGreatDoor

