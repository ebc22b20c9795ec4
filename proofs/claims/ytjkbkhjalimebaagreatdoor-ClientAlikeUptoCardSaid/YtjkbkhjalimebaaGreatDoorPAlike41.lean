import Derived.Test.YtjkbkhjalimebaaGreatDoorPAlike40
namespace Go.Proofs.YtjkbkhjalimebaaGreatDoor
open Go.RowKit
set_option linter.unusedVariables false
set_option linter.unusedSimpArgs false
section
variable {P:Program} {Δ:List (FuncId×Spec)} {nt:Nat} {ann:Nat→Option LA} {R:RA}
theorem rangeK_ok (hΔ:DOk P Δ) (hen:∀ args w,(callFunc R.gf args).run P w=.ok (.enter R.gf args) w) {g:Nat} {ps:Array Tmp} {as bd:Code} {K2:Exit→TS→Nat→Prop} {σ:TS} {k:Nat} (hf:Fresh σ k) (h:rangeK P Δ nt ann R g ps as bd K2 σ k)
    {c:Cx} (hcd:c.dfr=[]) {U:Nat→Prop} {E:Env} {a:Act} {w:World} (hr:TRel c U nt σ E a w) {lb:Array Value} (hg:a.eval (.tmp g)=.func (.func R.gf) #[] lb) (hseq:SeqY P R.gf lb R.el R.N (Fof E σ.den.blk) w) (n:Nat):
    (Code.rangeFunc (.tmp g) ps as bd).wpIn (FR none) n P (fun e a' w'=>e=.normal∧∃ σ' E',TRel { c with dfr:=[w.heap.size] } U nt σ' E' a' w'∧Fresh σ' (64+R.sh.nr)∧K2 .normal σ' (64+R.sh.nr)) a w:=by
  unfold rangeK at h
  split at h
  rotate_left 1
  · exact h.elim
  rename_i p hp
  obtain ⟨h1,h2⟩:=bif_t h
  simp only [Bool.and_eq_true] at h1
  obtain ⟨⟨⟨⟨⟨⟨⟨⟨q1,q2⟩,q3⟩,q4⟩,q5⟩,q6⟩,q7⟩,q8⟩,q9⟩:=h1
  obtain ⟨hps,hinv0,hround,hend⟩:=conj_of h2
  have hk:=Nat.le_of_ble_eq_true q5
  have hwf:=hr.wf
  have lt_of:∀ g,σ.blk g≠.free→g < 64:=fun g hg=>Classical.byContradiction fun hc=>hg (hf g (by omega))
  have ho:HeadOk R.la [] σ p 64:=⟨hp,q1,hps,q2,nodupB_ok q3,Nat.le_refl _,hf.up hk,fun t g hg=>lt_of g (hwf.tmp t g hg),fun g e cs hc m hm=>lt_of m (hwf.var g e cs hc m hm)⟩
  obtain ⟨hvk,hrk⟩:=ho.vk
  have pk:=parse_pk hp hps
  obtain ⟨head,hhead⟩:∃ head:R.sh.V→TS,head=fun v=>headR R σ p.vs p.rs (tupsOf σ.blk p.fz) v:=⟨_,rfl⟩
  have hblk:∀ v,(head v).blk=(headS R.la [] σ p.vs p.rs (tupsOf σ.blk p.fz) 64 v).blk:=fun v=>by rw [hhead];rfl
  obtain ⟨T0,hT⟩:∃ T0,T0=cellsAt R.sl (ptrsOf p.vs R.sh 0) (fun _=>TV.und):=⟨_,rfl⟩
  have htmp:∀ v,(head v).tmp=T0:=fun v=>by
    rw [hhead,hT,← (unparse_ptrs p.vs R.sh v 0 64 q9).1]
    rfl
  have hT0:∀ t,T0 t=.und∨∃ g'∈p.vs,T0 t=.ptr g' 0 0:=fun t=>by
    rcases cellsAt_cases (fun _=>TV.und) t R.sl (ptrsOf p.vs R.sh 0) with h1 | ⟨y,h1,h2⟩
    · exact .inl (by rw [hT];exact h1)
    · obtain ⟨j,h3,h4⟩:=(unparse_ptrs p.vs R.sh p.x 0 64 q9).2 y h1
      have hj:j < p.vs.length:=by rw [pk.nv];omega
      exact .inr ⟨p.vs.getD j 0,by rw [List.getD_eq_getElem?_getD,List.getElem?_eq_getElem hj];exact List.getElem_mem _,by rw [hT,h2,h3]⟩
  have tellOf:∀ (σ':TS) (q:PR R.sh.V),parse σ'.blk false R.sh (R.sl.map σ'.tmp)=some q→q.okB=true→(∀ x∈q.ps,x)→q.vs=p.vs→(∀ g,g∉p.vs→g < 64→((head q.x).blk g=tupsOf σ'.blk q.fz g∧g∉q.rs)∨(Rowy (tupsOf σ'.blk q.fz g)∧(head q.x).blk g=.dead (tupsOf σ'.blk q.fz g).len))→Tell R.la σ' q 64 (fun _=>.und) (head q.x):=fun σ' q hq s1 hqps hvs hb2=>by
    obtain ⟨d1,d2,d3,d4⟩:=ho.head q.x
    rw [← hblk] at d1 d2 d4
    exact ⟨hq,s1,hqps,q2,nodupB_ok q3,Nat.le_refl _,by rw [hvs,hhead];rfl,fun t=>.inl rfl,by rw [hvs];exact hvk,by rw [hvs];exact d1,by rw [hvs];exact hb2,fun g hg=>by rw [hblk];exact d3 g hg,by rw [hvs];exact d4⟩
  have hb2p:=(ho.head p.x).2.1
  rw [← hblk] at hb2p
  obtain ⟨E0,hr0,hF0⟩:=(tellOf σ p hp q1 hps rfl fun g hv hg=>(hb2p g hv hg).elim .inl fun h=>.inr h.2).entF c U E a w hr
  have hd0:a.defers=[]:=by rw [hr.defers.1,hcd];rfl
  have hcs:c.heap.size≤w.heap.size:=hr.mem.below.size
  have hptr:∀ t g',T0 t=.ptr g' 0 0→a.tmps.getD t undef=.pointer (some ⟨E0.β g',0*E0.sz g'+0,none⟩)∧E0.kn g':=fun t g' ht=>by
    have h1:=hr0.tmp t
    rw [show (head p.x).den.tmp t=.ptr g' 0 0 by show denV _ ((head p.x).tmp t)=_;rw [htmp,ht];rfl] at h1
    generalize a.tmps.getD t undef=u at h1
    cases h1 with
    | ptr hk=>exact ⟨rfl,hk⟩
  have hkn0:∀ g'∈p.vs,E0.kn g':=fun g' hg'=>by
    have h1:=hr0.mem.blk g'
    obtain ⟨i,hi⟩:=List.getElem?_of_mem hg'
    have hil:i < R.sh.nv:=by have:=(List.getElem?_eq_some_iff.1 hi).1;rw [pk.nv] at this;exact this
    obtain ⟨q,hq,he⟩:=List.mem_map.1 ((unparse_names p.vs g' R.sh p.x 0 64).2 (.inl ⟨i,hil,by rw [Nat.zero_add,List.getD_eq_getElem?_getD,hi];rfl⟩))
    have h3:(head p.x).blk q.1=q.2:=by rw [hblk];exact (ho.head p.x).1 q hq
    rcases unparse_kind p.vs R.sh p.x 0 64 q hq with ⟨e,cs,h4,_⟩ | ⟨_,h4,_⟩
    · rw [show (head p.x).den.blk g'=denB _ ((head p.x).blk g') from rfl,← he,h3,h4] at h1
      exact he▸h1.1
    · have:=hvk g' hg';omega
  have hvs64:∀ (E':Env),(∀ g'∈p.vs,E'.kn g'∧E'.at_ g'=E0.at_ g')→∀ g'∈p.vs,g' < 64∧E'.kn g':=fun E' hE' g' hg'=>⟨hvk g' hg',(hE' g' hg').1⟩
  have hslot:∀ (E':Env) (W:World) (F' U':Nat→Prop) (base:Nat) (B:Nat→TB),(∀ g'∈p.vs,E'.kn g'∧E'.at_ g'=E0.at_ g')→∀ t,VA E' W F' U' base (denV B (T0 t)) (a.tmps.getD t undef):=fun E' W F' U' base B hE' t=>by
    rcases hT0 t with h1 | ⟨g',h1,h2⟩
    · rw [h1];exact .und _
    · obtain ⟨h3,h4⟩:=hE' g' h1
      unfold Env.at_ at h4
      simp only [Prod.mk.injEq] at h4
      rw [h2,(hptr t g' h2).1,← h4.1,← h4.2.1]
      exact .ptr h3
  refine wpIn_rangeFunc ?_
  intro fn hfn
  obtain ⟨rec,hrec⟩:∃ rec:LoopState→Option Code→Loop,rec=fun st pe=>{ state:=st,pending:=pe,fn,tmps:=a.tmps,params:=ps,assign:=as,body:=bd,defers:=w.heap.size }:=⟨_,rfl⟩
  obtain ⟨W1,hW1⟩:∃ W1,(w.alloc (.deferred (some []))).alloc (.loop (rec .ready none))=W1:=⟨_,rfl⟩
  have hL1:W1.heap[w.heap.size+1]?=some (.loop (rec .ready none)):=by
    rw [← hW1];have:=World.alloc_heap_new (w.alloc (.deferred (some []))) (.loop (rec .ready none));rwa [World.size_alloc] at this
  have hK1:W1.heap[w.heap.size]?=some (.deferred (some [])):=by
    rw [← hW1];exact (Below.heap_alloc _ _ _ (by simp)).trans (World.alloc_heap_new w _)
  have hb1:Below w.heap.size w W1:=by
    rw [← hW1];exact ((Below.refl _ w).alloc (Nat.le_refl _) _).alloc (by simp) _
  have nb:∀ st pe,(∀ cs e fr,Obj.loop (rec st pe)≠.cells cs e fr)∧∀ es n,Obj.loop (rec st pe)≠.map es n:=fun st pe=>⟨fun _ _ _ h=>(by cases h),fun _ _ h=>(by cases h)⟩
  obtain ⟨F,hF⟩:∃ F,F=Fof E σ.den.blk:=⟨_,rfl⟩
  rw [← hF] at hseq hF0
  have hFlt:∀ b,F b→b < w.heap.size:=fun b hb=>by rw [hF] at hb;obtain ⟨q,h1,h2⟩:=hb;rw [← h2];exact ((hr.mem.blk q).lt h1).1
  let I:Nat→World→Prop:=fun i W=>∃ v E',R.inv i v∧Mem c U (head v).den.blk E' W∧(∀ g'∈p.vs,E'.kn g'∧E'.at_ g'=E0.at_ g')∧∀ b,b < w.heap.size→Fof E' (head v).den.blk b→F b
  refine ⟨w.heap.size+1,[{ target:=.collected w.heap.size,args:=#[] }],W1,{ target:=.fn (.func R.gf) lb,args:=#[.func (.yield (w.heap.size+1)) #[] #[]] },W1,R.gf,
    #[.func (.yield (w.heap.size+1)) #[] #[]]++lb,W1,?_,?_,?_,?_,(fun h=>by cases h),?_⟩
  · rw [← hW1,hrec];exact run_enterLoop_outer _ _ _ _ _
  · simp only [resolve,hg]
    simp [go_sem]
  · intro f' _;trivial
  · simp [invoke,go_sem,hen]
  refine (hseq (n - 1) (w.heap.size+1) (fun i W=>I i W∧W.heap[w.heap.size+1]?=some (.loop (rec .ready none))∧W.heap[w.heap.size]?=some (.deferred (some []))) W1 ?round ⟨hb1.size,fun b hb _=>hb1.block b hb⟩
    ⟨⟨p.x,E0,hinv0,hr0.mem.grow hb1,fun g' hg'=>⟨hkn0 g' hg',rfl⟩,hF0⟩,hL1,hK1⟩).mono ?behind
  case round=>
    rintro i W0 W2 us ⟨⟨v,E',hi,hm,hpin,hFi⟩,hl,hd⟩ hlt hso hbl hul hva
    obtain ⟨hlen,hev⟩:=hround i v hlt hi
    have lt0:w.heap.size+1 < W0.heap.size:=(Array.getElem?_eq_some_iff.1 hl).1
    have hm2:=hm.grow hbl
    have hl2:W2.heap[w.heap.size+1]?=some (.loop (rec .ready none)):=(hbl.block _ lt0).trans hl
    have hd2:W2.heap[w.heap.size]?=some (.deferred (some [])):=(hbl.block _ (by omega)).trans hd
    have hs2:=hbl.size
    have hy:=run_yield (P:=P) (args:=us.toArray) hl2 (by rw [hrec];simp [hul,hlen])
    rw [hrec] at hy
    refine ⟨fn,_,as,bd,hy,roundIn_of_wpIn hfn ?_⟩
    clear hy
    have hmr:=hm2.goIn (hvs64 E' hpin)
    have hfold:=fold_set (nt:=nt) ps.toList (R.el i) us T0 a.tmps (nodupB_ok q6) (fun t ht=>by rw [hr.size];exact Nat.le_of_ble_eq_true (List.all_eq_true.1 q7 t ht)) hul (by rw [hlen];simp)
    have hz:(ps.zip us.toArray).foldl (fun (t:Array Value) (x:Tmp×Value)=>t.setIfInBounds x.1 x.2) a.tmps=(ps.toList.zip us).foldl (fun a (p:Nat×Value)=>a.setIfInBounds p.1 p.2) a.tmps:=by
      rw [← Array.foldl_toList,Array.toList_zip]
    have hrr:TRel (cxR c W2 (Fof E' (head v).den.blk) E' p.vs) (UR c U) nt (headP R ps.toList σ p.vs p.rs (tupsOf σ.blk p.fz) v i) E' { tmps:=(ps.zip us.toArray).foldl (fun (t:Array Value) (x:Tmp×Value)=>t.setIfInBounds x.1 x.2) a.tmps,defers:=[] } W2:=by
      have hb3:(headP R ps.toList σ p.vs p.rs (tupsOf σ.blk p.fz) v i).den.blk=(head v).den.blk:=by rw [hhead];rfl
      refine ⟨by rw [hb3];exact hmr,?_,⟨rfl,fun D hD=>by cases hD⟩,fun t=>?_⟩
      · show Array.size _=nt
        rw [hz,hfold.1,hr.size]
      · rw [hb3]
        show VA _ _ _ _ _ (denV (headR R σ p.vs p.rs (tupsOf σ.blk p.fz) v).blk (cellsAt ps.toList (R.el i) (headR R σ p.vs p.rs (tupsOf σ.blk p.fz) v).tmp t)) (Array.getD _ t undef)
        rw [show (headR R σ p.vs p.rs (tupsOf σ.blk p.fz) v).tmp=T0 by rw [← htmp v,hhead],hz]
        rcases hfold.2 t with ⟨j,y,u,r1,r2,r3,r4⟩ | ⟨r1,r2⟩
        · rw [r3,r4]
          exact hva _ _ _ _ (fun b ⟨q,s1,s2⟩=>by rw [← s2];exact ((hm.blk q).lt s1).1) j y u r1 r2 _
        · rw [r1,r2]
          exact hslot _ _ _ _ _ _ hpin t
    have hfp:Fresh (headP R ps.toList σ p.vs p.rs (tupsOf σ.blk p.fz) v i) (64+R.sh.nr):=fun g hg=>by
      have:=(ho.head v).2.2.1 g hg
      exact this
    have hnl:¬ Fof E' (head v).den.blk (w.heap.size+1):=fun ⟨q,s1,s2⟩=>by
      rcases (hm2.blk q).cells s1 (by rw [s2];exact hl2) with ⟨_,_,_,h⟩ | ⟨_,_,h⟩ <;> cases h
    have hnd:¬ Fof E' (head v).den.blk w.heap.size:=fun ⟨q,s1,s2⟩=>by
      rcases (hm2.blk q).cells s1 (by rw [s2];exact hd2) with ⟨_,_,_,h⟩ | ⟨_,_,h⟩ <;> cases h
    refine wpIn_mono (evC_ok hΔ as _ 10 _ _ _ hfp hev (some (w.heap.size+1)) (n - 1 - 1) _ _ E' _ W2 hrr) ?_
    rintro e a1 W3 ⟨σ1,E1,hr1,k1,hk1,hf1,hfr1,hK1⟩
    cases e with
    | normal=>?_
    | _=>exact hK1.elim
    obtain ⟨hm3,hpin3,hs3,hF3,hsame3⟩:=hm2.goOut hr1.mem
    have hl3:W3.heap[w.heap.size+1]?=some (.loop (rec .ready none)):=(hsame3 _ (by omega) hnl).trans hl2
    have hd3:W3.heap[w.heap.size]?=some (.deferred (some [])):=(hsame3 _ (by omega) hnd).trans hd2
    have hpin3':∀ g'∈p.vs,E1.kn g'∧E1.at_ g'=E0.at_ g':=fun g' hg'=>⟨(hpin3 g' hg').1,(hpin3 g' hg').2.trans (hpin g' hg').2⟩
    refine ⟨_,run_beginRound hl3 (by rw [hrec]),?_⟩
    obtain ⟨W4,hW4⟩:∃ W4,W3.putObj (w.heap.size+1) (.loop { rec .ready none with state:=.busy })=W4:=⟨_,rfl⟩
    rw [hW4]
    have hm4:Mem c U σ1.den.blk E1 W4:=by rw [← hW4];exact hm3.book _ hl3 (nb _ _) (by omega)
    have hs4:W4.heap.size=W3.heap.size:=by rw [← hW4];exact World.putObj_size
    have hl4:W4.heap[w.heap.size+1]?=some (.loop { rec .ready none with state:=.busy }):=by rw [← hW4];exact World.putObj_heap_same (by omega)
    have ho4:∀ b,b≠w.heap.size+1→W4.heap[b]?=W3.heap[b]?:=fun b hb=>by rw [← hW4];exact World.putObj_heap_other hb
    have hd4:W4.heap[w.heap.size]?=some (.deferred (some [])):=(ho4 _ (by omega)).trans hd3
    have hrr4:TRel (cxR c W4 (Fof E1 σ1.den.blk) E1 p.vs) (UR c U) nt σ1 E1 a1 W4:=by
      refine ⟨hm4.goIn (hvs64 E1 hpin3'),hr1.size,⟨hr1.defers.1,fun D hD=>by cases hD⟩,fun t=>?_⟩
      refine ((hr1.tmp t).cells (w':=W4) (Nat.le_of_eq hs4.symm) (fun q u hq=>?_)).more (fun _ _ h=>h) fun b _ hb=>.inl ?_
      · rw [← hW4];exact cell_putObj hl3 (nb _ _).1 q u hq
      · rcases hb with hb | hb
        · exact hb
        · exact .inr (by have:W2.heap.size≤b:=hb;omega)
    refine wpIn_mono (evC_ok hΔ bd _ 10 _ _ _ hf1 hK1 (some (w.heap.size+1)) (n - 1 - 1) _ _ E1 _ W4 hrr4) ?_
    rintro e a2 W5 ⟨σ2,E2,hr2,k2,hk2,hf2,hfr2,hK2⟩
    cases e with
    | normal=>?_
    | _=>exact hK2.elim
    dsimp only at hK2
    split at hK2
    rotate_left 1
    · exact hK2.elim
    rename_i q hq
    obtain ⟨h1,h3⟩:=bif_t hK2
    simp only [Bool.and_eq_true] at h1
    obtain ⟨⟨s1,s2⟩,s3⟩:=h1
    have hvs:q.vs=p.vs:=of_decide_eq_true s2
    obtain ⟨hqps,hqi⟩:=conj_of h3
    have lock:∀ g,g∉p.vs→g < 64→lkR p.vs g=true:=fun g hv hg=>by
      have h1:Nat.blt g 64=true:=Nat.ble_eq_true_of_le hg
      have h2:p.vs.any (Nat.beq g)=false:=by
        cases hb:p.vs.any (Nat.beq g) with
        | false=>rfl
        | true=>exact absurd (any_mem.1 hb) hv
      simp [lkR,h1,h2]
    have same:∀ g,g∉p.vs→g < 64→(head v).blk g=(head q.x).blk g:=fun g hv hg=>by
      rw [hblk,hblk]
      rcases (ho.head v).2.1 g hv hg with ⟨e1,f1⟩ | ⟨f1,e1,e2⟩
      · rcases (ho.head q.x).2.1 g hv hg with ⟨e3,_⟩ | ⟨f2,_⟩
        · exact e1.trans e3.symm
        · exact absurd f2 f1
      · rcases (ho.head q.x).2.1 g hv hg with ⟨_,f2⟩ | ⟨_,e3,e4⟩
        · exact absurd f1 f2
        · exact e2.trans e4.symm
    obtain ⟨E3,hr3,hF5⟩:=(tellOf σ2 q hq s1 hqps hvs fun g hv hg=>by
      have hl:=lock g hv hg
      refine .inl ⟨?_,fun hh=>by rw [all_not s3 (List.mem_append.2 (.inl (List.mem_append.2 (.inr hh))))] at hl;cases hl⟩
      rw [tupsOf_out _ _ _ (fun hh=>by rw [all_not s3 (List.mem_append.2 (.inr hh))] at hl;cases hl),hfr2.blk g hl,hfr1.blk g hl]
      have:=(same g hv hg).symm
      rw [this,hhead]
      rfl).entF _ _ E2 a2 W5 hr2
    obtain ⟨hm5,hpin5,hs5,hF6,hsame5⟩:=hm4.goOut hr3.mem
    have hnl4:¬ Fof E1 σ1.den.blk (w.heap.size+1):=fun ⟨q,s1,s2⟩=>by
      rcases (hm4.blk q).cells s1 (by rw [s2];exact hl4) with ⟨_,_,_,h⟩ | ⟨_,_,h⟩ <;> cases h
    have hnd4:¬ Fof E1 σ1.den.blk w.heap.size:=fun ⟨q,s1,s2⟩=>by
      rcases (hm4.blk q).cells s1 (by rw [s2];exact hd4) with ⟨_,_,_,h⟩ | ⟨_,_,h⟩ <;> cases h
    have hl5:W5.heap[w.heap.size+1]?=some (.loop { rec .ready none with state:=.busy }):=(hsame5 _ (by omega) hnl4).trans hl4
    have hd5:W5.heap[w.heap.size]?=some (.deferred (some [])):=(hsame5 _ (by omega) hnd4).trans hd4
    have hF1i:∀ b,b < w.heap.size→Fof E1 σ1.den.blk b→F b:=fun b hb hh=>hFi b hb (hF3 b (by omega) hh)
    have hend:=run_endRound (P:=P) none hl5
    refine ⟨_,_,hend,rfl,⟨⟨q.x,E3,hqi,hm5.book _ hl5 ⟨fun _ _ _ h=>(by cases h),fun _ _ h=>(by cases h)⟩ (by omega),fun g' hg'=>⟨(hpin5 g' hg').1,(hpin5 g' hg').2.trans (hpin3' g' hg').2⟩,fun b hb hh=>hF1i b hb (hF6 b (by omega) hh)⟩,?_,?_⟩,?_,fun b hb hn=>?_⟩
    · rw [World.putObj_heap_same (by omega),hrec]
      rfl
    · exact (World.putObj_heap_other (by omega)).trans hd5
    · rw [World.putObj_size];omega
    · rw [World.putObj_heap_other (by omega),hsame5 b (by omega) (fun hh=>hn (hF1i b hb hh)),ho4 b (by omega),hsame3 b (by omega) (fun hh=>hn (hFi b hb hh)),hbl.block b (by omega)]
      exact hso.2 b hb hn
  case behind=>
    rintro e W' ⟨⟨u,rfl⟩,W0,⟨⟨v,E',hi,hm,hpin,_⟩,hl,hd⟩,hbl⟩
    have lt0:w.heap.size+1 < W0.heap.size:=(Array.getElem?_eq_some_iff.1 hl).1
    have hl':W'.heap[w.heap.size+1]?=some (.loop (rec .ready none)):=(hbl.block _ lt0).trans hl
    have hd':W'.heap[w.heap.size]?=some (.deferred (some [])):=(hbl.block _ (by omega)).trans hd
    have hs:=hbl.size
    refine ⟨none,_,by have:=run_endLoop (P:=P) hl' (by rw [hrec];simp);rw [hrec] at this;exact this,rfl,head v,E',?_,fun g hg=>?_,?_⟩
    · refine ⟨(((hm.grow hbl).book _ hl' (nb _ _) (by omega)).dfrs _),hr.size,⟨by rw [hd0];rfl,fun D hD=>?_⟩,fun t=>?_⟩
      · obtain rfl:=List.mem_singleton.1 hD
        exact (World.putObj_heap_other (by omega)).trans hd'
      · show VA _ _ _ _ _ (denV (head v).blk ((head v).tmp t)) _
        rw [htmp]
        exact hslot _ _ _ _ _ _ hpin t
    · rw [hblk];exact (ho.head v).2.2.1 g hg
    · have:=hend v hi
      rw [hhead]
      exact this
theorem opIn_mono {F:Fence} {n:Nat} {o:Oper} {a:Act} {w:World} {K K':Act→World→Prop} {Q Q':Exit→Act→World→Prop} (h:∀ a w,K a w→K' a w) (hq:∀ e a w,Q e a w→Q' e a w) (hh:o.wpIn F n P a w K Q):o.wpIn F n P a w K' Q':=by
  have lo:LetsOut Q→LetsOut Q':=fun ⟨a,w,h⟩=>⟨a,w,hq _ _ _ h⟩
  unfold Oper.wpIn at*
  refine ⟨hh.1,?_⟩
  have hh:=hh.2
  generalize (o.semAt F.round a.eval).run P w=r at*
  cases r with
  | ok x w' =>
    cases x <;> simp only [Oper.uponIn] at hh ⊢ <;>
      first
        | exact h _ _ hh
        | exact ⟨hh.1,CallsIn.mono hh.2 (fun e w'' he=>by cases e <;> first | exact h _ _ he | exact hq _ _ _ he | exact lo he)⟩
        | exact ⟨hh.1,RowsIn.mono hh.2 (fun _ _ he=>h _ _ he)⟩
        | exact ⟨hh.1,RoundIn.mono hh.2 (fun e w'' he=>by cases e <;> first | exact h _ _ he | exact hq _ _ _ he | exact lo he)⟩
  | halt x w'=>cases x <;> simp only [Oper.uponIn] at hh ⊢ <;> exact hq _ _ _ hh
theorem list_snoc {F:Fence} {n:Nat} {ops:Array Oper} {o:Oper} {Q:Exit→Act→World→Prop} {M:Exit→Act→World→Prop} (hM:∀ a w,M .normal a w→wpListIn F n P ops Q [o] a w) (hQ:∀ e a w,e≠.normal→¬ M e a w):∀ (l:List Oper) (a:Act) (w:World),wpListIn F n P ops M l a w→wpListIn F n P ops Q (l++[o]) a w
  | [],a,w,h=>hM a w h
  | x :: l, a, w, h => by
    show if _ then _ else _
    have h':if Region.wanted x (yielded ops a.tmps) then x.wpIn F n P a w (wpListIn F n P ops M l) M else (∀ f,x.about P w a.eval=some f→F.fn f)∧wpListIn F n P ops M l (a.put x.dst undef) w:=h
    have key:x.wpIn F n P a w (wpListIn F n P ops M l) M→x.wpIn F n P a w (wpListIn F n P ops Q (l++[o])) Q:=fun hx=>by
      have h1:x.wpIn F n P a w (wpListIn F n P ops Q (l++[o])) M:=opIn_mono (list_snoc hM hQ l) (fun _ _ _ h=>h) hx
      unfold Oper.wpIn at h1 ⊢
      refine ⟨h1.1,?_⟩
      have hh:=h1.2
      generalize (x.semAt F.round a.eval).run P w=r at*
      have lo:LetsOut M→False:=fun ⟨a,w,h⟩=>hQ _ _ _ (by simp) h
      cases r with
      | ok y w' =>
        cases y <;> simp only [Oper.uponIn] at hh ⊢ <;>
          first
            | exact hh
            | exact ⟨hh.1,CallsIn.mono hh.2 (fun e w'' he=>by cases e <;> first | exact he | exact absurd he (hQ _ _ _ (by simp)) | exact (lo he).elim)⟩
            | exact ⟨hh.1,RoundIn.mono hh.2 (fun e w'' he=>by cases e <;> first | exact he | exact absurd he (hQ _ _ _ (by simp)) | exact (lo he).elim)⟩
      | halt y w'=>cases y <;> simp only [Oper.uponIn] at hh ⊢ <;> first | exact hh | exact absurd hh (hQ _ _ _ (by simp))
    split at h'
    · rename_i hw;rw [if_pos hw];exact key h'
    · rename_i hw;rw [if_neg hw];exact ⟨h'.1,list_snoc hM hQ l _ _ h'.2⟩
def conc2 (c:Cx) (U:Nat→Prop) (nt:Nat) (K1 K2:Exit→TS→Nat→Prop):Exit→Act→World→Prop:=fun e a w=>
  (∃ σ E k,TRel c U nt σ E a w∧Fresh σ k∧K1 e σ k)∨∃ D σ E k,c.heap.size≤D∧TRel { c with dfr:=[D] } U nt σ E a w∧Fresh σ k∧K2 e σ k
theorem evR_ok (hΔ:DOk P Δ) (hen:∀ args w,(callFunc R.gf args).run P w=.ok (.enter R.gf args) w) (hen0:∀ args w,(callFunc R.f0 args).run P w=.ok (.enter R.f0 args) w) (hit:∀ xs,R.ok xs→IterOk P R.f0 R.gf xs R.el R.N):
    ∀ (cd:Code) (K1 K2:Exit→TS→Nat→Prop) (σ:TS) (k:Nat),Fresh σ k→evR P Δ nt ann R cd K1 K2 σ k→∀ (n:Nat) (c:Cx) (U:Nat→Prop) (E:Env) (a:Act) (w:World),c.dfr=[]→TRel c U nt σ E a w→cd.wpIn (FR none) n P (conc2 c U nt K1 K2) a w
  | .seq x y, K1, K2, σ, k, hf, h, n, c, U, E, a, w, hcd, hr => by
    simp only [evR] at h
    split at h
    · rename_i ops g ps as bd id hrc
      obtain ⟨i,rfl,rfl⟩:∃ i,x=.region i ops false∧y=.block id (.rangeFunc (.tmp g) ps as bd):=by
        unfold rcOf at hrc
        split at hrc
        · cases hrc;exact ⟨_,rfl,rfl⟩
        · cases hrc
      split at h
      rotate_left 1
      · exact h.elim
      rename_i o hrev
      have hops:ops.toList=initL ops.toList++[o]:=init_last hrev
      refine wpIn_seq (wpIn_region_list ?_)
      rw [hops]
      refine list_snoc (M:=tconc c U nt fun e σ'=>e=.normal∧Aft (fun _=>false) ((initL ops.toList).filterMap (·.dst)) σ k _ σ') ?_ (fun e a w he ⟨_,_,_,h1,_⟩=>he h1) (initL ops.toList) a w (evL_ok hΔ (initL ops.toList) σ k _ hf h (fun σ' ha=>⟨rfl,ha⟩) none n c U E a w hr)
      rintro a1 w1 ⟨σ1,E1,hr1,-,k1,hk1,hf1,-,hK⟩
      split at hK
      rotate_left 1
      · exact hK.elim
      rename_i f args ts d ho hgd hdst
      split at hK
      rotate_left 1
      · exact hK.elim
      rename_i f1 hev
      obtain ⟨h1,hok,hK5⟩:=bif_t hK
      simp only [Bool.and_eq_true] at h1
      obtain ⟨⟨s1,s2⟩,s3⟩:=h1
      obtain rfl:=Nat.eq_of_beq_eq_true s1
      obtain rfl:=Nat.eq_of_beq_eq_true s2
      have hlt:d < nt:=Nat.le_of_ble_eq_true s3
      have hw:Region.wanted o (yielded ops a1.tmps)=true:=by simp [Region.wanted,hgd]
      show if _ then _ else _
      rw [if_pos hw]
      refine wp_in none n (fun cc hc=>by rw [ho] at hc;cases hc) ?_
      obtain ⟨vals,hrun,hvl,hva⟩:=args_of ho hev hen0 c U E1 a1 w1 σ1 hr1 fun _ _=>rfl
      rw [List.append_nil] at hvl hva
      unfold Oper.wp
      rw [hrun]
      refine (hit _ hok E1 w1 (Fof E1 σ1.den.blk) U c.heap.size σ1.blk vals hr1.mem.below.tabIn (fun g x ht ⟨q,q1,q2⟩=>hr1.mem.below.tabMine ht (by rw [← q2];exact ((hr1.mem.blk q).lt q1).2.1)) (fun b ⟨q,q1,q2⟩=>by rw [← q2];exact ((hr1.mem.blk q).lt q1).1) hvl hva).mono ?_
      rintro e w2 ⟨lb,rfl,hb,hseq⟩
      have hr2:TRel c U nt σ1 E1 a1 w2:=hr1.keep hb.size (fun b hlt=>hb.block b hlt) ⟨hr1.mem.below.below.trans (hb.mono (Nat.zero_le _)),fun b hlt hn=>(hb.block b (by have:=hr1.mem.below.size;omega)).trans (hr1.mem.below.keep b hlt hn),hr1.mem.below.pl,hr1.mem.below.tab,hr1.mem.below.tabh⟩
      have hr3:TRel c U nt (σ1.step (some d) ⟨.und,[]⟩) E1 (a1.put (some d) (.func (.func R.gf) #[] lb)) w2:=TRel.put hr2 (dst:=some d) (fun t ht=>by cases ht;exact hlt) (x:=.und) (.und _)
      rw [hdst]
      show Code.wpIn _ _ _ _ _ _ _
      have hf3:Fresh (σ1.step (some d) ⟨.und,[]⟩) k1:=hf1
      refine wpIn_block (wpIn_mono (rangeK_ok hΔ hen hf3 hK5 hcd hr3 (lb:=lb) ?_ hseq n) ?_)
      · show (a1.tmps.setIfInBounds d _).getD d undef=_
        rw [getD_set (by rw [hr1.size];exact hlt),if_pos rfl]
      · rintro e a' w' ⟨rfl,σ',E',h1,h2,h3⟩
        exact .inr ⟨_,σ',E',_,Nat.le_trans hr2.mem.below.size (Nat.le_refl _),h1,h2,h3⟩
    · cases hha:hasR x with
      | true =>
        rw [hha,cond_true] at h
        refine wpIn_seq (wpIn_mono (evR_ok hΔ hen hen0 hit x _ _ σ k hf h n c U E a w hcd hr) fun e a' w' hc=>?_)
        rcases hc with ⟨σ1,E1,k1,h1,h2,h3⟩ | ⟨D,σ1,E1,k1,hD,h1,h2,h3⟩
        · cases e with
          | normal=>exact h3.elim
          | _=>exact .inl ⟨σ1,E1,k1,h1,h2,h3⟩
        · cases e with
          | normal=>exact wpIn_mono (evC_ok hΔ y _ 20 _ σ1 k1 h2 h3 none n _ U E1 a' w' h1) fun e a2 w2 ⟨σ2,E2,r1,k2,r2,r3,_,r4⟩=>.inr ⟨D,σ2,E2,k2,hD,r1,r3,r4⟩
          | _=>exact .inr ⟨D,σ1,E1,k1,hD,h1,h2,h3⟩
      | false =>
        rw [hha,cond_false] at h
        refine wpIn_seq (wpIn_mono (evC_ok hΔ x _ 0 _ σ k hf h none n c U E a w hr) fun e a' w' ⟨σ1,E1,h1,k1,h2,h3,_,h4⟩=>?_)
        cases e with
        | normal=>exact evR_ok hΔ hen hen0 hit y _ _ σ1 k1 h3 h4 n c U E1 a' w' hcd h1
        | _=>exact .inl ⟨σ1,E1,k1,h1,h3,h4⟩
  | .block id b, K1, K2, σ, k, hf, h, n, c, U, E, a, w, hcd, hr => by
    simp only [evR] at h
    refine wpIn_block (wpIn_mono (evR_ok hΔ hen hen0 hit b _ _ σ k hf h n c U E a w hcd hr) fun e a' w' hc=>?_)
    have key:∀ (i:Nat),conc2 c U nt (fun e σ' k'=>match e with | .exit i=>bif Nat.beq i id then K1 .normal σ' k' else K1 (.exit i) σ' k' | e=>K1 e σ' k') (fun e σ' k'=>match e with | .exit i=>bif Nat.beq i id then K2 .normal σ' k' else K2 (.exit i) σ' k' | e=>K2 e σ' k') (.exit i) a' w'→if i=id then conc2 c U nt K1 K2 .normal a' w' else conc2 c U nt K1 K2 (.exit i) a' w':=fun i hc=>by
      by_cases hi:i=id
      · subst hi
        rw [if_pos rfl]
        have hb:Nat.beq i i=true:=by simp
        rcases hc with ⟨σ1,E1,k1,h1,h2,h3⟩ | ⟨D,σ1,E1,k1,hD,h1,h2,h3⟩
        · simp only [hb,cond_true] at h3;exact .inl ⟨σ1,E1,k1,h1,h2,h3⟩
        · simp only [hb,cond_true] at h3;exact .inr ⟨D,σ1,E1,k1,hD,h1,h2,h3⟩
      · rw [if_neg hi]
        have hb:Nat.beq i id=false:=by
          cases hq:Nat.beq i id with
          | false=>rfl
          | true=>exact absurd (Nat.eq_of_beq_eq_true hq) hi
        rcases hc with ⟨σ1,E1,k1,h1,h2,h3⟩ | ⟨D,σ1,E1,k1,hD,h1,h2,h3⟩
        · simp only [hb,cond_false] at h3;exact .inl ⟨σ1,E1,k1,h1,h2,h3⟩
        · simp only [hb,cond_false] at h3;exact .inr ⟨D,σ1,E1,k1,hD,h1,h2,h3⟩
    cases e with
    | exit i=>exact key i hc
    | _=>exact hc
  | .skip,_,_,_,_,_,h,_,_,_,_,_,_,_,_=>h.elim
  | .region ..,_,_,_,_,_,h,_,_,_,_,_,_,_,_=>h.elim
  | .cond ..,_,_,_,_,_,h,_,_,_,_,_,_,_,_=>h.elim
  | .loop ..,_,_,_,_,_,h,_,_,_,_,_,_,_,_=>h.elim
  | .scope ..,_,_,_,_,_,h,_,_,_,_,_,_,_,_=>h.elim
  | .label ..,_,_,_,_,_,h,_,_,_,_,_,_,_,_=>h.elim
  | .exit ..,_,_,_,_,_,h,_,_,_,_,_,_,_,_=>h.elim
  | .goto ..,_,_,_,_,_,h,_,_,_,_,_,_,_,_=>h.elim
  | .ret,_,_,_,_,_,h,_,_,_,_,_,_,_,_=>h.elim
  | .rangeFunc ..,_,_,_,_,_,h,_,_,_,_,_,_,_,_=>h.elim
  | .refuse ..,_,_,_,_,_,h,_,_,_,_,_,_,_,_=>h.elim
end
theorem SC.ofR {P:Program} {f:FuncId} {fn:Func} {c:Code} {S:Spec} {Δ:List (FuncId×Spec)} {ann:(x:S.sig.V)→Nat→Option LA} {R:S.sig.V→RA} (hf:P.funcs[f]?=some fn) (hb:fn.body=some c) (hs:specOk fn S=true) (hn:∀ x,(S.inU x).cs.length≤fn.ntmps) (hΔ:DOk P Δ)
    (hen:∀ x args w,(callFunc (R x).gf args).run P w=.ok (.enter (R x).gf args) w) (hen0:∀ x args w,(callFunc (R x).f0 args).run P w=.ok (.enter (R x).f0 args) w) (hit:∀ x,S.pre x→∀ xs,(R x).ok xs→IterOk P (R x).f0 (R x).gf xs (R x).el (R x).N) (h:VCR P fn c S Δ ann R):SC P f S:=fun hnv x hpre w U E vs hm hkn hl hv=>by
  rw [List.length_map] at hl
  obtain ⟨hfresh,hr,hsz⟩:=SC.start hs (hn x) hm hl hv
  refine (callsIn_wide (n:=0)).1 (callsIn_of_wp_marks hf hb trivial ?_ rfl)
  refine wpIn_mono (evR_ok hΔ (hen x) (hen0 x) (hit x hpre) c _ _ (startS S x) _ hfresh (hsz _ (h x hpre)) 0 _ U E _ w rfl hr) fun e a w' hc=>?_
  rcases hc with ⟨σ,E1,k,h1,h2,h3⟩ | ⟨D,σ,E1,k,hD,h1,h2,h3⟩
  · cases e with
    | normal =>
      obtain ⟨q1,q2⟩:=SC.fin hs h2 h1 h3
      show LeavesInM _ _ _ _ _ _ a.defers _ _
      rw [q1]
      exact q2
    | ret =>
      obtain ⟨q1,q2⟩:=SC.fin hs h2 h1 h3
      show LeavesInM _ _ _ _ _ _ a.defers _ _
      rw [q1]
      exact q2
    | _=>exact h3.elim
  · have hds:a.defers=[{ target:=.collected D,args:=#[] }]:=h1.defers.1
    have hDw:w'.heap[D]?=some (.deferred (some [])):=h1.defers.2 D (List.mem_singleton.2 rfl)
    have h4:TRel (Cx.call w (Fof E fun g=>denB (bsOf (S.inU x).bs) (bsOf (S.inU x).bs g)) (· < S.sig.nv) E) U fn.ntmps σ E1 ⟨a.tmps,[]⟩ (w'.putObj D (.deferred none)):=
      ⟨(h1.mem.dfrs []).book _ hDw ⟨fun _ _ _ h=>(by cases h),fun _ _ h=>(by cases h)⟩ hD,h1.size,⟨rfl,fun D hD=>by cases hD⟩,fun t=>(h1.tmp t).cells (by rw [World.putObj_size];exact Nat.le_refl _) (cell_putObj hDw fun _ _ _ h=>(by cases h))⟩
    cases e with
    | normal =>
      obtain ⟨_,q2⟩:=SC.fin hs h2 h4 h3
      show LeavesInM _ _ _ _ _ _ a.defers _ _
      rw [hds]
      exact ⟨by simp,.inl ⟨_,_,rfl,run_takeDeferred hDw,q2⟩⟩
    | ret =>
      obtain ⟨_,q2⟩:=SC.fin hs h2 h4 h3
      show LeavesInM _ _ _ _ _ _ a.defers _ _
      rw [hds]
      exact ⟨by simp,.inl ⟨_,_,rfl,run_takeDeferred hDw,q2⟩⟩
    | _=>exact h3.elim
end Go.Proofs.YtjkbkhjalimebaaGreatDoor

