import Derived.Test.YtjkbkhjalimebaaGreatDoorPAlike35
import Derived.Test.YtjkbkhjalimebaaGreatDoorRows
import Derived.Test.YtjkbkhjalimebaaGreatDoorPAlike38
import Derived.Lib.LaidTab
namespace Go.Proofs.YtjkbkhjalimebaaGreatDoor
open Go.ChangeShapes Go.WideShapes Go.ChangeAt Go.RowKit
set_option linter.unusedVariables false
set_option linter.unusedSimpArgs false
def bkT:(T:Ty)→Val T→Nat
  | .int _,_=>1
  | .bool,_=>1
  | .sl t,l=>(List.map (bkT t) (l:List (Val t))).sum+1
  | .unit,_=>0
  | .pair a b,x=>bkT a x.1+bkT b x.2
theorem bulk_one {H:Type} (d:DataW H):1≤Rows.uptoBulk d:=by
  cases d with
  | lit l=>cases l <;> simp [Rows.uptoBulk]
  | _=>simp [Rows.uptoBulk]
theorem bulk_all {H:Type} {f:Nat→Nat} {D:Nat→DataW H}:∀ (l:List Nat),(∀ i∈l,f i≤Rows.uptoBulk (D i))→(l.map f).sum≤Rows.uptoBulkAll (l.map D)
  | [],_=>Nat.zero_le _
  | i :: l, h => by
    have h1:=h i (List.mem_cons_self ..)
    have h2:=bulk_all l (fun j hj=>h j (List.mem_cons_of_mem _ hj))
    simp only [List.map_cons,List.sum_cons,Rows.uptoBulkAll]
    omega
def OpU (P:Program) (t:TypeId) (T:Ty):Prop:=P.cellsOf t=T.size∧
  ∀ (H:Type) (enc:TypeId×Value→H) (w:World) (base:Nat) (spare:Nat→Bool) (held:Bool) (n:Nat) (cs:List Value) (y:DataW H×List MemPlace),DataW.trod enc P w base spare held n t cs=some y→(∀ k∈y.1.weights P t,k≤reachBytes)→∃ x:Val T,(okT T x∧bkT T x≤Rows.uptoBulk y.1)∧CellsV w cs (flatD T x)
section
variable {H:Type} {enc:TypeId×Value→H} {P:Program} {w:World} {base:Nat} {spare:Nat→Bool} {held:Bool}
theorem opU_slice {T:Ty} {t e:TypeId} (ht:P.underlying t=some (.slice e)) (he:OpU P e T) (h1:P.cellsOf t=1) (hpos:0 < T.size) (hbp:0 < P.bytesOf e):OpU P t (.sl T):=by
  obtain ⟨hc,hel⟩:=he
  refine ⟨h1,fun H enc w base spare held n cs y h hz=>?_⟩
  rcases Go.Deep.open_slice ht h with ⟨hcs,hx⟩ | ⟨a,len,cap,m,n,D,Pl,hcs,_,hl,hm,hmm,hx,hi⟩
  · subst hcs
    exact ⟨([]:List (Val T)),⟨⟨by simp,fun x hx=>by simp at hx⟩,bulk_one _⟩,.one fun b0=>.view (fun _ _=>undef) rfl (Nat.le_refl _) (Nat.zero_le _) (fun _=>rfl) (fun i x hx=>by simp at hx) (fun i x hx=>by simp at hx) (fun i x j d hx=>by simp at hx)⟩
  · have hlm:len≤m:=by rw [hmm];split <;> omega
    have hC0:=fun (i:Nat) (him:i < m)=>(show ∃ q:List Value×Val T,w.cells? base (a.add (i*P.cellsOf e)) (P.cellsOf e)=some q.1∧(okT T q.2∧bkT T q.2≤Rows.uptoBulk (D i))∧CellsV w q.1 (flatD T q.2) by
      obtain ⟨cs',hc',ht'⟩:=hi i him
      have hw:∀ k∈(D i).weights P e,k≤reachBytes:=fun k hk=>hz k (by
        rw [hx]
        simp only [DataW.weights,ht,List.mem_cons,List.mem_append]
        by_cases hil:i < len
        · exact .inr (.inl (weights_all_mem (List.mem_map.2 ⟨i,List.mem_range.2 hil,rfl⟩) k hk))
        · exact .inr (.inr (weights_all_mem (List.mem_map.2 ⟨i - len,List.mem_range.2 (by omega),by rw [show len+(i - len)=i by omega]⟩) k hk)))
      obtain ⟨x,hx'⟩:=hel H enc w base spare held n cs' _ ht' hw
      exact ⟨(cs',x),hc',hx'⟩)
    have hbytes:len≤140737488351232:=by
      have h3:=reach_le' (Nat.le_trans (Nat.le_refl _) (hz ((((List.range len).map D).length+((List.range (m - len)).map fun j=>D (len+j)).length)*P.bytesOf e) (by rw [hx];simp [DataW.weights,ht])))
      have h4:len*1≤(((List.range len).map D).length+((List.range (m - len)).map fun j=>D (len+j)).length)*P.bytesOf e:=Nat.mul_le_mul (by simp) hbp
      omega
    subst hcs
    by_cases hl0:len=0
    · subst hl0
      exact ⟨([]:List (Val T)),⟨⟨by simp,fun x hx=>by simp at hx⟩,bulk_one _⟩,.one fun b0=>.view (fun _ _=>undef) rfl (Nat.zero_le _) hm (fun h=>by cases h) (fun i x hx=>by simp at hx) (fun i x hx=>by simp at hx) (fun i x j d hx=>by simp at hx)⟩
    have hex:∃ C:Nat→List Value×Val T,∀ i,i < m→w.cells? base (a.add (i*P.cellsOf e)) (P.cellsOf e)=some (C i).1∧(okT T (C i).2∧bkT T (C i).2≤Rows.uptoBulk (D i))∧CellsV w (C i).1 (flatD T (C i).2):=by
      haveI:Inhabited (List Value×Val T):=⟨(hC0 0 (by omega)).choose⟩
      exact Go.Deep.choose_lt (n:=m) (p:=fun i (q:List Value×Val T)=>w.cells? base (a.add (i*P.cellsOf e)) (P.cellsOf e)=some q.1∧(okT T q.2∧bkT T q.2≤Rows.uptoBulk (D i))∧CellsV w q.1 (flatD T q.2)) hC0
    obtain ⟨C,hC⟩:=hex
    have hgetf:∀ i x,(denS (T:=T) ((List.range len).map fun i=>(C i).2))[i]?=some x→i < len∧flatD T (C i).2=x:=fun i x hix=>by
      unfold denS at hix
      rw [List.getElem?_map,List.getElem?_map] at hix
      by_cases hil:i < len
      · rw [List.getElem?_range hil] at hix
        exact ⟨hil,by simpa using hix⟩
      · rw [List.getElem?_eq_none (by simpa using hil)] at hix
        simp at hix
    refine ⟨((List.range len).map fun i=>(C i).2:List (Val T)),⟨⟨by simpa using hbytes,fun x hx=>?_⟩,?_⟩,.one fun b0=>?_⟩
    · obtain ⟨i,hi1,rfl⟩:=List.mem_map.1 hx
      exact (hC i (by have:=List.mem_range.1 hi1;omega)).2.1.1
    · rw [hx]
      have:=bulk_all (f:=fun i=>bkT T (C i).2) (D:=D) (List.range len) fun i hi=>(hC i (by have:=List.mem_range.1 hi;omega)).2.1.2
      show (List.map (bkT T) ((List.range len).map fun i=>(C i).2)).sum+1≤Rows.uptoBulkAll ((List.range len).map D)+Rows.uptoBulkAll _+1
      rw [List.map_map]
      have e:(List.map ((bkT T)∘fun i=>(C i).2) (List.range len)).sum≤Rows.uptoBulkAll ((List.range len).map D):=this
      omega
    · show VD w _ _ b0 (.view T.size (denS (T:=T) ((List.range len).map fun i=>(C i).2))) _
      refine .view (fun i j=>(C i).1.getD j undef) (by rw [denS_length];simp) hl hm (fun h=>by cases h) (fun i x hix=>?_) (fun i x hix=>?_) (fun i x j d hix hd=>?_)
      · obtain ⟨h3,rfl⟩:=hgetf i x hix
        exact flatD_length _ _
      · obtain ⟨hil,rfl⟩:=hgetf i x hix
        obtain ⟨hcell,hok,hR⟩:=hC i (by omega)
        obtain ⟨_,hlen,hat⟩:=World.cells?_some hcell
        rw [hc] at hlen hat
        obtain ⟨hcell0,hok0,hR0⟩:=hC 0 (by omega)
        obtain ⟨_,hlen0,hat0⟩:=World.cells?_some hcell0
        rw [hc] at hlen0 hat0
        obtain ⟨b,off,spot⟩:=a
        have h00:=hat0 0 hpos
        have hs0:=World.cell?_spot (h00.trans (List.getElem?_eq_getElem (by omega)))
        have hspot:spot=none:=by simpa [Addr.add] using hs0
        subst hspot
        have hcl:∀ j,j < T.size→w.cell? ⟨b,off+(i*T.size+j),none⟩=some ((C i).1.getD j undef):=fun j hj=>by
          have h4:=hat j hj
          have h5:(C i).1[j]?=some ((C i).1.getD j undef):=by rw [List.getD_eq_getElem?_getD,List.getElem?_eq_getElem (by omega)];rfl
          rw [h5,Addr.add_lit,Addr.add_lit] at h4
          rw [← Nat.add_assoc]
          exact h4
        exact ⟨b,off,rfl,⟨World.block_lt_of_cell? _ _ (hcl 0 hpos),fun h=>h,fun _=>.inl trivial⟩,hcl⟩
      · obtain ⟨hil,rfl⟩:=hgetf i x hix
        obtain ⟨hcell,hok,hR⟩:=hC i (by omega)
        have hj:j < (C i).1.length:=by rw [hR.1];exact (List.getElem?_eq_some_iff.1 hd).1
        have h5:(C i).1[j]?=some ((C i).1.getD j undef):=by rw [List.getD_eq_getElem?_getD,List.getElem?_eq_getElem hj];rfl
        exact hR.2 b0 j d _ hd h5
theorem opU_fields {t:TypeId} {fs:Array Field} {n:Nat} {cs:List Value} {y:DataW H×List MemPlace} (ht:P.underlying t=some (.struct fs)) (h:DataW.trod enc P w base spare held n t cs=some y) (hz:∀ k∈y.1.weights P t,k≤reachBytes):
    cs.length=P.cellsOf t∧∃ ys:List (DataW H),ys.length=fs.size∧Rows.uptoBulk y.1=Rows.uptoBulkAll ys+1∧∀ (i:Nat) (fd:Field) (d:DataW H) (T:Ty),fs.toList[i]?=some fd→ys[i]?=some d→OpU P fd.type T→∃ x:Val T,(okT T x∧bkT T x≤Rows.uptoBulk d)∧CellsV w ((cs.drop fd.offset).take T.size) (flatD T x):=by
  obtain ⟨xs,m,_,rfl,hl,hlen,hf⟩:=DataW.trod_struct ht h
  refine ⟨hl,xs.map (·.1),by rw [List.length_map];exact hlen,rfl,fun i fd d T hi' hd ho=>?_⟩
  have hi:fs[i]?=some fd:=by rw [← Array.getElem?_toList];exact hi'
  have hlt:i < fs.size:=(Array.getElem?_eq_some_iff.1 hi).1
  have h1:=hf i fd hi
  have hxi:xs[i]?=some (xs[i]'(by omega)):=List.getElem?_eq_getElem (by omega)
  rw [hxi] at h1
  rw [ho.1] at h1
  rw [List.getElem?_map,hxi] at hd
  obtain rfl:=Option.some.inj hd
  refine ho.2 H enc w base spare held m _ _ h1 fun k hk=>hz k ?_
  simp only [DataW.weights,ht]
  exact DataW.weights_mem_each (j:=i) (t:=fd.type) (by rw [List.getElem?_map,Array.getElem?_toList,hi];rfl) (by rw [List.getElem?_map,hxi];rfl) k hk
mutual
theorem chkU_ok:∀ (n:Nat) (t:TypeId) (T:Ty),chkT P n t T=true→OpU P t T
  | 0,_,_,h=>by simp [chkT] at h
  | n + 1, t, T, h => by
    simp only [chkT,Bool.and_eq_true] at h
    obtain ⟨hc',h⟩:=h
    have hc:=Nat.eq_of_beq_eq_true hc'
    clear hc'
    split at h
    · rename_i k k' ht
      obtain rfl:=of_decide_eq_true h
      refine ⟨hc,fun H enc w base spare held n cs y h _=>?_⟩
      obtain ⟨q,rfl,_,hw⟩:=DataW.trod_int ht h
      exact ⟨q,⟨hw,bulk_one _⟩,.one fun b0=>.int _ _⟩
    · rename_i ht
      refine ⟨hc,fun H enc w base spare held n cs y h _=>?_⟩
      obtain ⟨q,rfl,_⟩:=DataW.trod_bool ht h
      exact ⟨q,⟨trivial,bulk_one _⟩,.one fun b0=>.bool _⟩
    · rename_i e a ht
      simp only [Bool.and_eq_true] at h
      exact opU_slice ht (chkU_ok n e a h.1.1) hc (Nat.le_of_ble_eq_true h.1.2) (Nat.le_of_ble_eq_true h.2)
    · rename_i fs ht
      refine ⟨hc,fun H enc w base spare held m cs y hh hz=>?_⟩
      obtain ⟨hl,ys,hyl,hyb,hf⟩:=opU_fields ht hh hz
      obtain ⟨x,⟨h1,h2⟩,h3⟩:=chkG_ok n fs.toList 0 _ h H ys cs w (by rw [hyl];simp) (by rw [hl,hc,Nat.zero_add]) hf
      rw [List.drop_zero] at h3
      exact ⟨x,⟨h1,by rw [hyb];omega⟩,h3⟩
    · cases h
theorem chkG_ok:∀ (n:Nat) (r:List Field) (off:Nat) (T:Ty),chkF P n r off T=true→∀ (H:Type) (ys:List (DataW H)) (cs:List Value) (w:World),ys.length=r.length→cs.length=off+T.size→(∀ (i:Nat) (f:Field) (d:DataW H) (T':Ty),r[i]?=some f→ys[i]?=some d→OpU P f.type T'→∃ x:Val T',(okT T' x∧bkT T' x≤Rows.uptoBulk d)∧CellsV w ((cs.drop f.offset).take T'.size) (flatD T' x))→∃ x:Val T,(okT T x∧bkT T x≤Rows.uptoBulkAll ys)∧CellsV w (cs.drop off) (flatD T x)
  | 0,_,_,_,h=>by simp [chkF] at h
  | n + 1, [], off, .unit, _ => fun H ys cs w _ hl _ => ⟨(), ⟨trivial, Nat.zero_le _⟩, by
      rw [List.drop_eq_nil_of_le (by rw [hl];exact Nat.le_refl _)]
      exact ⟨rfl,fun b0 j d v h=>by simp [flatD] at h⟩⟩
  | n + 1, f :: r, off, .pair a b, h => fun H ys cs w hyl hl hf => by
    simp only [chkF,Bool.and_eq_true] at h
    obtain ⟨⟨h1,h2⟩,h3⟩:=h
    have ho:=Nat.eq_of_beq_eq_true h2
    cases ys with
    | nil=>simp at hyl
    | cons d ys=>
    obtain ⟨x,⟨k1,kb⟩,k2⟩:=hf 0 f d a rfl rfl (chkU_ok n _ _ h1)
    obtain ⟨y,⟨k3,kc⟩,k4⟩:=chkG_ok n r (off+a.size) b h3 H ys cs w (by simpa using hyl) (by rw [hl];simp [Ty.size];omega) fun i g d' T' hg hd ho'=>hf (i+1) g d' T' (by simpa using hg) (by simpa using hd) ho'
    rw [ho] at k2
    refine ⟨(x,y),⟨⟨k1,k3⟩,by simp only [Rows.uptoBulkAll];show bkT a x+bkT b y≤_;omega⟩,?_⟩
    have e:cs.drop off=(cs.drop off).take a.size++cs.drop (off+a.size):=by rw [← List.drop_drop,List.take_append_drop]
    rw [e]
    exact k2.app k4
  | n+1,[],off,.int _,h=>by simp [chkF] at h
  | n+1,[],off,.bool,h=>by simp [chkF] at h
  | n+1,[],off,.sl _,h=>by simp [chkF] at h
  | n+1,[],off,.pair _ _,h=>by simp [chkF] at h
  | n+1,_::_,off,.int _,h=>by simp [chkF] at h
  | n+1,_::_,off,.bool,h=>by simp [chkF] at h
  | n+1,_::_,off,.sl _,h=>by simp [chkF] at h
  | n+1,_::_,off,.unit,h=>by simp [chkF] at h
end
theorem argU_agg {T:Ty} {re:Reach} {b0 n:Nat} {t:TypeId} {fs:Array Field} {v:Value} {d:DataW H} {p:List MemPlace} (hs:P.underlying t=some (.struct fs)) (ho:chkT P n t T=true)
    (hv:Value.okWide P w re b0 t v) (h:DataW.Trod enc P w base spare held t v d p) (hz:∀ k∈d.weights P t,k≤reachBytes):∃ x:Val T,(okT T x∧bkT T x≤Rows.uptoBulk d)∧∀ (o:Bool) (E:Env) (B:Nat→TB) (vs:List Nat) (a k b1:Nat),VA E w (fun _=>False) (fun _=>True) b1 (denV B (.agg (unparse vs (shOf o T) (shV o T x) a k).cs)) v:=by
  obtain ⟨cs,rfl,_⟩:=okWide_struct hs hv
  obtain ⟨fuel,hf⟩:=h
  obtain ⟨x,h1,h2⟩:=(chkU_ok n t T ho).2 H enc w base spare held fuel _ _ hf hz
  have h3:CellsV w cs.toList (flatD T x):=by simpa [Value.cells] using h2
  refine ⟨x,h1,fun o E B vs a k b1=>?_⟩
  obtain ⟨q1,q2⟩:=sh_cells (o:=o) (E:=E) (B:=B) (vs:=vs) (b0:=b1) T x a k _ h3
  have:Value.agg cs=.agg cs.toList.toArray:=by simp
  rw [this]
  simp only [denV]
  refine .agg (by rw [denVs_map,List.length_map,q1]) fun i y u hy hu=>?_
  rw [denVs_map,List.getElem?_map] at hy
  obtain ⟨z,hz',rfl⟩:=Option.map_eq_some_iff.1 hy
  exact q2 i z u hz' hu
theorem argU_sl {T:Ty} {re:Reach} {b0 n:Nat} {t e:TypeId} {v:Value} {d:DataW H} {p:List MemPlace} (hs:P.underlying t=some (.slice e)) (ho:chkT P n t (.sl T)=true)
    (hv:Value.okWide P w re b0 t v) (h:DataW.Trod enc P w base spare held t v d p) (hz:∀ k∈d.weights P t,k≤reachBytes):∃ x:List (Val T),(okT (.sl T) x∧bkT (.sl T) x≤Rows.uptoBulk d)∧∀ (o:Bool) (E:Env) (B:Nat→TB) (b1:Nat),VA E w (fun _=>False) (fun _=>True) b1 (denV B (.view o T x)) v:=by
  obtain ⟨a0,len0,cap0,rfl⟩:=okWide_slice hs hv
  obtain ⟨fuel,hf⟩:=h
  obtain ⟨x,h1,h2⟩:=(chkU_ok n t (.sl T) ho).2 H enc w base spare held fuel _ _ hf hz
  refine ⟨x,h1,fun o E B b1=>?_⟩
  have h3:VD w (fun _=>False) (fun _=>True) b1 (.view T.size (denS (T:=T) x)) (.slice a0 len0 cap0):=h2.2 b1 0 _ _ rfl (by simp [Value.cells])
  cases o with
  | false=>exact .d h3
  | true=>exact VA.lend h3
end
end Go.Proofs.YtjkbkhjalimebaaGreatDoor
namespace Go.Proofs.YtjkbkhjalimebaaGreatDoor
open Go.ChangeShapes Go.WideShapes Go.ChangeAt Go.RowKit DoorU
set_option linter.unusedVariables false
set_option linter.unusedSimpArgs false
theorem sum_len {α:Type} {f:α→Nat} (hf:∀ x,1≤f x):∀ l:List α,l.length≤(l.map f).sum
  | []=>Nat.zero_le _
  | x :: l => by
    have h1:=hf x
    have h2:=sum_len hf l
    simp only [List.length_cons,List.map_cons,List.sum_cons]
    omega
theorem sum_mem {α:Type} {f:α→Nat}:∀ {l:List α} {x:α},x∈l→f x≤(l.map f).sum
  | y :: l, x, h => by
    simp only [List.map_cons,List.sum_cons]
    rcases List.mem_cons.1 h with rfl | h
    · omega
    · have:=sum_mem (f:=f) h
      omega
theorem bk_sl {T:Ty} (hp:∀ x:Val T,1≤bkT T x) (l:List (Val T)):l.length≤bkT (.sl T) l:=by
  have:=sum_len hp l
  show l.length≤(l.map (bkT T)).sum+1
  omega
theorem bk_mem {T:Ty} {l:List (Val T)} {x:Val T} (h:x∈l):bkT T x≤bkT (.sl T) l:=by
  have:=sum_mem (f:=bkT T) h
  show bkT T x≤(l.map (bkT T)).sum+1
  omega
theorem bk_int {k:IntKind} (l:List Int):l.length≤bkT (.sl (.int k)) l:=bk_sl (T:=.int k) (fun _=>Nat.le_refl 1) l
theorem bk_it (x:Itm):bkT tIt x=1+(bkT tYs x.2.1+(1+0)):=rfl
theorem bk_pe (q:Pee):bkT tPe q=1+(bkT tOut q.2.1+(bkT tIn q.2.2.1+0)):=rfl
theorem bk_out (o:Ouq):bkT tOut o=1+(bkT (.sl tIt) o.2.1+(bkT (.sl tYs) o.2.2.1+0)):=rfl
theorem bk_in (i:Inq):bkT tIn i=1+(bkT (.sl tIt) i.2.1+0):=rfl
theorem bk_st (s:Sta):bkT tSt s=1+(1+(bkT (.sl tI) s.2.2.1+0)):=rfl
theorem bk_po (p:Pos):bkT tPo p=1+(bkT tSt p.2.1+(bkT (.sl tPe) p.2.2.1+0)):=rfl
theorem bk_c (c:Cfg):c.1.length≤bkT tC c:=by
  have h1:=bk_int (k:=.u8) c.1
  have e:bkT tYs c.1≤bkT tC c:=Nat.le_add_right _ _
  exact Nat.le_trans h1 e
theorem wf_u64 {a:Int} (h:(Lit.int .u64 a).wf=true):okW a:=by
  simp [Lit.wf,IntKind.min,IntKind.max,IntKind.signed,IntKind.bits] at h
  exact ⟨by omega,by omega⟩
theorem wf_u8 {a:Int} (h:(Lit.int .u8 a).wf=true):0≤a∧a < 256:=by
  simp [Lit.wf,IntKind.min,IntKind.max,IntKind.signed,IntKind.bits] at h
  exact ⟨by omega,by omega⟩
theorem okT_st {s:Sta} (h:okT tSt s):okSt s:=⟨wf_u64 h.1,wf_u64 h.2.1⟩
theorem okT_byt {l:List Int} (h:okT tYs l):byt l:=fun x hx=>wf_u8 (h.2 x hx)
theorem gTab : Tryz.prog.globalNamed "shallot/sha.constants" = some 0 := by kernel_rfl
theorem gTabType:(Tryz.prog.globals[0]?).map (·.type)=some 216:=by kernel_rfl
theorem cellsTab:Tryz.prog.cellsOf 216=64:=by kernel_rfl
theorem cellsU32:Tryz.prog.cellsOf 209=1:=by kernel_rfl
theorem tabIn_of {W : World} (h : laidMetH Tryz.prog [("shallot/sha.constants", Rows.laid_shallot_sha_constants)] W) : TabIn W := by
  have ht : Lib.TabIs Tryz.prog W "shallot/sha.constants" .u32 tabL := Lib.tabIs_of_head (rest := []) gTab gTabType Tryz.underlying216 Tryz.underlying209 cellsU32 cellsTab h
  unfold Lib.TabIs World.var? at ht
  rw [gTab] at ht
  simp only [Option.bind_some] at ht
  intro g k l hg
  cases g with
  | succ n=>cases hg
  | zero =>
    obtain ⟨rfl,rfl⟩:IntKind.u32=k∧tabL=l:=by
      have:=Option.some.inj (hg:some (IntKind.u32,tabL)=some (k,l))
      exact ⟨congrArg Prod.fst this,congrArg Prod.snd this⟩
    split at ht
    · rename_i cs e fr hh
      obtain rfl:=Option.some.inj ht
      exact ⟨by
        have:=(Array.getElem?_eq_some_iff.1 hh).1
        exact this,e,fr,hh⟩
    · cases ht
end Go.Proofs.YtjkbkhjalimebaaGreatDoor

