import Derived.Test.YtjkbkhjalimebaaGreatDoorPAlike33
import Derived.Test.YtjkbkhjalimebaaGreatDoorPAlike3
namespace Go.Proofs.YtjkbkhjalimebaaGreatDoor
open Go.ChangeShapes Go.WideShapes Go.ChangeAt Go.RowKit
set_option linter.unusedVariables false
set_option linter.unusedSimpArgs false
def allP {α:Type} (p:α→Prop) (l:List α):Prop:=∀ x∈l,p x
def okT:(T:Ty)→Val T→Prop
  | .int k,n=>(Lit.int k n).wf=true
  | .bool,_=>True
  | .sl t,l=>List.length (α:=Val t) l≤140737488351232∧allP (okT t) l
  | .unit,_=>True
  | .pair a b,x=>okT a x.1∧okT b x.2
def CellsV (w:World) (cs:List Value) (ds:List D):Prop:=cs.length=ds.length∧∀ (b0 j:Nat) (d:D) (v:Value),ds[j]?=some d→cs[j]?=some v→VD w (fun _=>False) (fun _=>True) b0 d v
theorem CellsV.app {w:World} {a a':List Value} {b b':List D} (h:CellsV w a b) (h':CellsV w a' b'):CellsV w (a++a') (b++b'):=by
  refine ⟨by rw [List.length_append,List.length_append,h.1,h'.1],fun b0 j d v h1 h2=>?_⟩
  by_cases hj:j < b.length
  · rw [List.getElem?_append_left hj] at h1
    rw [List.getElem?_append_left (by rw [h.1];exact hj)] at h2
    exact h.2 b0 j d v h1 h2
  · rw [List.getElem?_append_right (by omega)] at h1
    rw [List.getElem?_append_right (by rw [h.1];omega),h.1] at h2
    exact h'.2 b0 _ d v h1 h2
theorem CellsV.one {w:World} {v:Value} {d:D} (h:∀ b0,VD w (fun _=>False) (fun _=>True) b0 d v):CellsV w [v] [d]:=by
  refine ⟨rfl,fun b0 j d' v' h1 h2=>?_⟩
  cases j with
  | zero=>simp at h1 h2;subst h1 h2;exact h b0
  | succ j=>simp at h1
mutual
def chkT (P:Program):Nat→TypeId→Ty→Bool
  | 0,_,_=>false
  | n + 1, t, T => Nat.beq (P.cellsOf t) T.size && match P.underlying t, T with
    | some (.int k),.int k'=>decide (k=k')
    | some .bool,.bool=>true
    | some (.slice e),.sl a=>chkT P n e a&&Nat.ble 1 a.size&&Nat.ble 1 (P.bytesOf e)
    | some (.struct fs),T=>chkF P n fs.toList 0 T
    | _,_=>false
def chkF (P:Program):Nat→List Field→Nat→Ty→Bool
  | 0,_,_,_=>false
  | _+1,[],_,.unit=>true
  | n+1,f::r,off,.pair a b=>chkT P n f.type a&&Nat.beq f.offset off&&chkF P n r (off+a.size) b
  | _+1,_,_,_=>false
end
section
variable {H:Type} {enc:TypeId×Value→H} {P:Program} {w:World} {base:Nat} {spare:Nat→Bool} {held:Bool}
def bodyOf (fn:Func):Code:=fn.body.getD .skip
theorem DOk.nil {P:Program}:DOk P []:=fun p hp=>by simp at hp
theorem DOk.cons {P:Program} {f:FuncId} {S:Spec} {Δ:List (FuncId×Spec)} (h:SC P f S) (he:∀ (us:Array Value) (u:World),(callFunc f us).run P u=.ok (.enter f us) u) (hr:DOk P Δ):DOk P ((f,S)::Δ):=fun p hp=>by
  rcases List.mem_cons.1 hp with rfl | hp
  · exact ⟨h,he⟩
  · exact hr p hp
def E0:Env:=⟨fun _=>0,fun _=>0,fun _=>0,fun _=>false,fun _=>False⟩
def shOf (o:Bool):Ty→Sh
  | .int k=>.int k
  | .bool=>.bool
  | .sl t=>.view o t
  | .unit=>.unit
  | .pair a b=>.pair (shOf o a) (shOf o b)
def shV (o:Bool):(T:Ty)→Val T→(shOf o T).V
  | .int _,n=>n
  | .bool,b=>b
  | .sl _,l=>l
  | .unit,u=>u
  | .pair a b,x=>(shV o a x.1,shV o b x.2)
theorem VA.lend {E:Env} {w:World} {F U:Nat→Prop} {base sz:Nat} {es:List (List D)} {v:Value} (h:VD w F U base (.view sz es) v):VA E w F U base (.lent sz es) v:=by
  cases h with
  | view u hl hc hm hz hsz hat hV=>exact .lent u hl hc hm hz hsz (fun i x hx=>by obtain ⟨b,off,h1,⟨h2,h3,h4⟩,h5⟩:=hat i x hx;exact ⟨b,off,h1,⟨h2,h3,fun h=>by cases h⟩,h5⟩) hV
theorem sh_cells {o:Bool} {E:Env} {B:Nat→TB} {vs:List Nat} {b0:Nat}:∀ (T:Ty) (x:Val T) (v k:Nat) (cs:List Value),CellsV w cs (flatD T x)→((unparse vs (shOf o T) (shV o T x) v k).cs).length=cs.length∧∀ (i:Nat) (y:TV) (u:Value),((unparse vs (shOf o T) (shV o T x) v k).cs)[i]?=some y→cs[i]?=some u→VA E w (fun _=>False) (fun _=>True) b0 (denV B y) u
  | .int kd,n,v,k,cs,h=>⟨h.1.symm,fun i y u hy hu=>by
      cases i with
      | zero=>obtain rfl:=(Option.some.inj hy:TV.int kd n=y);exact .d (h.2 b0 0 _ u rfl hu)
      | succ i=>simp [shOf,unparse] at hy⟩
  | .bool,n,v,k,cs,h=>⟨h.1.symm,fun i y u hy hu=>by
      cases i with
      | zero=>obtain rfl:=(Option.some.inj hy:TV.bool n=y);exact .d (h.2 b0 0 _ u rfl hu)
      | succ i=>simp [shOf,unparse] at hy⟩
  | .sl t,l,v,k,cs,h=>⟨h.1.symm,fun i y u hy hu=>by
      cases i with
      | zero =>
        obtain rfl:=(Option.some.inj hy:TV.view o t l=y)
        have h1:=h.2 b0 0 _ u rfl hu
        cases o with
        | false=>exact .d h1
        | true=>exact VA.lend h1
      | succ i=>simp [shOf,unparse] at hy⟩
  | .unit,_,v,k,cs,h=>⟨h.1.symm,fun i y u hy hu=>by simp [shOf,unparse] at hy⟩
  | .pair a b, x, v, k, cs, h => by
    have hlen:=h.1
    have e1:(flatD (.pair a b) x)=flatD a x.1++flatD b x.2:=rfl
    rw [e1,List.length_append] at hlen
    have ha:CellsV w (cs.take (flatD a x.1).length) (flatD a x.1):=⟨by simp;omega,fun b0 j d u hd hu=>by
      have hj:=(List.getElem?_eq_some_iff.1 hd).1
      refine h.2 b0 j d u (by rw [e1,List.getElem?_append_left hj];exact hd) ?_
      rw [List.getElem?_take,if_pos hj] at hu
      exact hu⟩
    have hb:CellsV w (cs.drop (flatD a x.1).length) (flatD b x.2):=⟨by simp;omega,fun b0 j d u hd hu=>by
      refine h.2 b0 ((flatD a x.1).length+j) d u (by rw [e1,List.getElem?_append_right (by omega),Nat.add_sub_cancel_left];exact hd) ?_
      rw [List.getElem?_drop] at hu
      exact hu⟩
    obtain ⟨l1,q1⟩:=sh_cells (o:=o) (E:=E) (B:=B) (vs:=vs) (b0:=b0) a x.1 v k _ ha
    obtain ⟨l2,q2⟩:=sh_cells (o:=o) (E:=E) (B:=B) (vs:=vs) (b0:=b0) b x.2 (v+(shOf o a).nv) (k+(shOf o a).nr) _ hb
    have e2:(unparse vs (shOf o (.pair a b)) (shV o (.pair a b) x) v k).cs=(unparse vs (shOf o a) (shV o a x.1) v k).cs++(unparse vs (shOf o b) (shV o b x.2) (v+(shOf o a).nv) (k+(shOf o a).nr)).cs:=rfl
    rw [e2]
    rw [List.length_take] at l1
    rw [List.length_drop] at l2
    have hm:min (flatD a x.1).length cs.length=(flatD a x.1).length:=by omega
    rw [hm] at l1
    refine ⟨by rw [List.length_append];omega,fun i y u hy hu=>?_⟩
    by_cases hi:i < (unparse vs (shOf o a) (shV o a x.1) v k).cs.length
    · rw [List.getElem?_append_left hi] at hy
      exact q1 i y u hy (by rw [List.getElem?_take,if_pos (by omega)];exact hu)
    · rw [List.getElem?_append_right (by omega)] at hy
      exact q2 _ y u hy (by rw [List.getElem?_drop,show (flatD a x.1).length+(i - (unparse vs (shOf o a) (shV o a x.1) v k).cs.length)=i by omega];exact hu)
theorem atT_nil {w:World} {b1:Nat}:∀ (i:Nat) (y:TV) (v:Value),([]:List TV)[i]?=some y→([]:List Value)[i]?=some v→VA E0 w (fun _=>False) (fun _=>True) b1 (denV (fun _=>.free) y) v:=fun i y v h=>by simp at h
theorem atT_cons {w:World} {b1:Nat} {y:TV} {v:Value} {ys:List TV} {vs:List Value} (h:VA E0 w (fun _=>False) (fun _=>True) b1 (denV (fun _=>.free) y) v) (hr:∀ (i:Nat) (y:TV) (v:Value),ys[i]?=some y→vs[i]?=some v→VA E0 w (fun _=>False) (fun _=>True) b1 (denV (fun _=>.free) y) v):
    ∀ (i:Nat) (y':TV) (v':Value),(y::ys)[i]?=some y'→(v::vs)[i]?=some v'→VA E0 w (fun _=>False) (fun _=>True) b1 (denV (fun _=>.free) y') v'
  | 0, y', v', h1, h2 => by
    simp only [List.getElem?_cons_zero,Option.some.injEq] at h1 h2
    subst h1 h2
    exact h
  | i+1,y',v',h1,h2=>hr i y' v' (by simpa using h1) (by simpa using h2)
theorem SC.law {f:FuncId} {S:Spec} (h:SC P f S) (hnv:S.sig.nv=0) (hfv:S.fin.nv=0) (x:S.sig.V) (hx:S.pre x) (hbs:(S.inU x).bs=[]) (ht:TabIn w) (hr:(S.outU (S.fn x)).cs=[.bool true]) (hb2:(S.outU (S.fn x)).bs=[]) {vs:List Value} (hl:vs.length=(S.inU x).cs.length)
    (hv:∀ (i:Nat) (y:TV) (v:Value),(S.inU x).cs[i]?=some y→vs[i]?=some v→VA E0 w (fun _=>False) (fun _=>True) w.heap.size (denV (fun _=>.free) y) v):
    Calls P f vs.toArray w fun e w'=>e=.returned (.bool true)∧Below w.heap.size w w':=by
  have h1:=h (by rw [hnv,hfv]) x hx w (fun _=>True) E0 vs
  have hB:bsOf (S.inU x).bs=fun _=>TB.free:=by rw [hbs];rfl
  have hF:Fof E0 (fun g=>denB (bsOf (S.inU x).bs) (bsOf (S.inU x).bs g))=fun _=>False:=by
    rw [hB]
    funext b
    exact propext ⟨fun ⟨g,q1,_⟩=>q1,False.elim⟩
  refine (h1 ?_ ?_ ?_ ?_).mono ?_
  · refine ⟨Cx.call_kept _ _ _ _ (fun g hg=>by rw [hnv] at hg;exact absurd hg (Nat.not_lt_zero _)) ht (fun g x _ hf=>by rw [hF] at hf;exact hf),⟨fun b _=>trivial,fun g b hp=>hp.2.1.elim⟩,fun g=>?_,fun g g' hg=>?_⟩
    · rw [hB];exact id
    · rw [hB] at hg;exact hg.elim
  · intro g hg
    rw [hnv] at hg
    exact absurd hg (Nat.not_lt_zero _)
  · rw [List.length_map,hl]
  · intro i y v hy hv'
    rw [List.getElem?_map] at hy
    obtain ⟨z,hz,rfl⟩:=Option.map_eq_some_iff.1 hy
    rw [hF,hB]
    exact hv i z v hz hv'
  · rintro e w' ⟨r,B',v,E',⟨rfl,rfl⟩,rfl,hm,hva⟩
    rw [hr,hb2] at hva
    have hk:=hm.below
    refine ⟨?_,hk.below.os,hk.below.tape,hk.below.output,hk.below.size,fun b hb=>hk.keep b hb fun hh=>?_⟩
    · cases hva with
      | d h=>cases h;rfl
    · have hh':Fof E0 (fun g=>denB (bsOf (S.inU x).bs) (bsOf (S.inU x).bs g)) b:=hh
      rw [hF] at hh'
      exact hh'
end
end Go.Proofs.YtjkbkhjalimebaaGreatDoor

