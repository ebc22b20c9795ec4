import Derived.Test.YtjkbkhjalimebaaGreatDoorPAlike35
import Derived.RangeFuncNested
import Derived.RangeFuncLeaves
namespace Go.Proofs.YtjkbkhjalimebaaGreatDoor
open Go.RowKit
set_option linter.unusedVariables false
set_option linter.unusedSimpArgs false
theorem VD.more {w:World} {F F' U U':Nat→Prop} {base base':Nat} (hF:∀ b,b < w.heap.size→¬ F b→¬ F' b) (hU:∀ b,b < w.heap.size→U b∨base≤b→U' b∨base'≤b) {x:D} {v:Value} (h:VD w F U base x v):VD w F' U' base' x v:=by
  induction h with
  | int=>exact .int _ _
  | bool=>exact .bool _
  | view u hl hc hm hz hsz hat hV ih =>
    refine .view u hl hc hm hz hsz (fun i x hx=>?_) ih
    obtain ⟨b,off,ha,⟨h1,h2,h3⟩,h5⟩:=hat i x hx
    exact ⟨b,off,ha,⟨h1,hF b h1 h2,fun h=>hU b h1 (h3 h)⟩,h5⟩
theorem VA.more {E:Env} {w:World} {F F' U U':Nat→Prop} {base base':Nat} (hF:∀ b,b < w.heap.size→¬ F b→¬ F' b) (hU:∀ b,b < w.heap.size→U b∨base≤b→U' b∨base'≤b) {x:AV} {v:Value} (h:VA E w F U base x v):VA E w F' U' base' x v:=by
  induction h with
  | d h=>exact .d (h.more hF hU)
  | agg hl _ ih=>exact .agg hl ih
  | tup hl _ ih=>exact .tup hl ih
  | ptr hk=>exact .ptr hk
  | vptr u hok hc hv=>exact .vptr u ⟨hok.1,hF _ hok.1 hok.2.1,fun h=>hU _ hok.1 (hok.2.2 h)⟩ hc fun j d hd=>(hv j d hd).more hF hU
  | lent u hl hc hm hz hsz hat hV =>
    refine .lent u hl hc hm hz hsz (fun i x hx=>?_) fun i x j d hx hd=>(hV i x j d hx hd).more hF hU
    obtain ⟨b,off,ha,⟨h1,h2,h3⟩,h5⟩:=hat i x hx
    exact ⟨b,off,ha,⟨h1,hF b h1 h2,fun h=>hU b h1 (h3 h)⟩,h5⟩
  | own hk hvr hn hm ha=>exact .own hk hvr hn hm ha
  | part hk hvr hn hm ha=>exact .part hk hvr hn hm ha
  | onil hk hv=>exact .onil hk hv
  | nsl=>exact .nsl
  | nptr=>exact .nptr
  | fn hl _ ih=>exact .fn hl ih
  | mp hk=>exact .mp hk
  | nmp=>exact .nmp
  | und=>exact .und _
theorem Mem.ctx {c c':Cx} {U U':Nat→Prop} {B:Nat→Blk} {E:Env} {w:World} (h:Mem c U B E w) (hk:Kept c' w) (hp:(∀ b,c'.hot b→U' b)∧∀ g b,c'.pin g b→E.kn g∧E.at_ g=b) (hM:∀ g,Hot E g (B g)→c.Mine (E.β g)→c'.Mine (E.β g))
    (hU:∀ b,b < w.heap.size→U b∨c.heap.size≤b→U' b∨c'.heap.size≤b):Mem c' U' B E w:=by
  refine ⟨hk,hp,fun g=>?_,h.inj⟩
  have h1:=h.blk g
  have h2:=hM g
  generalize B g=x at h1 h2
  cases x with
  | row sz e es =>
    obtain ⟨r1,r2,r3,r4,r5,r6,r7⟩:=h1
    refine ⟨r1,r2,r3,r4,r5,r6,fun hv=>?_⟩
    obtain ⟨s1,cur,s2,s3,s4⟩:=r7 hv
    refine ⟨h2 hv s1,cur,s2,s3,fun i x hx=>⟨(s4 i x hx).1,fun j d hd=>?_⟩⟩
    obtain ⟨u,t1,t2⟩:=(s4 i x hx).2 j d hd
    exact ⟨u,t1,t2.more (fun _ _ h=>h) hU⟩
  | var e cs =>
    obtain ⟨r1,r2,cur,r3,r4,r5⟩:=h1
    refine ⟨r1,h2 trivial r2,cur,r3,r4,fun j x hx=>⟨(r5 j x hx).1,?_⟩⟩
    obtain ⟨_,u,t1,t2⟩:=r5 j x hx
    exact ⟨u,t1,t2.more (fun _ _ h=>h) hU⟩
  | mp ik m =>
    obtain ⟨r1,r2,es,n,r3,r4,r5⟩:=h1
    exact ⟨r1,h2 trivial r2,es,n,r3,r4,fun i x e hx he=>⟨(r5 i x e hx he).1,(r5 i x e hx he).2.more (fun _ _ h=>h) hU⟩⟩
  | dead=>exact h1
  | free=>exact h1
theorem cell_putObj {w:World} {l:Nat} {o o':Obj} (hl:w.heap[l]?=some o) (ho:∀ cs e fr,o≠.cells cs e fr) (p:Addr) (v:Value) (h:w.cell? p=some v):(w.putObj l o').cell? p=some v:=by
  have hne:p.block≠l:=by
    rintro e
    unfold World.cell? at h
    rw [e,hl] at h
    cases o with
    | cells cs e fr=>exact ho _ _ _ rfl
    | _=>simp at h
  exact (World.cell?_of_block (World.putObj_heap_other hne)).trans h
theorem Kept.putObj {c:Cx} {w:World} (h:Kept c w) {l:Nat} (hl:c.heap.size≤l) (o:Obj):Kept c (w.putObj l o):=
  ⟨h.below.trans ⟨rfl,rfl,rfl,by simp,fun k hk=>by omega⟩,fun b hb hn=>(World.putObj_heap_other (by omega)).trans (h.keep b hb hn),h.pl,h.tab,h.tabh⟩
theorem BlkOk.cells {E:Env} {w:World} {F U:Nat→Prop} {c:Cx} {g:Nat} {b:Blk} (h:BlkOk E w F U c g b) (hl:Hot E g b) {o:Obj} (ho:w.heap[E.β g]?=some o):(∃ cs e fr,o=.cells cs e fr)∨∃ es n,o=.map es n:=by
  cases b with
  | row sz e es =>
    obtain ⟨_,_,_,_,_,_,h2⟩:=h
    obtain ⟨_,cur,hc,_⟩:=h2 hl
    rw [hc] at ho;cases ho;exact .inl ⟨_,_,_,rfl⟩
  | var e cs =>
    obtain ⟨_,_,cur,hc,_⟩:=h
    rw [hc] at ho;cases ho;exact .inl ⟨_,_,_,rfl⟩
  | mp ik m =>
    obtain ⟨_,_,es,n,hc,_⟩:=h
    rw [hc] at ho;cases ho;exact .inr ⟨_,_,rfl⟩
  | dead=>cases hl
  | free=>cases hl
theorem Mem.book {c:Cx} {U:Nat→Prop} {B:Nat→Blk} {E:Env} {w:World} (h:Mem c U B E w) {l:Nat} {o:Obj} (o':Obj) (hl:w.heap[l]?=some o) (ho:(∀ cs e fr,o≠.cells cs e fr)∧∀ es n,o≠.map es n) (hs:c.heap.size≤l):Mem c U B E (w.putObj l o'):=
  h.marked (k:=l) (fun g hg e=>by
    rcases (h.blk g).cells hg (by rw [e];exact hl) with ⟨_,_,_,h1⟩ | ⟨_,_,h1⟩
    · exact ho.1 _ _ _ h1
    · exact ho.2 _ _ h1) (by simp) (fun b hb=>World.putObj_heap_other hb) (cell_putObj hl ho.1) (h.below.putObj hs o')
theorem Mem.grow {c:Cx} {U:Nat→Prop} {B:Nat→Blk} {E:Env} {w w':World} (h:Mem c U B E w) (hb:Below w.heap.size w w'):Mem c U B E w':=
  h.keep hb.size (fun b hlt=>hb.block b hlt) ⟨h.below.below.trans (hb.mono (Nat.zero_le _)),fun b hlt hn=>(hb.block b (by have:=h.below.size;omega)).trans (h.below.keep b hlt hn),h.below.pl,h.below.tab,h.below.tabh⟩
def SameOut (F:Nat→Prop) (w W:World):Prop:=w.heap.size≤W.heap.size∧∀ b,b < w.heap.size→¬ F b→W.heap[b]?=w.heap[b]?
def SeqY (P:Program) (gf:FuncId) (lb:Array Value) (el:Nat→List TV) (N:Nat) (F:Nat→Prop) (w:World):Prop:=
  ∀ (n l : Nat) (J : Nat → World → Prop) (W : World),
    (∀ (i:Nat) (W0 W1:World) (us:List Value),J i W0→i < N→SameOut F w W0→Below W0.heap.size W0 W1→us.length=(el i).length→
      (∀ (E:Env) (F' U:Nat→Prop) (base:Nat),(∀ b,F' b→b < W0.heap.size)→∀ (j:Nat) (y:TV) (u:Value),(el i)[j]?=some y→us[j]?=some u→∀ B:Nat→TB,VA E W1 F' U base (denV B y) u)→
      YieldAt (FR none) (n - 1) P l us.toArray W1 fun e W'=>e=.returned (.bool true)∧J (i+1) W'∧SameOut F w W')→
    SameOut F w W→J 0 W→CallsIn (FR none) n P gf (#[.func (.yield l) #[] #[]]++lb) W fun e W'=>(∃ v,e=.returned v)∧∃ W0,J N W0∧Below W0.heap.size W0 W'
def IterOk (P:Program) (f0 gf:FuncId) (xs:List TV) (el:Nat→List TV) (N:Nat):Prop:=
  ∀ (E : Env) (w : World) (F U : Nat → Prop) (base : Nat) (B : Nat → TB) (vs : List Value), TabIn w → (∀ g x, tabAt g = some x → ¬ F g) → (∀ b, F b → b < w.heap.size) → vs.length = xs.length →
    (∀ (i:Nat) (y:TV) (v:Value),xs[i]?=some y→vs[i]?=some v→VA E w F U base (denV B y) v)→
    Calls P f0 vs.toArray w fun e w'=>∃ lb,e=.returned (.func (.func gf) #[] lb)∧Below w.heap.size w w'∧SeqY P gf lb el N F w'
structure RA where
  f0:FuncId
  gf:FuncId
  ok:List TV→Prop
  N:Nat
  el:Nat→List TV
  sl:List Nat
  sh:Sh
  inv:Nat→sh.V→Prop
def RA.la (R:RA):LA:=⟨R.sl,[],R.sh,fun _=>True,fun _=>0⟩
def headR (R:RA) (σ:TS) (vs rs:List Nat) (B1:Nat→TB) (v:R.sh.V):TS:=
  ⟨cellsAt R.sl (unparse vs R.sh v 0 64).cs (fun _=>.und),tupsOf B1 (rs.map (fun g=>(g,.dead (B1 g).len))++(unparse vs R.sh v 0 64).bs)⟩
def headP (R:RA) (ps:List Nat) (σ:TS) (vs rs:List Nat) (B1:Nat→TB) (v:R.sh.V) (i:Nat):TS:=
  ⟨cellsAt ps (R.el i) (headR R σ vs rs B1 v).tmp,(headR R σ vs rs B1 v).blk⟩
def allVar:Sh→Bool
  | .pair (.var _ _) b=>allVar b
  | .unit=>true
  | _=>false
def ptrsOf (vs:List Nat):Sh→Nat→List TV
  | .pair (.var _ s) b,i=>.ptr (vs.getD i 0) 0 0::ptrsOf vs b (i+(s.nv+1))
  | _,_=>[]
def lkR (vs:List Nat) (g:Nat):Bool:=Nat.blt g 64 && !vs.any (Nat.beq g)
def rcOf:Code→Code→Option (Array Oper×Nat×Array Tmp×Code×Code×Nat)
  | .region _ ops false,.block id (.rangeFunc (.tmp g) ps as bd)=>some (ops,g,ps,as,bd,id)
  | _,_=>none
def initL:List Oper→List Oper
  | []=>[]
  | o :: r => match r with
    | []=>[]
    | p::q=>o::initL (p::q)
def lastL:List Oper→Option Oper
  | []=>none
  | o :: r => match r with
    | []=>some o
    | p::q=>lastL (p::q)
theorem init_last:∀ {l:List Oper} {o:Oper},lastL l=some o→l=initL l++[o]
  | [],_,h=>by cases h
  | [x],_,h=>by cases h;rfl
  | x::y::r,o,h=>congrArg (x::·) (init_last (l:=y::r) h)
def hasR:Code→Bool
  | .seq a b=>hasR a || hasR b
  | .block _ b=>hasR b
  | .rangeFunc ..=>true
  | _=>false
section
variable (P:Program) (Δ:List (FuncId×Spec)) (nt:Nat) (ann:Nat→Option LA) (R:RA)
def rangeK (g:Nat) (ps:Array Tmp) (as bd:Code) (K2:Exit→TS→Nat→Prop) (σ:TS) (k:Nat):Prop:=
  match parse σ.blk false R.sh (R.sl.map σ.tmp) with
  | some p=>bif p.okB&&R.sh.ok&&nodupB R.sl&&R.sl.all (Nat.blt · nt)&&Nat.ble k 64&&nodupB ps.toList&&ps.toList.all (Nat.blt · nt)&&ps.toList.all (fun t => !R.sl.any (Nat.beq t))&&allVar R.sh then
      conj p.ps (R.inv 0 p.x∧(∀ i v,i < R.N→R.inv i v→(R.el i).length=ps.size∧evC P Δ nt ann as (lkR p.vs) 10 (fun e σ' k'=>match e with
        | .normal => evC P Δ nt ann bd (lkR p.vs) 10 (fun e σ' k' => match e with
          | .normal => (match parse σ'.blk false R.sh (R.sl.map σ'.tmp) with
            | some q=>bif q.okB&&decide (q.vs=p.vs)&&(q.vs++q.rs++q.fz.map (·.1)).all (fun g => !lkR p.vs g) then conj q.ps (R.inv (i+1) q.x) else False
            | none=>False)
          | _=>False) σ' k'
        | _=>False) (headP R ps.toList σ p.vs p.rs (tupsOf σ.blk p.fz) v i) (64+R.sh.nr))∧∀ v,R.inv R.N v→K2 .normal (headR R σ p.vs p.rs (tupsOf σ.blk p.fz) v) (64+R.sh.nr))
      else False
  | none=>False
def evR:Code→(Exit→TS→Nat→Prop)→(Exit→TS→Nat→Prop)→TS→Nat→Prop
  | .seq a b, K1, K2, σ, k => match rcOf a b with
    | some (ops, g, ps, as, bd, _) => (match lastL ops.toList with
      | some o => evL P Δ nt ann (fun _ => false) ops (initL ops.toList) σ k fun σ k => match o.op, o.guard, o.dst with
        | .call ⟨.value f, args, _⟩, none, some d => (match σ.eval f with
          | .fn f1 []=>bif Nat.beq f1 R.f0&&Nat.beq d g&&Nat.blt g nt then R.ok (args.toList.map σ.eval)∧rangeK P Δ nt ann R g ps as bd K2 (σ.step (some g) ⟨.und,[]⟩) k else False
          | _=>False)
        | _,_,_=>False
      | none=>False)
    | none=>bif hasR a then evR a (fun e σ' k'=>match e with | .normal=>False | e=>K1 e σ' k') (fun e σ' k'=>match e with | .normal=>evC P Δ nt ann b (fun _=>false) 20 K2 σ' k' | e=>K2 e σ' k') σ k
        else evC P Δ nt ann a (fun _=>false) 0 (fun e σ' k'=>match e with | .normal=>evR b K1 K2 σ' k' | e=>K1 e σ' k') σ k
  | .block id b,K1,K2,σ,k=>evR b (fun e σ' k'=>match e with | .exit i=>bif Nat.beq i id then K1 .normal σ' k' else K1 (.exit i) σ' k' | e=>K1 e σ' k') (fun e σ' k'=>match e with | .exit i=>bif Nat.beq i id then K2 .normal σ' k' else K2 (.exit i) σ' k' | e=>K2 e σ' k') σ k
  | _,_,_,_,_=>False
end
def VCR (P:Program) (fn:Func) (c:Code) (S:Spec) (Δ:List (FuncId×Spec)) (ann:(x:S.sig.V)→Nat→Option LA) (R:S.sig.V→RA):Prop:=
  ∀ x,S.pre x→S.sig.sz x (evR P Δ fn.ntmps (ann x) (R x) c (endK P fn S x) (endK P fn S x) (startS S x) (S.sig.nv+S.sig.nr))
theorem unparse_ptrs (vs:List Nat):∀ (s:Sh) (x:s.V) (v k:Nat),allVar s=true→(unparse vs s x v k).cs=ptrsOf vs s v∧∀ y∈ptrsOf vs s v,∃ j,y=.ptr (vs.getD j 0) 0 0∧j < v+s.nv
  | .pair (.var e s) b, x, v, k, h => by
    obtain ⟨h1,h2⟩:=unparse_ptrs vs b x.2 (v+(s.nv+1)) (k+s.nr) h
    refine ⟨?_,fun y hy=>?_⟩
    · show TV.ptr (vs.getD v 0) 0 0::_=_
      simp only [ptrsOf,← h1]
      rfl
    · simp only [ptrsOf,List.mem_cons] at hy
      rcases hy with rfl | hy
      · exact ⟨v,rfl,by simp only [Sh.nv];omega⟩
      · obtain ⟨j,h3,h4⟩:=h2 y hy
        exact ⟨j,h3,by simp only [Sh.nv];omega⟩
  | .unit,x,v,k,h=>⟨rfl,fun y hy=>by cases hy⟩
  | .pair (.int _) _,_,_,_,h=>by cases h
  | .pair .bool _,_,_,_,h=>by cases h
  | .pair (.view _ _) _,_,_,_,h=>by cases h
  | .pair (.own _ _) _,_,_,_,h=>by cases h
  | .pair (.pa _ _) _,_,_,_,h=>by cases h
  | .pair (.arr _) _,_,_,_,h=>by cases h
  | .pair (.mpp _ _) _,_,_,_,h=>by cases h
  | .pair (.atp _ _) _,_,_,_,h=>by cases h
  | .pair .unit _,_,_,_,h=>by cases h
  | .pair (.pair _ _) _,_,_,_,h=>by cases h
  | .pair (.agg _) _,_,_,_,h=>by cases h
  | .pair (.tup _) _,_,_,_,h=>by cases h
  | .pair (.fn _ _) _,_,_,_,h=>by cases h
  | .pair .any _,_,_,_,h=>by cases h
  | .int _,_,_,_,h=>by cases h
  | .bool,_,_,_,h=>by cases h
  | .view _ _,_,_,_,h=>by cases h
  | .own _ _,_,_,_,h=>by cases h
  | .pa _ _,_,_,_,h=>by cases h
  | .arr _,_,_,_,h=>by cases h
  | .mpp _ _,_,_,_,h=>by cases h
  | .atp _ _,_,_,_,h=>by cases h
  | .var _ _,_,_,_,h=>by cases h
  | .agg _,_,_,_,h=>by cases h
  | .tup _,_,_,_,h=>by cases h
  | .fn _ _,_,_,_,h=>by cases h
  | .any,_,_,_,h=>by cases h
theorem cellsAt_cases (f:Nat→TV) (t:Nat):∀ (sl:List Nat) (cs:List TV),cellsAt sl cs f t=f t∨∃ y∈cs,cellsAt sl cs f t=y
  | [],cs=>.inl rfl
  | s::sl,[]=>.inl rfl
  | s :: sl, y :: cs => by
    show upd (cellsAt sl cs f) s y t=_∨∃ z∈_,upd (cellsAt sl cs f) s y t=z
    by_cases h:t=s
    · subst h;rw [upd_same];exact .inr ⟨y,List.mem_cons_self ..,rfl⟩
    · rw [upd_other _ _ _ h]
      rcases cellsAt_cases f t sl cs with h1 | ⟨z,h1,h2⟩
      · exact .inl h1
      · exact .inr ⟨z,List.mem_cons_of_mem _ h1,h2⟩
theorem fold_set {nt:Nat}:∀ (ps:List Nat) (ys:List TV) (us:List Value) (f:Nat→TV) (vs:Array Value),ps.Nodup→(∀ t∈ps,t < vs.size)→us.length=ys.length→ys.length=ps.length→
    ((ps.zip us).foldl (fun a (p:Nat×Value)=>a.setIfInBounds p.1 p.2) vs).size=vs.size∧∀ t,(∃ (j:Nat) (y:TV) (u:Value),ys[j]?=some y∧us[j]?=some u∧cellsAt ps ys f t=y∧((ps.zip us).foldl (fun a (p:Nat×Value)=>a.setIfInBounds p.1 p.2) vs).getD t undef=u)∨
      (cellsAt ps ys f t=f t∧((ps.zip us).foldl (fun a (p:Nat×Value)=>a.setIfInBounds p.1 p.2) vs).getD t undef=vs.getD t undef)
  | [],ys,us,f,vs,_,_,_,_=>⟨rfl,fun t=>.inr ⟨rfl,rfl⟩⟩
  | p::ps,[],us,f,vs,_,_,_,h=>by simp at h
  | p::ps,y::ys,[],f,vs,_,_,h,_=>by simp at h
  | p :: ps, y :: ys, u :: us, f, vs, hn, hl, h1, h2 => by
    obtain ⟨hn1,hn2⟩:=List.nodup_cons.1 hn
    obtain ⟨i1,i2⟩:=fold_set (nt:=nt) ps ys us f (vs.setIfInBounds p u) hn2 (fun t ht=>by rw [Array.size_setIfInBounds];exact hl t (List.mem_cons_of_mem _ ht)) (by simpa using h1) (by simpa using h2)
    refine ⟨by rw [List.zip_cons_cons,List.foldl_cons,i1,Array.size_setIfInBounds],fun t=>?_⟩
    rw [List.zip_cons_cons,List.foldl_cons]
    by_cases e:t=p
    · subst e
      refine .inl ⟨0,y,u,rfl,rfl,upd_same _ _ _,?_⟩
      have hns:∀ (l:List (Nat×Value)) (a:Array Value),(∀ q∈l,q.1≠t)→(l.foldl (fun a (p:Nat×Value)=>a.setIfInBounds p.1 p.2) a).getD t undef=a.getD t undef:=fun l=>by
        induction l with
        | nil=>exact fun a _=>rfl
        | cons q l ih =>
          intro a hq
          rw [List.foldl_cons,ih _ fun r hr=>hq r (List.mem_cons_of_mem _ hr)]
          have:=hq q (List.mem_cons_self ..)
          simp [Array.getElem?_setIfInBounds_ne this]
      rw [hns _ _ fun q hq=>by rintro rfl;exact hn1 (List.of_mem_zip hq).1]
      have:=hl t (List.mem_cons_self ..)
      rw [getD_set this,if_pos rfl]
    · rcases i2 t with ⟨j,y',u',q1,q2,q3,q4⟩ | ⟨q1,q2⟩
      · exact .inl ⟨j+1,y',u',q1,q2,(upd_other _ _ _ e).trans q3,q4⟩
      · refine .inr ⟨(upd_other _ _ _ e).trans q1,q2.trans ?_⟩
        rw [getD_set (hl p (List.mem_cons_self ..)),if_neg e]
def cxR (c:Cx) (W:World) (F:Nat→Prop) (E:Env) (vs:List Nat):Cx:=⟨W,F,fun g x=>(g∈vs∧x=E.at_ g)∨c.pin g x,[]⟩
def UR (c:Cx) (U:Nat→Prop):Nat→Prop:=fun b=>U b∨c.heap.size≤b
section
variable {c:Cx} {U:Nat→Prop} {B B2:Nat→Blk} {E E2:Env} {W W2:World} {vs:List Nat}
theorem Mem.goIn (h:Mem c U B E W) (hv:∀ g∈vs,g < 64∧E.kn g):Mem (cxR c W (Fof E B) E vs) (UR c U) B E W:=
  h.ctx ⟨.refl 0 W,fun _ _ _=>rfl,fun g x hp=>hp.elim (fun h1=>(hv g h1.1).1) (h.below.pl g x),h.below.tabIn,fun g x ht ⟨q,h1,h2⟩=>h.below.tabMine ht (by rw [← h2];exact ((h.blk q).lt h1).2.1)⟩
    ⟨fun b ⟨q,h1,h2⟩=>by
      have:=((h.blk q).lt h1).2.1
      rw [h2] at this
      exact this.elim .inr fun hh=>.inl (h.pins.1 b hh),fun g x hp=>hp.elim (fun h1=>⟨(hv g h1.1).2,h1.2.symm⟩) (h.pins.2 g x)⟩ (fun g hg _=>.inr ⟨g,hg,rfl⟩) fun b _ hb=>.inl hb
theorem Mem.goOut (h:Mem c U B E W) (h2:Mem (cxR c W (Fof E B) E vs) (UR c U) B2 E2 W2):Mem c U B2 E2 W2∧(∀ g∈vs,E2.kn g∧E2.at_ g=E.at_ g)∧W.heap.size≤W2.heap.size∧(∀ b,b < W.heap.size→Fof E2 B2 b→Fof E B b)∧∀ b,b < W.heap.size→¬ Fof E B b→W2.heap[b]?=W.heap[b]?:=by
  have hM:∀ b,Fof E B b→c.Mine b:=fun b ⟨q,h1,h3⟩=>by rw [← h3];exact ((h.blk q).lt h1).2.1
  have hs:c.heap.size≤W.heap.size:=h.below.size
  refine ⟨h2.ctx ⟨h.below.below.trans h2.below.below,fun b hb hn=>(h2.below.keep b (Nat.lt_of_lt_of_le hb hs) fun hh=>(hM b hh).elim (fun h3=>by omega) hn).trans (h.below.keep b hb hn),h.below.pl,h.below.tab,h.below.tabh⟩
    ⟨h.pins.1,fun g x hp=>h2.pins.2 g x (.inr hp)⟩ (fun g hg hm=>hm.elim (fun h3=>.inl (Nat.le_trans hs h3)) (hM _)) (fun b _ hb=>hb.elim id fun h3=>.inr (Nat.le_trans hs h3)),fun g hg=>h2.pins.2 g _ (.inl ⟨hg,rfl⟩),h2.below.below.size,fun b hb ⟨q,h3,h4⟩=>?_,fun b hb hn=>h2.below.keep b hb hn⟩
  have:=((h2.blk q).lt h3).2.1
  rw [h4] at this
  exact this.elim (fun h5=>absurd hb (Nat.not_lt.2 h5)) id
end
theorem Mem.dfrs {c:Cx} {U:Nat→Prop} {B:Nat→Blk} {E:Env} {w:World} (h:Mem c U B E w) (ds:List Nat):Mem { c with dfr:=ds } U B E w:=
  h.ctx ⟨h.below.below,h.below.keep,h.below.pl,h.below.tab,h.below.tabh⟩ h.pins (fun _ _ h=>h) fun _ _ h=>h
end Go.Proofs.YtjkbkhjalimebaaGreatDoor

