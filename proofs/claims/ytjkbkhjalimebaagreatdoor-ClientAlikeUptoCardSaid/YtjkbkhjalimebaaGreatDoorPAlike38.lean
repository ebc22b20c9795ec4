import Derived.Test.YtjkbkhjalimebaaGreatDoorPAlike37
import Derived.Lib.AppendZerosOnto
import Derived.Lib.Walk
namespace Go.Proofs.YtjkbkhjalimebaaGreatDoor
open Go.RowKit DoorU
set_option linter.unusedVariables false
set_option linter.unusedSimpArgs false
theorem info_u8:(Tryz.prog.info? 5).map (fun i=>(i.zero,i.size,i.bytes))=some (some (.int .u8 0),1,1):=by kernel_rfl
def totV:List (List Value)→Nat
  | []=>0
  | l::r=>l.length+totV r
theorem totV_append:∀ (a b:List (List Value)),totV (a++b)=totV a+totV b
  | [],b=>by simp [totV]
  | x::a,b=>by simp only [List.cons_append,totV,totV_append a b];omega
theorem totV_take_le (pp:List (List Value)) (k:Nat):totV (pp.take k)≤totV pp:=by
  have h:=totV_append (pp.take k) (pp.drop k)
  rw [List.take_append_drop] at h
  omega
theorem totV_flatten:∀ (pp:List (List Value)),pp.flatten.length=totV pp
  | []=>rfl
  | l::r=>by simp only [List.flatten_cons,List.length_append,totV_flatten r,totV]
theorem flatV_snoc {pp:List (List Value)} {k:Nat} {l:List Value} (h:pp[k]?=some l):(pp.take (k+1)).flatten=(pp.take k).flatten++l:=by
  rw [take_snoc h,List.flatten_append];simp
structure PartsV (w:World) (a:Option Addr) (n cap:Nat) (pp:List (List Value)):Prop where
  len:pp.length=n
  le:n≤cap
  max:cap≤maxLen
  part:∀ i l,pp[i]?=some l→∃ b off,a=some ⟨b,off,none⟩∧∃ a' c',w.cell? ⟨b,off+i,none⟩=some (.slice a' l.length c')∧Cells w a' l.length c' 1 l∧∀ u∈l,u.oneCell'=true
theorem PartsV.le_i64 {w:World} {a:Option Addr} {n cap:Nat} {pp:List (List Value)} (h:PartsV w a n cap pp):n≤9223372036854775807∧cap≤9223372036854775807:=by
  have h1:=h.max
  have h2:=h.le
  unfold maxLen at h1
  omega
theorem PartsV.keep {w w':World} {a:Option Addr} {n cap:Nat} {pp:List (List Value)} (h:PartsV w a n cap pp) (hb:Below w.heap.size w w'):PartsV w' a n cap pp:=by
  refine ⟨h.len,h.le,h.max,fun i l hl=>?_⟩
  obtain ⟨b,off,rfl,a',c',hc,hcs,h1⟩:=h.part i l hl
  exact ⟨b,off,rfl,a',c',(hb.cell (p:=⟨b,off+i,none⟩) (World.block_lt_of_cell? _ _ hc)).trans hc,hcs.keep hb,h1⟩
theorem zeroCells_one (v:Value) (n:Nat):Builtin.zeroCells #[v] n=(List.replicate n v).toArray:=by
  apply Array.ext
  · simp [Builtin.zeroCells]
  · intro i h1 h2
    simp [Builtin.zeroCells,Nat.mod_one]
set_option maxRecDepth 100000 in
set_option maxHeartbeats 400000 in
theorem grow_nil (n:Nat) (w:World) (hn:n≤1099511627776):
    Calls Tryz.prog 140 #[.slice none 0 0,.int .i64 n] w fun e w'=>∃ a cap,e=.returned (.slice a 0 cap)∧w'.ownsRow w.heap.size 5 1 (.slice a 0 cap) 0 []∧Below w.heap.size w w':=by
  obtain ⟨i0,hi,hz0,hz1,hz2⟩:=info_parts info_u8
  by_cases h0:n=0
  · subst h0
    go_enter Tryz.func140,Tryz.ntmps140
    go_wp2
    go_ret
    exact ⟨none,0,rfl,World.ownsRow_nil _ _ _ _,Below.refl _ _⟩
  · have hpos:(0:Int) < (n:Int):=by omega
    have hrz:∀ ty,(Builtin.append_ #[22,3] ty #[.slice none 0 0,.int .i64 n]).run Tryz.prog w=
        .ok (.slice (some ⟨w.heap.size,0,none⟩) n (grownCap w n 0 5)) (w.drew.alloc (.cells (List.replicate (grownCap w n 0 5) (Value.int .u8 0)).toArray 5)):=fun ty=>by
      have h:=Lib.run_append_grow_zeros (P:=Tryz.prog) w 22 3 ty 5 i0 (.int .u8 0) .i64 .i64 Tryz.underlying22 Tryz.underlying3 hi hz0 none 0 0 [] (run_firstCells_none w.drew i0.size 0 0 0) n (by omega) (by rw [hz1];decide) (by omega) (by omega)
        (by rw [hz2];omega) (by rw [hz2];exact growslice_fits (by omega) (by omega))
      have hG:n≤grownCap w (0+n) 0 5:=by have:=grownCap_ge w (0+n) 0 5;omega
      rw [Nat.zero_add] at h hG
      rw [h]
      congr 4
      rw [show (Value.int IntKind.u8 0).cells=#[Value.int IntKind.u8 0] from rfl,zeroCells_one,zeroCells_one]
      simp only [List.append_toArray,List.nil_append]
      rw [List.replicate_append_replicate,show n+(grownCap w n 0 5 - n)=grownCap w n 0 5 by omega]
    have hG1:n≤grownCap w n 0 5:=grownCap_ge w n 0 5
    have hG2:grownCap w n 0 5≤maxLen:=grownCap_le_maxLen w n 0 5 (by unfold maxLen;omega)
    generalize grownCap w n 0 5=G at*
    have hG3:G≤9223372036854775807:=by unfold maxLen at hG2;omega
    obtain ⟨L,hL⟩:∃ L,L=List.replicate G (Value.int .u8 0):=⟨_,rfl⟩
    rw [← hL] at hrz
    have HL:=Lib.hid hL
    have HG2:=Lib.hid hG2
    clear hL hG2 h0
    go_enter Tryz.func140,Tryz.ntmps140
    go_wp2_with (at_builtin;refine Lib.wpList_append_run _ rfl _ _ _ _ rfl _ _ rfl rfl _ _ (hrz _) ?_)
    go_ret
    refine ⟨_,_,rfl,?_,((Below.refl _ _).drew).alloc (Nat.le_refl _) _⟩
    refine ⟨rfl,.inr ⟨w.heap.size,G,L.toArray,rfl,Nat.le_refl _,heap_alloc_new w.drew _,Nat.zero_le _,HG2.out,by rw [HL.out];simp,rfl⟩⟩
set_option maxRecDepth 100000 in
set_option maxHeartbeats 800000 in
theorem concat_any {pa:Option Addr} {pn pc:Nat} {pp:List (List Value)} {w:World} (hp:PartsV w pa pn pc pp) (ht:totV pp≤1099511627776):
    Calls Tryz.prog 124 #[.slice pa pn pc] w fun e w'=>∃ a cap,e=.returned (.slice a pp.flatten.length cap)∧w'.ownsRow w.heap.size 5 1 (.slice a pp.flatten.length cap) pp.flatten.length pp.flatten∧Below w.heap.size w w':=by
  obtain ⟨i0,hi,hz0,hz1,hz2⟩:=info_parts info_u8
  have hpl:=Lib.hid hp.len
  have hmx:=hp.le_i64
  have HP:=Lib.hid hp
  have HT:=Lib.hid ht
  clear hp ht
  go_enter Tryz.func124,Tryz.ntmps124
  go_wp2
  go_loop [3,11] (fun s i=>∃ k:Nat,k≤pn∧i=.int .i64 k∧s=.int .i64 (totV (pp.take k))) (fun _ i=>pn - (intOf i).toNat)
  case atStart=>exact ⟨0,Nat.zero_le _,rfl,rfl⟩
  case round=>
    obtain ⟨k,hk,rfl,rfl⟩:=hrel
    by_cases hlt:k < pn
    · obtain ⟨l,hl⟩:∃ l,pp[k]?=some l:=⟨_,List.getElem?_eq_getElem (by rw [hpl.out];exact hlt)⟩
      obtain ⟨b,off,hpa,a',c',hc,hby⟩:=HP.out.part k l hl
      subst hpa
      have HS:Hid (totV (pp.take (k+1))=totV (pp.take k)+l.length):=by
        show _=_
        rw [take_snoc hl,totV_append];simp [totV]
      have hml:=hby.1.le_i64.1
      have hbd:totV (pp.take k)+l.length≤1099511627776:=by
        rw [← HS.out];exact Nat.le_trans (totV_take_le pp (k+1)) HT.out
      clear hby hl
      generalize totV (pp.take k)=q at*
      have hneg:¬ ((q:Int)+(l.length:Int) < 0):=by omega
      go_wp2
      refine ⟨⟨k+1,by omega,by go_num,?_⟩,by simp [intOf];omega⟩
      rw [HS.out];go_num
    · have hto:pp.take k=pp:=List.take_of_length_le (by rw [hpl.out];omega)
      rw [hto]
      clear hto
      have hq1:totV pp≤1099511627776:=HT.out
      go_wp2_with fail
      refine (grow_nil (totV pp) w hq1).mono ?_
      rintro e w1 ⟨a1,cap1,rfl,h1,h1'⟩
      have HO1:=Lib.hid h1
      have HB1:=Lib.hid h1'
      clear h1 h1'
      go_wp2
      go_loopw [6,27] (fun o i wr=>∃ k a cap n,k≤pn∧i=.int .i64 (k:Nat)∧o=.slice a n cap∧Hid (n=totV (pp.take k))∧Hid (wr.ownsRow w.heap.size 5 1 (.slice a n cap) n (pp.take k).flatten)∧Hid (Below w.heap.size w wr)) (fun _ i _=>pn - (intOf i).toNat)
      case atStart=>exact ⟨0,a1,cap1,0,Nat.zero_le _,rfl,rfl,rfl,HO1,HB1⟩
      case round=>
        obtain ⟨k,a,cap,n,hk,rfl,rfl,hn,ho,hb⟩:=hrel
        by_cases hlt:k < pn
        · obtain ⟨l,hl⟩:∃ l,pp[k]?=some l:=⟨_,List.getElem?_eq_getElem (by rw [hpl.out];exact hlt)⟩
          obtain ⟨b,off,hpa,a',c',hc,hby⟩:=(HP.out.keep hb.out).part k l hl
          subst hpa
          have HS:Hid (totV (pp.take (k+1))=totV (pp.take k)+l.length):=by
            show _=_
            rw [take_snoc hl,totV_append];simp [totV]
          have HF:=Lib.hid (flatV_snoc hl)
          have hml:=hby.1.le_i64.1
          have hbd:n+l.length≤1099511627776:=by
            rw [hn.out,← HS.out];exact Nat.le_trans (totV_take_le pp (k+1)) HT.out
          have hwr:=hb.out.size
          obtain ⟨Y,hY⟩:∃ Y,Y=(pp.take k).flatten:=⟨_,rfl⟩
          rw [← hY] at HF ho
          have ho1:=ho.out
          clear hl hY
          go_wp2_with (at_builtin;refine wpList_append_row rfl (.tmp 31) (.tmp 32) 22 rfl w.heap.size 5 i0 (.int .u8 0) 1 1 Tryz.underlying22 hi hz0 hz1 hz2 rfl (by decide) _ _ _ _ rfl ho1 _ _ _ _ rfl hby.1 hby.2 (by unfold maxLen;omega) (by omega) w hb.out hwr ?_)
          intro a5 c5 w3 ho3 hb3
          have HO3:Hid (w3.ownsRow w.heap.size 5 1 (.slice a5 (n+l.length) c5) (n+l.length) (pp.take (k+1)).flatten):=by
            show World.ownsRow _ _ _ _ _ _ _
            rw [HF.out]
            exact ho3
          have HB3:=Lib.hid hb3
          clear ho3 hb3 ho1
          go_wp2
          exact ⟨⟨k+1,a5,c5,_,by omega,by go_num,rfl,by show _=_;rw [HS.out,hn.out],HO3,HB3⟩,by simp [intOf];omega⟩
        · have hto:pp.take k=pp:=List.take_of_length_le (by rw [hpl.out];omega)
          rw [hto] at ho hn
          have HL:=Lib.hid (totV_flatten pp)
          clear hto
          go_wp2
          go_ret
          have e:n=pp.flatten.length:=by rw [HL.out,hn.out]
          subst e
          exact ⟨_,_,rfl,ho.out,hb.out⟩
theorem dS2 (pp:List (List Int)):denS (T:=.sl (.int .u8)) pp=pp.map fun (l:List Int)=>[D.view 1 (l.map fun x=>[D.int .u8 x])]:=rfl
theorem parts_of {E:Env} {w:World} {U:Nat→Prop} {pp:List (List Int)} {v:Value} (h:VA E w NoF U w.heap.size (denV (fun _=>.free) (.view true (.sl (.int .u8)) pp)) v):∃ a n cap,v=.slice a n cap∧PartsV w a n cap (pp.map fun l=>l.map (Value.int .u8)):=by
  have h1:VA E w NoF U w.heap.size (.lent 1 (denS (T:=.sl (.int .u8)) pp)) v:=h
  rw [dS2] at h1
  cases h1 with
  | lent u hl hc hm hz hsz hat hV =>
    refine ⟨_,_,_,rfl,by rw [List.length_map] at hl ⊢;exact hl,hc,hm,fun i l hl'=>?_⟩
    rw [List.getElem?_map] at hl'
    obtain ⟨q,hq,rfl⟩:=Option.map_eq_some_iff.1 hl'
    have hx:(pp.map fun (l:List Int)=>[D.view 1 (l.map fun x=>[D.int .u8 x])])[i]?=some [D.view 1 (q.map fun x=>[D.int .u8 x])]:=by rw [List.getElem?_map,hq];rfl
    obtain ⟨b,off,ha,_,h5⟩:=hat i _ hx
    have h6:=h5 0 (by decide)
    have h7:=hV i _ 0 _ hx rfl
    rw [Nat.mul_one,Nat.add_zero] at h6
    refine ⟨b,off,ha,?_⟩
    generalize u i 0=z at h6 h7
    by_cases hne:q=[]
    · subst hne
      cases h7 with
      | view u' r1 r2 r3 r4 _ _ _ =>
        have r1':0=_:=r1
        subst r1'
        exact ⟨_,_,h6,⟨rfl,r2,r3,r4,⟨fun j y hy=>by cases hy⟩⟩,fun y hy=>by cases hy⟩
    · obtain ⟨b',off',cap',rfl,r1,r2,_,_,_,r3⟩:=view_cells (k:=.u8) h7 hne
      refine ⟨_,cap',by rw [List.length_map];exact h6,⟨by simp,by rw [List.length_map];exact r1,r2,(fun h=>by cases h),Row.of fun j y hy=>?_⟩,fun y hy=>?_⟩
      · rw [List.getElem?_map] at hy
        obtain ⟨x,hx',rfl⟩:=Option.map_eq_some_iff.1 hy
        exact r3 j x hx'
      · obtain ⟨x,_,rfl⟩:=List.mem_map.1 hy
        rfl
abbrev lYs:Sh:=.view true tYs
def S_cat:Spec:=⟨.pair lYs .unit,.pair oY .unit,fun (x:List (List Int)×Unit)=>x.1.flatten.length≤1099511627776,fun (x:List (List Int)×Unit)=>((x.1.flatten,()):List Int×Unit)⟩
theorem totV_map (pp:List (List Int)):totV (pp.map fun l=>l.map (Value.int .u8))=pp.flatten.length:=by
  induction pp with
  | nil=>rfl
  | cons l r ih=>simp only [List.map_cons,totV,List.length_map,ih,List.flatten_cons,List.length_append]
theorem flat_map (pp:List (List Int)):(pp.map fun l=>l.map (Value.int .u8)).flatten=pp.flatten.map (Value.int .u8):=by
  rw [List.map_flatten]
theorem cat_in {pp:List (List Int)} (hx:pp.flatten.length≤1099511627776) {E:Env} {U:Nat→Prop} {w:World} {v:Value} (h:VA E w NoF U w.heap.size (denV (fun _=>.free) (.view true tYs pp)) v):
    Calls Tryz.prog 124 #[v] w fun en w'=>∃ a n cap,en=.returned (.slice a n cap)∧Below w.heap.size w w'∧w'.ownsRow w.heap.size 5 1 (.slice a n cap) n (pp.flatten.map (Value.int .u8)):=by
  obtain ⟨a,n,cap,rfl,hp⟩:=parts_of h
  refine (concat_any hp (by rw [totV_map];exact hx)).mono ?_
  rintro e w' ⟨a',c',rfl,ho,hb⟩
  refine ⟨_,_,_,rfl,hb,?_⟩
  rw [flat_map] at ho ⊢
  exact ho
theorem sc_cat:SC Tryz.prog 124 S_cat:=
  SC.own .u8 5 (by decide) rfl (fun _=>rfl) (fun x=>x.1.flatten) (fun _=>rfl) (fun _=>rfl) fun x hx w U E vs hT hl hv=>by
    obtain ⟨pp,⟨⟩⟩:=x
    obtain ⟨v,rfl⟩:∃ v,vs=[v]:=by
      match vs,hl with
      | [v],_=>exact ⟨v,rfl⟩
    exact cat_in (pp:=pp) hx (hv 0 (.view true tYs pp) v rfl rfl)
theorem en_cat (us:Array Value) (u:World):(callFunc 124 us).run Tryz.prog u=.ok (.enter 124 us) u:=by kernel_rfl
def byt (l:List Int):Prop:=∀ x∈l,0≤x∧x < 256
set_option maxRecDepth 100000 in
set_option maxHeartbeats 400000 in
theorem equal_any {w:World} {a a':Option Addr} {n n' cap cap':Nat} {l m:List UInt8} (h:Bytes w a n cap l) (h':Bytes w a' n' cap' m):
    Calls Tryz.prog 66 #[.slice a n cap,.slice a' n' cap'] w fun e w'=>e=.returned (.bool (l==m))∧w=w':=by
  have k1:=h.toStr (P:=Tryz.prog) 22 9 5 Tryz.underlying22 Tryz.underlying5 Tryz.underlying9
  have k2:=h'.toStr (P:=Tryz.prog) 22 9 5 Tryz.underlying22 Tryz.underlying5 Tryz.underlying9
  clear h h'
  go_enter Tryz.func66,Tryz.ntmps66
  go_wp2
  go_ret
  exact ⟨rfl,rfl⟩
set_option maxRecDepth 100000 in
def S_eq:Spec:=⟨.pair lY (.pair lY .unit),.pair .bool .unit,fun (x:List Int×List Int×Unit)=>byt x.1∧byt x.2.1,fun (x:List Int×List Int×Unit)=>((x.1==x.2.1,()):Bool×Unit)⟩
theorem bI_beq (l m:List UInt8):(bI l==bI m)=(l==m):=by
  rw [Bool.eq_iff_iff,beq_iff_eq,beq_iff_eq]
  exact ⟨bI_inj,fun h=>by rw [h]⟩
theorem sc_two {f:FuncId} (h:∀ {w:World} {a a':Option Addr} {n n' cap cap':Nat} {l m:List UInt8},Bytes w a n cap l→Bytes w a' n' cap' m→Calls Tryz.prog f #[.slice a n cap,.slice a' n' cap'] w fun e w'=>e=.returned (.bool (l==m))∧w=w'):SC Tryz.prog f S_eq:=
  SC.pure rfl (fun _=>rfl) (fun _=>rfl) fun x hx w U E vs hT hl hv=>by
    obtain ⟨l,m,⟨⟩⟩:=x
    obtain ⟨v,v',rfl⟩:∃ v v',vs=[v,v']:=by
      match vs,hl with
      | [v,v'],_=>exact ⟨v,v',rfl⟩
    obtain ⟨l,rfl⟩:=bI_of hx.1
    obtain ⟨m,rfl⟩:=bI_of hx.2
    obtain ⟨a,n,cap,rfl,h1⟩:=VA.taken (hv 0 (.view true tY (bI l)) v rfl rfl)
    obtain ⟨a',n',cap',rfl,h2⟩:=VA.taken (hv 1 (.view true tY (bI m)) v' rfl rfl)
    refine (h h1 h2).mono ?_
    rintro e w' ⟨rfl,rfl⟩
    refine ⟨_,rfl,Below.refl _ _,?_⟩
    show VA _ _ _ _ _ (.d (.bool (bI l==bI m))) _
    rw [bI_beq]
    exact .d (.bool _)
theorem sc_eq:SC Tryz.prog 66 S_eq:=sc_two equal_any
theorem en_eq (us:Array Value) (u:World):(callFunc 66 us).run Tryz.prog u=.ok (.enter 66 us) u:=by kernel_rfl
end Go.Proofs.YtjkbkhjalimebaaGreatDoor
namespace Go.Proofs.YtjkbkhjalimebaaGreatDoor
open Go.RowKit DoorU
set_option linter.unusedVariables false
set_option linter.unusedSimpArgs false
set_option maxRecDepth 100000
set_option maxHeartbeats 1000000
namespace DoorU
def putI (n:Int) (w:Nat):List Int:=(List.range w).map fun j=>n / 256 ^ (w - 1 - j) % 256
def putP (n:Int) (w k:Nat):List Int:=(List.range w).map fun j=>if w - k≤j then n / 256 ^ (w - 1 - j) % 256 else 0
def putE (n w:Int):Int:=if w < 1 then 1 else if 8 < w then 1 else if w < 8 then (if n / 2 ^ (8*w).toNat=0 then 0 else 2) else 0
def putR (n w:Int):List Int:=if putE n w=0 then putI n w.toNat else []
def getI (l:List Int):Int:=l.foldl (fun a x=>a*256+x) 0
def getE (l:List Int):Int:=if l.length < 1 then 1 else if 8 < l.length then 1 else 0
def getR (l:List Int):Int:=if getE l=0 then getI l else 0
def blockF (key:List Int):List Int:=(if 64 < key.length then sumF key else key)++List.replicate (64 - (if 64 < key.length then sumF key else key).length) 0
def maskF (k:List Int) (x:Int):List Int:=k.map fun a=>xorI .u8 a x
def hashF (pp:List (List Int)):List Int:=sumF pp.flatten
def tagF (key b:List Int):List Int:=sumF (maskF (blockF key) 92++sumF (maskF (blockF key) 54++b))
def up1 (n:Nat):Int:=n+1
def serversF (c:Cfg):Int:=IntKind.i64.wrap (c.2.1+c.2.2.1)
def nodesF (c:Cfg):Int:=IntKind.i64.wrap (IntKind.i64.wrap (1+serversF c)+c.2.2.2.1)
def w8 (n:Int):Int:=IntKind.u8.wrap n
def madeF (c:Cfg) (what:Int) (ns:List Int):List Int:=tagF c.1 (what::ns.map w8)
def minI (a b:Int):Int:=if b < a then b else a
def maxI (a b:Int):Int:=if a < b then b else a
def pairF (c:Cfg) (a b:Int):List Int:=madeF c 1 [minI a b,maxI a b]
def wit (n a b:Int):Bool:=decide (a≤n)&&decide (n≤b)
def okC (c:Cfg):Bool:=decide (c.1.length≤64)&&(wit c.2.1 1 8&&(wit c.2.2.1 0 8&&(wit c.2.2.2.1 1 8&&(wit c.2.2.2.2.1 1 64&&(wit c.2.2.2.2.2.1 1 10000&&(!decide (c.2.2.2.2.2.2.1≤c.2.2.2.2.2.1)&&(decide (c.2.2.2.2.2.2.1≤10000)&&(wit c.2.2.2.2.2.2.2.1 1 10000&&(wit c.2.2.2.2.2.2.2.2.1 1 64&&(decide (1≤c.2.2.2.2.2.2.2.2.2.1)&&decide (1≤c.2.2.2.2.2.2.2.2.2.2.1)))))))))))
def kchkF (c:Cfg):Int:=if okC c then 0 else 1
def firstF (c:Cfg):Sta:=if okC c then (1,c.2.2.2.2.2.2.2.2.2.1,(List.range c.2.1.toNat).map up1,()) else (0,0,[],())
def isNodeF (c:Cfg) (n:Int):Bool:=decide (0≤n)&&decide (n < nodesF c)
end DoorU
abbrev vSt:Sh:=.agg (shOf false tSt)
def S_put:Spec:=⟨.pair nW (.pair nI .unit),.pair (.tup (.pair vY (.pair nI .unit))) .unit,fun (x:Int×Int×Unit)=>0≤x.1∧x.1 < 18446744073709551616,fun (x:Int×Int×Unit)=>(((putR x.1 x.2.1,putE x.1 x.2.1,()),()):(List Int×Int×Unit)×Unit)⟩
def A_put (x:Int×Int×Unit):Nat→Option LA
  | 0=>some ⟨[27,6],[],.pair nI (.pair oY .unit),fun (v:Int×List Int×Unit)=>0≤v.1∧v.1≤x.2.1∧v.2.1=putP x.1 x.2.1.toNat v.1.toNat,fun (v:Int×List Int×Unit)=>(x.2.1 - v.1).toNat⟩
  | _=>none
def S_get:Spec:=⟨.pair lY .unit,.pair (.tup (.pair nW (.pair nI .unit))) .unit,fun (x:List Int×Unit)=>byt x.1,fun (x:List Int×Unit)=>(((getR x.1,getE x.1,()),()):(Int×Int×Unit)×Unit)⟩
def A_get (x:List Int×Unit):Nat→Option LA
  | 0=>some ⟨[17,4],[],.pair nI (.pair nW .unit),fun (v:Int×Int×Unit)=>0≤v.1∧v.1≤(x.1.length:Nat)∧v.2.1=getI (x.1.take v.1.toNat),fun (v:Int×Int×Unit)=>((x.1.length:Nat) - v.1).toNat⟩
  | _=>none
def S_block:Spec:=⟨.pair lY .unit,.pair (.arr tY) .unit,fun (x:List Int×Unit)=>x.1.length≤1000000000,fun (x:List Int×Unit)=>((blockF x.1,()):List Int×Unit)⟩
def S_mask:Spec:=⟨.pair (.arr tY) (.pair nY .unit),.pair vY .unit,fun (x:List Int×Int×Unit)=>x.1.length=64,fun (x:List Int×Int×Unit)=>((maskF x.1 x.2.1,()):List Int×Unit)⟩
def A_mask (x:List Int×Int×Unit):Nat→Option LA
  | 0=>some ⟨[10,5],[],.pair nI (.pair oY .unit),fun (v:Int×List Int×Unit)=>0≤v.1∧v.1≤64∧v.2.1=maskF (x.1.take v.1.toNat) x.2.1++List.replicate (64 - v.1.toNat) 0,fun (v:Int×List Int×Unit)=>(64 - v.1).toNat⟩
  | _=>none
def S_hash:Spec:=⟨.pair lYs .unit,.pair oY .unit,fun (x:List (List Int)×Unit)=>x.1.flatten.length≤1000000000,fun (x:List (List Int)×Unit)=>((hashF x.1,()):List Int×Unit)⟩
def S_tagV:Spec:=⟨.pair vY (.pair vY .unit),.pair oY .unit,fun (x:List Int×List Int×Unit)=>x.1.length≤1000000000∧x.2.1.length≤100000000,fun (x:List Int×List Int×Unit)=>((tagF x.1 x.2.1,()):List Int×Unit)⟩
def S_tag:Spec:=⟨.pair lY (.pair lY .unit),.pair oY .unit,fun (x:List Int×List Int×Unit)=>x.1.length≤1000000000∧x.2.1.length≤100000000,fun (x:List Int×List Int×Unit)=>((tagF x.1 x.2.1,()):List Int×Unit)⟩
def S_mchk:Spec:=⟨.pair lY (.pair lY (.pair lY .unit)),.pair nI .unit,fun (x:List Int×List Int×List Int×Unit)=>x.1.length≤1000000000∧x.2.1.length≤100000000∧byt x.2.2.1,fun (x:List Int×List Int×List Int×Unit)=>((if x.2.2.1=tagF x.1 x.2.1 then 0 else 4,()):Int×Unit)⟩
def S_kwit:Spec:=⟨.pair nI (.pair nI (.pair nI .unit)),.pair .bool .unit,fun _=>True,fun (x:Int×Int×Int×Unit)=>((wit x.1 x.2.1 x.2.2.1,()):Bool×Unit)⟩
def S_kchk:Spec:=⟨.pair aC .unit,.pair nI .unit,fun _=>True,fun (x:Cfg×Unit)=>((kchkF x.1,()):Int×Unit)⟩
def S_serv:Spec:=⟨.pair aC .unit,.pair nI .unit,fun _=>True,fun (x:Cfg×Unit)=>((serversF x.1,()):Int×Unit)⟩
def S_nodes:Spec:=⟨.pair aC .unit,.pair nI .unit,fun _=>True,fun (x:Cfg×Unit)=>((nodesF x.1,()):Int×Unit)⟩
def S_made:Spec:=⟨.pair aC (.pair nY (.pair lI .unit)),.pair oY .unit,fun (x:Cfg×Int×List Int×Unit)=>x.1.1.length≤1000000000∧x.2.2.1.length≤1000,fun (x:Cfg×Int×List Int×Unit)=>((madeF x.1 x.2.1 x.2.2.1,()):List Int×Unit)⟩
def A_made (x:Cfg×Int×List Int×Unit):Nat→Option LA
  | 0=>some ⟨[14,7],[],.pair nI (.pair oY .unit),fun (v:Int×List Int×Unit)=>0≤v.1∧v.1≤(x.2.2.1.length:Nat)∧v.2.1=x.2.1::(x.2.2.1.take v.1.toNat).map w8,fun (v:Int×List Int×Unit)=>((x.2.2.1.length:Nat) - v.1).toNat⟩
  | _=>none
def S_pair:Spec:=⟨.pair aC (.pair nI (.pair nI .unit)),.pair oY .unit,fun (x:Cfg×Int×Int×Unit)=>x.1.1.length≤1000000000,fun (x:Cfg×Int×Int×Unit)=>((pairF x.1 x.2.1 x.2.2.1,()):List Int×Unit)⟩
def S_first:Spec:=⟨.pair aC .unit,.pair vSt .unit,fun _=>True,fun (x:Cfg×Unit)=>((firstF x.1,()):Sta×Unit)⟩
def A_first (x:Cfg×Unit):Nat→Option LA
  | 0=>some ⟨[14,3],[(3003,tI,3)],.pair nI (.pair (.var 28 (.pair nW (.pair nW (.pair oI .unit)))) .unit),fun (v:Int×(Int×Int×List Int×Unit)×Unit)=>0≤v.1∧v.1≤x.1.2.1∧v.2.1=(1,x.1.2.2.2.2.2.2.2.2.2.1,(List.range v.1.toNat).map up1,()),fun (v:Int×(Int×Int×List Int×Unit)×Unit)=>(x.1.2.1 - v.1).toNat⟩
  | _=>none
def S_isN:Spec:=⟨.pair aC (.pair nI .unit),.pair .bool .unit,fun _=>True,fun (x:Cfg×Int×Unit)=>((isNodeF x.1 x.2.1,()):Bool×Unit)⟩
namespace DoorU
theorem shr_of {n:Int} (h:0≤n) {k:Int} (hk0:0≤k) (hk:k≤64):shrI .u64 n k=n / 2 ^ k.toNat:=by
  unfold shrI
  rw [show min k.toNat IntKind.u64.bits=k.toNat from Nat.min_eq_left (by show k.toNat≤64;omega)]
  exact Int.fdiv_eq_ediv_of_nonneg _ (Int.le_of_lt (Int.pow_pos (by decide)))
theorem w8_of (n:Int):IntKind.u8.wrap n=n % 256:=by simp [IntKind.wrap,IntKind.signed,IntKind.bits]
theorem pow256 (k:Nat):(2:Int) ^ (8*k)=256 ^ k:=by rw [Int.pow_mul];rfl
theorem putP_len (n:Int) (w k:Nat):(putP n w k).length=w:=by simp [putP]
theorem putI_len (n:Int) (w:Nat):(putI n w).length=w:=by simp [putI]
theorem putP_zero (n:Int) (w:Nat):putP n w 0=List.replicate w 0:=by
  apply List.ext_getElem
  · simp [putP]
  · intro i h1 h2
    simp only [putP,List.getElem_map,List.getElem_range,List.getElem_replicate]
    rw [if_neg]
    simp [putP] at h1
    omega
theorem putP_full (n:Int) (w:Nat):putP n w w=putI n w:=by simp [putP,putI]
theorem putP_succ (n:Int) {w k:Nat} (hk:k < w):(putP n w k).set (w - 1 - k) (n / 256 ^ k % 256)=putP n w (k+1):=by
  apply List.ext_getElem
  · simp [putP]
  · intro i h1 h2
    have hi:i < w:=by simpa [putP] using h2
    simp only [putP,List.getElem_set,List.getElem_map,List.getElem_range]
    by_cases e:w - 1 - k=i
    · rw [if_pos e,if_pos (by omega),show w - 1 - i=k by omega]
    · rw [if_neg e]
      by_cases h:w - k≤i
      · rw [if_pos h,if_pos (by omega)]
      · rw [if_neg h,if_neg (by omega)]
theorem or_of {a c:Int} (ha:0≤a) (ha2:a < 72057594037927936) (hc:0≤c) (hc2:c < 256):orI .u64 (shlI .u64 a 8) (IntKind.u64.wrap c)=a*256+c:=by
  obtain ⟨A,rfl⟩:=Int.eq_ofNat_of_zero_le ha
  obtain ⟨C,rfl⟩:=Int.eq_ofNat_of_zero_le hc
  have h1:shlI .u64 (A:Int) 8=((A*256:Nat):Int):=by
    unfold shlI
    rw [show min (8:Int).toNat IntKind.u64.bits=8 from rfl,IntWalk.u64_in _ ⟨by omega,by omega⟩]
    push_cast;rfl
  have h2:IntKind.u64.wrap (C:Int)=(C:Int):=IntWalk.u64_in _ ⟨by omega,by omega⟩
  rw [h1,h2]
  unfold orI
  have h3:(BitVec.ofInt IntKind.u64.bits ((A*256:Nat):Int) ||| BitVec.ofInt IntKind.u64.bits (C:Int)).toNat=A*256+C:=by
    rw [BitVec.toNat_or,BitVec.ofInt_natCast,BitVec.ofInt_natCast,BitVec.toNat_ofNat,BitVec.toNat_ofNat]
    show (A*256) % 2 ^ 64 ||| C % 2 ^ 64=_
    rw [Nat.mod_eq_of_lt (by omega),Nat.mod_eq_of_lt (by omega)]
    have:=Nat.shiftLeft_add_eq_or_of_lt (i:=8) (b:=C) (by omega:C < 2 ^ 8) A
    rw [Nat.shiftLeft_eq] at this
    exact this.symm
  rw [h3,IntWalk.u64_in _ ⟨by omega,by omega⟩]
  push_cast;rfl
theorem getI_snoc (l:List Int) (x:Int):getI (l++[x])=getI l*256+x:=by simp [getI]
theorem getI_fold:∀ (l:List Int) (a:Int),byt l→0≤a→0≤l.foldl (fun a x=>a*256+x) a∧l.foldl (fun a x=>a*256+x) a < (a+1)*256 ^ l.length
  | [],a,_,h=>⟨h,by simp only [List.foldl_nil,List.length_nil,Int.pow_zero];omega⟩
  | x :: l, a, hb, h => by
    have hx:=hb x (List.mem_cons_self ..)
    have ih:=getI_fold l (a*256+x) (fun y hy=>hb y (List.mem_cons_of_mem _ hy)) (by omega)
    refine ⟨ih.1,Int.lt_of_lt_of_le ih.2 ?_⟩
    rw [List.length_cons,Int.pow_succ,Int.mul_comm (256 ^ l.length) 256,← Int.mul_assoc]
    exact Int.mul_le_mul_of_nonneg_right (by omega) (Int.le_of_lt (Int.pow_pos (by decide)))
theorem getI_bd (l:List Int) (h:byt l):0≤getI l∧getI l < 256 ^ l.length:=by
  have:=getI_fold l 0 h (Int.le_refl 0)
  rw [Int.zero_add,Int.one_mul] at this
  exact this
theorem copL {K:List Int} (h:K.length≤64):[]++List.take (min 64 K.length) K++List.drop (0+min 64 K.length) (List.replicate 64 (0:Int))=K++List.replicate (64 - K.length) 0:=by
  rw [Nat.min_eq_right h,List.take_length,Nat.zero_add,List.drop_replicate,List.nil_append]
theorem blockF_len (k:List Int):(blockF k).length=64:=by
  unfold blockF
  rw [List.length_append,List.length_replicate]
  by_cases h:64 < k.length
  · rw [if_pos h,sumF_len]
  · rw [if_neg h];omega
theorem maskF_len (k:List Int) (x:Int):(maskF k x).length=k.length:=List.length_map _
theorem set_rep (A:List Int) (m:Nat) (v:Int):(A++List.replicate (m+1) 0).set A.length v=(A++[v])++List.replicate m 0:=by
  rw [List.set_append_right _ _ (Nat.le_refl _),Nat.sub_self,List.replicate_succ,List.set_cons_zero,List.append_assoc]
  rfl
theorem w4_byt (n:Int):byt (w4 n):=fun x hx=>by
  simp only [w4,List.mem_cons,List.not_mem_nil,or_false] at hx
  rcases hx with rfl | rfl | rfl | rfl <;> (rw [w8_of];omega)
theorem outP_byt (hs:List Int):∀ n,byt (outP hs n)
  | 0=>fun x hx=>by cases hx
  | n+1=>fun x hx=>(List.mem_append.1 hx).elim (outP_byt hs n x) (w4_byt _ x)
theorem sumF_byt (l:List Int):byt (sumF l):=outP_byt _ 8
theorem tagF_byt (k b:List Int):byt (tagF k b):=sumF_byt _
theorem tagF_len (k b:List Int):(tagF k b).length=32:=sumF_len _
end DoorU
def PutRest (n w:Int):Prop:=
  (0:Int)≤w∧w≤w∧Int.ofNat (nat_lit 1)*w≤(281474976710656:Int)∧w≤(140737488351232:Int)∧((0:Int)≤(0:Int)∧(0:Int)≤w∧List.replicate (Int.toNat w) (0:Int)=putP n (Int.toNat w) (Int.toNat (0:Int)))∧∀ (v:Int×List Int×Unit),(0:Int)≤v.fst∧v.fst≤w∧v.2.fst=putP n (Int.toNat w) (Int.toNat v.fst)→
  bif decide (v.fst < (↑(List.length (List.replicate (Int.toNat w) (0:Int))):Int)) then (0:Int)≤IntKind.wrap IntKind.i64 ((8:Int)*v.fst)∧(0:Int)≤IntKind.wrap IntKind.i64 (IntKind.wrap IntKind.i64 (w - (1:Int)) - v.fst)∧IntKind.wrap IntKind.i64 (IntKind.wrap IntKind.i64 (w - (1:Int)) - v.fst) < (↑(List.length v.2.fst):Int)∧Int.toNat (IntKind.wrap IntKind.i64 (IntKind.wrap IntKind.i64 (w - (1:Int)) - v.fst)) < List.length v.2.fst∧∀ (x0:Int),v.2.fst[Int.toNat (IntKind.wrap IntKind.i64 (IntKind.wrap IntKind.i64 (w - (1:Int)) - v.fst))]?=some x0→
  ((0:Int)≤IntKind.wrap IntKind.i64 (v.fst+(1:Int))∧IntKind.wrap IntKind.i64 (v.fst+(1:Int))≤w∧List.set v.2.fst (Int.toNat (IntKind.wrap IntKind.i64 (IntKind.wrap IntKind.i64 (w - (1:Int)) - v.fst))) (IntKind.wrap IntKind.u8 (shrI IntKind.u64 n (IntKind.wrap IntKind.i64 ((8:Int)*v.fst))))=putP n (Int.toNat w) (Int.toNat (IntKind.wrap IntKind.i64 (v.fst+(1:Int)))))∧Int.toNat (w - IntKind.wrap IntKind.i64 (v.fst+(1:Int))) < Int.toNat (w - v.fst) else ((v.2.fst,(0:Int),()),())=((putR n w,putE n w,()),())
theorem put_rest {n w:Int} (hn0:0≤n) (h1:1≤w) (h2:w≤8) (hE:putE n w=0):PutRest n w:=by
  unfold PutRest
  refine ⟨by omega,Int.le_refl _,by show (1:Int)*w≤_;omega,by omega,⟨Int.le_refl 0,by omega,(putP_zero n w.toNat).symm⟩,?_⟩
  rintro ⟨i,r,⟨⟩⟩ ⟨q0,q1,hr⟩
  dsimp only at q0 q1 hr ⊢
  rw [List.length_replicate,show ((w.toNat:Nat):Int)=w by omega]
  have rl:r.length=w.toNat:=by rw [hr,putP_len]
  have wi:IntKind.i64.wrap (i+1)=i+1:=IntWalk.i64_in _ (by omega)
  by_cases hi:i < w
  · rw [decide_eq_true hi,cond_true]
    have v1:IntKind.i64.wrap (8*i)=8*i:=IntWalk.i64_in _ (by omega)
    have v2:IntKind.i64.wrap (w - 1)=w - 1:=IntWalk.i64_in _ (by omega)
    have v3:IntKind.i64.wrap (w - 1 - i)=w - 1 - i:=IntWalk.i64_in _ (by omega)
    rw [wi,v1,v2,v3,rl]
    refine ⟨by omega,by omega,by omega,by omega,fun x0 _=>⟨⟨by omega,by omega,?_⟩,by omega⟩⟩
    rw [shr_of hn0 (by omega) (by omega),w8_of,show (8*i).toNat=8*i.toNat by omega,pow256,hr,show (w - 1 - i).toNat=w.toNat - 1 - i.toNat by omega,show (i+1).toNat=i.toNat+1 by omega]
    exact putP_succ n (by omega)
  · rw [decide_eq_false hi,cond_false]
    obtain rfl:i=w:=by omega
    rw [hr,putP_full,putR,if_pos hE,hE]
theorem vc_put:VC Tryz.prog Tryz.f123 (bodyOf Tryz.f123) S_put [] A_put=(∀ (x:Int×Int×Unit),(0:Int)≤x.fst∧x.fst < (18446744073709551616:Int)→
  bif decide (x.2.fst < (1:Int)) then (([],(1:Int),()),())=((putR x.fst x.2.fst,putE x.fst x.2.fst,()),()) else bif decide ((8:Int) < x.2.fst) then (([],(1:Int),()),())=((putR x.fst x.2.fst,putE x.fst x.2.fst,()),()) else bif decide (x.2.fst < (8:Int)) then (0:Int)≤IntKind.wrap IntKind.i64 ((8:Int)*x.2.fst)∧bif shrI IntKind.u64 x.fst (IntKind.wrap IntKind.i64 ((8:Int)*x.2.fst)) != (0:Int) then (([],(2:Int),()),())=((putR x.fst x.2.fst,putE x.fst x.2.fst,()),()) else (0:Int)≤x.2.fst∧x.2.fst≤x.2.fst∧Int.ofNat (nat_lit 1)*x.2.fst≤(281474976710656:Int)∧x.2.fst≤(140737488351232:Int)∧((0:Int)≤(0:Int)∧(0:Int)≤x.2.fst∧List.replicate (Int.toNat x.2.fst) (0:Int)=putP x.fst (Int.toNat x.2.fst) (Int.toNat (0:Int)))∧∀ (v:Int×List Int×Unit),(0:Int)≤v.fst∧v.fst≤x.2.fst∧v.2.fst=putP x.fst (Int.toNat x.2.fst) (Int.toNat v.fst)→
  bif decide (v.fst < (↑(List.length (List.replicate (Int.toNat x.2.fst) (0:Int))):Int)) then (0:Int)≤IntKind.wrap IntKind.i64 ((8:Int)*v.fst)∧(0:Int)≤IntKind.wrap IntKind.i64 (IntKind.wrap IntKind.i64 (x.2.fst - (1:Int)) - v.fst)∧IntKind.wrap IntKind.i64 (IntKind.wrap IntKind.i64 (x.2.fst - (1:Int)) - v.fst) < (↑(List.length v.2.fst):Int)∧Int.toNat (IntKind.wrap IntKind.i64 (IntKind.wrap IntKind.i64 (x.2.fst - (1:Int)) - v.fst)) < List.length v.2.fst∧∀ (x0:Int),v.2.fst[Int.toNat (IntKind.wrap IntKind.i64 (IntKind.wrap IntKind.i64 (x.2.fst - (1:Int)) - v.fst))]?=some x0→
  ((0:Int)≤IntKind.wrap IntKind.i64 (v.fst+(1:Int))∧IntKind.wrap IntKind.i64 (v.fst+(1:Int))≤x.2.fst∧List.set v.2.fst (Int.toNat (IntKind.wrap IntKind.i64 (IntKind.wrap IntKind.i64 (x.2.fst - (1:Int)) - v.fst))) (IntKind.wrap IntKind.u8 (shrI IntKind.u64 x.fst (IntKind.wrap IntKind.i64 ((8:Int)*v.fst))))=putP x.fst (Int.toNat x.2.fst) (Int.toNat (IntKind.wrap IntKind.i64 (v.fst+(1:Int)))))∧Int.toNat (x.2.fst - IntKind.wrap IntKind.i64 (v.fst+(1:Int))) < Int.toNat (x.2.fst - v.fst) else ((v.2.fst,(0:Int),()),())=((putR x.fst x.2.fst,putE x.fst x.2.fst,()),()) else (0:Int)≤x.2.fst∧x.2.fst≤x.2.fst∧Int.ofNat (nat_lit 1)*x.2.fst≤(281474976710656:Int)∧x.2.fst≤(140737488351232:Int)∧((0:Int)≤(0:Int)∧(0:Int)≤x.2.fst∧List.replicate (Int.toNat x.2.fst) (0:Int)=putP x.fst (Int.toNat x.2.fst) (Int.toNat (0:Int)))∧∀ (v:Int×List Int×Unit),(0:Int)≤v.fst∧v.fst≤x.2.fst∧v.2.fst=putP x.fst (Int.toNat x.2.fst) (Int.toNat v.fst)→
  bif decide (v.fst < (↑(List.length (List.replicate (Int.toNat x.2.fst) (0:Int))):Int)) then (0:Int)≤IntKind.wrap IntKind.i64 ((8:Int)*v.fst)∧(0:Int)≤IntKind.wrap IntKind.i64 (IntKind.wrap IntKind.i64 (x.2.fst - (1:Int)) - v.fst)∧IntKind.wrap IntKind.i64 (IntKind.wrap IntKind.i64 (x.2.fst - (1:Int)) - v.fst) < (↑(List.length v.2.fst):Int)∧Int.toNat (IntKind.wrap IntKind.i64 (IntKind.wrap IntKind.i64 (x.2.fst - (1:Int)) - v.fst)) < List.length v.2.fst∧∀ (x0:Int),v.2.fst[Int.toNat (IntKind.wrap IntKind.i64 (IntKind.wrap IntKind.i64 (x.2.fst - (1:Int)) - v.fst))]?=some x0→
  ((0:Int)≤IntKind.wrap IntKind.i64 (v.fst+(1:Int))∧IntKind.wrap IntKind.i64 (v.fst+(1:Int))≤x.2.fst∧List.set v.2.fst (Int.toNat (IntKind.wrap IntKind.i64 (IntKind.wrap IntKind.i64 (x.2.fst - (1:Int)) - v.fst))) (IntKind.wrap IntKind.u8 (shrI IntKind.u64 x.fst (IntKind.wrap IntKind.i64 ((8:Int)*v.fst))))=putP x.fst (Int.toNat x.2.fst) (Int.toNat (IntKind.wrap IntKind.i64 (v.fst+(1:Int)))))∧Int.toNat (x.2.fst - IntKind.wrap IntKind.i64 (v.fst+(1:Int))) < Int.toNat (x.2.fst - v.fst) else ((v.2.fst,(0:Int),()),())=((putR x.fst x.2.fst,putE x.fst x.2.fst,()),())):=by kernel_rfl
theorem en_put (us:Array Value) (u:World):(callFunc 123 us).run Tryz.prog u=.ok (.enter 123 us) u:=by kernel_rfl
theorem sc_put:SC Tryz.prog 123 S_put:=by
  refine SC.of Tryz.func123 (c:=bodyOf Tryz.f123) (by kernel_rfl) (by kernel_rfl) (fun x=>(by decide:(2:Nat)≤Tryz.f123.ntmps)) DOk.nil (Eq.mpr vc_put ?_)
  rintro ⟨n,w,⟨⟩⟩ ⟨hn0,hn1⟩
  dsimp only at hn0 hn1 ⊢
  by_cases h1:w < 1
  · rw [decide_eq_true h1,cond_true]
    simp [putR,putE,h1]
  rw [decide_eq_false h1,cond_false]
  by_cases h2:8 < w
  · rw [decide_eq_true h2,cond_true]
    simp [putR,putE,h1,h2]
  rw [decide_eq_false h2,cond_false]
  have v8:IntKind.i64.wrap (8*w)=8*w:=IntWalk.i64_in _ (by omega)
  by_cases h3:w < 8
  · rw [decide_eq_true h3,cond_true,v8,shr_of hn0 (by omega) (by omega)]
    refine ⟨by omega,?_⟩
    by_cases h4:n / 2 ^ (8*w).toNat=0
    · rw [h4,show ((0:Int) != 0)=false from rfl,cond_false]
      exact put_rest hn0 (by omega) (by omega) (by simp only [putE,if_neg h1,if_neg h2,if_pos h3,if_pos h4])
    · rw [show (n / 2 ^ (8*w).toNat != 0)=true from bne_iff_ne.2 h4,cond_true]
      have e:putE n w=2:=by simp only [putE,if_neg h1,if_neg h2,if_pos h3,if_neg h4]
      rw [putR,e]
      rfl
  · rw [decide_eq_false h3,cond_false]
    exact put_rest hn0 (by omega) (by omega) (by simp only [putE,if_neg h1,if_neg h2,if_neg h3])
theorem vc_get:VC Tryz.prog Tryz.f115 (bodyOf Tryz.f115) S_get [] A_get=(∀ (x:List Int×Unit),(∀ (x_1:Int),x_1∈x.fst→
  (0:Int)≤x_1∧x_1 < (256:Int))→
  List.length x.fst≤(9223372036854775807:Nat)→
  List.length x.fst≤(9223372036854775807:Nat)→
  bif decide ((↑(List.length x.fst):Int) < (1:Int)) then (((0:Int),(1:Int),()),())=((getR x.fst,getE x.fst,()),()) else List.length x.fst≤(9223372036854775807:Nat)→
  bif decide ((8:Int) < (↑(List.length x.fst):Int)) then (((0:Int),(1:Int),()),())=((getR x.fst,getE x.fst,()),()) else List.length x.fst≤(9223372036854775807:Nat)→
  ((0:Int)≤(0:Int)∧(0:Int)≤(↑(List.length x.fst):Int)∧(0:Int)=getI (List.take (Int.toNat (0:Int)) x.fst))∧∀ (v:Int×Int×Unit),(0:Int)≤v.fst∧v.fst≤(↑(List.length x.fst):Int)∧v.2.fst=getI (List.take (Int.toNat v.fst) x.fst)→
  bif decide (v.fst < (↑(List.length x.fst):Int)) then (0:Int)≤v.fst∧v.fst < (↑(List.length x.fst):Int)∧∀ (c0:Int),x.fst[Int.toNat v.fst]?=some c0→
  (0:Int)≤(8:Int)∧((0:Int)≤IntKind.wrap IntKind.i64 (v.fst+(1:Int))∧IntKind.wrap IntKind.i64 (v.fst+(1:Int))≤(↑(List.length x.fst):Int)∧orI IntKind.u64 (shlI IntKind.u64 v.2.fst (8:Int)) (IntKind.wrap IntKind.u64 c0)=getI (List.take (Int.toNat (IntKind.wrap IntKind.i64 (v.fst+(1:Int)))) x.fst))∧Int.toNat ((↑(List.length x.fst):Int) - IntKind.wrap IntKind.i64 (v.fst+(1:Int))) < Int.toNat ((↑(List.length x.fst):Int) - v.fst) else ((v.2.fst,(0:Int),()),())=((getR x.fst,getE x.fst,()),())):=by kernel_rfl
theorem en_get (us:Array Value) (u:World):(callFunc 115 us).run Tryz.prog u=.ok (.enter 115 us) u:=by kernel_rfl
theorem sc_get:SC Tryz.prog 115 S_get:=by
  refine SC.of Tryz.func115 (c:=bodyOf Tryz.f115) (by kernel_rfl) (by kernel_rfl) (fun x=>(by decide:(1:Nat)≤Tryz.f115.ntmps)) DOk.nil (Eq.mpr vc_get ?_)
  rintro ⟨l,⟨⟩⟩ hb - -
  dsimp only at hb ⊢
  by_cases h1:l.length < 1
  · rw [decide_eq_true (by omega:(l.length:Int) < 1),cond_true]
    simp [getR,getE,h1]
  rw [decide_eq_false (by omega),cond_false]
  intro _
  by_cases h2:8 < l.length
  · rw [decide_eq_true (by omega:(8:Int) < (l.length:Int)),cond_true]
    simp [getR,getE,h1,h2]
  rw [decide_eq_false (by omega),cond_false]
  intro _
  refine ⟨⟨Int.le_refl 0,by omega,rfl⟩,?_⟩
  rintro ⟨i,n,⟨⟩⟩ ⟨q0,q1,hn⟩
  dsimp only at q0 q1 hn ⊢
  have wi:IntKind.i64.wrap (i+1)=i+1:=IntWalk.i64_in _ (by omega)
  by_cases hi:i < (l.length:Int)
  · rw [decide_eq_true hi,cond_true]
    refine ⟨q0,hi,fun c hc=>⟨by decide,?_⟩⟩
    rw [wi]
    refine ⟨⟨by omega,by omega,?_⟩,by omega⟩
    have hbt:byt (l.take i.toNat):=fun y hy=>hb y (List.mem_of_mem_take hy)
    have hbd:=getI_bd _ hbt
    have hlen:(l.take i.toNat).length≤7:=by rw [List.length_take];omega
    have hp:(256:Int) ^ (l.take i.toNat).length≤256 ^ 7:=(by decide:∀ n:Fin 8,(256:Int) ^ n.val≤256 ^ 7) ⟨(l.take i.toNat).length,by omega⟩
    have hc':=hb c (List.mem_of_getElem? hc)
    rw [← hn] at hbd
    rw [or_of hbd.1 (Int.lt_of_lt_of_le hbd.2 hp) hc'.1 hc'.2,show (i+1).toNat=i.toNat+1 by omega,take_snoc hc,getI_snoc,hn]
  · rw [decide_eq_false hi,cond_false]
    obtain rfl:i=(l.length:Int):=by omega
    rw [hn]
    simp [getR,getE,h1,h2]
theorem vc_block:VC Tryz.prog Tryz.f136 (bodyOf Tryz.f136) S_block [(147,S_sum)] (fun _ _=>none)=(∀ (x:List Int×Unit),List.length x.fst≤(1000000000:Nat)→
  List.length x.fst≤(9223372036854775807:Nat)→
  List.length x.fst≤(9223372036854775807:Nat)→
  bif decide ((64:Int) < (↑(List.length x.fst):Int)) then List.length x.fst≤(1000000000:Nat)∧(64:Nat)≤nat_lit 64∧(0:Int)≤(0:Int)∧(0:Int)≤Int.ofNat (64:Nat)∧Int.ofNat (64:Nat)≤Int.ofNat (64:Nat)∧(0:Int) < Int.ofNat (64:Nat)∧nat_lit 64≤nat_lit 64∧List.length ([]++List.take (min (nat_lit 64) (List.length (sumF x.fst))) (sumF x.fst)++List.drop (nat_lit 0+min (nat_lit 64) (List.length (sumF x.fst))) [(0:Int),(0:Int),(0:Int),(0:Int),(0:Int),(0:Int),(0:Int),(0:Int),(0:Int),(0:Int),(0:Int),(0:Int),(0:Int),(0:Int),(0:Int),(0:Int),(0:Int),(0:Int),(0:Int),(0:Int),(0:Int),(0:Int),(0:Int),(0:Int),(0:Int),(0:Int),(0:Int),(0:Int),(0:Int),(0:Int),(0:Int),(0:Int),(0:Int),(0:Int),(0:Int),(0:Int),(0:Int),(0:Int),(0:Int),(0:Int),(0:Int),(0:Int),(0:Int),(0:Int),(0:Int),(0:Int),(0:Int),(0:Int),(0:Int),(0:Int),(0:Int),(0:Int),(0:Int),(0:Int),(0:Int),(0:Int),(0:Int),(0:Int),(0:Int),(0:Int),(0:Int),(0:Int),(0:Int),(0:Int)])=nat_lit 64∧nat_lit 64=nat_lit 64∧List.length ([]++List.take (min (nat_lit 64) (List.length (sumF x.fst))) (sumF x.fst)++List.drop (nat_lit 0+min (nat_lit 64) (List.length (sumF x.fst))) [(0:Int),(0:Int),(0:Int),(0:Int),(0:Int),(0:Int),(0:Int),(0:Int),(0:Int),(0:Int),(0:Int),(0:Int),(0:Int),(0:Int),(0:Int),(0:Int),(0:Int),(0:Int),(0:Int),(0:Int),(0:Int),(0:Int),(0:Int),(0:Int),(0:Int),(0:Int),(0:Int),(0:Int),(0:Int),(0:Int),(0:Int),(0:Int),(0:Int),(0:Int),(0:Int),(0:Int),(0:Int),(0:Int),(0:Int),(0:Int),(0:Int),(0:Int),(0:Int),(0:Int),(0:Int),(0:Int),(0:Int),(0:Int),(0:Int),(0:Int),(0:Int),(0:Int),(0:Int),(0:Int),(0:Int),(0:Int),(0:Int),(0:Int),(0:Int),(0:Int),(0:Int),(0:Int),(0:Int),(0:Int)])=nat_lit 64∧List.length ([]++List.take (min (nat_lit 64) (List.length (sumF x.fst))) (sumF x.fst)++List.drop (nat_lit 0+min (nat_lit 64) (List.length (sumF x.fst))) [(0:Int),(0:Int),(0:Int),(0:Int),(0:Int),(0:Int),(0:Int),(0:Int),(0:Int),(0:Int),(0:Int),(0:Int),(0:Int),(0:Int),(0:Int),(0:Int),(0:Int),(0:Int),(0:Int),(0:Int),(0:Int),(0:Int),(0:Int),(0:Int),(0:Int),(0:Int),(0:Int),(0:Int),(0:Int),(0:Int),(0:Int),(0:Int),(0:Int),(0:Int),(0:Int),(0:Int),(0:Int),(0:Int),(0:Int),(0:Int),(0:Int),(0:Int),(0:Int),(0:Int),(0:Int),(0:Int),(0:Int),(0:Int),(0:Int),(0:Int),(0:Int),(0:Int),(0:Int),(0:Int),(0:Int),(0:Int),(0:Int),(0:Int),(0:Int),(0:Int),(0:Int),(0:Int),(0:Int),(0:Int)])=nat_lit 64∧([]++List.take (min (nat_lit 64) (List.length (sumF x.fst))) (sumF x.fst)++List.drop (nat_lit 0+min (nat_lit 64) (List.length (sumF x.fst))) [(0:Int),(0:Int),(0:Int),(0:Int),(0:Int),(0:Int),(0:Int),(0:Int),(0:Int),(0:Int),(0:Int),(0:Int),(0:Int),(0:Int),(0:Int),(0:Int),(0:Int),(0:Int),(0:Int),(0:Int),(0:Int),(0:Int),(0:Int),(0:Int),(0:Int),(0:Int),(0:Int),(0:Int),(0:Int),(0:Int),(0:Int),(0:Int),(0:Int),(0:Int),(0:Int),(0:Int),(0:Int),(0:Int),(0:Int),(0:Int),(0:Int),(0:Int),(0:Int),(0:Int),(0:Int),(0:Int),(0:Int),(0:Int),(0:Int),(0:Int),(0:Int),(0:Int),(0:Int),(0:Int),(0:Int),(0:Int),(0:Int),(0:Int),(0:Int),(0:Int),(0:Int),(0:Int),(0:Int),(0:Int)],())=(blockF x.fst,()) else (64:Nat)≤nat_lit 64∧(0:Int)≤(0:Int)∧(0:Int)≤Int.ofNat (64:Nat)∧Int.ofNat (64:Nat)≤Int.ofNat (64:Nat)∧(0:Int) < Int.ofNat (64:Nat)∧nat_lit 64≤nat_lit 64∧List.length ([]++List.take (min (nat_lit 64) (List.length x.fst)) x.fst++List.drop (nat_lit 0+min (nat_lit 64) (List.length x.fst)) [(0:Int),(0:Int),(0:Int),(0:Int),(0:Int),(0:Int),(0:Int),(0:Int),(0:Int),(0:Int),(0:Int),(0:Int),(0:Int),(0:Int),(0:Int),(0:Int),(0:Int),(0:Int),(0:Int),(0:Int),(0:Int),(0:Int),(0:Int),(0:Int),(0:Int),(0:Int),(0:Int),(0:Int),(0:Int),(0:Int),(0:Int),(0:Int),(0:Int),(0:Int),(0:Int),(0:Int),(0:Int),(0:Int),(0:Int),(0:Int),(0:Int),(0:Int),(0:Int),(0:Int),(0:Int),(0:Int),(0:Int),(0:Int),(0:Int),(0:Int),(0:Int),(0:Int),(0:Int),(0:Int),(0:Int),(0:Int),(0:Int),(0:Int),(0:Int),(0:Int),(0:Int),(0:Int),(0:Int),(0:Int)])=nat_lit 64∧nat_lit 64=nat_lit 64∧List.length ([]++List.take (min (nat_lit 64) (List.length x.fst)) x.fst++List.drop (nat_lit 0+min (nat_lit 64) (List.length x.fst)) [(0:Int),(0:Int),(0:Int),(0:Int),(0:Int),(0:Int),(0:Int),(0:Int),(0:Int),(0:Int),(0:Int),(0:Int),(0:Int),(0:Int),(0:Int),(0:Int),(0:Int),(0:Int),(0:Int),(0:Int),(0:Int),(0:Int),(0:Int),(0:Int),(0:Int),(0:Int),(0:Int),(0:Int),(0:Int),(0:Int),(0:Int),(0:Int),(0:Int),(0:Int),(0:Int),(0:Int),(0:Int),(0:Int),(0:Int),(0:Int),(0:Int),(0:Int),(0:Int),(0:Int),(0:Int),(0:Int),(0:Int),(0:Int),(0:Int),(0:Int),(0:Int),(0:Int),(0:Int),(0:Int),(0:Int),(0:Int),(0:Int),(0:Int),(0:Int),(0:Int),(0:Int),(0:Int),(0:Int),(0:Int)])=nat_lit 64∧List.length ([]++List.take (min (nat_lit 64) (List.length x.fst)) x.fst++List.drop (nat_lit 0+min (nat_lit 64) (List.length x.fst)) [(0:Int),(0:Int),(0:Int),(0:Int),(0:Int),(0:Int),(0:Int),(0:Int),(0:Int),(0:Int),(0:Int),(0:Int),(0:Int),(0:Int),(0:Int),(0:Int),(0:Int),(0:Int),(0:Int),(0:Int),(0:Int),(0:Int),(0:Int),(0:Int),(0:Int),(0:Int),(0:Int),(0:Int),(0:Int),(0:Int),(0:Int),(0:Int),(0:Int),(0:Int),(0:Int),(0:Int),(0:Int),(0:Int),(0:Int),(0:Int),(0:Int),(0:Int),(0:Int),(0:Int),(0:Int),(0:Int),(0:Int),(0:Int),(0:Int),(0:Int),(0:Int),(0:Int),(0:Int),(0:Int),(0:Int),(0:Int),(0:Int),(0:Int),(0:Int),(0:Int),(0:Int),(0:Int),(0:Int),(0:Int)])=nat_lit 64∧([]++List.take (min (nat_lit 64) (List.length x.fst)) x.fst++List.drop (nat_lit 0+min (nat_lit 64) (List.length x.fst)) [(0:Int),(0:Int),(0:Int),(0:Int),(0:Int),(0:Int),(0:Int),(0:Int),(0:Int),(0:Int),(0:Int),(0:Int),(0:Int),(0:Int),(0:Int),(0:Int),(0:Int),(0:Int),(0:Int),(0:Int),(0:Int),(0:Int),(0:Int),(0:Int),(0:Int),(0:Int),(0:Int),(0:Int),(0:Int),(0:Int),(0:Int),(0:Int),(0:Int),(0:Int),(0:Int),(0:Int),(0:Int),(0:Int),(0:Int),(0:Int),(0:Int),(0:Int),(0:Int),(0:Int),(0:Int),(0:Int),(0:Int),(0:Int),(0:Int),(0:Int),(0:Int),(0:Int),(0:Int),(0:Int),(0:Int),(0:Int),(0:Int),(0:Int),(0:Int),(0:Int),(0:Int),(0:Int),(0:Int),(0:Int)],())=(blockF x.fst,())):=by kernel_rfl
theorem en_block (us:Array Value) (u:World):(callFunc 136 us).run Tryz.prog u=.ok (.enter 136 us) u:=by kernel_rfl
theorem sc_block:SC Tryz.prog 136 S_block:=by
  refine SC.of Tryz.func136 (c:=bodyOf Tryz.f136) (by kernel_rfl) (by kernel_rfl) (fun x=>(by decide:(1:Nat)≤Tryz.f136.ntmps)) (DOk.cons sc_sum en_sum DOk.nil) (Eq.mpr vc_block ?_)
  rintro ⟨l,⟨⟩⟩ hl - -
  dsimp only at hl ⊢
  have hz:([(0:Int),(0:Int),(0:Int),(0:Int),(0:Int),(0:Int),(0:Int),(0:Int),(0:Int),(0:Int),(0:Int),(0:Int),(0:Int),(0:Int),(0:Int),(0:Int),(0:Int),(0:Int),(0:Int),(0:Int),(0:Int),(0:Int),(0:Int),(0:Int),(0:Int),(0:Int),(0:Int),(0:Int),(0:Int),(0:Int),(0:Int),(0:Int),(0:Int),(0:Int),(0:Int),(0:Int),(0:Int),(0:Int),(0:Int),(0:Int),(0:Int),(0:Int),(0:Int),(0:Int),(0:Int),(0:Int),(0:Int),(0:Int),(0:Int),(0:Int),(0:Int),(0:Int),(0:Int),(0:Int),(0:Int),(0:Int),(0:Int),(0:Int),(0:Int),(0:Int),(0:Int),(0:Int),(0:Int),(0:Int)]:List Int)=List.replicate 64 0:=rfl
  by_cases h:64 < l.length
  · rw [decide_eq_true (by omega:(64:Int) < (l.length:Int)),cond_true,hz,copL (K:=sumF l) (by rw [sumF_len];decide)]
    have e:sumF l++List.replicate (64 - (sumF l).length) 0=blockF l:=by unfold blockF;rw [if_pos h]
    have hb:=blockF_len l
    rw [e]
    exact ⟨hl,by decide,by decide,by decide,by decide,by decide,by decide,hb,rfl,hb,hb,rfl⟩
  · rw [decide_eq_false (by omega),cond_false,hz,copL (K:=l) (by omega)]
    have e:l++List.replicate (64 - l.length) 0=blockF l:=by unfold blockF;rw [if_neg h]
    have hb:=blockF_len l
    rw [e]
    exact ⟨by decide,by decide,by decide,by decide,by decide,by decide,hb,rfl,hb,hb,rfl⟩
theorem vc_mask:VC Tryz.prog Tryz.f138 (bodyOf Tryz.f138) S_mask [] A_mask=(∀ (x:List Int×Int×Unit),List.length x.fst=(64:Nat)→
  List.length x.fst≤(9223372036854775807:Nat)∧(0:Int)≤(64:Int)∧(64:Int)≤(64:Int)∧Int.ofNat (nat_lit 64)≤(281474976710656:Int)∧(64:Int)≤(140737488351232:Int)∧((0:Int)≤(0:Int)∧(0:Int)≤(64:Int)∧[(0:Int),(0:Int),(0:Int),(0:Int),(0:Int),(0:Int),(0:Int),(0:Int),(0:Int),(0:Int),(0:Int),(0:Int),(0:Int),(0:Int),(0:Int),(0:Int),(0:Int),(0:Int),(0:Int),(0:Int),(0:Int),(0:Int),(0:Int),(0:Int),(0:Int),(0:Int),(0:Int),(0:Int),(0:Int),(0:Int),(0:Int),(0:Int),(0:Int),(0:Int),(0:Int),(0:Int),(0:Int),(0:Int),(0:Int),(0:Int),(0:Int),(0:Int),(0:Int),(0:Int),(0:Int),(0:Int),(0:Int),(0:Int),(0:Int),(0:Int),(0:Int),(0:Int),(0:Int),(0:Int),(0:Int),(0:Int),(0:Int),(0:Int),(0:Int),(0:Int),(0:Int),(0:Int),(0:Int),(0:Int)]=maskF (List.take (Int.toNat (0:Int)) x.fst) x.2.fst++List.replicate ((64:Nat) - Int.toNat (0:Int)) (0:Int))∧∀ (v:Int×List Int×Unit),(0:Int)≤v.fst∧v.fst≤(64:Int)∧v.2.fst=maskF (List.take (Int.toNat v.fst) x.fst) x.2.fst++List.replicate ((64:Nat) - Int.toNat v.fst) (0:Int)→
  bif decide (v.fst < Int.ofNat (nat_lit 64)) then (0:Int)≤v.fst∧v.fst < Int.ofNat (64:Nat)∧Int.toNat v.fst < List.length x.fst∧∀ (x_1:Int),x.fst[Int.toNat v.fst]?=some x_1→
  (0:Int)≤v.fst∧v.fst < (↑(List.length v.2.fst):Int)∧Int.toNat v.fst < List.length v.2.fst∧∀ (x0:Int),v.2.fst[Int.toNat v.fst]?=some x0→
  ((0:Int)≤IntKind.wrap IntKind.i64 (v.fst+(1:Int))∧IntKind.wrap IntKind.i64 (v.fst+(1:Int))≤(64:Int)∧List.set v.2.fst (Int.toNat v.fst) (xorI IntKind.u8 x_1 x.2.fst)=maskF (List.take (Int.toNat (IntKind.wrap IntKind.i64 (v.fst+(1:Int)))) x.fst) x.2.fst++List.replicate ((64:Nat) - Int.toNat (IntKind.wrap IntKind.i64 (v.fst+(1:Int)))) (0:Int))∧Int.toNat ((64:Int) - IntKind.wrap IntKind.i64 (v.fst+(1:Int))) < Int.toNat ((64:Int) - v.fst) else v.2=(maskF x.fst x.2.fst,())):=by kernel_rfl
theorem en_mask (us:Array Value) (u:World):(callFunc 138 us).run Tryz.prog u=.ok (.enter 138 us) u:=by kernel_rfl
theorem sc_mask:SC Tryz.prog 138 S_mask:=by
  refine SC.of Tryz.func138 (c:=bodyOf Tryz.f138) (by kernel_rfl) (by kernel_rfl) (fun x=>(by decide:(2:Nat)≤Tryz.f138.ntmps)) DOk.nil (Eq.mpr vc_mask ?_)
  rintro ⟨k,x,⟨⟩⟩ hk
  dsimp only at hk ⊢
  refine ⟨by omega,by decide,by decide,by decide,by decide,⟨by decide,by decide,rfl⟩,?_⟩
  rintro ⟨i,r,⟨⟩⟩ ⟨q0,q1,hr⟩
  dsimp only at q0 q1 hr ⊢
  have wi:IntKind.i64.wrap (i+1)=i+1:=IntWalk.i64_in _ (by omega)
  have tl:(maskF (k.take i.toNat) x).length=i.toNat:=by rw [maskF_len,List.length_take];omega
  have rl:r.length=64:=by rw [hr,List.length_append,tl,List.length_replicate];omega
  by_cases hi:i < 64
  · rw [decide_eq_true (show i < Int.ofNat 64 from hi),cond_true,rl,hk,wi]
    refine ⟨q0,hi,by omega,fun a ha=>⟨q0,by omega,by omega,fun x0 _=>⟨⟨by omega,by omega,?_⟩,by omega⟩⟩⟩
    rw [hr,show (i+1).toNat=i.toNat+1 by omega,take_snoc ha,show 64 - i.toNat=(64 - (i.toNat+1))+1 by omega]
    have:=set_rep (maskF (k.take i.toNat) x) (64 - (i.toNat+1)) (xorI .u8 a x)
    rw [tl] at this
    rw [this]
    simp [maskF]
  · rw [decide_eq_false (show ¬ i < Int.ofNat 64 from hi),cond_false]
    obtain rfl:i=64:=by omega
    rw [hr,show (64:Int).toNat=64 from rfl,List.take_of_length_le (by omega)]
    simp
theorem vc_hash:VC Tryz.prog Tryz.f137 (bodyOf Tryz.f137) S_hash [(147,S_sum),(124,S_cat)] (fun _ _=>none)=(∀ (x:List (List Int)×Unit),List.length (List.flatten x.fst)≤(1000000000:Nat)→
  List.length x.fst≤(9223372036854775807:Nat)→
  List.length (List.flatten x.fst)≤(1099511627776:Nat)∧List.length (List.flatten x.fst)≤(1000000000:Nat)∧(sumF (List.flatten x.fst),())=(hashF x.fst,())):=by kernel_rfl
theorem en_hash (us:Array Value) (u:World):(callFunc 137 us).run Tryz.prog u=.ok (.enter 137 us) u:=by kernel_rfl
theorem sc_hash:SC Tryz.prog 137 S_hash:=by
  refine SC.of Tryz.func137 (c:=bodyOf Tryz.f137) (by kernel_rfl) (by kernel_rfl) (fun x=>(by decide:(1:Nat)≤Tryz.f137.ntmps)) (DOk.cons sc_sum en_sum (DOk.cons sc_cat en_cat DOk.nil)) (Eq.mpr vc_hash ?_)
  rintro ⟨pp,⟨⟩⟩ h -
  dsimp only at h ⊢
  exact ⟨by omega,h,rfl⟩
theorem vc_tagV:VC Tryz.prog Tryz.f116 (bodyOf Tryz.f116) S_tagV [(136,S_block),(138,S_mask),(137,S_hash)] (fun _ _=>none)=(∀ (x:List Int×List Int×Unit),List.length x.fst≤(1000000000:Nat)∧List.length x.2.fst≤(100000000:Nat)→
  List.length x.fst≤(9223372036854775807:Nat)→
  List.length x.2.fst≤(9223372036854775807:Nat)→
  List.length x.fst≤(1000000000:Nat)∧nat_lit 64=nat_lit 64∧List.length (blockF x.fst)=nat_lit 64∧List.length (blockF x.fst)=nat_lit 64∧List.length (blockF x.fst)=(64:Nat)∧List.length (blockF x.fst)=nat_lit 64∧List.length (blockF x.fst)=(64:Nat)∧List.length (List.flatten [maskF (blockF x.fst) (54:Int),x.2.fst])≤(1000000000:Nat)∧List.length (List.flatten [maskF (blockF x.fst) (92:Int),hashF [maskF (blockF x.fst) (54:Int),x.2.fst]])≤(1000000000:Nat)∧(hashF [maskF (blockF x.fst) (92:Int),hashF [maskF (blockF x.fst) (54:Int),x.2.fst]],())=(tagF x.fst x.2.fst,())):=by kernel_rfl
theorem sc_tagV:SC Tryz.prog 116 S_tagV:=by
  refine SC.of Tryz.func116 (c:=bodyOf Tryz.f116) (by kernel_rfl) (by kernel_rfl) (fun x=>(by decide:(2:Nat)≤Tryz.f116.ntmps)) (DOk.cons sc_block en_block (DOk.cons sc_mask en_mask (DOk.cons sc_hash en_hash DOk.nil))) (Eq.mpr vc_tagV ?_)
  rintro ⟨k,b,⟨⟩⟩ ⟨h1,h2⟩ - -
  dsimp only at h1 h2 ⊢
  have hb:=blockF_len k
  have m1:(maskF (blockF k) 54).length=64:=by rw [maskF_len,hb]
  have m2:(maskF (blockF k) 92).length=64:=by rw [maskF_len,hb]
  have hs:(hashF [maskF (blockF k) 54,b]).length=32:=sumF_len _
  refine ⟨h1,rfl,hb,hb,hb,hb,hb,?_,?_,?_⟩
  · simp only [List.flatten_cons,List.flatten_nil,List.append_nil,List.length_append,m1];omega
  · simp only [List.flatten_cons,List.flatten_nil,List.append_nil,List.length_append,m2,hs];omega
  · simp only [hashF,tagF,List.flatten_cons,List.flatten_nil,List.append_nil]
theorem vc_mchk:VC Tryz.prog Tryz.f80 (bodyOf Tryz.f80) S_mchk [(116,S_tag),(66,S_eq)] (fun _ _=>none)=(∀ (x:List Int×List Int×List Int×Unit),(List.length x.fst≤(1000000000:Nat)∧List.length x.2.fst≤(100000000:Nat)∧∀ (x_1:Int),x_1∈x.2.snd.fst→
  (0:Int)≤x_1∧x_1 < (256:Int))→
  List.length x.fst≤(9223372036854775807:Nat)→
  List.length x.2.fst≤(9223372036854775807:Nat)→
  List.length x.2.snd.fst≤(9223372036854775807:Nat)→
  (List.length x.fst≤(1000000000:Nat)∧List.length x.2.fst≤(100000000:Nat))∧((∀ (x_1:Int),x_1∈x.2.snd.fst→
  (0:Int)≤x_1∧x_1 < (256:Int))∧∀ (x_1:Int),x_1∈tagF x.fst x.2.fst→
  (0:Int)≤x_1∧x_1 < (256:Int))∧bif !x.2.snd.fst==tagF x.fst x.2.fst then ((4:Int),())=(if x.2.snd.fst=tagF x.fst x.2.fst then (0:Int) else (4:Int),()) else ((0:Int),())=(if x.2.snd.fst=tagF x.fst x.2.fst then (0:Int) else (4:Int),())):=by kernel_rfl
theorem sc_tag:SC Tryz.prog 116 S_tag:=
  SC.own .u8 5 (by decide) rfl (fun _=>rfl) (fun x=>tagF x.1 x.2.1) (fun _=>rfl) (fun _=>rfl) fun x hx w U E vs hT hl hv=>by
    obtain ⟨k,b,⟨⟩⟩:=x
    refine SC.useOwn sc_tagV .u8 5 (tagF k b) rfl rfl (k,b,()) hx rfl hT rfl rfl (U:=fun _=>True) (vs:=vs) hl (fun i y v hy hv'=>?_)
    match i with
    | 0 =>
      cases hy
      exact VA.mine (hv 0 (.view true tY k) v rfl hv')
    | 1 =>
      cases hy
      exact VA.mine (hv 1 (.view true tY b) v rfl hv')
    | i+2=>cases hy
theorem en_tag (us:Array Value) (u:World):(callFunc 116 us).run Tryz.prog u=.ok (.enter 116 us) u:=by kernel_rfl
theorem en_mchk (us:Array Value) (u:World):(callFunc 80 us).run Tryz.prog u=.ok (.enter 80 us) u:=by kernel_rfl
theorem sc_mchk:SC Tryz.prog 80 S_mchk:=by
  refine SC.of Tryz.func80 (c:=bodyOf Tryz.f80) (by kernel_rfl) (by kernel_rfl) (fun x=>(by decide:(3:Nat)≤Tryz.f80.ntmps)) (DOk.cons sc_tag en_tag (DOk.cons sc_eq en_eq DOk.nil)) (Eq.mpr vc_mchk ?_)
  rintro ⟨k,b,g,⟨⟩⟩ ⟨h1,h2,h3⟩ - - -
  dsimp only at h1 h2 h3 ⊢
  refine ⟨⟨h1,h2⟩,⟨h3,tagF_byt k b⟩,?_⟩
  by_cases h:g=tagF k b
  · rw [if_pos h,show (!(g==tagF k b))=false by rw [beq_iff_eq.2 h];rfl,cond_false]
  · rw [if_neg h,show (!(g==tagF k b))=true by rw [beq_eq_false_iff_ne.2 h];rfl,cond_true]
theorem vc_kwit:VC Tryz.prog Tryz.f43 (bodyOf Tryz.f43) S_kwit [] (fun _ _=>none)=(∀ (x:Int×Int×Int×Unit),True→
  bif decide (x.2.fst≤x.fst) then (decide (x.fst≤x.2.snd.fst),())=(wit x.fst x.2.fst x.2.snd.fst,()) else (false,())=(wit x.fst x.2.fst x.2.snd.fst,())):=by kernel_rfl
theorem en_kwit (us:Array Value) (u:World):(callFunc 43 us).run Tryz.prog u=.ok (.enter 43 us) u:=by kernel_rfl
theorem sc_kwit:SC Tryz.prog 43 S_kwit:=by
  refine SC.of Tryz.func43 (c:=bodyOf Tryz.f43) (by kernel_rfl) (by kernel_rfl) (fun x=>(by decide:(3:Nat)≤Tryz.f43.ntmps)) DOk.nil (Eq.mpr vc_kwit ?_)
  rintro ⟨a,b,c,⟨⟩⟩ -
  dsimp only [wit]
  cases decide (b≤a) <;> rfl
theorem vc_kchk:VC Tryz.prog Tryz.f47 (bodyOf Tryz.f47) S_kchk [(43,S_kwit)] (fun _ _=>none)=(∀ (x:(List Int×Int×Int×Int×Int×Int×Int×Int×Int×Int×Int×Unit)×Unit),True→
  List.length x.1.fst≤(9223372036854775807:Nat)→
  List.length x.1.fst≤(9223372036854775807:Nat)→
  bif decide ((64:Int) < (↑(List.length x.1.fst):Int)) then ((1:Int),())=(kchkF x.1,()) else True∧bif !wit x.1.snd.fst (1:Int) (8:Int) then ((1:Int),())=(kchkF x.1,()) else True∧bif !wit x.1.snd.snd.fst (0:Int) (8:Int) then ((1:Int),())=(kchkF x.1,()) else True∧bif !wit x.1.snd.snd.snd.fst (1:Int) (8:Int) then ((1:Int),())=(kchkF x.1,()) else True∧bif !wit x.1.snd.snd.snd.snd.fst (1:Int) (64:Int) then ((1:Int),())=(kchkF x.1,()) else True∧bif !wit x.1.snd.snd.snd.snd.snd.fst (1:Int) (10000:Int) then ((1:Int),())=(kchkF x.1,()) else bif decide (x.1.snd.snd.snd.snd.snd.snd.fst≤x.1.snd.snd.snd.snd.snd.fst) then ((1:Int),())=(kchkF x.1,()) else bif decide ((10000:Int) < x.1.snd.snd.snd.snd.snd.snd.fst) then ((1:Int),())=(kchkF x.1,()) else True∧bif !wit x.1.snd.snd.snd.snd.snd.snd.snd.fst (1:Int) (10000:Int) then ((1:Int),())=(kchkF x.1,()) else True∧bif !wit x.1.snd.snd.snd.snd.snd.snd.snd.snd.fst (1:Int) (64:Int) then ((1:Int),())=(kchkF x.1,()) else bif decide (x.1.snd.snd.snd.snd.snd.snd.snd.snd.snd.fst < (1:Int)) then ((1:Int),())=(kchkF x.1,()) else bif decide (x.1.snd.snd.snd.snd.snd.snd.snd.snd.snd.snd.fst < (1:Int)) then ((1:Int),())=(kchkF x.1,()) else ((0:Int),())=(kchkF x.1,())):=by kernel_rfl
theorem en_kchk (us:Array Value) (u:World):(callFunc 47 us).run Tryz.prog u=.ok (.enter 47 us) u:=by kernel_rfl
theorem sc_kchk:SC Tryz.prog 47 S_kchk:=by
  refine SC.of Tryz.func47 (c:=bodyOf Tryz.f47) (by kernel_rfl) (by kernel_rfl) (fun x=>(by decide:(1:Nat)≤Tryz.f47.ntmps)) (DOk.cons sc_kwit en_kwit DOk.nil) (Eq.mpr vc_kchk ?_)
  rintro ⟨⟨a,b,c,d,e,f,g,h,i,j,k,⟨⟩⟩,⟨⟩⟩ - - -
  dsimp only [kchkF,okC]
  have nl:∀ a b:Int,decide (a < b) = !decide (b≤a):=fun a b=>by rw [Bool.eq_iff_iff];simp
  have e1:decide (a.length≤64)=decide ((a.length:Int)≤(64:Int)):=by rw [Bool.eq_iff_iff];simp;omega
  simp only [e1,nl,true_and]
  cases decide ((a.length:Int)≤(64:Int)) <;> (try simp only [Bool.not_true,Bool.not_false,Bool.true_and,Bool.false_and,Bool.and_false,cond_true,cond_false,true_and]) <;> (try rfl)
  cases wit b 1 8 <;> (try simp only [Bool.not_true,Bool.not_false,Bool.true_and,Bool.false_and,Bool.and_false,cond_true,cond_false,true_and]) <;> (try rfl)
  cases wit c 0 8 <;> (try simp only [Bool.not_true,Bool.not_false,Bool.true_and,Bool.false_and,Bool.and_false,cond_true,cond_false,true_and]) <;> (try rfl)
  cases wit d 1 8 <;> (try simp only [Bool.not_true,Bool.not_false,Bool.true_and,Bool.false_and,Bool.and_false,cond_true,cond_false,true_and]) <;> (try rfl)
  cases wit e 1 64 <;> (try simp only [Bool.not_true,Bool.not_false,Bool.true_and,Bool.false_and,Bool.and_false,cond_true,cond_false,true_and]) <;> (try rfl)
  cases wit f 1 10000 <;> (try simp only [Bool.not_true,Bool.not_false,Bool.true_and,Bool.false_and,Bool.and_false,cond_true,cond_false,true_and]) <;> (try rfl)
  cases decide (g≤f) <;> (try simp only [Bool.not_true,Bool.not_false,Bool.true_and,Bool.false_and,Bool.and_false,cond_true,cond_false,true_and]) <;> (try rfl)
  cases decide (g≤10000) <;> (try simp only [Bool.not_true,Bool.not_false,Bool.true_and,Bool.false_and,Bool.and_false,cond_true,cond_false,true_and]) <;> (try rfl)
  cases wit h 1 10000 <;> (try simp only [Bool.not_true,Bool.not_false,Bool.true_and,Bool.false_and,Bool.and_false,cond_true,cond_false,true_and]) <;> (try rfl)
  cases wit i 1 64 <;> (try simp only [Bool.not_true,Bool.not_false,Bool.true_and,Bool.false_and,Bool.and_false,cond_true,cond_false,true_and]) <;> (try rfl)
  cases decide (1≤j) <;> (try simp only [Bool.not_true,Bool.not_false,Bool.true_and,Bool.false_and,Bool.and_false,cond_true,cond_false,true_and]) <;> (try rfl)
  cases decide (1≤k) <;> rfl
theorem vc_serv:VC Tryz.prog Tryz.f42 (bodyOf Tryz.f42) S_serv [] (fun _ _=>none)=(∀ (x:(List Int×Int×Int×Int×Int×Int×Int×Int×Int×Int×Int×Unit)×Unit),True→
  List.length x.1.fst≤(9223372036854775807:Nat)→
  (IntKind.wrap IntKind.i64 (x.1.snd.fst+x.1.snd.snd.fst),())=(serversF x.1,())):=by kernel_rfl
theorem en_serv (us:Array Value) (u:World):(callFunc 42 us).run Tryz.prog u=.ok (.enter 42 us) u:=by kernel_rfl
theorem sc_serv:SC Tryz.prog 42 S_serv:=by
  refine SC.of Tryz.func42 (c:=bodyOf Tryz.f42) (by kernel_rfl) (by kernel_rfl) (fun x=>(by decide:(1:Nat)≤Tryz.f42.ntmps)) DOk.nil (Eq.mpr vc_serv ?_)
  rintro ⟨c,⟨⟩⟩ - -
  rfl
theorem vc_nodes:VC Tryz.prog Tryz.f77 (bodyOf Tryz.f77) S_nodes [(42,S_serv)] (fun _ _=>none)=(∀ (x:(List Int×Int×Int×Int×Int×Int×Int×Int×Int×Int×Int×Unit)×Unit),True→
  List.length x.1.fst≤(9223372036854775807:Nat)→
  True∧(IntKind.wrap IntKind.i64 (IntKind.wrap IntKind.i64 ((1:Int)+serversF x.1)+x.1.snd.snd.snd.fst),())=(nodesF x.1,())):=by kernel_rfl
theorem en_nodes (us:Array Value) (u:World):(callFunc 77 us).run Tryz.prog u=.ok (.enter 77 us) u:=by kernel_rfl
theorem sc_nodes:SC Tryz.prog 77 S_nodes:=by
  refine SC.of Tryz.func77 (c:=bodyOf Tryz.f77) (by kernel_rfl) (by kernel_rfl) (fun x=>(by decide:(1:Nat)≤Tryz.f77.ntmps)) (DOk.cons sc_serv en_serv DOk.nil) (Eq.mpr vc_nodes ?_)
  rintro ⟨c,⟨⟩⟩ - -
  exact ⟨trivial,rfl⟩
theorem vc_made:VC Tryz.prog Tryz.f82 (bodyOf Tryz.f82) S_made [(116,S_tag)] A_made=(∀ (x:(List Int×Int×Int×Int×Int×Int×Int×Int×Int×Int×Int×Unit)×Int×List Int×Unit),List.length x.1.fst≤(1000000000:Nat)∧List.length x.2.snd.fst≤(1000:Nat)→
  List.length x.1.fst≤(9223372036854775807:Nat)→
  List.length x.2.snd.fst≤(9223372036854775807:Nat)→
  List.length x.2.snd.fst≤(9223372036854775807:Nat)→
  ((0:Int)≤(0:Int)∧(0:Int)≤(↑(List.length x.2.snd.fst):Int)∧[x.2.fst]=x.2.fst::List.map w8 (List.take (Int.toNat (0:Int)) x.2.snd.fst))∧∀ (v:Int×List Int×Unit),(0:Int)≤v.fst∧v.fst≤(↑(List.length x.2.snd.fst):Int)∧v.2.fst=x.2.fst::List.map w8 (List.take (Int.toNat v.fst) x.2.snd.fst)→
  bif decide (v.fst < (↑(List.length x.2.snd.fst):Int)) then (0:Int)≤v.fst∧v.fst < (↑(List.length x.2.snd.fst):Int)∧∀ (c0:Int),x.2.snd.fst[Int.toNat v.fst]?=some c0→
  (List.length v.2.fst+List.length [IntKind.wrap IntKind.u8 c0])*nat_lit 1≤(140737488351232:Nat)∧((0:Int)≤IntKind.wrap IntKind.i64 (v.fst+(1:Int))∧IntKind.wrap IntKind.i64 (v.fst+(1:Int))≤(↑(List.length x.2.snd.fst):Int)∧v.2.fst++[IntKind.wrap IntKind.u8 c0]=x.2.fst::List.map w8 (List.take (Int.toNat (IntKind.wrap IntKind.i64 (v.fst+(1:Int)))) x.2.snd.fst))∧Int.toNat ((↑(List.length x.2.snd.fst):Int) - IntKind.wrap IntKind.i64 (v.fst+(1:Int))) < Int.toNat ((↑(List.length x.2.snd.fst):Int) - v.fst) else (List.length x.1.fst≤(1000000000:Nat)∧List.length v.2.fst≤(100000000:Nat))∧(tagF x.1.fst v.2.fst,())=(madeF x.1 x.2.fst x.2.snd.fst,())):=by kernel_rfl
theorem en_made (us:Array Value) (u:World):(callFunc 82 us).run Tryz.prog u=.ok (.enter 82 us) u:=by kernel_rfl
theorem sc_made:SC Tryz.prog 82 S_made:=by
  refine SC.of Tryz.func82 (c:=bodyOf Tryz.f82) (by kernel_rfl) (by kernel_rfl) (fun x=>(by decide:(3:Nat)≤Tryz.f82.ntmps)) (DOk.cons sc_tag en_tag DOk.nil) (Eq.mpr vc_made ?_)
  rintro ⟨c,a,ns,⟨⟩⟩ ⟨h1,h2⟩ - - -
  dsimp only at h1 h2 ⊢
  refine ⟨⟨Int.le_refl 0,by omega,rfl⟩,?_⟩
  rintro ⟨i,r,⟨⟩⟩ ⟨q0,q1,hr⟩
  dsimp only at q0 q1 hr ⊢
  have wi:IntKind.i64.wrap (i+1)=i+1:=IntWalk.i64_in _ (by omega)
  have rl:r.length=1+i.toNat:=by rw [hr,List.length_cons,List.length_map,List.length_take];omega
  by_cases hi:i < (ns.length:Int)
  · rw [decide_eq_true hi,cond_true,wi,rl]
    refine ⟨q0,hi,fun x hx=>⟨by simp only [List.length_cons,List.length_nil];omega,⟨by omega,by omega,?_⟩,by omega⟩⟩
    rw [hr,show (i+1).toNat=i.toNat+1 by omega,take_snoc hx]
    simp [w8]
  · rw [decide_eq_false hi,cond_false]
    obtain rfl:i=(ns.length:Int):=by omega
    refine ⟨⟨h1,by omega⟩,?_⟩
    rw [hr,show ((ns.length:Nat):Int).toNat=ns.length by omega,List.take_length]
    rfl
theorem vc_pair:VC Tryz.prog Tryz.f51 (bodyOf Tryz.f51) S_pair [(82,S_made)] (fun _ _=>none)=(∀ (x:(List Int×Int×Int×Int×Int×Int×Int×Int×Int×Int×Int×Unit)×Int×Int×Unit),List.length x.1.fst≤(1000000000:Nat)→
  List.length x.1.fst≤(9223372036854775807:Nat)→
  (List.length x.1.fst≤(1000000000:Nat)∧List.length [if x.2.snd.fst < x.2.fst then x.2.snd.fst else x.2.fst,if x.2.fst < x.2.snd.fst then x.2.snd.fst else x.2.fst]≤(1000:Nat))∧(madeF x.1 (1:Int) [if x.2.snd.fst < x.2.fst then x.2.snd.fst else x.2.fst,if x.2.fst < x.2.snd.fst then x.2.snd.fst else x.2.fst],())=(pairF x.1 x.2.fst x.2.snd.fst,())):=by kernel_rfl
theorem en_pair (us:Array Value) (u:World):(callFunc 51 us).run Tryz.prog u=.ok (.enter 51 us) u:=by kernel_rfl
theorem sc_pair:SC Tryz.prog 51 S_pair:=by
  refine SC.of Tryz.func51 (c:=bodyOf Tryz.f51) (by kernel_rfl) (by kernel_rfl) (fun x=>(by decide:(3:Nat)≤Tryz.f51.ntmps)) (DOk.cons sc_made en_made DOk.nil) (Eq.mpr vc_pair ?_)
  rintro ⟨c,a,b,⟨⟩⟩ h -
  exact ⟨⟨h,by simp⟩,rfl⟩
theorem vc_first:VC Tryz.prog Tryz.f26 (bodyOf Tryz.f26) S_first [(47,S_kchk)] A_first=(∀ (x:(List Int×Int×Int×Int×Int×Int×Int×Int×Int×Int×Int×Unit)×Unit),True→
  List.length x.1.fst≤(9223372036854775807:Nat)→
  True∧bif kchkF x.1 != (0:Int) then (((0:Int),(0:Int),[],()),())=(firstF x.1,()) else ((0:Int)≤(0:Int)∧(0:Int)≤x.1.snd.fst∧((1:Int),x.1.snd.snd.snd.snd.snd.snd.snd.snd.snd.fst,[],())=((1:Int),x.1.snd.snd.snd.snd.snd.snd.snd.snd.snd.fst,List.map up1 [],()))∧∀ (v:Int×(Int×Int×List Int×Unit)×Unit),(0:Int)≤v.fst∧v.fst≤x.1.snd.fst∧v.2.fst=((1:Int),x.1.snd.snd.snd.snd.snd.snd.snd.snd.snd.fst,List.map up1 (List.range (Int.toNat v.fst)),())→
  bif decide (v.fst < x.1.snd.fst) then (List.length v.2.fst.snd.snd.fst+List.length [IntKind.wrap IntKind.i64 (v.fst+(1:Int))])*nat_lit 8≤(140737488351232:Nat)∧((0:Int)≤IntKind.wrap IntKind.i64 (v.fst+(1:Int))∧IntKind.wrap IntKind.i64 (v.fst+(1:Int))≤x.1.snd.fst∧(v.2.fst.fst,v.2.fst.snd.fst,v.2.fst.snd.snd.fst++[IntKind.wrap IntKind.i64 (v.fst+(1:Int))],())=((1:Int),x.1.snd.snd.snd.snd.snd.snd.snd.snd.snd.fst,List.map up1 (List.range (Int.toNat (IntKind.wrap IntKind.i64 (v.fst+(1:Int))))),()))∧Int.toNat (x.1.snd.fst - IntKind.wrap IntKind.i64 (v.fst+(1:Int))) < Int.toNat (x.1.snd.fst - v.fst) else v.2=(firstF x.1,())):=by kernel_rfl
theorem sc_first:SC Tryz.prog 26 S_first:=by
  refine SC.of Tryz.func26 (c:=bodyOf Tryz.f26) (by kernel_rfl) (by kernel_rfl) (fun x=>(by decide:(1:Nat)≤Tryz.f26.ntmps)) (DOk.cons sc_kchk en_kchk DOk.nil) (Eq.mpr vc_first ?_)
  rintro ⟨⟨s,b,c,d,e,f,g,h,i,j,k,⟨⟩⟩,⟨⟩⟩ - -
  dsimp only
  refine ⟨trivial,?_⟩
  cases hk:okC (s,b,c,d,e,f,g,h,i,j,k,())
  · rw [show (kchkF (s,b,c,d,e,f,g,h,i,j,k,()) != 0)=true by rw [kchkF,hk];rfl,cond_true,firstF,hk]
    rfl
  rw [show (kchkF (s,b,c,d,e,f,g,h,i,j,k,()) != 0)=false by rw [kchkF,hk];rfl,cond_false]
  have hb:1≤b∧b≤8:=by
    simp only [okC,wit,Bool.and_eq_true,decide_eq_true_eq] at hk
    exact hk.2.1
  refine ⟨⟨Int.le_refl 0,by omega,rfl⟩,?_⟩
  rintro ⟨i,⟨r1,r2,r,⟨⟩⟩,⟨⟩⟩ ⟨q0,q1,hr⟩
  dsimp only at q0 q1 hr ⊢
  obtain ⟨rfl,rfl,rfl⟩:r1=1∧r2=j∧r=(List.range i.toNat).map up1:=by
    simp only [Prod.mk.injEq] at hr
    exact ⟨hr.1,hr.2.1,hr.2.2.1⟩
  have wi:IntKind.i64.wrap (i+1)=i+1:=IntWalk.i64_in _ (by omega)
  by_cases hi:i < b
  · rw [decide_eq_true hi,cond_true,wi]
    refine ⟨by simp only [List.length_map,List.length_range,List.length_cons,List.length_nil];omega,⟨by omega,by omega,?_⟩,by omega⟩
    rw [show (i+1).toNat=i.toNat+1 by omega,List.range_succ,List.map_append]
    simp only [List.map_cons,List.map_nil,up1]
    rw [show ((i.toNat:Nat):Int)=i by omega]
  · rw [decide_eq_false hi,cond_false]
    obtain rfl:i=b:=by omega
    rw [firstF,hk]
    rfl
theorem vc_isN:VC Tryz.prog Tryz.f49 (bodyOf Tryz.f49) S_isN [(77,S_nodes)] (fun _ _=>none)=(∀ (x:(List Int×Int×Int×Int×Int×Int×Int×Int×Int×Int×Int×Unit)×Int×Unit),True→
  List.length x.1.fst≤(9223372036854775807:Nat)→
  bif decide ((0:Int)≤x.2.fst) then True∧(decide (x.2.fst < nodesF x.1),())=(isNodeF x.1 x.2.fst,()) else (false,())=(isNodeF x.1 x.2.fst,())):=by kernel_rfl
theorem en_isN (us:Array Value) (u:World):(callFunc 49 us).run Tryz.prog u=.ok (.enter 49 us) u:=by kernel_rfl
theorem sc_isN:SC Tryz.prog 49 S_isN:=by
  refine SC.of Tryz.func49 (c:=bodyOf Tryz.f49) (by kernel_rfl) (by kernel_rfl) (fun x=>(by decide:(2:Nat)≤Tryz.f49.ntmps)) (DOk.cons sc_nodes en_nodes DOk.nil) (Eq.mpr vc_isN ?_)
  rintro ⟨c,n,⟨⟩⟩ - -
  dsimp only [isNodeF]
  cases decide (0≤n)
  · rfl
  · exact ⟨trivial,rfl⟩
end Go.Proofs.YtjkbkhjalimebaaGreatDoor
namespace Go.Proofs.YtjkbkhjalimebaaGreatDoor
open Go.RowKit DoorU
set_option linter.unusedVariables false
set_option linter.unusedSimpArgs false
set_option maxRecDepth 100000
set_option maxHeartbeats 1000000
namespace DoorU
def okG:List Int→List Int→Bool
  | _,[]=>true
  | p,n::r=>decide (1≤n)&&(decide (n≤16)&&(!p.contains n&&okG (p++[n]) r))
def okS (s:Sta):Bool:=decide (1≤s.2.2.1.length)&&(decide (s.2.2.1.length≤8)&&okG [] s.2.2.1)
def stChk (s:Sta):Int:=if okS s then 0 else 1
def metA (p:List Int):List Bool:=(List.range 17).map fun n:Nat=>p.contains (n:Int)
def cmpF (a b:Int):Int:=if a < b then -1 else if b < a then 1 else 0
def stCmp (a b:Sta):Int:=if cmpF a.1 b.1=0 then cmpF a.2.1 b.2.1 else cmpF a.1 b.1
def stSame (a b:Sta):Bool:=a.1==b.1&&(a.2.1==b.2.1&&a.2.2.1==b.2.2.1)
def stL (s:Sta):List Int:=putI s.1 8++putI s.2.1 8++[w8 s.2.2.1.length]++s.2.2.1.map w8
def stPutF (s:Sta):List Int:=if okS s then stL s else []
def okW (n:Int):Prop:=0≤n∧n < 18446744073709551616
def okSt (s:Sta):Prop:=okW s.1∧okW s.2.1
def zSt:Sta:=(0,0,[],())
def g16 (b:List Int):Int:=b.getD 16 0
def g8 (b:List Int):Int:=getR (b.take 8)
def g9 (b:List Int):Int:=getR ((b.drop 8).take 8)
def g17 (b:List Int) (n:Nat):List Int:=(b.drop 17).take n
def stAt (b:List Int):Sta:=(g8 b,g9 b,g17 b (g16 b).toNat,())
def stTkE (b:List Int):Int:=if b.length < 17 then 3 else if 8 < g16 b then 3 else if (b.length:Int) < 17+g16 b then 3 else if okS (stAt b) then 0 else 3
def stTkS (b:List Int):Sta:=if stTkE b=0 then stAt b else zSt
def stTkN (b:List Int):Int:=if stTkE b=0 then 17+g16 b else 0
def frChk (f:Fra):Int:=if f.1 < 0 then 1 else if 24 < f.1 then 1 else if f.2.1 < 0 then 1 else if 24 < f.2.1 then 1 else if f.1=f.2.1 then 1 else if stChk f.2.2.1=0 then (if f.2.2.2.2.1 < 0 then 1 else if 2147483647 < f.2.2.2.2.1 then 1 else if f.2.2.2.1=1 then (if 65536 < f.2.2.2.2.2.1.length then 2 else 0) else if f.2.2.2.1=2 then (if 0 < f.2.2.2.2.2.1.length then 1 else 0) else 1) else 1
def frHd (f:Fra):List Int:=[w8 f.1,w8 f.2.1]++stL f.2.2.1++[w8 f.2.2.2.1]++putI f.2.2.2.2.1 4++putI f.2.2.2.2.2.1.length 4++f.2.2.2.2.2.1
def frPutF (k:List Int) (f:Fra):List Int:=if frChk f=0 then frHd f++tagF k (frHd f) else []
def zFr:Fra:=(0,0,zSt,0,0,[],())
def frRest (b:List Int):List Int:=b.drop (2+stTkN (b.drop 2)).toNat
def frAt (b:List Int):Fra:=(b.getD 0 0,b.getD 1 0,stTkS (b.drop 2),(frRest b).getD 0 0,getR (((frRest b).drop 1).take 4),(frRest b).drop 9,())
def frRdE (b:List Int):Bool:=decide (2≤b.length)&&(stTkE (b.drop 2)==0&&(decide (9≤(frRest b).length)&&(getR (((frRest b).drop 5).take 4)==(((frRest b).drop 9).length:Int))))
def frRdF (b:List Int):Fra:=if frRdE b then frAt b else zFr
def frTkE (k b:List Int):Int:=if b.length < 32 then 3 else if frRdE (b.take (b.length - 32)) then (if frChk (frRdF (b.take (b.length - 32)))=0 then (if b.drop (b.length - 32)=tagF k (b.take (b.length - 32)) then 0 else 4) else 3) else 3
def frTkF (k b:List Int):Fra:=if frTkE k b=0 then frRdF (b.take (b.length - 32)) else zFr
theorem bneF {a b:Int} (h:a=b):(a != b)=false:=by rw [h];exact bne_self_eq_false _
theorem bneT {a b:Int} (h:a≠b):(a != b)=true:=bne_iff_ne.2 h
theorem metA_len (p:List Int):(metA p).length=17:=by simp [metA]
theorem metA_at {p:List Int} {n:Int} (h0:0≤n) (h1:n≤16) {b:Bool} (h:(metA p)[n.toNat]?=some b):b=p.contains n:=by
  unfold metA at h
  rw [List.getElem?_map,List.getElem?_range (by omega)] at h
  simp only [Option.map_some,Option.some.injEq] at h
  rw [← h,show ((n.toNat:Nat):Int)=n by omega]
theorem metA_set {p:List Int} {n:Int} (h0:0≤n) (h1:n≤16):(metA p).set n.toNat true=metA (p++[n]):=by
  apply List.ext_getElem
  · simp [metA]
  · intro i h2 h3
    have hi:i < 17:=by rw [metA_len] at h3;exact h3
    simp only [metA,List.getElem_set,List.getElem_map,List.getElem_range,List.contains_append]
    by_cases e:n.toNat=i
    · rw [if_pos e]
      have:((i:Nat):Int)=n:=by omega
      rw [this]
      simp
    · rw [if_neg e]
      have:((i:Nat):Int)≠n:=by omega
      simp [this]
theorem putE8 {n:Int}:putE n 8=0:=by unfold putE;rw [if_neg (by decide),if_neg (by decide),if_neg (by decide)]
theorem putR8 {n:Int}:putR n 8=putI n 8:=by unfold putR;rw [if_pos putE8];rfl
theorem putE4 {n:Int} (h0:0≤n) (h:n < 4294967296):putE n 4=0:=by
  unfold putE
  rw [if_neg (by decide),if_neg (by decide),if_pos (by decide),if_pos]
  show n / 4294967296=0
  omega
theorem putR4 {n:Int} (h0:0≤n) (h:n < 4294967296):putR n 4=putI n 4:=by unfold putR;rw [if_pos (putE4 h0 h)];rfl
theorem stL_len (s:Sta):(stL s).length=17+s.2.2.1.length:=by
  simp only [stL,List.length_append,putI_len,List.length_map,List.length_cons,List.length_nil]
theorem stChk_0 {s:Sta} (h:stChk s=0):okS s=true:=by
  unfold stChk at h
  cases hk:okS s with
  | true=>rfl
  | false=>rw [hk] at h;cases h
theorem okS_len {s:Sta} (h:okS s=true):1≤s.2.2.1.length∧s.2.2.1.length≤8:=by
  simp only [okS,Bool.and_eq_true,decide_eq_true_eq] at h
  exact ⟨h.1,h.2.1⟩
theorem frChk_0 {f:Fra} (h:frChk f=0):0≤f.1∧f.1≤24∧0≤f.2.1∧f.2.1≤24∧f.1≠f.2.1∧stChk f.2.2.1=0∧0≤f.2.2.2.2.1∧f.2.2.2.2.1≤2147483647∧((f.2.2.2.1=1∧f.2.2.2.2.2.1.length≤65536)∨(f.2.2.2.1=2∧f.2.2.2.2.2.1.length=0)):=by
  unfold frChk at h
  split at h
  · cases h
  split at h
  · cases h
  split at h
  · cases h
  split at h
  · cases h
  split at h
  · cases h
  split at h
  · rename_i h6
    split at h
    · cases h
    split at h
    · cases h
    split at h
    · rename_i hk
      split at h
      · cases h
      · exact ⟨by omega,by omega,by omega,by omega,by omega,h6,by omega,by omega,.inl ⟨hk,by omega⟩⟩
    · split at h
      · rename_i hk
        split at h
        · cases h
        · exact ⟨by omega,by omega,by omega,by omega,by omega,h6,by omega,by omega,.inr ⟨hk,by omega⟩⟩
      · cases h
  · cases h
theorem frHd_len {f:Fra}:(frHd f).length=28+f.2.2.1.2.2.1.length+f.2.2.2.2.2.1.length:=by
  simp only [frHd,List.length_append,stL_len,putI_len,List.length_cons,List.length_nil]
  omega
theorem dropT (l:List Int) (n:Nat):List.take (Int.toNat (l.length:Int) - n) (l.drop n)=l.drop n:=by
  rw [Int.toNat_natCast,List.take_of_length_le (by rw [List.length_drop];omega)]
theorem byt_drop {l:List Int} (h:byt l) (n:Nat):byt (l.drop n):=fun x hx=>h x (List.mem_of_mem_drop hx)
theorem byt_take {l:List Int} (h:byt l) (n:Nat):byt (l.take n):=fun x hx=>h x (List.mem_of_mem_take hx)
theorem byt_getD {l:List Int} (h:byt l) (n:Nat):0≤l.getD n 0∧l.getD n 0 < 256:=by
  rw [List.getD_eq_getElem?_getD]
  cases hx:l[n]? with
  | none=>exact ⟨by decide,by decide⟩
  | some x=>exact h x (List.mem_of_getElem? hx)
theorem stTk_N {b:List Int} (hb:byt b):0≤stTkN b∧stTkN b≤(b.length:Nat)∧stTkN b≤25:=by
  have hg:=byt_getD hb 16
  have h16:g16 b=b.getD 16 0:=rfl
  unfold stTkN
  split
  · rename_i h
    unfold stTkE at h
    split at h
    · cases h
    split at h
    · cases h
    split at h
    · cases h
    · omega
  · omega
theorem getI4_bd {l:List Int} (h:byt l) (hl:l.length=4):0≤getR l∧getR l < 4294967296:=by
  have e:getE l=0:=by unfold getE;rw [if_neg (by omega),if_neg (by omega)]
  unfold getR
  rw [if_pos e]
  have:=getI_bd l h
  rw [hl] at this
  exact this
end DoorU
abbrev vFr:Sh:=.agg (shOf false tFr)
def S_schk:Spec:=⟨.pair aSt .unit,.pair nI .unit,fun _=>True,fun (x:Sta×Unit)=>((stChk x.1,()):Int×Unit)⟩
def A_schk (x:Sta×Unit):Nat→Option LA
  | 0=>some ⟨[19,3],[],.pair nI (.pair (.pa .bool 97) .unit),fun (v:Int×List Bool×Unit)=>0≤v.1∧v.1≤(x.1.2.2.1.length:Nat)∧v.2.1=metA (x.1.2.2.1.take v.1.toNat)∧okG [] x.1.2.2.1=okG (x.1.2.2.1.take v.1.toNat) (x.1.2.2.1.drop v.1.toNat),fun (v:Int×List Bool×Unit)=>((x.1.2.2.1.length:Nat) - v.1).toNat⟩
  | _=>none
def S_nan:Spec:=⟨.pair nW .unit,.pair .bool .unit,fun _=>True,fun _=>((false,()):Bool×Unit)⟩
def S_ccmp:Spec:=⟨.pair nW (.pair nW .unit),.pair nI .unit,fun _=>True,fun (x:Int×Int×Unit)=>((cmpF x.1 x.2.1,()):Int×Unit)⟩
def S_scmp:Spec:=⟨.pair aSt (.pair aSt .unit),.pair nI .unit,fun _=>True,fun (x:Sta×Sta×Unit)=>((stCmp x.1 x.2.1,()):Int×Unit)⟩
def S_eqi:Spec:=⟨.pair lI (.pair lI .unit),.pair .bool .unit,fun _=>True,fun (x:List Int×List Int×Unit)=>((x.1==x.2.1,()):Bool×Unit)⟩
def A_eqi (x:List Int×List Int×Unit):Nat→Option LA
  | 0=>some ⟨[13],[],.pair nI .unit,fun (v:Int×Unit)=>0≤v.1∧v.1≤(x.1.length:Nat)∧x.1.length=x.2.1.length∧x.1.take v.1.toNat=x.2.1.take v.1.toNat,fun (v:Int×Unit)=>((x.1.length:Nat) - v.1).toNat⟩
  | _=>none
def S_ssame:Spec:=⟨.pair aSt (.pair aSt .unit),.pair .bool .unit,fun _=>True,fun (x:Sta×Sta×Unit)=>((stSame x.1 x.2.1,()):Bool×Unit)⟩
def S_sput:Spec:=⟨.pair aSt .unit,.pair (.tup (.pair vY (.pair nI .unit))) .unit,fun (x:Sta×Unit)=>okSt x.1,fun (x:Sta×Unit)=>(((stPutF x.1,stChk x.1,()),()):(List Int×Int×Unit)×Unit)⟩
def A_sput (x:Sta×Unit):Nat→Option LA
  | 0=>some ⟨[41,9],[],.pair nI (.pair oY .unit),fun (v:Int×List Int×Unit)=>0≤v.1∧v.1≤(x.1.2.2.1.length:Nat)∧v.2.1=putI x.1.1 8++putI x.1.2.1 8++[w8 x.1.2.2.1.length]++(x.1.2.2.1.take v.1.toNat).map w8,fun (v:Int×List Int×Unit)=>((x.1.2.2.1.length:Nat) - v.1).toNat⟩
  | _=>none
def S_stake:Spec:=⟨.pair lY .unit,.pair (.tup (.pair vSt (.pair nI (.pair nI .unit)))) .unit,fun (x:List Int×Unit)=>byt x.1,fun (x:List Int×Unit)=>(((stTkS x.1,stTkN x.1,stTkE x.1,()),()):(Sta×Int×Int×Unit)×Unit)⟩
def A_stake (x:List Int×Unit):Nat→Option LA
  | 0=>some ⟨[46,6],[(3006,tI,3)],.pair nI (.pair (.var 28 (.pair nW (.pair nW (.pair oI .unit)))) .unit),fun (v:Int×(Int×Int×List Int×Unit)×Unit)=>0≤v.1∧v.1≤g16 x.1∧v.2.1=(g8 x.1,g9 x.1,g17 x.1 v.1.toNat,()),fun (v:Int×(Int×Int×List Int×Unit)×Unit)=>(g16 x.1 - v.1).toNat⟩
  | _=>none
def S_fchk:Spec:=⟨.pair aFr .unit,.pair nI .unit,fun _=>True,fun (x:Fra×Unit)=>((frChk x.1,()):Int×Unit)⟩
def S_fput:Spec:=⟨.pair lY (.pair aFr .unit),.pair (.tup (.pair vY (.pair nI .unit))) .unit,fun (x:List Int×Fra×Unit)=>x.1.length≤1000000000∧okSt x.2.1.2.2.1,fun (x:List Int×Fra×Unit)=>(((frPutF x.1 x.2.1,frChk x.2.1,()),()):(List Int×Int×Unit)×Unit)⟩
def S_fread:Spec:=⟨.pair vY .unit,.pair (.tup (.pair vFr (.pair .bool .unit))) .unit,fun (x:List Int×Unit)=>byt x.1,fun (x:List Int×Unit)=>(((frRdF x.1,frRdE x.1,()),()):(Fra×Bool×Unit)×Unit)⟩
def S_bcl:Spec:=⟨.pair lY .unit,.pair vY .unit,fun (x:List Int×Unit)=>x.1.length≤1000000000000,fun (x:List Int×Unit)=>((x.1,()):List Int×Unit)⟩
def S_ftake:Spec:=⟨.pair lY (.pair vY .unit),.pair (.tup (.pair vFr (.pair nI .unit))) .unit,fun (x:List Int×List Int×Unit)=>x.1.length≤1000000000∧x.2.1.length≤100000000∧byt x.2.1,fun (x:List Int×List Int×Unit)=>(((frTkF x.1 x.2.1,frTkE x.1 x.2.1,()),()):(Fra×Int×Unit)×Unit)⟩
theorem vc_schk:VC Tryz.prog Tryz.f19 (bodyOf Tryz.f19) S_schk [] A_schk=(∀ (x:(Int×Int×List Int×Unit)×Unit),True→
  List.length x.1.snd.snd.fst≤(9223372036854775807:Nat)→
  List.length x.1.snd.snd.fst≤(9223372036854775807:Nat)→
  bif decide ((↑(List.length x.1.snd.snd.fst):Int) < (1:Int)) then ((1:Int),())=(stChk x.1,()) else List.length x.1.snd.snd.fst≤(9223372036854775807:Nat)→
  bif decide ((8:Int) < (↑(List.length x.1.snd.snd.fst):Int)) then ((1:Int),())=(stChk x.1,()) else List.length x.1.snd.snd.fst≤(9223372036854775807:Nat)→
  ((0:Int)≤(0:Int)∧(0:Int)≤(↑(List.length x.1.snd.snd.fst):Int)∧[false,false,false,false,false,false,false,false,false,false,false,false,false,false,false,false,false]=metA (List.take (Int.toNat (0:Int)) x.1.snd.snd.fst)∧okG [] x.1.snd.snd.fst=okG (List.take (Int.toNat (0:Int)) x.1.snd.snd.fst) (List.drop (Int.toNat (0:Int)) x.1.snd.snd.fst))∧∀ (v:Int×List Bool×Unit),(0:Int)≤v.fst∧v.fst≤(↑(List.length x.1.snd.snd.fst):Int)∧v.2.fst=metA (List.take (Int.toNat v.fst) x.1.snd.snd.fst)∧okG [] x.1.snd.snd.fst=okG (List.take (Int.toNat v.fst) x.1.snd.snd.fst) (List.drop (Int.toNat v.fst) x.1.snd.snd.fst)→
  bif decide (v.fst < (↑(List.length x.1.snd.snd.fst):Int)) then (0:Int)≤v.fst∧v.fst < (↑(List.length x.1.snd.snd.fst):Int)∧∀ (c0:Int),x.1.snd.snd.fst[Int.toNat v.fst]?=some c0→
  bif decide (c0 < (1:Int)) then ((1:Int),())=(stChk x.1,()) else bif decide ((16:Int) < c0) then ((1:Int),())=(stChk x.1,()) else (0:Int)≤c0∧c0 < Int.ofNat (17:Nat)∧Int.toNat c0 < List.length v.2.fst∧∀ (x_1:Bool),v.2.fst[Int.toNat c0]?=some x_1→
  bif x_1 then ((1:Int),())=(stChk x.1,()) else (0:Int)≤c0∧c0 < Int.ofNat (17:Nat)∧Int.toNat c0 < List.length v.2.fst∧∀ (x0:Bool),v.2.fst[Int.toNat c0]?=some x0→
  ((0:Int)≤IntKind.wrap IntKind.i64 (v.fst+(1:Int))∧IntKind.wrap IntKind.i64 (v.fst+(1:Int))≤(↑(List.length x.1.snd.snd.fst):Int)∧List.set v.2.fst (Int.toNat c0) true=metA (List.take (Int.toNat (IntKind.wrap IntKind.i64 (v.fst+(1:Int)))) x.1.snd.snd.fst)∧okG [] x.1.snd.snd.fst=okG (List.take (Int.toNat (IntKind.wrap IntKind.i64 (v.fst+(1:Int)))) x.1.snd.snd.fst) (List.drop (Int.toNat (IntKind.wrap IntKind.i64 (v.fst+(1:Int)))) x.1.snd.snd.fst))∧Int.toNat ((↑(List.length x.1.snd.snd.fst):Int) - IntKind.wrap IntKind.i64 (v.fst+(1:Int))) < Int.toNat ((↑(List.length x.1.snd.snd.fst):Int) - v.fst) else ((0:Int),())=(stChk x.1,())):=by kernel_rfl
theorem en_schk (us:Array Value) (u:World):(callFunc 19 us).run Tryz.prog u=.ok (.enter 19 us) u:=by kernel_rfl
theorem sc_schk:SC Tryz.prog 19 S_schk:=by
  refine SC.of Tryz.func19 (c:=bodyOf Tryz.f19) (by kernel_rfl) (by kernel_rfl) (fun x=>(by decide:(1:Nat)≤Tryz.f19.ntmps)) DOk.nil (Eq.mpr vc_schk ?_)
  rintro ⟨⟨e,r,ch,⟨⟩⟩,⟨⟩⟩ - - -
  dsimp only
  by_cases h1:ch.length < 1
  · rw [decide_eq_true (by omega:(ch.length:Int) < 1),cond_true]
    have:okS (e,r,ch,())=false:=by simp only [okS];rw [decide_eq_false (by omega)];rfl
    rw [stChk,this];rfl
  rw [decide_eq_false (by omega),cond_false]
  intro _
  by_cases h2:8 < ch.length
  · rw [decide_eq_true (by omega:(8:Int) < (ch.length:Int)),cond_true]
    have:okS (e,r,ch,())=false:=by simp only [okS];rw [decide_eq_false (by omega:¬ ch.length≤8)];simp
    rw [stChk,this];rfl
  rw [decide_eq_false (by omega),cond_false]
  intro _
  have hok:okS (e,r,ch,())=okG [] ch:=by simp only [okS];rw [decide_eq_true (by omega:1≤ch.length),decide_eq_true (by omega:ch.length≤8)];rfl
  refine ⟨⟨Int.le_refl 0,by omega,rfl,rfl⟩,?_⟩
  rintro ⟨i,m,⟨⟩⟩ ⟨q0,q1,hm,hg⟩
  dsimp only at q0 q1 hm hg ⊢
  have wi:IntKind.i64.wrap (i+1)=i+1:=IntWalk.i64_in _ (by omega)
  have ml:m.length=17:=by rw [hm,metA_len]
  by_cases hi:i < (ch.length:Int)
  · rw [decide_eq_true hi,cond_true]
    refine ⟨q0,hi,fun c hc=>?_⟩
    have hd:ch.drop i.toNat=c::ch.drop (i.toNat+1):=by
      obtain ⟨hlt,rfl⟩:=List.getElem?_eq_some_iff.1 hc
      exact List.drop_eq_getElem_cons hlt
    rw [hd] at hg
    simp only [okG] at hg
    have bad:∀ {q:Bool},q=false→okG [] ch=q→(((1:Int),()):Int×Unit)=(stChk (e,r,ch,()),()):=fun h1 h2=>by rw [stChk,hok,h2,h1];rfl
    by_cases c1:c < 1
    · rw [decide_eq_true c1,cond_true]
      exact bad (by rw [decide_eq_false (by omega:¬ (1:Int)≤c)];rfl) hg
    rw [decide_eq_false c1,cond_false]
    by_cases c2:16 < c
    · rw [decide_eq_true c2,cond_true]
      exact bad (by rw [decide_eq_false (by omega:¬ c≤16)];simp) hg
    rw [decide_eq_false c2,cond_false,ml,wi]
    rw [decide_eq_true (by omega:(1:Int)≤c),decide_eq_true (by omega:c≤16),Bool.true_and,Bool.true_and] at hg
    refine ⟨by omega,by show c < 17;omega,by omega,fun b hb=>?_⟩
    rw [hm] at hb
    obtain rfl:=metA_at (by omega) (by omega) hb
    cases hct:(ch.take i.toNat).contains c
    · rw [cond_false]
      rw [hct,Bool.not_false,Bool.true_and] at hg
      refine ⟨by omega,by show c < 17;omega,by omega,fun _ _=>⟨⟨by omega,by omega,?_,?_⟩,by omega⟩⟩
      · rw [hm,metA_set (by omega) (by omega),show (i+1).toNat=i.toNat+1 by omega,take_snoc hc]
      · rw [show (i+1).toNat=i.toNat+1 by omega,take_snoc hc]
        exact hg
    · rw [cond_true]
      exact bad (by rw [hct];rfl) hg
  · rw [decide_eq_false hi,cond_false]
    obtain rfl:i=(ch.length:Int):=by omega
    rw [show ((ch.length:Nat):Int).toNat=ch.length by omega,List.drop_length] at hg
    rw [stChk,hok,hg]
    rfl
theorem vc_nan:VC Tryz.prog Tryz.f74 (bodyOf Tryz.f74) S_nan [] (fun _ _=>none)=(∀ (x:Int×Unit),True→
  (x.fst != x.fst,())=(false,())):=by kernel_rfl
theorem en_nan (us:Array Value) (u:World):(callFunc 74 us).run Tryz.prog u=.ok (.enter 74 us) u:=by kernel_rfl
theorem sc_nan:SC Tryz.prog 74 S_nan:=by
  refine SC.of Tryz.func74 (c:=bodyOf Tryz.f74) (by kernel_rfl) (by kernel_rfl) (fun x=>(by decide:(1:Nat)≤Tryz.f74.ntmps)) DOk.nil (Eq.mpr vc_nan ?_)
  rintro ⟨a,⟨⟩⟩ -
  dsimp only
  rw [bneF rfl]
theorem vc_ccmp:VC Tryz.prog Tryz.f46 (bodyOf Tryz.f46) S_ccmp [(74,S_nan)] (fun _ _=>none)=(∀ (x:Int×Int×Unit),True→
  True∧True∧bif decide (x.fst < x.2.fst) then (Int.negSucc (nat_lit 0),())=(cmpF x.fst x.2.fst,()) else bif decide (x.2.fst < x.fst) then ((1:Int),())=(cmpF x.fst x.2.fst,()) else ((0:Int),())=(cmpF x.fst x.2.fst,())):=by kernel_rfl
theorem en_ccmp (us:Array Value) (u:World):(callFunc 46 us).run Tryz.prog u=.ok (.enter 46 us) u:=by kernel_rfl
theorem sc_ccmp:SC Tryz.prog 46 S_ccmp:=by
  refine SC.of Tryz.func46 (c:=bodyOf Tryz.f46) (by kernel_rfl) (by kernel_rfl) (fun x=>(by decide:(2:Nat)≤Tryz.f46.ntmps)) (DOk.cons sc_nan en_nan DOk.nil) (Eq.mpr vc_ccmp ?_)
  rintro ⟨a,b,⟨⟩⟩ -
  dsimp only [cmpF]
  refine ⟨trivial,trivial,?_⟩
  by_cases h1:a < b
  · rw [decide_eq_true h1,cond_true,if_pos h1];rfl
  rw [decide_eq_false h1,cond_false,if_neg h1]
  by_cases h2:b < a
  · rw [decide_eq_true h2,cond_true,if_pos h2]
  · rw [decide_eq_false h2,cond_false,if_neg h2]
theorem vc_scmp:VC Tryz.prog Tryz.f23 (bodyOf Tryz.f23) S_scmp [(46,S_ccmp)] (fun _ _=>none)=(∀ (x:(Int×Int×List Int×Unit)×(Int×Int×List Int×Unit)×Unit),True→
  List.length x.1.snd.snd.fst≤(9223372036854775807:Nat)→
  List.length x.2.fst.snd.snd.fst≤(9223372036854775807:Nat)→
  True∧bif cmpF x.1.fst x.2.fst.fst != (0:Int) then (cmpF x.1.fst x.2.fst.fst,())=(stCmp x.1 x.2.fst,()) else True∧(cmpF x.1.snd.fst x.2.fst.snd.fst,())=(stCmp x.1 x.2.fst,())):=by kernel_rfl
theorem en_scmp (us:Array Value) (u:World):(callFunc 23 us).run Tryz.prog u=.ok (.enter 23 us) u:=by kernel_rfl
theorem sc_scmp:SC Tryz.prog 23 S_scmp:=by
  refine SC.of Tryz.func23 (c:=bodyOf Tryz.f23) (by kernel_rfl) (by kernel_rfl) (fun x=>(by decide:(2:Nat)≤Tryz.f23.ntmps)) (DOk.cons sc_ccmp en_ccmp DOk.nil) (Eq.mpr vc_scmp ?_)
  rintro ⟨⟨a1,a2,a3,⟨⟩⟩,⟨b1,b2,b3,⟨⟩⟩,⟨⟩⟩ - - -
  dsimp only [stCmp]
  refine ⟨trivial,?_⟩
  by_cases h:cmpF a1 b1=0
  · rw [bneF h,cond_false,if_pos h]
    exact ⟨trivial,rfl⟩
  · rw [bneT h,cond_true,if_neg h]
theorem vc_eqi:VC Tryz.prog Tryz.f83 (bodyOf Tryz.f83) S_eqi [] A_eqi=(∀ (x:List Int×List Int×Unit),True→
  List.length x.fst≤(9223372036854775807:Nat)→
  List.length x.2.fst≤(9223372036854775807:Nat)→
  List.length x.fst≤(9223372036854775807:Nat)→
  List.length x.2.fst≤(9223372036854775807:Nat)→
  bif (↑(List.length x.fst):Int) != (↑(List.length x.2.fst):Int) then (false,())=(x.fst==x.2.fst,()) else List.length x.fst≤(9223372036854775807:Nat)→
  ((0:Int)≤(0:Int)∧(0:Int)≤(↑(List.length x.fst):Int)∧List.length x.fst=List.length x.2.fst∧List.take (Int.toNat (0:Int)) x.fst=List.take (Int.toNat (0:Int)) x.2.fst)∧∀ (v:Int×Unit),(0:Int)≤v.fst∧v.fst≤(↑(List.length x.fst):Int)∧List.length x.fst=List.length x.2.fst∧List.take (Int.toNat v.fst) x.fst=List.take (Int.toNat v.fst) x.2.fst→
  bif decide (v.fst < (↑(List.length x.fst):Int)) then (0:Int)≤v.fst∧v.fst < (↑(List.length x.fst):Int)∧∀ (c0:Int),x.fst[Int.toNat v.fst]?=some c0→
  (0:Int)≤v.fst∧v.fst < (↑(List.length x.2.fst):Int)∧∀ (c0_1:Int),x.2.fst[Int.toNat v.fst]?=some c0_1→
  bif c0 != c0_1 then (false,())=(x.fst==x.2.fst,()) else ((0:Int)≤IntKind.wrap IntKind.i64 (v.fst+(1:Int))∧IntKind.wrap IntKind.i64 (v.fst+(1:Int))≤(↑(List.length x.fst):Int)∧List.length x.fst=List.length x.2.fst∧List.take (Int.toNat (IntKind.wrap IntKind.i64 (v.fst+(1:Int)))) x.fst=List.take (Int.toNat (IntKind.wrap IntKind.i64 (v.fst+(1:Int)))) x.2.fst)∧Int.toNat ((↑(List.length x.fst):Int) - IntKind.wrap IntKind.i64 (v.fst+(1:Int))) < Int.toNat ((↑(List.length x.fst):Int) - v.fst) else (true,())=(x.fst==x.2.fst,())):=by kernel_rfl
theorem en_eqi (us:Array Value) (u:World):(callFunc 83 us).run Tryz.prog u=.ok (.enter 83 us) u:=by kernel_rfl
theorem sc_eqi:SC Tryz.prog 83 S_eqi:=by
  refine SC.of Tryz.func83 (c:=bodyOf Tryz.f83) (by kernel_rfl) (by kernel_rfl) (fun x=>(by decide:(2:Nat)≤Tryz.f83.ntmps)) DOk.nil (Eq.mpr vc_eqi ?_)
  rintro ⟨a,b,⟨⟩⟩ - hla - - -
  dsimp only at hla ⊢
  by_cases h:a.length=b.length
  rotate_left 1
  · rw [show (((a.length:Nat):Int) != ((b.length:Nat):Int))=true from bneT (by omega),cond_true]
    have:(a==b)=false:=beq_eq_false_iff_ne.2 fun e=>h (by rw [e])
    rw [this]
  rw [show (((a.length:Nat):Int) != ((b.length:Nat):Int))=false from bneF (by omega),cond_false]
  intro _
  refine ⟨⟨Int.le_refl 0,by omega,h,rfl⟩,?_⟩
  rintro ⟨i,⟨⟩⟩ ⟨q0,q1,-,ht⟩
  dsimp only at q0 q1 ht ⊢
  by_cases hi:i < (a.length:Int)
  · have wi:IntKind.i64.wrap (i+1)=i+1:=IntWalk.i64_in _ (by omega)
    rw [decide_eq_true hi,cond_true,wi]
    refine ⟨q0,hi,fun c hc=>⟨q0,by omega,fun d hd=>?_⟩⟩
    by_cases e:c=d
    · subst e
      rw [bneF rfl,cond_false]
      refine ⟨⟨by omega,by omega,h,?_⟩,by omega⟩
      rw [show (i+1).toNat=i.toNat+1 by omega,take_snoc hc,take_snoc hd,ht]
    · rw [bneT e,cond_true]
      have:(a==b)=false:=beq_eq_false_iff_ne.2 fun e2=>e (by rw [e2,hd] at hc;exact (Option.some.inj hc).symm)
      rw [this]
  · rw [decide_eq_false hi,cond_false]
    obtain rfl:i=(a.length:Int):=by omega
    rw [show ((a.length:Nat):Int).toNat=a.length by omega,List.take_length,h,List.take_length] at ht
    rw [beq_iff_eq.2 ht]
theorem vc_ssame:VC Tryz.prog Tryz.f52 (bodyOf Tryz.f52) S_ssame [(83,S_eqi)] (fun _ _=>none)=(∀ (x:(Int×Int×List Int×Unit)×(Int×Int×List Int×Unit)×Unit),True→
  List.length x.1.snd.snd.fst≤(9223372036854775807:Nat)→
  List.length x.2.fst.snd.snd.fst≤(9223372036854775807:Nat)→
  bif x.1.fst==x.2.fst.fst then bif x.1.snd.fst==x.2.fst.snd.fst then True∧(x.1.snd.snd.fst==x.2.fst.snd.snd.fst,())=(stSame x.1 x.2.fst,()) else (false,())=(stSame x.1 x.2.fst,()) else (false,())=(stSame x.1 x.2.fst,())):=by kernel_rfl
theorem en_ssame (us:Array Value) (u:World):(callFunc 52 us).run Tryz.prog u=.ok (.enter 52 us) u:=by kernel_rfl
theorem sc_ssame:SC Tryz.prog 52 S_ssame:=by
  refine SC.of Tryz.func52 (c:=bodyOf Tryz.f52) (by kernel_rfl) (by kernel_rfl) (fun x=>(by decide:(2:Nat)≤Tryz.f52.ntmps)) (DOk.cons sc_eqi en_eqi DOk.nil) (Eq.mpr vc_ssame ?_)
  rintro ⟨⟨a1,a2,a3,⟨⟩⟩,⟨b1,b2,b3,⟨⟩⟩,⟨⟩⟩ - - -
  dsimp only [stSame]
  cases a1==b1
  · rfl
  cases a2==b2
  · rfl
  exact ⟨trivial,rfl⟩
theorem vc_sput:VC Tryz.prog Tryz.f122 (bodyOf Tryz.f122) S_sput [(19,S_schk),(123,S_put),(124,S_cat)] A_sput=(∀ (x:(Int×Int×List Int×Unit)×Unit),okSt x.1→
  List.length x.1.snd.snd.fst≤(9223372036854775807:Nat)→
  True∧bif stChk x.1 != (0:Int) then (([],stChk x.1,()),())=((stPutF x.1,stChk x.1,()),()) else ((0:Int)≤x.1.fst∧x.1.fst < (18446744073709551616:Int))∧((0:Int)≤x.1.snd.fst∧x.1.snd.fst < (18446744073709551616:Int))∧(List.length x.1.snd.snd.fst≤(9223372036854775807:Nat)→
  List.length (List.flatten [putR x.1.fst (8:Int),putR x.1.snd.fst (8:Int),[IntKind.wrap IntKind.u8 (↑(List.length x.1.snd.snd.fst):Int)]])≤(1099511627776:Nat)∧(List.length x.1.snd.snd.fst≤(9223372036854775807:Nat)→
  ((0:Int)≤(0:Int)∧(0:Int)≤(↑(List.length x.1.snd.snd.fst):Int)∧List.flatten [putR x.1.fst (8:Int),putR x.1.snd.fst (8:Int),[IntKind.wrap IntKind.u8 (↑(List.length x.1.snd.snd.fst):Int)]]=putI x.1.fst (8:Nat)++putI x.1.snd.fst (8:Nat)++[w8 (↑(List.length x.1.snd.snd.fst):Int)]++List.map w8 (List.take (Int.toNat (0:Int)) x.1.snd.snd.fst))∧∀ (v:Int×List Int×Unit),(0:Int)≤v.fst∧v.fst≤(↑(List.length x.1.snd.snd.fst):Int)∧v.2.fst=putI x.1.fst (8:Nat)++putI x.1.snd.fst (8:Nat)++[w8 (↑(List.length x.1.snd.snd.fst):Int)]++List.map w8 (List.take (Int.toNat v.fst) x.1.snd.snd.fst)→
  bif decide (v.fst < (↑(List.length x.1.snd.snd.fst):Int)) then (0:Int)≤v.fst∧v.fst < (↑(List.length x.1.snd.snd.fst):Int)∧∀ (c0:Int),x.1.snd.snd.fst[Int.toNat v.fst]?=some c0→
  (List.length v.2.fst+List.length [IntKind.wrap IntKind.u8 c0])*nat_lit 1≤(140737488351232:Nat)∧((0:Int)≤IntKind.wrap IntKind.i64 (v.fst+(1:Int))∧IntKind.wrap IntKind.i64 (v.fst+(1:Int))≤(↑(List.length x.1.snd.snd.fst):Int)∧v.2.fst++[IntKind.wrap IntKind.u8 c0]=putI x.1.fst (8:Nat)++putI x.1.snd.fst (8:Nat)++[w8 (↑(List.length x.1.snd.snd.fst):Int)]++List.map w8 (List.take (Int.toNat (IntKind.wrap IntKind.i64 (v.fst+(1:Int)))) x.1.snd.snd.fst))∧Int.toNat ((↑(List.length x.1.snd.snd.fst):Int) - IntKind.wrap IntKind.i64 (v.fst+(1:Int))) < Int.toNat ((↑(List.length x.1.snd.snd.fst):Int) - v.fst) else ((v.2.fst,(0:Int),()),())=((stPutF x.1,stChk x.1,()),())))):=by kernel_rfl
theorem en_sput (us:Array Value) (u:World):(callFunc 122 us).run Tryz.prog u=.ok (.enter 122 us) u:=by kernel_rfl
theorem sc_sput:SC Tryz.prog 122 S_sput:=by
  refine SC.of Tryz.func122 (c:=bodyOf Tryz.f122) (by kernel_rfl) (by kernel_rfl) (fun x=>(by decide:(1:Nat)≤Tryz.f122.ntmps)) (DOk.cons sc_schk en_schk (DOk.cons sc_put en_put (DOk.cons sc_cat en_cat DOk.nil))) (Eq.mpr vc_sput ?_)
  rintro ⟨⟨e,r,ch,⟨⟩⟩,⟨⟩⟩ ⟨he,hr⟩ -
  dsimp only at he hr ⊢
  refine ⟨trivial,?_⟩
  by_cases hk:stChk (e,r,ch,())=0
  rotate_left 1
  · rw [bneT hk,cond_true]
    have:okS (e,r,ch,())=false:=by
      cases h:okS (e,r,ch,())
      · rfl
      · exact absurd (by rw [stChk,h];rfl) hk
    rw [stPutF,this];rfl
  have hok:=stChk_0 hk
  have hl:=okS_len hok
  dsimp only at hl
  rw [bneF hk,cond_false]
  have hf:List.flatten [putR e 8,putR r 8,[IntKind.u8.wrap (ch.length:Int)]]=putI e 8++putI r 8++[w8 ch.length]:=by
    simp only [List.flatten_cons,List.flatten_nil,List.append_nil,putR8,List.append_assoc];rfl
  rw [hf]
  have hfl:(putI e 8++putI r 8++[w8 ch.length]).length=17:=by simp only [List.length_append,putI_len,List.length_cons,List.length_nil]
  refine ⟨he,hr,fun _=>⟨by rw [hfl];decide,fun _=>⟨⟨Int.le_refl 0,by omega,by simp only [Int.toNat_zero,List.take_zero,List.map_nil,List.append_nil]⟩,?_⟩⟩⟩
  rintro ⟨i,o,⟨⟩⟩ ⟨q0,q1,ho⟩
  dsimp only at q0 q1 ho ⊢
  have wi:IntKind.i64.wrap (i+1)=i+1:=IntWalk.i64_in _ (by omega)
  have ol:o.length=17+i.toNat:=by rw [ho,List.length_append,hfl,List.length_map,List.length_take];omega
  by_cases hi:i < (ch.length:Int)
  · rw [decide_eq_true hi,cond_true,wi,ol]
    refine ⟨q0,hi,fun c hc=>⟨by simp only [List.length_cons,List.length_nil];omega,⟨by omega,by omega,?_⟩,by omega⟩⟩
    rw [ho,show (i+1).toNat=i.toNat+1 by omega,take_snoc hc,List.map_append,List.append_assoc]
    rfl
  · rw [decide_eq_false hi,cond_false]
    obtain rfl:i=(ch.length:Int):=by omega
    rw [ho,hk,stPutF,hok,show ((ch.length:Nat):Int).toNat=ch.length by omega,List.take_length]
    rfl
theorem vc_fchk:VC Tryz.prog Tryz.f79 (bodyOf Tryz.f79) S_fchk [(19,S_schk)] (fun _ _=>none)=(∀ (x:(Int×Int×(Int×Int×List Int×Unit)×Int×Int×List Int×Unit)×Unit),True→
  List.length x.1.snd.snd.fst.snd.snd.fst≤(9223372036854775807:Nat)→
  List.length x.1.snd.snd.snd.snd.snd.fst≤(9223372036854775807:Nat)→
  bif decide (x.1.fst < (0:Int)) then ((1:Int),())=(frChk x.1,()) else bif decide ((24:Int) < x.1.fst) then ((1:Int),())=(frChk x.1,()) else bif decide (x.1.snd.fst < (0:Int)) then ((1:Int),())=(frChk x.1,()) else bif decide ((24:Int) < x.1.snd.fst) then ((1:Int),())=(frChk x.1,()) else bif x.1.fst==x.1.snd.fst then ((1:Int),())=(frChk x.1,()) else True∧bif stChk x.1.snd.snd.fst != (0:Int) then ((1:Int),())=(frChk x.1,()) else bif decide (x.1.snd.snd.snd.snd.fst < (0:Int)) then ((1:Int),())=(frChk x.1,()) else bif decide ((2147483647:Int) < x.1.snd.snd.snd.snd.fst) then ((1:Int),())=(frChk x.1,()) else bif x.1.snd.snd.snd.fst==(1:Int) then List.length x.1.snd.snd.snd.snd.snd.fst≤(9223372036854775807:Nat)→
  bif decide ((65536:Int) < (↑(List.length x.1.snd.snd.snd.snd.snd.fst):Int)) then ((2:Int),())=(frChk x.1,()) else ((0:Int),())=(frChk x.1,()) else bif x.1.snd.snd.snd.fst==(2:Int) then List.length x.1.snd.snd.snd.snd.snd.fst≤(9223372036854775807:Nat)→
  bif decide ((0:Int) < (↑(List.length x.1.snd.snd.snd.snd.snd.fst):Int)) then ((1:Int),())=(frChk x.1,()) else ((0:Int),())=(frChk x.1,()) else ((1:Int),())=(frChk x.1,())):=by kernel_rfl
theorem en_fchk (us:Array Value) (u:World):(callFunc 79 us).run Tryz.prog u=.ok (.enter 79 us) u:=by kernel_rfl
theorem sc_fchk:SC Tryz.prog 79 S_fchk:=by
  refine SC.of Tryz.func79 (c:=bodyOf Tryz.f79) (by kernel_rfl) (by kernel_rfl) (fun x=>(by decide:(1:Nat)≤Tryz.f79.ntmps)) (DOk.cons sc_schk en_schk DOk.nil) (Eq.mpr vc_fchk ?_)
  rintro ⟨⟨a,b,s,k,q,bd,⟨⟩⟩,⟨⟩⟩ - - -
  dsimp only [frChk]
  by_cases h1:a < 0
  · rw [decide_eq_true h1,cond_true,if_pos h1]
  rw [decide_eq_false h1,cond_false,if_neg h1]
  by_cases h2:24 < a
  · rw [decide_eq_true h2,cond_true,if_pos h2]
  rw [decide_eq_false h2,cond_false,if_neg h2]
  by_cases h3:b < 0
  · rw [decide_eq_true h3,cond_true,if_pos h3]
  rw [decide_eq_false h3,cond_false,if_neg h3]
  by_cases h4:24 < b
  · rw [decide_eq_true h4,cond_true,if_pos h4]
  rw [decide_eq_false h4,cond_false,if_neg h4]
  by_cases h5:a=b
  · rw [beq_iff_eq.2 h5,cond_true,if_pos h5]
  rw [beq_eq_false_iff_ne.2 h5,cond_false,if_neg h5]
  refine ⟨trivial,?_⟩
  by_cases h6:stChk s=0
  rotate_left 1
  · rw [bneT h6,cond_true,if_neg h6]
  rw [bneF h6,cond_false,if_pos h6]
  by_cases h7:q < 0
  · rw [decide_eq_true h7,cond_true,if_pos h7]
  rw [decide_eq_false h7,cond_false,if_neg h7]
  by_cases h8:2147483647 < q
  · rw [decide_eq_true h8,cond_true,if_pos h8]
  rw [decide_eq_false h8,cond_false,if_neg h8]
  by_cases h9:k=1
  · rw [beq_iff_eq.2 h9,cond_true,if_pos h9]
    intro _
    by_cases h:65536 < bd.length
    · rw [decide_eq_true (by omega:(65536:Int) < (bd.length:Int)),cond_true,if_pos h]
    · rw [decide_eq_false (by omega),cond_false,if_neg h]
  rw [beq_eq_false_iff_ne.2 h9,cond_false,if_neg h9]
  by_cases h10:k=2
  · rw [beq_iff_eq.2 h10,cond_true,if_pos h10]
    intro _
    by_cases h:0 < bd.length
    · rw [decide_eq_true (by omega:(0:Int) < (bd.length:Int)),cond_true,if_pos h]
    · rw [decide_eq_false (by omega),cond_false,if_neg h]
  rw [beq_eq_false_iff_ne.2 h10,cond_false,if_neg h10]
theorem vc_fput:VC Tryz.prog Tryz.f95 (bodyOf Tryz.f95) S_fput [(79,S_fchk),(122,S_sput),(123,S_put),(116,S_tag)] (fun _ _=>none)=(∀ (x:List Int×(Int×Int×(Int×Int×List Int×Unit)×Int×Int×List Int×Unit)×Unit),List.length x.fst≤(1000000000:Nat)∧okSt x.2.fst.snd.snd.fst→
  List.length x.fst≤(9223372036854775807:Nat)→
  List.length x.2.fst.snd.snd.fst.snd.snd.fst≤(9223372036854775807:Nat)→
  List.length x.2.fst.snd.snd.snd.snd.snd.fst≤(9223372036854775807:Nat)→
  True∧bif frChk x.2.fst != (0:Int) then (([],frChk x.2.fst,()),())=((frPutF x.fst x.2.fst,frChk x.2.fst,()),()) else okSt x.2.fst.snd.snd.fst∧bif stChk x.2.fst.snd.snd.fst != (0:Int) then (([],stChk x.2.fst.snd.snd.fst,()),())=((frPutF x.fst x.2.fst,frChk x.2.fst,()),()) else ((0:Int)≤IntKind.wrap IntKind.u64 x.2.fst.snd.snd.snd.snd.fst∧IntKind.wrap IntKind.u64 x.2.fst.snd.snd.snd.snd.fst < (18446744073709551616:Int))∧(List.length x.2.fst.snd.snd.snd.snd.snd.fst≤(9223372036854775807:Nat)→
  ((0:Int)≤IntKind.wrap IntKind.u64 (↑(List.length x.2.fst.snd.snd.snd.snd.snd.fst):Int)∧IntKind.wrap IntKind.u64 (↑(List.length x.2.fst.snd.snd.snd.snd.snd.fst):Int) < (18446744073709551616:Int))∧(List.length [IntKind.wrap IntKind.u8 x.2.fst.fst,IntKind.wrap IntKind.u8 x.2.fst.snd.fst]+List.length (stPutF x.2.fst.snd.snd.fst))*nat_lit 1≤(140737488351232:Nat)∧(List.length ([IntKind.wrap IntKind.u8 x.2.fst.fst,IntKind.wrap IntKind.u8 x.2.fst.snd.fst]++stPutF x.2.fst.snd.snd.fst)+List.length [IntKind.wrap IntKind.u8 x.2.fst.snd.snd.snd.fst])*nat_lit 1≤(140737488351232:Nat)∧(List.length ([IntKind.wrap IntKind.u8 x.2.fst.fst,IntKind.wrap IntKind.u8 x.2.fst.snd.fst]++stPutF x.2.fst.snd.snd.fst++[IntKind.wrap IntKind.u8 x.2.fst.snd.snd.snd.fst])+List.length (putR (IntKind.wrap IntKind.u64 x.2.fst.snd.snd.snd.snd.fst) (4:Int)))*nat_lit 1≤(140737488351232:Nat)∧(List.length ([IntKind.wrap IntKind.u8 x.2.fst.fst,IntKind.wrap IntKind.u8 x.2.fst.snd.fst]++stPutF x.2.fst.snd.snd.fst++[IntKind.wrap IntKind.u8 x.2.fst.snd.snd.snd.fst]++putR (IntKind.wrap IntKind.u64 x.2.fst.snd.snd.snd.snd.fst) (4:Int))+List.length (putR (IntKind.wrap IntKind.u64 (↑(List.length x.2.fst.snd.snd.snd.snd.snd.fst):Int)) (4:Int)))*nat_lit 1≤(140737488351232:Nat)∧(List.length ([IntKind.wrap IntKind.u8 x.2.fst.fst,IntKind.wrap IntKind.u8 x.2.fst.snd.fst]++stPutF x.2.fst.snd.snd.fst++[IntKind.wrap IntKind.u8 x.2.fst.snd.snd.snd.fst]++putR (IntKind.wrap IntKind.u64 x.2.fst.snd.snd.snd.snd.fst) (4:Int)++putR (IntKind.wrap IntKind.u64 (↑(List.length x.2.fst.snd.snd.snd.snd.snd.fst):Int)) (4:Int))+List.length x.2.fst.snd.snd.snd.snd.snd.fst)*nat_lit 1≤(140737488351232:Nat)∧(List.length x.fst≤(1000000000:Nat)∧List.length ([IntKind.wrap IntKind.u8 x.2.fst.fst,IntKind.wrap IntKind.u8 x.2.fst.snd.fst]++stPutF x.2.fst.snd.snd.fst++[IntKind.wrap IntKind.u8 x.2.fst.snd.snd.snd.fst]++putR (IntKind.wrap IntKind.u64 x.2.fst.snd.snd.snd.snd.fst) (4:Int)++putR (IntKind.wrap IntKind.u64 (↑(List.length x.2.fst.snd.snd.snd.snd.snd.fst):Int)) (4:Int)++x.2.fst.snd.snd.snd.snd.snd.fst)≤(100000000:Nat))∧(List.length ([IntKind.wrap IntKind.u8 x.2.fst.fst,IntKind.wrap IntKind.u8 x.2.fst.snd.fst]++stPutF x.2.fst.snd.snd.fst++[IntKind.wrap IntKind.u8 x.2.fst.snd.snd.snd.fst]++putR (IntKind.wrap IntKind.u64 x.2.fst.snd.snd.snd.snd.fst) (4:Int)++putR (IntKind.wrap IntKind.u64 (↑(List.length x.2.fst.snd.snd.snd.snd.snd.fst):Int)) (4:Int)++x.2.fst.snd.snd.snd.snd.snd.fst)+List.length (tagF x.fst ([IntKind.wrap IntKind.u8 x.2.fst.fst,IntKind.wrap IntKind.u8 x.2.fst.snd.fst]++stPutF x.2.fst.snd.snd.fst++[IntKind.wrap IntKind.u8 x.2.fst.snd.snd.snd.fst]++putR (IntKind.wrap IntKind.u64 x.2.fst.snd.snd.snd.snd.fst) (4:Int)++putR (IntKind.wrap IntKind.u64 (↑(List.length x.2.fst.snd.snd.snd.snd.snd.fst):Int)) (4:Int)++x.2.fst.snd.snd.snd.snd.snd.fst)))*nat_lit 1≤(140737488351232:Nat)∧(([IntKind.wrap IntKind.u8 x.2.fst.fst,IntKind.wrap IntKind.u8 x.2.fst.snd.fst]++stPutF x.2.fst.snd.snd.fst++[IntKind.wrap IntKind.u8 x.2.fst.snd.snd.snd.fst]++putR (IntKind.wrap IntKind.u64 x.2.fst.snd.snd.snd.snd.fst) (4:Int)++putR (IntKind.wrap IntKind.u64 (↑(List.length x.2.fst.snd.snd.snd.snd.snd.fst):Int)) (4:Int)++x.2.fst.snd.snd.snd.snd.snd.fst++tagF x.fst ([IntKind.wrap IntKind.u8 x.2.fst.fst,IntKind.wrap IntKind.u8 x.2.fst.snd.fst]++stPutF x.2.fst.snd.snd.fst++[IntKind.wrap IntKind.u8 x.2.fst.snd.snd.snd.fst]++putR (IntKind.wrap IntKind.u64 x.2.fst.snd.snd.snd.snd.fst) (4:Int)++putR (IntKind.wrap IntKind.u64 (↑(List.length x.2.fst.snd.snd.snd.snd.snd.fst):Int)) (4:Int)++x.2.fst.snd.snd.snd.snd.snd.fst),(0:Int),()),())=((frPutF x.fst x.2.fst,frChk x.2.fst,()),()))):=by kernel_rfl
theorem en_fput (us:Array Value) (u:World):(callFunc 95 us).run Tryz.prog u=.ok (.enter 95 us) u:=by kernel_rfl
theorem sc_fput:SC Tryz.prog 95 S_fput:=by
  refine SC.of Tryz.func95 (c:=bodyOf Tryz.f95) (by kernel_rfl) (by kernel_rfl) (fun x=>(by decide:(2:Nat)≤Tryz.f95.ntmps)) (DOk.cons sc_fchk en_fchk (DOk.cons sc_sput en_sput (DOk.cons sc_put en_put (DOk.cons sc_tag en_tag DOk.nil)))) (Eq.mpr vc_fput ?_)
  rintro ⟨k,⟨a,b,s,kd,q,bd,⟨⟩⟩,⟨⟩⟩ ⟨hk,hs⟩ - - -
  dsimp only at hk hs ⊢
  refine ⟨trivial,?_⟩
  by_cases hc:frChk (a,b,s,kd,q,bd,())=0
  rotate_left 1
  · rw [bneT hc,cond_true,frPutF,if_neg hc]
  rw [bneF hc,cond_false]
  obtain ⟨c1,c2,c3,c4,c5,c6,c7,c8,c9⟩:=frChk_0 hc
  dsimp only at c1 c2 c3 c4 c5 c6 c7 c8 c9
  have hbl:bd.length≤65536:=by rcases c9 with h | h <;> omega
  have hok:=stChk_0 c6
  have hl:=okS_len hok
  have v1:IntKind.u64.wrap q=q:=IntWalk.u64_in _ ⟨by omega,by omega⟩
  have v2:IntKind.u64.wrap (bd.length:Int)=(bd.length:Int):=IntWalk.u64_in _ ⟨by omega,by omega⟩
  rw [bneF c6,cond_false,v1,v2,putR4 c7 (by omega),putR4 (by omega) (by omega)]
  have hsp:stPutF s=stL s:=by rw [stPutF,hok];rfl
  have hh:[IntKind.u8.wrap a,IntKind.u8.wrap b]++stPutF s++[IntKind.u8.wrap kd]++putI q 4++putI (bd.length:Int) 4++bd=frHd (a,b,s,kd,q,bd,()):=by rw [hsp];rfl
  have hhl:=frHd_len (f:=(a,b,s,kd,q,bd,()))
  dsimp only at hhl
  rw [hh]
  refine ⟨hs,⟨by omega,by omega⟩,fun _=>⟨⟨by omega,by omega⟩,?_⟩⟩
  have hsl:=stL_len s
  rw [← hsp] at hsl
  simp only [List.length_append,List.length_cons,List.length_nil,putI_len,hsl,tagF_len,hhl]
  refine ⟨by omega,by omega,by omega,by omega,by omega,⟨hk,by omega⟩,by omega,?_⟩
  rw [frPutF,if_pos hc,hc]
theorem vc_bcl:VC Tryz.prog Tryz.f81 (bodyOf Tryz.f81) S_bcl [] (fun _ _=>none)=(∀ (x:List Int×Unit),List.length x.fst≤(1000000000000:Nat)→
  List.length x.fst≤(9223372036854775807:Nat)→
  (List.length x.fst=(0:Nat)→
  ([],())=x)∧(nat_lit 0+List.length x.fst)*nat_lit 1≤(140737488351232:Nat)∧([]++x.fst,())=x):=by kernel_rfl
theorem en_bcl (us:Array Value) (u:World):(callFunc 81 us).run Tryz.prog u=.ok (.enter 81 us) u:=by kernel_rfl
theorem sc_bcl:SC Tryz.prog 81 S_bcl:=by
  refine SC.of Tryz.func81 (c:=bodyOf Tryz.f81) (by kernel_rfl) (by kernel_rfl) (fun x=>(by decide:(1:Nat)≤Tryz.f81.ntmps)) DOk.nil (Eq.mpr vc_bcl ?_)
  rintro ⟨l,⟨⟩⟩ h -
  dsimp only at h ⊢
  refine ⟨fun h0=>?_,by omega,by rw [List.nil_append]⟩
  rw [List.eq_nil_of_length_eq_zero h0]
end Go.Proofs.YtjkbkhjalimebaaGreatDoor
namespace Go.Proofs.YtjkbkhjalimebaaGreatDoor
open Go.RowKit DoorU
set_option linter.unusedVariables false
set_option linter.unusedSimpArgs false
set_option maxRecDepth 100000
set_option maxHeartbeats 1000000
namespace DoorU
def zIt:Itm:=(0,[],0,())
def big:Nat:=1000000000
def okIts (l:List Itm):Prop:=l.length≤big∧∀ x∈l,x.2.1.length≤big
def okBs (l:List (List Int)):Prop:=l.length≤big∧∀ x∈l,x.length≤big
def okOut (o:Ouq):Prop:=okIts o.2.1∧okBs o.2.2.1
def okIn (i:Inq):Prop:=okIts i.2.1
def i64 (n:Int):Int:=IntKind.i64.wrap n
def itm (n:Int) (b:List Int) (now:Int):Itm:=(n,b,now,())
def sendF (o:Ouq) (b:List Int) (w now:Int):Ouq×List Itm×Unit:=if w≤(o.2.1.length:Nat) then ((o.1,o.2.1,o.2.2.1++[b],()),[],()) else ((i64 (o.1+1),o.2.1++[itm o.1 b now],o.2.2.1,()),[itm o.1 b now],())
def ackS (l:List Itm) (n:Int):List Itm:=l.filter fun x=>decide (n≤x.1)
def ackGo (w now:Int):Int→List Itm→List Itm→List (List Int)→Ouq×List Itm×Unit
  | nx,s,t,[]=>((nx,s,[],()),t,())
  | nx,s,t,b::r=>if (s.length:Nat) < w then ackGo w now (i64 (nx+1)) (s++[itm nx b now]) (t++[itm nx b now]) r else ((nx,s,b::r,()),t,())
def ackF (o:Ouq) (n w now:Int):Ouq×List Itm×Unit:=ackGo w now o.1 (ackS o.2.1 n) [] o.2.2.1
def fpGo:Int→List Itm→List (Int×Int)→List (Int×Int)
  | _,[],m=>m
  | i,x::r,m=>fpGo (i+1) r (bif mhas m x.1 then m else mput m x.1 i)
def fpF (l:List Itm):List (Int×Int):=fpGo 0 l []
def tkH (i:Inq) (q:Int) (w:Int):Bool:=decide (i.1≤q)&&(decide (q < i64 (i.1+w)) && !(mhas (fpF i.2.1) q))
def tkL (i:Inq) (q:Int) (b:List Int) (w:Int):List Itm:=if tkH i q w then i.2.1++[itm q b 0] else i.2.1
def tkM (i:Inq) (q:Int) (w:Int):List (Int×Int):=if tkH i q w then mput (fpF i.2.1) q (i.2.1.length:Nat) else fpF i.2.1
def tkGo (m:List (Int×Int)) (l:List Itm):Nat→Int→List Bool→List (List Int)→Int×List Bool×List (List Int)
  | 0,e,g,b=>(e,g,b)
  | n+1,e,g,b=>if mhas m e then tkGo m l n (i64 (e+1)) (g.set (mget m e).toNat true) (b++[(l.getD (mget m e).toNat zIt).2.1]) else (e,g,b)
def tkK:List Itm→List Bool→List Itm
  | x::l,g::r=>if g then tkK l r else x::tkK l r
  | _,_=>[]
def tkE (i:Inq) (q:Int) (b:List Int) (w:Int):Int×List Bool×List (List Int):=tkGo (tkM i q w) (tkL i q b w) ((tkL i q b w).length+1) i.1 (List.replicate (tkL i q b w).length false) []
def takF (i:Inq) (q:Int) (b:List Int) (w:Int):Inq×List (List Int)×Int×Unit:=(((tkE i q b w).1,tkK (tkL i q b w) (tkE i q b w).2.1,()),(tkE i q b w).2.2,(tkE i q b w).1,())
theorem take_set {α:Type} {l:List α} {k:Nat} {c:α} (h:k < l.length):(l.set k c).take (k+1)=l.take k++[c]:=by
  have h1:(l.set k c)[k]?=some c:=by rw [List.getElem?_set_self h]
  rw [take_snoc h1,List.take_set_of_le (Nat.le_refl k)]
theorem drop_of {α:Type} {l:List α} {k:Nat} {c:α} (h:l[k]?=some c):l.drop k=c::l.drop (k+1):=by
  obtain ⟨hlt,rfl⟩:=List.getElem?_eq_some_iff.1 h
  exact List.drop_eq_getElem_cons hlt
theorem dropU {α:Type} (l:List α) (n:Nat):List.take (Int.toNat (l.length:Int) - n) (l.drop n)=l.drop n:=by
  rw [Int.toNat_natCast,List.take_of_length_le (by rw [List.length_drop];omega)]
def cnt:List Bool→Nat
  | []=>0
  | b::r=>(if b then 1 else 0)+cnt r
def tkInv (i:Inq) (q:Int) (b:List Int) (w:Int) (e:Int) (g:List Bool) (bs:List (List Int)):Prop:=
  g.length=(tkL i q b w).length∧bs.length=cnt g∧(e - i.1 - (cnt g:Nat)) % 18446744073709551616=0∧(∀ (j:Nat) (x:Itm),g[j]?=some true→(tkL i q b w)[j]?=some x→∃ k:Nat,k < cnt g∧(x.1 - i.1 - k) % 18446744073709551616=0)∧tkGo (tkM i q w) (tkL i q b w) ((tkL i q b w).length+1 - cnt g) e g bs=tkE i q b w
def tkInv2 (i:Inq) (q:Int) (b:List Int) (w:Int) (k:Int) (e:Int) (l:List Itm):Prop:=
  0≤k∧k≤((tkL i q b w).length:Nat)∧l.length≤k.toNat∧e=(tkE i q b w).1∧l++tkK ((tkL i q b w).drop k.toNat) ((tkE i q b w).2.1.drop k.toNat)=tkK (tkL i q b w) (tkE i q b w).2.1
theorem mfind_put (k v q:Int):∀ m:List (Int×Int),(mput m k v).find? (fun x=>x.1==q)=if k=q then some (k,v) else m.find? (fun x=>x.1==q)
  | [] => by
    simp only [mput,List.find?_cons,List.find?_nil]
    by_cases h:k=q
    · rw [if_pos h,beq_iff_eq.2 h]
    · rw [if_neg h,beq_eq_false_iff_ne.2 h]
  | x :: l => by
    have ih:=mfind_put k v q l
    by_cases h1:x.1=k
    · simp only [mput,beq_iff_eq.2 h1,cond_true,List.find?_cons]
      by_cases h:k=q
      · rw [if_pos h,beq_iff_eq.2 h]
      · rw [if_neg h,beq_eq_false_iff_ne.2 h,beq_eq_false_iff_ne.2 (fun e=>h (by rw [← h1,e]))]
    · simp only [mput,beq_eq_false_iff_ne.2 h1,cond_false,List.find?_cons]
      by_cases h2:x.1=q
      · rw [beq_iff_eq.2 h2,if_neg (fun e=>h1 (by rw [h2,e]))]
      · rw [beq_eq_false_iff_ne.2 h2,ih]
theorem mhas_put (m:List (Int×Int)) (k v q:Int):mhas (mput m k v) q=if k=q then true else mhas m q:=by
  unfold mhas
  rw [mfind_put]
  split
  · rfl
  · rfl
theorem mget_put (m:List (Int×Int)) (k v q:Int):mget (mput m k v) q=if k=q then v else mget m q:=by
  unfold mget
  rw [mfind_put]
  split
  · rfl
  · rfl
def mOk (m:List (Int×Int)) (l:List Itm):Prop:=∀ q,mhas m q=true→0≤mget m q∧∃ x,l[(mget m q).toNat]?=some x∧x.1=q
theorem mOk_nil (l:List Itm):mOk [] l:=fun q h=>by cases h
theorem mOk_put {m:List (Int×Int)} {l:List Itm} (h:mOk m l) {i:Int} {x:Itm} (h0:0≤i) (hx:l[i.toNat]?=some x):mOk (mput m x.1 i) l:=fun q hq=>by
  rw [mhas_put] at hq
  rw [mget_put]
  by_cases e:x.1=q
  · rw [if_pos e]
    exact ⟨h0,x,hx,e⟩
  · rw [if_neg e] at hq ⊢
    exact h q hq
theorem mOk_app {m:List (Int×Int)} {l:List Itm} (h:mOk m l) (r:List Itm):mOk m (l++r):=fun q hq=>by
  obtain ⟨h0,x,hx,e⟩:=h q hq
  refine ⟨h0,x,?_,e⟩
  rw [List.getElem?_append_left (List.getElem?_eq_some_iff.1 hx).1,hx]
theorem fpGo_ok {L:List Itm}:∀ (l:List Itm) (i:Int) (m:List (Int×Int)),mOk m L→0≤i→L.drop i.toNat=l→mOk (fpGo i l m) L
  | [],_,_,h,_,_=>h
  | x :: l, i, m, h, h0, hl => by
    have hx:L[i.toNat]?=some x:=by
      have:(L.drop i.toNat)[0]?=some x:=by rw [hl];rfl
      rwa [List.getElem?_drop,Nat.add_zero] at this
    rw [fpGo]
    refine fpGo_ok l (i+1) _ ?_ (by omega) ?_
    · cases hm:mhas m x.1
      · rw [cond_false];exact mOk_put h h0 hx
      · rw [cond_true];exact h
    · rw [drop_of hx] at hl
      rw [show (i+1).toNat=i.toNat+1 by omega]
      exact (List.cons.inj hl).2
theorem fpF_ok (l:List Itm):mOk (fpF l) l:=fpGo_ok l 0 [] (mOk_nil l) (Int.le_refl 0) rfl
theorem tkM_ok (i:Inq) (q:Int) (b:List Int) (w:Int):mOk (tkM i q w) (tkL i q b w):=by
  unfold tkM tkL
  split
  · refine mOk_put (x:=itm q b 0) (mOk_app (fpF_ok i.2.1) _) (by omega) ?_
    rw [show ((i.2.1.length:Nat):Int).toNat=i.2.1.length by omega,List.getElem?_append_right (Nat.le_refl _),Nat.sub_self]
    rfl
  · exact fpF_ok i.2.1
theorem cnt_le:∀ g:List Bool,cnt g≤g.length
  | []=>Nat.le_refl 0
  | b :: r => by
    have:=cnt_le r
    rw [cnt,List.length_cons]
    split <;> omega
theorem cnt_rep:∀ n:Nat,cnt (List.replicate n false)=0
  | 0=>rfl
  | n+1=>by rw [List.replicate_succ,cnt,cnt_rep n];rfl
theorem cnt_set:∀ {g:List Bool} {j:Nat},g[j]?=some false→cnt (g.set j true)=cnt g+1
  | [],_,h=>by simp at h
  | b :: r, 0, h => by
    obtain rfl:b=false:=by simpa using h
    rw [List.set_cons_zero,cnt,cnt,if_pos rfl,if_neg (by decide)]
    omega
  | b :: r, j + 1, h => by
    rw [List.set_cons_succ,cnt,cnt,cnt_set (g:=r) (j:=j) (by simpa using h)]
    omega
theorem wrap_mod (n:Int):(IntKind.i64.wrap n - n) % 18446744073709551616=0:=by
  have e:IntKind.i64.wrap n=if 9223372036854775808≤n % 18446744073709551616 then n % 18446744073709551616 - 18446744073709551616 else n % 18446744073709551616:=by
    unfold IntKind.wrap
    simp only [IntKind.bits,IntKind.signed,Bool.true_and,decide_eq_true_eq,ge_iff_le]
    rfl
  rw [e]
  split <;> omega
end DoorU
abbrev vIt:Sh:=.agg (shOf false tIt)
abbrev lIts:Sh:=.view true tIt
abbrev vIts:Sh:=.view false tIt
abbrev oIts:Sh:=.own tIt 156
abbrev vYs:Sh:=.view false tYs
abbrev oYs:Sh:=.own tYs 22
abbrev vOut:Sh:=.agg (shOf false tOut)
abbrev vIn:Sh:=.agg (shOf false tIn)
abbrev pOut:Sh:=.var 114 (.pair nI (.pair oIts (.pair vYs .unit)))
def S_scl:Spec:=⟨.pair lY .unit,.pair vY .unit,fun (x:List Int×Unit)=>x.1.length≤1000000000000,fun (x:List Int×Unit)=>((x.1,()):List Int×Unit)⟩
def S_cpi:Spec:=⟨.pair aIt .unit,.pair vIt .unit,fun (x:Itm×Unit)=>x.1.2.1.length≤1000000000000,fun (x:Itm×Unit)=>((x.1,()):Itm×Unit)⟩
def S_cpis:Spec:=⟨.pair lIts .unit,.pair oIts .unit,fun (x:List Itm×Unit)=>okIts x.1,fun (x:List Itm×Unit)=>((x.1,()):List Itm×Unit)⟩
def A_cpis (x:List Itm×Unit):Nat→Option LA
  | 0=>some ⟨[11,3],[],.pair nI (.pair oIts .unit),fun (v:Int×List Itm×Unit)=>0≤v.1∧v.1≤(x.1.length:Nat)∧v.2.1.length=x.1.length∧v.2.1.take v.1.toNat=x.1.take v.1.toNat,fun (v:Int×List Itm×Unit)=>((x.1.length:Nat) - v.1).toNat⟩
  | _=>none
def S_cpbs:Spec:=⟨.pair lYs .unit,.pair oYs .unit,fun (x:List (List Int)×Unit)=>okBs x.1,fun (x:List (List Int)×Unit)=>((x.1,()):List (List Int)×Unit)⟩
def A_cpbs (x:List (List Int)×Unit):Nat→Option LA
  | 0=>some ⟨[11,3],[],.pair nI (.pair oYs .unit),fun (v:Int×List (List Int)×Unit)=>0≤v.1∧v.1≤(x.1.length:Nat)∧v.2.1.length=x.1.length∧v.2.1.take v.1.toNat=x.1.take v.1.toNat,fun (v:Int×List (List Int)×Unit)=>((x.1.length:Nat) - v.1).toNat⟩
  | _=>none
def S_num:Spec:=⟨.pair pOut (.pair lY (.pair nI .unit)),.pair vIt (.pair pOut .unit),fun (x:Ouq×List Int×Int×Unit)=>x.1.2.1.length≤2000000000∧x.2.1.length≤big,fun (x:Ouq×List Int×Int×Unit)=>((itm x.1.1 x.2.1 x.2.2.1,(i64 (x.1.1+1),x.1.2.1++[itm x.1.1 x.2.1 x.2.2.1],x.1.2.2.1,()),()):Itm×Ouq×Unit)⟩
def S_lsend:Spec:=⟨.pair aOut (.pair lY (.pair nI (.pair nI .unit))),.pair (.tup (.pair vOut (.pair vIts .unit))) .unit,fun (x:Ouq×List Int×Int×Int×Unit)=>okOut x.1∧x.2.1.length≤big,fun (x:Ouq×List Int×Int×Int×Unit)=>((sendF x.1 x.2.1 x.2.2.1 x.2.2.2.1,()):(Ouq×List Itm×Unit)×Unit)⟩
def S_lack:Spec:=⟨.pair aOut (.pair nI (.pair nI (.pair nI .unit))),.pair (.tup (.pair vOut (.pair vIts .unit))) .unit,fun (x:Ouq×Int×Int×Int×Unit)=>okOut x.1,fun (x:Ouq×Int×Int×Int×Unit)=>((ackF x.1 x.2.1 x.2.2.1 x.2.2.2.1,()):(Ouq×List Itm×Unit)×Unit)⟩
def A_lack (x:Ouq×Int×Int×Int×Unit):Nat→Option LA
  | 0=>some ⟨[21,10],[(2010,tIt,156)],.pair nI (.pair (.var 114 (.pair nI (.pair oIts (.pair vYs .unit)))) .unit),fun (v:Int×Ouq×Unit)=>0≤v.1∧v.1≤(x.1.2.1.length:Nat)∧v.2.1.1=x.1.1∧v.2.1.2.1=ackS (x.1.2.1.take v.1.toNat) x.2.1∧v.2.1.2.2.1=[],fun (v:Int×Ouq×Unit)=>((x.1.2.1.length:Nat) - v.1).toNat⟩
  | 1=>some ⟨[14,10,13],[(13,tIt,156)],.pair nI (.pair (.var 114 (.pair nI (.pair oIts (.pair vYs .unit)))) (.pair oIts .unit)),fun (v:Int×Ouq×List Itm×Unit)=>0≤v.1∧v.1≤(x.1.2.2.1.length:Nat)∧v.2.1.2.1.length≤big+v.1.toNat∧v.2.2.1.length≤v.1.toNat∧v.2.1.2.2.1=[]∧ackF x.1 x.2.1 x.2.2.1 x.2.2.2.1=ackGo x.2.2.1 x.2.2.2.1 v.2.1.1 v.2.1.2.1 v.2.2.1 (x.1.2.2.1.drop v.1.toNat),fun (v:Int×Ouq×List Itm×Unit)=>((x.1.2.2.1.length:Nat) - v.1).toNat⟩
  | _=>none
def S_fp:Spec:=⟨.pair lIts .unit,.pair (.mpp .i64 .i64) .unit,fun (x:List Itm×Unit)=>x.1.length≤2000000000,fun (x:List Itm×Unit)=>((fpF x.1,()):List (Int×Int)×Unit)⟩
def A_fp (x:List Itm×Unit):Nat→Option LA
  | 0=>some ⟨[14,3],[],.pair nI (.pair (.mpp .i64 .i64) .unit),fun (v:Int×List (Int×Int)×Unit)=>0≤v.1∧v.1≤(x.1.length:Nat)∧fpGo v.1 (x.1.drop v.1.toNat) v.2.1=fpF x.1,fun (v:Int×List (Int×Int)×Unit)=>((x.1.length:Nat) - v.1).toNat⟩
  | _=>none
abbrev oBl:Sh:=.own .bool 4
def S_ltake:Spec:=⟨.pair aIn (.pair nI (.pair lY (.pair nI .unit))),.pair (.tup (.pair vIn (.pair vYs (.pair nI .unit)))) .unit,fun (x:Inq×Int×List Int×Int×Unit)=>okIn x.1∧x.2.2.1.length≤big,fun (x:Inq×Int×List Int×Int×Unit)=>((takF x.1 x.2.1 x.2.2.1 x.2.2.2.1,()):(Inq×List (List Int)×Int×Unit)×Unit)⟩
def A_ltake (x:Inq×Int×List Int×Int×Unit):Nat→Option LA
  | 0=>some ⟨[15,16,17],[(2015,tIt,156),(17,tYs,22)],.pair (.var 118 (.pair nI (.pair oIts .unit))) (.pair oBl (.pair oYs .unit)),fun (v:(Int×List Itm×Unit)×List Bool×List (List Int)×Unit)=>v.1.2.1.length=0∧tkInv x.1 x.2.1 x.2.2.1 x.2.2.2.1 v.1.1 v.2.1 v.2.2.1,fun (v:(Int×List Itm×Unit)×List Bool×List (List Int)×Unit)=>(tkL x.1 x.2.1 x.2.2.1 x.2.2.2.1).length+1 - cnt v.2.1⟩
  | 1=>some ⟨[92,15],[],.pair nI (.pair (.var 118 (.pair nI (.pair oIts .unit))) .unit),fun (v:Int×(Int×List Itm×Unit)×Unit)=>tkInv2 x.1 x.2.1 x.2.2.1 x.2.2.2.1 v.1 v.2.1.1 v.2.1.2.1,fun (v:Int×(Int×List Itm×Unit)×Unit)=>((tkL x.1 x.2.1 x.2.2.1 x.2.2.2.1).length - v.1).toNat⟩
  | _=>none
theorem vc_scl:VC Tryz.prog Tryz.f28 (bodyOf Tryz.f28) S_scl [] (fun _ _=>none)=(∀ (x:List Int×Unit),List.length x.fst≤(1000000000000:Nat)→
  List.length x.fst≤(9223372036854775807:Nat)→
  (List.length x.fst=(0:Nat)→
  ([],())=x)∧((0:Nat)+List.length x.fst)*(1:Nat)≤(140737488351232:Nat)∧([]++x.fst,())=x):=by kernel_rfl
theorem en_scl (us:Array Value) (u:World):(callFunc 28 us).run Tryz.prog u=.ok (.enter 28 us) u:=by kernel_rfl
theorem sc_scl:SC Tryz.prog 28 S_scl:=by
  refine SC.of Tryz.func28 (c:=bodyOf Tryz.f28) (by kernel_rfl) (by kernel_rfl) (fun x=>(by decide:(1:Nat)≤Tryz.f28.ntmps)) DOk.nil (Eq.mpr vc_scl ?_)
  rintro ⟨l,⟨⟩⟩ h -
  dsimp only at h ⊢
  refine ⟨fun h0=>?_,by omega,by rw [List.nil_append]⟩
  rw [List.eq_nil_of_length_eq_zero h0]
theorem vc_cpi:VC Tryz.prog Tryz.f90 (bodyOf Tryz.f90) S_cpi [(28,S_scl)] (fun _ _=>none)=(∀ (x:(Int×List Int×Int×Unit)×Unit),List.length x.1.snd.fst≤(1000000000000:Nat)→
  List.length x.1.snd.fst≤(9223372036854775807:Nat)→
  List.length x.1.snd.fst≤(1000000000000:Nat)∧x=x):=by kernel_rfl
theorem en_cpi (us:Array Value) (u:World):(callFunc 90 us).run Tryz.prog u=.ok (.enter 90 us) u:=by kernel_rfl
theorem sc_cpi:SC Tryz.prog 90 S_cpi:=by
  refine SC.of Tryz.func90 (c:=bodyOf Tryz.f90) (by kernel_rfl) (by kernel_rfl) (fun x=>(by decide:(1:Nat)≤Tryz.f90.ntmps)) (DOk.cons sc_scl en_scl DOk.nil) (Eq.mpr vc_cpi ?_)
  rintro x h -
  exact ⟨h,rfl⟩
theorem vc_cpis:VC Tryz.prog Tryz.f93 (bodyOf Tryz.f93) S_cpis [(90,S_cpi)] A_cpis=(∀ (x:List (Int×List Int×Int×Unit)×Unit),okIts x.fst→
  List.length x.fst≤(9223372036854775807:Nat)→
  List.length x.fst≤(9223372036854775807:Nat)→
  (0:Int)≤(↑(List.length x.fst):Int)∧(↑(List.length x.fst):Int)≤(↑(List.length x.fst):Int)∧(40:Int)*(↑(List.length x.fst):Int)≤(281474976710656:Int)∧(↑(List.length x.fst):Int)≤(140737488351232:Int)∧(List.length x.fst≤(9223372036854775807:Nat)→
  ((0:Int)≤(0:Int)∧(0:Int)≤(↑(List.length x.fst):Int)∧List.length (List.replicate (Int.toNat (↑(List.length x.fst):Int)) (((0:Int),[],(0:Int),()):Itm))=List.length x.fst∧List.take (Int.toNat (0:Int)) (List.replicate (Int.toNat (↑(List.length x.fst):Int)) (((0:Int),[],(0:Int),()):Itm))=List.take (Int.toNat (0:Int)) x.fst)∧∀ (v:Int×List (Int×List Int×Int×Unit)×Unit),(0:Int)≤v.fst∧v.fst≤(↑(List.length x.fst):Int)∧List.length v.2.fst=List.length x.fst∧List.take (Int.toNat v.fst) v.2.fst=List.take (Int.toNat v.fst) x.fst→
  bif decide (v.fst < (↑(List.length x.fst):Int)) then (0:Int)≤v.fst∧v.fst < (↑(List.length x.fst):Int)∧∀ (c0:Int×List Int×Int×Unit),x.fst[Int.toNat v.fst]?=some c0→
  List.length c0.2.fst≤(1000000000000:Nat)∧(0:Int)≤v.fst∧v.fst < (↑(List.length v.2.fst):Int)∧Int.toNat v.fst < List.length v.2.fst∧∀ (x0:Int×List Int×Int×Unit),v.2.fst[Int.toNat v.fst]?=some x0→
  ((0:Int)≤IntKind.wrap IntKind.i64 (v.fst+(1:Int))∧IntKind.wrap IntKind.i64 (v.fst+(1:Int))≤(↑(List.length x.fst):Int)∧List.length (List.set v.2.fst (Int.toNat v.fst) c0)=List.length x.fst∧List.take (Int.toNat (IntKind.wrap IntKind.i64 (v.fst+(1:Int)))) (List.set v.2.fst (Int.toNat v.fst) c0)=List.take (Int.toNat (IntKind.wrap IntKind.i64 (v.fst+(1:Int)))) x.fst)∧Int.toNat ((↑(List.length x.fst):Int) - IntKind.wrap IntKind.i64 (v.fst+(1:Int))) < Int.toNat ((↑(List.length x.fst):Int) - v.fst) else v.2=x)):=by kernel_rfl
theorem en_cpis (us:Array Value) (u:World):(callFunc 93 us).run Tryz.prog u=.ok (.enter 93 us) u:=by kernel_rfl
theorem sc_cpis:SC Tryz.prog 93 S_cpis:=by
  refine SC.of Tryz.func93 (c:=bodyOf Tryz.f93) (by kernel_rfl) (by kernel_rfl) (fun x=>(by decide:(1:Nat)≤Tryz.f93.ntmps)) (DOk.cons sc_cpi en_cpi DOk.nil) (Eq.mpr vc_cpis ?_)
  rintro ⟨l,⟨⟩⟩ ⟨h1,h2⟩ - -
  dsimp only at h1 h2 ⊢
  have hb:l.length≤1000000000:=h1
  refine ⟨by omega,Int.le_refl _,by omega,by omega,fun _=>⟨⟨Int.le_refl 0,by omega,by rw [List.length_replicate];omega,rfl⟩,?_⟩⟩
  rintro ⟨i,r,⟨⟩⟩ ⟨q0,q1,hl,ht⟩
  dsimp only at q0 q1 hl ht ⊢
  have wi:IntKind.i64.wrap (i+1)=i+1:=IntWalk.i64_in _ (by omega)
  by_cases hi:i < (l.length:Int)
  · rw [decide_eq_true hi,cond_true,wi]
    refine ⟨q0,hi,fun c hc=>⟨?_,q0,by omega,by omega,fun x0 _=>⟨⟨by omega,by omega,by rw [List.length_set,hl],?_⟩,by omega⟩⟩⟩
    · have hbc:c.2.1.length≤1000000000:=h2 c (List.mem_of_getElem? hc)
      omega
    · rw [show (i+1).toNat=i.toNat+1 by omega,take_snoc hc,take_set (by omega),ht]
  · rw [decide_eq_false hi,cond_false]
    obtain rfl:i=(l.length:Int):=by omega
    rw [show ((l.length:Nat):Int).toNat=l.length by omega,List.take_length,← hl,List.take_length] at ht
    rw [ht]
theorem vc_cpbs:VC Tryz.prog Tryz.f92 (bodyOf Tryz.f92) S_cpbs [(28,S_scl)] A_cpbs=(∀ (x:List (List Int)×Unit),okBs x.fst→
  List.length x.fst≤(9223372036854775807:Nat)→
  List.length x.fst≤(9223372036854775807:Nat)→
  (0:Int)≤(↑(List.length x.fst):Int)∧(↑(List.length x.fst):Int)≤(↑(List.length x.fst):Int)∧(24:Int)*(↑(List.length x.fst):Int)≤(281474976710656:Int)∧(↑(List.length x.fst):Int)≤(140737488351232:Int)∧(List.length x.fst≤(9223372036854775807:Nat)→
  ((0:Int)≤(0:Int)∧(0:Int)≤(↑(List.length x.fst):Int)∧List.length (List.replicate (Int.toNat (↑(List.length x.fst):Int)) ([]:List Int))=List.length x.fst∧List.take (Int.toNat (0:Int)) (List.replicate (Int.toNat (↑(List.length x.fst):Int)) ([]:List Int))=List.take (Int.toNat (0:Int)) x.fst)∧∀ (v:Int×List (List Int)×Unit),(0:Int)≤v.fst∧v.fst≤(↑(List.length x.fst):Int)∧List.length v.2.fst=List.length x.fst∧List.take (Int.toNat v.fst) v.2.fst=List.take (Int.toNat v.fst) x.fst→
  bif decide (v.fst < (↑(List.length x.fst):Int)) then (0:Int)≤v.fst∧v.fst < (↑(List.length x.fst):Int)∧∀ (c0:List Int),x.fst[Int.toNat v.fst]?=some c0→
  List.length c0≤(1000000000000:Nat)∧(0:Int)≤v.fst∧v.fst < (↑(List.length v.2.fst):Int)∧Int.toNat v.fst < List.length v.2.fst∧∀ (x0:List Int),v.2.fst[Int.toNat v.fst]?=some x0→
  ((0:Int)≤IntKind.wrap IntKind.i64 (v.fst+(1:Int))∧IntKind.wrap IntKind.i64 (v.fst+(1:Int))≤(↑(List.length x.fst):Int)∧List.length (List.set v.2.fst (Int.toNat v.fst) c0)=List.length x.fst∧List.take (Int.toNat (IntKind.wrap IntKind.i64 (v.fst+(1:Int)))) (List.set v.2.fst (Int.toNat v.fst) c0)=List.take (Int.toNat (IntKind.wrap IntKind.i64 (v.fst+(1:Int)))) x.fst)∧Int.toNat ((↑(List.length x.fst):Int) - IntKind.wrap IntKind.i64 (v.fst+(1:Int))) < Int.toNat ((↑(List.length x.fst):Int) - v.fst) else v.2=x)):=by kernel_rfl
theorem en_cpbs (us:Array Value) (u:World):(callFunc 92 us).run Tryz.prog u=.ok (.enter 92 us) u:=by kernel_rfl
theorem sc_cpbs:SC Tryz.prog 92 S_cpbs:=by
  refine SC.of Tryz.func92 (c:=bodyOf Tryz.f92) (by kernel_rfl) (by kernel_rfl) (fun x=>(by decide:(1:Nat)≤Tryz.f92.ntmps)) (DOk.cons sc_scl en_scl DOk.nil) (Eq.mpr vc_cpbs ?_)
  rintro ⟨l,⟨⟩⟩ ⟨h1,h2⟩ - -
  dsimp only at h1 h2 ⊢
  have hb:l.length≤1000000000:=h1
  refine ⟨by omega,Int.le_refl _,by omega,by omega,fun _=>⟨⟨Int.le_refl 0,by omega,by rw [List.length_replicate];omega,rfl⟩,?_⟩⟩
  rintro ⟨i,r,⟨⟩⟩ ⟨q0,q1,hl,ht⟩
  dsimp only at q0 q1 hl ht ⊢
  have wi:IntKind.i64.wrap (i+1)=i+1:=IntWalk.i64_in _ (by omega)
  by_cases hi:i < (l.length:Int)
  · rw [decide_eq_true hi,cond_true,wi]
    refine ⟨q0,hi,fun c hc=>⟨?_,q0,by omega,by omega,fun x0 _=>⟨⟨by omega,by omega,by rw [List.length_set,hl],?_⟩,by omega⟩⟩⟩
    · have hbc:c.length≤1000000000:=h2 c (List.mem_of_getElem? hc)
      omega
    · rw [show (i+1).toNat=i.toNat+1 by omega,take_snoc hc,take_set (by omega),ht]
  · rw [decide_eq_false hi,cond_false]
    obtain rfl:i=(l.length:Int):=by omega
    rw [show ((l.length:Nat):Int).toNat=l.length by omega,List.take_length,← hl,List.take_length] at ht
    rw [ht]
theorem vc_num:VC Tryz.prog Tryz.f91 (bodyOf Tryz.f91) S_num [(28,S_scl),(90,S_cpi)] (fun _ _=>none)=(∀ (x:(Int×List (Int×List Int×Int×Unit)×List (List Int)×Unit)×List Int×Int×Unit),List.length x.1.snd.fst≤(2000000000:Nat)∧List.length x.2.fst≤big→
  List.length x.1.snd.fst≤(9223372036854775807:Nat)→
  List.length x.1.snd.snd.fst≤(9223372036854775807:Nat)→
  List.length x.2.fst≤(9223372036854775807:Nat)→
  List.length x.2.fst≤(1000000000000:Nat)∧(List.length x.1.snd.fst+List.length [(x.1.fst,x.2)])*(40:Nat)≤(140737488351232:Nat)∧List.length x.2.fst≤(1000000000000:Nat)∧((x.1.fst,x.2),(IntKind.wrap IntKind.i64 (x.1.fst+(1:Int)),x.1.snd.fst++[(x.1.fst,x.2)],x.1.snd.snd),())=(itm x.1.fst x.2.fst x.2.snd.fst,(i64 (x.1.fst+(1:Int)),x.1.snd.fst++[itm x.1.fst x.2.fst x.2.snd.fst],x.1.snd.snd),())):=by kernel_rfl
theorem en_num (us:Array Value) (u:World):(callFunc 91 us).run Tryz.prog u=.ok (.enter 91 us) u:=by kernel_rfl
theorem sc_num:SC Tryz.prog 91 S_num:=by
  refine SC.of Tryz.func91 (c:=bodyOf Tryz.f91) (by kernel_rfl) (by kernel_rfl) (fun x=>(by decide:(3:Nat)≤Tryz.f91.ntmps)) (DOk.cons sc_scl en_scl (DOk.cons sc_cpi en_cpi DOk.nil)) (Eq.mpr vc_num ?_)
  rintro ⟨⟨n,s,w,⟨⟩⟩,b,now,⟨⟩⟩ ⟨h1,h2⟩ - - -
  dsimp only at h1 h2 ⊢
  have h3:b.length≤1000000000:=h2
  refine ⟨by omega,?_,by omega,rfl⟩
  rw [List.length_cons,List.length_nil]
  omega
theorem vc_lsend:VC Tryz.prog Tryz.f106 (bodyOf Tryz.f106) S_lsend [(28,S_scl),(93,S_cpis),(92,S_cpbs),(91,S_num)] (fun _ _=>none)=(∀ (x:(Int×List (Int×List Int×Int×Unit)×List (List Int)×Unit)×List Int×Int×Int×Unit),okOut x.1∧List.length x.2.fst≤big→
  List.length x.1.snd.fst≤(9223372036854775807:Nat)→
  List.length x.1.snd.snd.fst≤(9223372036854775807:Nat)→
  List.length x.2.fst≤(9223372036854775807:Nat)→
  okIts x.1.snd.fst∧okBs x.1.snd.snd.fst∧bif decide (x.2.snd.fst≤(↑(List.length x.1.snd.fst):Int)) then List.length x.2.fst≤(1000000000000:Nat)∧(List.length x.1.snd.snd.fst+List.length [x.2.fst])*(24:Nat)≤(140737488351232:Nat)∧(((x.1.fst,x.1.snd.fst,x.1.snd.snd.fst++[x.2.fst],()),[],()),())=(sendF x.1 x.2.fst x.2.snd.fst x.2.snd.snd.fst,()) else (List.length x.1.snd.fst≤(2000000000:Nat)∧List.length x.2.fst≤big)∧(((i64 (x.1.fst+(1:Int)),x.1.snd.fst++[itm x.1.fst x.2.fst x.2.snd.snd.fst],x.1.snd.snd),[(x.1.fst,x.2.fst,x.2.snd.snd)],()),())=(sendF x.1 x.2.fst x.2.snd.fst x.2.snd.snd.fst,())):=by kernel_rfl
theorem en_lsend (us:Array Value) (u:World):(callFunc 106 us).run Tryz.prog u=.ok (.enter 106 us) u:=by kernel_rfl
theorem sc_lsend:SC Tryz.prog 106 S_lsend:=by
  refine SC.of Tryz.func106 (c:=bodyOf Tryz.f106) (by kernel_rfl) (by kernel_rfl) (fun x=>(by decide:(4:Nat)≤Tryz.f106.ntmps)) (DOk.cons sc_scl en_scl (DOk.cons sc_cpis en_cpis (DOk.cons sc_cpbs en_cpbs (DOk.cons sc_num en_num DOk.nil)))) (Eq.mpr vc_lsend ?_)
  rintro ⟨⟨n,s,q,⟨⟩⟩,b,w,now,⟨⟩⟩ ⟨⟨h1,h2⟩,h3⟩ - - -
  dsimp only at h1 h2 h3 ⊢
  refine ⟨h1,h2,?_⟩
  have e1:s.length≤1000000000:=h1.1
  have e2:q.length≤1000000000:=h2.1
  have e3:b.length≤1000000000:=h3
  by_cases hw:w≤(s.length:Int)
  · rw [decide_eq_true hw,cond_true]
    refine ⟨by omega,by rw [List.length_cons,List.length_nil];omega,?_⟩
    rw [sendF,if_pos hw]
  · rw [decide_eq_false hw,cond_false]
    refine ⟨⟨by omega,h3⟩,?_⟩
    rw [sendF,if_neg hw]
    rfl
theorem vc_lack:VC Tryz.prog Tryz.f55 (bodyOf Tryz.f55) S_lack [(90,S_cpi),(92,S_cpbs),(91,S_num)] A_lack=(∀ (x:(Int×List (Int×List Int×Int×Unit)×List (List Int)×Unit)×Int×Int×Int×Unit),okOut x.1→
  List.length x.1.snd.fst≤(9223372036854775807:Nat)→
  List.length x.1.snd.snd.fst≤(9223372036854775807:Nat)→
  List.length x.1.snd.fst≤(9223372036854775807:Nat)→
  ((0:Int)≤(0:Int)∧(0:Int)≤(↑(List.length x.1.snd.fst):Int)∧x.1.fst=x.1.fst∧[]=ackS (List.take (Int.toNat (0:Int)) x.1.snd.fst) x.2.fst∧([]:List (List Int))=[])∧∀ (v:Int×(Int×List (Int×List Int×Int×Unit)×List (List Int)×Unit)×Unit),(0:Int)≤v.fst∧v.fst≤(↑(List.length x.1.snd.fst):Int)∧v.2.fst.fst=x.1.fst∧v.2.fst.snd.fst=ackS (List.take (Int.toNat v.fst) x.1.snd.fst) x.2.fst∧v.2.fst.snd.snd.fst=[]→
  bif decide (v.fst < (↑(List.length x.1.snd.fst):Int)) then (0:Int)≤v.fst∧v.fst < (↑(List.length x.1.snd.fst):Int)∧∀ (c0:Int×List Int×Int×Unit),x.1.snd.fst[Int.toNat v.fst]?=some c0→
  bif decide (x.2.fst≤c0.fst) then List.length c0.2.fst≤(1000000000000:Nat)∧(List.length v.2.fst.snd.fst+List.length [c0])*(40:Nat)≤(140737488351232:Nat)∧((0:Int)≤IntKind.wrap IntKind.i64 (v.fst+(1:Int))∧IntKind.wrap IntKind.i64 (v.fst+(1:Int))≤(↑(List.length x.1.snd.fst):Int)∧v.2.fst.fst=x.1.fst∧v.2.fst.snd.fst++[c0]=ackS (List.take (Int.toNat (IntKind.wrap IntKind.i64 (v.fst+(1:Int)))) x.1.snd.fst) x.2.fst∧v.2.fst.snd.snd.fst=[])∧Int.toNat ((↑(List.length x.1.snd.fst):Int) - IntKind.wrap IntKind.i64 (v.fst+(1:Int))) < Int.toNat ((↑(List.length x.1.snd.fst):Int) - v.fst) else ((0:Int)≤IntKind.wrap IntKind.i64 (v.fst+(1:Int))∧IntKind.wrap IntKind.i64 (v.fst+(1:Int))≤(↑(List.length x.1.snd.fst):Int)∧v.2.fst.fst=x.1.fst∧v.2.fst.snd.fst=ackS (List.take (Int.toNat (IntKind.wrap IntKind.i64 (v.fst+(1:Int)))) x.1.snd.fst) x.2.fst∧v.2.fst.snd.snd.fst=[])∧Int.toNat ((↑(List.length x.1.snd.fst):Int) - IntKind.wrap IntKind.i64 (v.fst+(1:Int))) < Int.toNat ((↑(List.length x.1.snd.fst):Int) - v.fst) else ((0:Int)≤(0:Int)∧(0:Int)≤(↑(List.length x.1.snd.snd.fst):Int)∧List.length v.2.fst.snd.fst≤big+Int.toNat (0:Int)∧List.length ([]:List Itm)≤Int.toNat (0:Int)∧v.2.fst.snd.snd.fst=[]∧ackF x.1 x.2.fst x.2.snd.fst x.2.snd.snd.fst=ackGo x.2.snd.fst x.2.snd.snd.fst v.2.fst.fst v.2.fst.snd.fst [] (List.drop (Int.toNat (0:Int)) x.1.snd.snd.fst))∧∀ (v:Int×(Int×List (Int×List Int×Int×Unit)×List (List Int)×Unit)×List (Int×List Int×Int×Unit)×Unit),(0:Int)≤v.fst∧v.fst≤(↑(List.length x.1.snd.snd.fst):Int)∧List.length v.2.fst.snd.fst≤big+Int.toNat v.fst∧List.length v.2.snd.fst≤Int.toNat v.fst∧v.2.fst.snd.snd.fst=[]∧ackF x.1 x.2.fst x.2.snd.fst x.2.snd.snd.fst=ackGo x.2.snd.fst x.2.snd.snd.fst v.2.fst.fst v.2.fst.snd.fst v.2.snd.fst (List.drop (Int.toNat v.fst) x.1.snd.snd.fst)→
  List.length x.1.snd.snd.fst≤(9223372036854775807:Nat)→
  bif decide (v.fst < (↑(List.length x.1.snd.snd.fst):Int)) then bif decide ((↑(List.length v.2.fst.snd.fst):Int) < x.2.snd.fst) then (0:Int)≤v.fst∧v.fst < (↑(List.length x.1.snd.snd.fst):Int)∧∀ (c0:List Int),x.1.snd.snd.fst[Int.toNat v.fst]?=some c0→
  (List.length v.2.fst.snd.fst≤(2000000000:Nat)∧List.length c0≤big)∧(List.length v.2.snd.fst+List.length [(v.2.fst.fst,c0,x.2.snd.snd)])*(40:Nat)≤(140737488351232:Nat)∧((0:Int)≤IntKind.wrap IntKind.i64 (v.fst+(1:Int))∧IntKind.wrap IntKind.i64 (v.fst+(1:Int))≤(↑(List.length x.1.snd.snd.fst):Int)∧List.length (v.2.fst.snd.fst++[itm v.2.fst.fst c0 x.2.snd.snd.fst])≤big+Int.toNat (IntKind.wrap IntKind.i64 (v.fst+(1:Int)))∧List.length (v.2.snd.fst++[(v.2.fst.fst,c0,x.2.snd.snd)])≤Int.toNat (IntKind.wrap IntKind.i64 (v.fst+(1:Int)))∧v.2.fst.snd.snd.fst=[]∧ackF x.1 x.2.fst x.2.snd.fst x.2.snd.snd.fst=ackGo x.2.snd.fst x.2.snd.snd.fst (i64 (v.2.fst.fst+(1:Int))) (v.2.fst.snd.fst++[itm v.2.fst.fst c0 x.2.snd.snd.fst]) (v.2.snd.fst++[(v.2.fst.fst,c0,x.2.snd.snd)]) (List.drop (Int.toNat (IntKind.wrap IntKind.i64 (v.fst+(1:Int)))) x.1.snd.snd.fst))∧Int.toNat ((↑(List.length x.1.snd.snd.fst):Int) - IntKind.wrap IntKind.i64 (v.fst+(1:Int))) < Int.toNat ((↑(List.length x.1.snd.snd.fst):Int) - v.fst) else (0:Int)≤v.fst∧v.fst≤(↑(List.length x.1.snd.snd.fst):Int)∧(↑(List.length x.1.snd.snd.fst):Int)≤(↑(List.length x.1.snd.snd.fst):Int)∧okBs (List.take (Int.toNat (↑(List.length x.1.snd.snd.fst):Int) - Int.toNat v.fst) (List.drop (Int.toNat v.fst) x.1.snd.snd.fst))∧(((v.2.fst.fst,v.2.fst.snd.fst,List.take (Int.toNat (↑(List.length x.1.snd.snd.fst):Int) - Int.toNat v.fst) (List.drop (Int.toNat v.fst) x.1.snd.snd.fst),()),v.2.snd),())=(ackF x.1 x.2.fst x.2.snd.fst x.2.snd.snd.fst,()) else (0:Int)≤v.fst∧v.fst≤(↑(List.length x.1.snd.snd.fst):Int)∧(↑(List.length x.1.snd.snd.fst):Int)≤(↑(List.length x.1.snd.snd.fst):Int)∧okBs (List.take (Int.toNat (↑(List.length x.1.snd.snd.fst):Int) - Int.toNat v.fst) (List.drop (Int.toNat v.fst) x.1.snd.snd.fst))∧(((v.2.fst.fst,v.2.fst.snd.fst,List.take (Int.toNat (↑(List.length x.1.snd.snd.fst):Int) - Int.toNat v.fst) (List.drop (Int.toNat v.fst) x.1.snd.snd.fst),()),v.2.snd),())=(ackF x.1 x.2.fst x.2.snd.fst x.2.snd.snd.fst,())):=by kernel_rfl
theorem en_lack (us:Array Value) (u:World):(callFunc 55 us).run Tryz.prog u=.ok (.enter 55 us) u:=by kernel_rfl
theorem sc_lack:SC Tryz.prog 55 S_lack:=by
  refine SC.of Tryz.func55 (c:=bodyOf Tryz.f55) (by kernel_rfl) (by kernel_rfl) (fun x=>(by decide:(4:Nat)≤Tryz.f55.ntmps)) (DOk.cons sc_cpi en_cpi (DOk.cons sc_cpbs en_cpbs (DOk.cons sc_num en_num DOk.nil))) (Eq.mpr vc_lack ?_)
  rintro ⟨⟨nx,l,q,⟨⟩⟩,n,w,now,⟨⟩⟩ ⟨⟨h1,h1b⟩,⟨h2,h2b⟩⟩ - - -
  dsimp only at h1 h1b h2 h2b ⊢
  have e1:l.length≤1000000000:=h1
  have e2:q.length≤1000000000:=h2
  refine ⟨⟨Int.le_refl 0,by omega,rfl,rfl,rfl⟩,?_⟩
  rintro ⟨i,⟨o1,o2,o3,⟨⟩⟩,⟨⟩⟩ ⟨q0,q1,ho1,ho2,ho3⟩
  dsimp only at q0 q1 ho1 ho2 ho3
  subst ho1
  subst ho2
  subst ho3
  dsimp only
  have wi:IntKind.i64.wrap (i+1)=i+1:=IntWalk.i64_in _ (by omega)
  have al:(ackS (l.take i.toNat) n).length≤i.toNat:=by
    have:=List.length_filter_le (fun x:Itm=>decide (n≤x.1)) (l.take i.toNat)
    rw [List.length_take] at this
    show (List.filter _ _).length≤_
    omega
  by_cases hi:i < (l.length:Int)
  · rw [decide_eq_true hi,cond_true,wi]
    refine ⟨q0,hi,fun c hc=>?_⟩
    have hbc:c.2.1.length≤1000000000:=h1b c (List.mem_of_getElem? hc)
    have hs:ackS (l.take (i+1).toNat) n=ackS (l.take i.toNat) n++(if n≤c.1 then [c] else []):=by
      rw [show (i+1).toNat=i.toNat+1 by omega,take_snoc hc]
      simp only [ackS,List.filter_append,List.filter_cons,List.filter_nil,decide_eq_true_eq]
    rw [hs]
    by_cases hn:n≤c.1
    · rw [decide_eq_true hn,cond_true,if_pos hn]
      exact ⟨by omega,by rw [List.length_cons,List.length_nil];omega,⟨by omega,by omega,rfl,rfl,rfl⟩,by omega⟩
    · rw [decide_eq_false hn,cond_false,if_neg hn,List.append_nil]
      exact ⟨⟨by omega,by omega,rfl,rfl,rfl⟩,by omega⟩
  rw [decide_eq_false hi,cond_false]
  obtain rfl:i=(l.length:Int):=by omega
  rw [show ((l.length:Nat):Int).toNat=l.length by omega,List.take_length] at al ⊢
  refine ⟨⟨Int.le_refl 0,by omega,by show _≤1000000000+_;omega,Nat.zero_le _,rfl,rfl⟩,?_⟩
  rintro ⟨k,⟨m,s,z,⟨⟩⟩,t,⟨⟩⟩ ⟨k0,k1,k2,k3,k4,k5⟩ -
  dsimp only at k0 k1 k2 k3 k4 k5 ⊢
  have k2':s.length≤1000000000+k.toNat:=k2
  have wk:IntKind.i64.wrap (k+1)=k+1:=IntWalk.i64_in _ (by omega)
  subst k4
  have fin:(k < (q.length:Int)→¬ (s.length:Int) < w)→(((m,s,List.take (Int.toNat (q.length:Int) - k.toNat) (q.drop k.toNat),()),t,()),())=(ackF (o1,l,q,()) n w now,()):=fun hh=>by
    rw [dropU,k5]
    by_cases hk:k < (q.length:Int)
    · have hlt:k.toNat < q.length:=by omega
      rw [List.drop_eq_getElem_cons hlt,ackGo,if_neg (hh hk)]
    · rw [List.drop_eq_nil_of_le (by omega),ackGo]
  have okb:okBs (List.take (Int.toNat (q.length:Int) - k.toNat) (q.drop k.toNat)):=by
    rw [dropU]
    exact ⟨by rw [List.length_drop];show _≤1000000000;omega,fun x hx=>h2b x (List.mem_of_mem_drop hx)⟩
  by_cases hk:k < (q.length:Int)
  · rw [decide_eq_true hk,cond_true]
    by_cases hw:(s.length:Int) < w
    · rw [decide_eq_true hw,cond_true,wk]
      refine ⟨k0,hk,fun c hc=>?_⟩
      have hbc:c.length≤big:=h2b c (List.mem_of_getElem? hc)
      refine ⟨⟨by omega,hbc⟩,by rw [List.length_cons,List.length_nil];omega,⟨by omega,by omega,?_,?_,rfl,?_⟩,by omega⟩
      · rw [List.length_append,List.length_cons,List.length_nil]
        show _≤1000000000+_
        omega
      · rw [List.length_append,List.length_cons,List.length_nil]
        omega
      · rw [k5,drop_of hc,ackGo,if_pos hw,show (k+1).toNat=k.toNat+1 by omega]
        rfl
    · rw [decide_eq_false hw,cond_false]
      exact ⟨k0,k1,Int.le_refl _,okb,fin fun _=>hw⟩
  · rw [decide_eq_false hk,cond_false]
    exact ⟨k0,k1,Int.le_refl _,okb,fin fun h=>absurd h hk⟩
theorem vc_fp:VC Tryz.prog Tryz.f94 (bodyOf Tryz.f94) S_fp [] A_fp=(∀ (x:List (Int×List Int×Int×Unit)×Unit),List.length x.fst≤(2000000000:Nat)→
  List.length x.fst≤(9223372036854775807:Nat)→
  List.length x.fst≤(9223372036854775807:Nat)→
  List.length x.fst≤(9223372036854775807:Nat)→
  ((0:Int)≤(0:Int)∧(0:Int)≤(↑(List.length x.fst):Int)∧fpGo (0:Int) (List.drop (Int.toNat (0:Int)) x.fst) []=fpF x.fst)∧∀ (v:Int×List (Int×Int)×Unit),(0:Int)≤v.fst∧v.fst≤(↑(List.length x.fst):Int)∧fpGo v.fst (List.drop (Int.toNat v.fst) x.fst) v.2.fst=fpF x.fst→
  bif decide (v.fst < (↑(List.length x.fst):Int)) then (0:Int)≤v.fst∧v.fst < (↑(List.length x.fst):Int)∧∀ (c0:Int×List Int×Int×Unit),x.fst[Int.toNat v.fst]?=some c0→
  bif !mhas v.2.fst c0.fst then ((0:Int)≤IntKind.wrap IntKind.i64 (v.fst+(1:Int))∧IntKind.wrap IntKind.i64 (v.fst+(1:Int))≤(↑(List.length x.fst):Int)∧fpGo (IntKind.wrap IntKind.i64 (v.fst+(1:Int))) (List.drop (Int.toNat (IntKind.wrap IntKind.i64 (v.fst+(1:Int)))) x.fst) (mput v.2.fst c0.fst v.fst)=fpF x.fst)∧Int.toNat ((↑(List.length x.fst):Int) - IntKind.wrap IntKind.i64 (v.fst+(1:Int))) < Int.toNat ((↑(List.length x.fst):Int) - v.fst) else ((0:Int)≤IntKind.wrap IntKind.i64 (v.fst+(1:Int))∧IntKind.wrap IntKind.i64 (v.fst+(1:Int))≤(↑(List.length x.fst):Int)∧fpGo (IntKind.wrap IntKind.i64 (v.fst+(1:Int))) (List.drop (Int.toNat (IntKind.wrap IntKind.i64 (v.fst+(1:Int)))) x.fst) v.2.fst=fpF x.fst)∧Int.toNat ((↑(List.length x.fst):Int) - IntKind.wrap IntKind.i64 (v.fst+(1:Int))) < Int.toNat ((↑(List.length x.fst):Int) - v.fst) else v.2=(fpF x.fst,())):=by kernel_rfl
theorem en_fp (us:Array Value) (u:World):(callFunc 94 us).run Tryz.prog u=.ok (.enter 94 us) u:=by kernel_rfl
theorem sc_fp:SC Tryz.prog 94 S_fp:=by
  refine SC.of Tryz.func94 (c:=bodyOf Tryz.f94) (by kernel_rfl) (by kernel_rfl) (fun x=>(by decide:(1:Nat)≤Tryz.f94.ntmps)) DOk.nil (Eq.mpr vc_fp ?_)
  rintro ⟨l,⟨⟩⟩ h - - -
  dsimp only at h ⊢
  refine ⟨⟨Int.le_refl 0,by omega,rfl⟩,?_⟩
  rintro ⟨i,m,⟨⟩⟩ ⟨q0,q1,hg⟩
  dsimp only at q0 q1 hg ⊢
  have wi:IntKind.i64.wrap (i+1)=i+1:=IntWalk.i64_in _ (by omega)
  by_cases hi:i < (l.length:Int)
  · rw [decide_eq_true hi,cond_true,wi]
    refine ⟨q0,hi,fun c hc=>?_⟩
    rw [drop_of hc,fpGo] at hg
    rw [show (i+1).toNat=i.toNat+1 by omega]
    cases hm:mhas m c.1
    · rw [hm,cond_false] at hg
      rw [Bool.not_false,cond_true]
      exact ⟨⟨by omega,by omega,hg⟩,by omega⟩
    · rw [hm,cond_true] at hg
      rw [Bool.not_true,cond_false]
      exact ⟨⟨by omega,by omega,hg⟩,by omega⟩
  · rw [decide_eq_false hi,cond_false]
    rw [List.drop_eq_nil_of_le (by omega),fpGo] at hg
    rw [hg]
def TkRest (x:Inq×Int×List Int×Int×Unit) (M:List (Int×Int)) (L:List Itm):Prop:=(0:Int)≤(↑(List.length L):Int)∧(↑(List.length L):Int)≤(↑(List.length L):Int)∧(1:Int)*(↑(List.length L):Int)≤(281474976710656:Int)∧(↑(List.length L):Int)≤(140737488351232:Int)∧(List.length ([]:List Itm)=(0:Nat)∧tkInv x.fst x.snd.fst x.snd.snd.fst x.snd.snd.snd.fst x.fst.fst (List.replicate (Int.toNat (↑(List.length L):Int)) false) [])∧∀ (v:(Int×List (Int×List Int×Int×Unit)×Unit)×List Bool×List (List Int)×Unit),List.length v.fst.snd.fst=(0:Nat)∧tkInv x.fst x.snd.fst x.snd.snd.fst x.snd.snd.snd.fst v.fst.fst v.snd.fst v.snd.snd.fst→
  bif !mhas M v.fst.fst then tkInv2 x.fst x.snd.fst x.snd.snd.fst x.snd.snd.snd.fst (0:Int) v.fst.fst v.fst.snd.fst∧∀ (v_1:Int×(Int×List (Int×List Int×Int×Unit)×Unit)×Unit),tkInv2 x.fst x.snd.fst x.snd.snd.fst x.snd.snd.snd.fst v_1.fst v_1.snd.fst.fst v_1.snd.fst.snd.fst→
  bif decide (v_1.fst < (↑(List.length L):Int)) then (0:Int)≤v_1.fst∧v_1.fst < (↑(List.length L):Int)∧Int.toNat v_1.fst < List.length L∧∀ (x_1:Int×List Int×Int×Unit),L[Int.toNat v_1.fst]?=some x_1→
  (0:Int)≤v_1.fst∧v_1.fst < (↑(List.length v.snd.fst):Int)∧Int.toNat v_1.fst < List.length v.snd.fst∧∀ (x_2:Bool),v.snd.fst[Int.toNat v_1.fst]?=some x_2→
  bif !x_2 then (List.length v_1.snd.fst.snd.fst+List.length [x_1])*(40:Nat)≤(140737488351232:Nat)∧tkInv2 x.fst x.snd.fst x.snd.snd.fst x.snd.snd.snd.fst (IntKind.wrap IntKind.i64 (v_1.fst+(1:Int))) v_1.snd.fst.fst (v_1.snd.fst.snd.fst++[x_1])∧Int.toNat ((↑(List.length (tkL x.fst x.snd.fst x.snd.snd.fst x.snd.snd.snd.fst)):Int) - IntKind.wrap IntKind.i64 (v_1.fst+(1:Int))) < Int.toNat ((↑(List.length (tkL x.fst x.snd.fst x.snd.snd.fst x.snd.snd.snd.fst)):Int) - v_1.fst) else tkInv2 x.fst x.snd.fst x.snd.snd.fst x.snd.snd.snd.fst (IntKind.wrap IntKind.i64 (v_1.fst+(1:Int))) v_1.snd.fst.fst v_1.snd.fst.snd.fst∧Int.toNat ((↑(List.length (tkL x.fst x.snd.fst x.snd.snd.fst x.snd.snd.snd.fst)):Int) - IntKind.wrap IntKind.i64 (v_1.fst+(1:Int))) < Int.toNat ((↑(List.length (tkL x.fst x.snd.fst x.snd.snd.fst x.snd.snd.snd.fst)):Int) - v_1.fst) else ((v_1.snd.fst,v.snd.snd.fst,v_1.snd.fst.fst,()),())=(takF x.fst x.snd.fst x.snd.snd.fst x.snd.snd.snd.fst,()) else (0:Int)≤mget M v.fst.fst∧mget M v.fst.fst < (↑(List.length v.snd.fst):Int)∧Int.toNat (mget M v.fst.fst) < List.length v.snd.fst∧∀ (x0:Bool),v.snd.fst[Int.toNat (mget M v.fst.fst)]?=some x0→
  (0:Int)≤mget M v.fst.fst∧mget M v.fst.fst < (↑(List.length L):Int)∧Int.toNat (mget M v.fst.fst) < List.length L∧∀ (x_1:Int×List Int×Int×Unit),L[Int.toNat (mget M v.fst.fst)]?=some x_1→
  (List.length v.snd.snd.fst+List.length [x_1.snd.fst])*(24:Nat)≤(140737488351232:Nat)∧(List.length v.fst.snd.fst=(0:Nat)∧tkInv x.fst x.snd.fst x.snd.snd.fst x.snd.snd.snd.fst (IntKind.wrap IntKind.i64 (v.fst.fst+(1:Int))) (List.set v.snd.fst (Int.toNat (mget M v.fst.fst)) true) (v.snd.snd.fst++[x_1.snd.fst]))∧List.length (tkL x.fst x.snd.fst x.snd.snd.fst x.snd.snd.snd.fst)+(1:Nat) - cnt (List.set v.snd.fst (Int.toNat (mget M v.fst.fst)) true) < List.length (tkL x.fst x.snd.fst x.snd.snd.fst x.snd.snd.snd.fst)+(1:Nat) - cnt v.snd.fst
theorem tkRest_ok (i:Inq) (q:Int) (b:List Int) (w:Int) (M:List (Int×Int)) (L:List Itm) (hM:tkM i q w=M) (hL:tkL i q b w=L) (hok:mOk M L) (hb:L.length≤2000000000):TkRest (i,q,b,w,()) M L:=by
  have I:∀ e g bs,tkInv i q b w e g bs↔(g.length=L.length∧bs.length=cnt g∧(e - i.1 - (cnt g:Nat)) % 18446744073709551616=0∧(∀ (j:Nat) (x:Itm),g[j]?=some true→L[j]?=some x→∃ k:Nat,k < cnt g∧(x.1 - i.1 - k) % 18446744073709551616=0)∧tkGo M L (L.length+1 - cnt g) e g bs=tkE i q b w):=by
    intro e g bs
    subst hM
    subst hL
    exact Iff.rfl
  unfold TkRest
  dsimp only
  rw [Int.toNat_natCast]
  refine ⟨by omega,Int.le_refl _,by omega,by omega,⟨rfl,(I _ _ _).2 ⟨by rw [List.length_replicate],by rw [cnt_rep];rfl,by rw [cnt_rep];omega,fun j x hj=>?_,?_⟩⟩,?_⟩
  · rw [List.getElem?_replicate] at hj
    split at hj <;> cases hj
  · rw [cnt_rep,Nat.sub_zero,tkE,hM,hL]
  rintro ⟨⟨e,hh,⟨⟩⟩,g,bs,⟨⟩⟩ ⟨h0,hi⟩
  dsimp only at h0 hi ⊢
  obtain ⟨g1,g2,g3,g4,g5⟩:=(I _ _ _).1 hi
  have c1:=cnt_le g
  obtain ⟨f,hf⟩:∃ f,L.length+1 - cnt g=f+1:=⟨L.length - cnt g,by omega⟩
  rw [hf,tkGo] at g5
  rw [hL]
  cases hm:mhas M e
  · rw [if_neg (by rw [hm];decide)] at g5
    rw [Bool.not_false,cond_true]
    have J:∀ k e' l,tkInv2 i q b w k e' l↔(0≤k∧k≤(L.length:Nat)∧l.length≤k.toNat∧e'=e∧l++tkK (L.drop k.toNat) (g.drop k.toNat)=tkK L g):=by
      intro k e' l
      unfold tkInv2
      rw [hL,← g5]
    obtain rfl:=List.eq_nil_of_length_eq_zero h0
    refine ⟨(J _ _ _).2 ⟨Int.le_refl 0,by omega,Nat.le_refl 0,rfl,rfl⟩,?_⟩
    rintro ⟨k,⟨e',l,⟨⟩⟩,⟨⟩⟩ hj
    obtain ⟨j0,j1,j2,j3,j4⟩:=(J _ _ _).1 hj
    dsimp only at j0 j1 j2 j3 j4 ⊢
    have wi:IntKind.i64.wrap (k+1)=k+1:=IntWalk.i64_in _ (by omega)
    by_cases hk:k < (L.length:Int)
    · rw [decide_eq_true hk,cond_true,wi]
      refine ⟨j0,hk,by omega,fun c hc=>⟨j0,by omega,by omega,fun y hy=>?_⟩⟩
      rw [drop_of hc,drop_of hy,tkK] at j4
      cases y
      · rw [if_neg (by decide)] at j4
        rw [Bool.not_false,cond_true]
        refine ⟨by rw [List.length_cons,List.length_nil];omega,(J _ _ _).2 ⟨by omega,by omega,by rw [List.length_append,List.length_cons,List.length_nil];omega,j3,?_⟩,by omega⟩
        rw [show (k+1).toNat=k.toNat+1 by omega,List.append_assoc]
        exact j4
      · rw [if_pos rfl] at j4
        rw [Bool.not_true,cond_false]
        refine ⟨(J _ _ _).2 ⟨by omega,by omega,by omega,j3,?_⟩,by omega⟩
        rw [show (k+1).toNat=k.toNat+1 by omega]
        exact j4
    · rw [decide_eq_false hk,cond_false]
      rw [List.drop_eq_nil_of_le (by omega:L.length≤k.toNat)] at j4
      simp only [tkK,List.append_nil] at j4
      rw [takF,← g5,hL,j4,j3]
  · rw [if_pos hm] at g5
    rw [Bool.not_true,cond_false]
    obtain ⟨a0,y,hy,hye⟩:=hok e hm
    have alt:(mget M e).toNat < L.length:=(List.getElem?_eq_some_iff.1 hy).1
    refine ⟨a0,by omega,by omega,fun x0 hx0=>⟨a0,by omega,alt,fun c hc=>?_⟩⟩
    rw [hy] at hc
    cases hc
    have hx:x0=false:=by
      cases x0
      · rfl
      · obtain ⟨k,k1,k2⟩:=g4 _ y hx0 hy
        rw [hye] at k2
        omega
    subst hx
    have cs:=cnt_set hx0
    have ww:=wrap_mod (e+1)
    refine ⟨by rw [g2,List.length_cons,List.length_nil];omega,⟨h0,(I _ _ _).2 ⟨by rw [List.length_set,g1],by rw [List.length_append,cs,g2];rfl,by rw [cs];omega,fun j x hj hx=>?_,?_⟩⟩,by rw [cs];omega⟩
    · rw [cs]
      by_cases ej:(mget M e).toNat=j
      · subst ej
        rw [hy] at hx
        cases hx
        exact ⟨cnt g,by omega,by rw [hye];exact g3⟩
      · rw [List.getElem?_set_ne ej] at hj
        obtain ⟨k,k1,k2⟩:=g4 j x hj hx
        exact ⟨k,by omega,k2⟩
    · rw [cs,← g5,show L.length+1 - (cnt g+1)=f by omega,List.getD_eq_getElem?_getD,hy]
      rfl
theorem vc_ltake:VC Tryz.prog Tryz.f57 (bodyOf Tryz.f57) S_ltake [(28,S_scl),(93,S_cpis),(94,S_fp)] A_ltake=(∀ (x:(Int×List (Int×List Int×Int×Unit)×Unit)×Int×List Int×Int×Unit),okIn x.fst∧List.length x.snd.snd.fst≤big→
  List.length x.fst.snd.fst≤(9223372036854775807:Nat)→
  List.length x.snd.snd.fst≤(9223372036854775807:Nat)→
  okIts x.fst.snd.fst∧List.length x.fst.snd.fst≤(2000000000:Nat)∧bif decide (x.fst.fst≤x.snd.fst) then bif decide (x.snd.fst < IntKind.wrap IntKind.i64 (x.fst.fst+x.snd.snd.snd.fst)) then bif !mhas (fpF x.fst.snd.fst) x.snd.fst then List.length x.snd.snd.fst≤(1000000000000:Nat)∧(List.length x.fst.snd.fst+List.length [(x.snd.fst,x.snd.snd.fst,(0:Int),())])*(40:Nat)≤(140737488351232:Nat)∧TkRest x (mput (fpF x.fst.snd.fst) x.snd.fst (↑(List.length x.fst.snd.fst):Int)) (x.fst.snd.fst++[(x.snd.fst,x.snd.snd.fst,(0:Int),())]) else TkRest x (fpF x.fst.snd.fst) x.fst.snd.fst else TkRest x (fpF x.fst.snd.fst) x.fst.snd.fst else TkRest x (fpF x.fst.snd.fst) x.fst.snd.fst):=by kernel_rfl
theorem en_ltake (us:Array Value) (u:World):(callFunc 57 us).run Tryz.prog u=.ok (.enter 57 us) u:=by kernel_rfl
theorem sc_ltake:SC Tryz.prog 57 S_ltake:=by
  refine SC.of Tryz.func57 (c:=bodyOf Tryz.f57) (by kernel_rfl) (by kernel_rfl) (fun x=>(by decide:(4:Nat)≤Tryz.f57.ntmps)) (DOk.cons sc_scl en_scl (DOk.cons sc_cpis en_cpis (DOk.cons sc_fp en_fp DOk.nil))) (Eq.mpr vc_ltake ?_)
  rintro ⟨⟨e0,h,⟨⟩⟩,q,b,w,⟨⟩⟩ ⟨h1,h2⟩ - -
  dsimp only at h1 h2 ⊢
  have e1:h.length≤1000000000:=h1.1
  have e2:b.length≤1000000000:=h2
  refine ⟨h1,by omega,?_⟩
  have no:tkH (e0,h,()) q w=false→TkRest ((e0,h,()),q,b,w,()) (fpF h) h:=fun hn=>
    tkRest_ok (e0,h,()) q b w _ _ (by rw [tkM,hn];rfl) (by rw [tkL,hn];rfl) (fpF_ok h) (by omega)
  by_cases c1:e0≤q
  rotate_left 1
  · rw [decide_eq_false c1,cond_false]
    exact no (by unfold tkH;rw [decide_eq_false c1];rfl)
  rw [decide_eq_true c1,cond_true]
  by_cases c2:q < IntKind.i64.wrap (e0+w)
  rotate_left 1
  · rw [decide_eq_false c2,cond_false]
    exact no (by unfold tkH i64;rw [decide_eq_false c2];simp)
  rw [decide_eq_true c2,cond_true]
  cases c3:mhas (fpF h) q
  rotate_left 1
  · rw [Bool.not_true,cond_false]
    exact no (by unfold tkH;rw [c3];simp)
  rw [Bool.not_false,cond_true]
  have yes:tkH (e0,h,()) q w=true:=by unfold tkH i64;rw [decide_eq_true c1,decide_eq_true c2,c3];rfl
  refine ⟨by omega,by rw [List.length_cons,List.length_nil];omega,?_⟩
  have hm:=tkM_ok (e0,h,()) q b w
  have eM:tkM (e0,h,()) q w=mput (fpF h) q (h.length:Nat):=by rw [tkM,yes];rfl
  have eL:tkL (e0,h,()) q b w=h++[(q,b,0,())]:=by rw [tkL,yes];rfl
  rw [eM,eL] at hm
  exact tkRest_ok (e0,h,()) q b w _ _ eM eL hm (by rw [List.length_append,List.length_cons,List.length_nil];omega)
end Go.Proofs.YtjkbkhjalimebaaGreatDoor
namespace Go.Proofs.YtjkbkhjalimebaaGreatDoor
open Go.RowKit DoorU
set_option linter.unusedVariables false
set_option linter.unusedSimpArgs false
set_option maxRecDepth 100000
set_option maxHeartbeats 1000000
namespace DoorU
def okPe (q:Pee):Prop:=okOut q.2.1∧okIn q.2.2.1
def okPo (p:Pos):Prop:=p.2.1.2.2.1.length≤big∧p.2.2.1.length≤big∧∀ q∈p.2.2.1,okPe q
def zPo:Pos:=(0,zSt,[],())
def newPe (n:Int):Pee:=(n,(0,[],[],()),(0,[],()),())
def goF (p:Pos) (s:Sta):Pos:=if stCmp s p.2.1≤0 then p else (p.1,s,[],())
def newF (c:Cfg) (n:Int):Pos×Int×Unit:=if isNodeF c n then ((n,zSt,[],()),0,()) else (zPo,1,())
def insF (l:List Pee) (i:Nat) (v:List Pee):List Pee:=l.take i++v++l.drop i
def eqAt (l:List Pee) (n:Int):Nat:=l.findIdx fun q=>q.1==n
def gtAt (l:List Pee) (n:Int):Nat:=l.findIdx fun q=>decide (n < q.1)
def lnkI (l:List Pee) (n:Int):Nat:=if eqAt l n=l.length then gtAt l n else eqAt l n
def lnkL (l:List Pee) (n:Int):List Pee:=if eqAt l n=l.length then insF l (gtAt l n) [newPe n] else l
theorem fIdx_at {α:Type} {p:α→Bool} {c:α}:∀ {l:List α} {k:Nat},l[k]?=some c→p c=true→(∀ q∈l.take k,p q=false)→l.findIdx p=k
  | [],_,h,_,_=>by simp at h
  | x :: l, 0, h, hc, _ => by
    obtain rfl:x=c:=by simpa using h
    rw [List.findIdx_cons,hc];rfl
  | x :: l, k + 1, h, hc, hq => by
    have hx:p x=false:=hq x (by simp)
    rw [List.findIdx_cons,hx,cond_false,fIdx_at (l:=l) (k:=k) (by simpa using h) hc (fun q hq'=>hq q (by rw [List.take_succ_cons];exact List.mem_cons_of_mem _ hq'))]
theorem fIdx_no {α:Type} {p:α→Bool}:∀ {l:List α},(∀ q∈l,p q=false)→l.findIdx p=l.length
  | [],_=>rfl
  | x :: l, h => by
    rw [List.findIdx_cons,h x (List.mem_cons_self ..),cond_false,fIdx_no (l:=l) (fun q hq=>h q (List.mem_cons_of_mem _ hq)),List.length_cons]
theorem fIdx_le {α:Type} (p:α→Bool):∀ l:List α,l.findIdx p≤l.length
  | []=>Nat.le_refl 0
  | x :: l => by
    have:=fIdx_le p l
    rw [List.findIdx_cons,List.length_cons]
    cases p x
    · rw [cond_false];omega
    · rw [cond_true];omega
theorem insF_len (l v:List Pee) (i:Nat) (h:i≤l.length):(insF l i v).length=l.length+v.length:=by
  unfold insF
  rw [List.length_append,List.length_append,List.length_take,List.length_drop]
  omega
end DoorU
abbrev vPo:Sh:=.agg (shOf false tPo)
abbrev vPas:Sh:=.view false tPa
abbrev oPes:Sh:=.own tPe 120
abbrev fPes:Sh:=.own tPe (1000+120)
abbrev sPo (o:Sh):Sh:=.pair nI (.pair (shOf false tSt) (.pair o .unit))
abbrev pPo (o:Sh):Sh:=.var 31 (sPo o)
def S_pcpis:Spec:=⟨.pair lIts .unit,.pair vIts .unit,fun (x:List Itm×Unit)=>okIts x.1,fun (x:List Itm×Unit)=>((x.1,()):List Itm×Unit)⟩
def S_pcpbs:Spec:=⟨.pair lYs .unit,.pair vYs .unit,fun (x:List (List Int)×Unit)=>okBs x.1,fun (x:List (List Int)×Unit)=>((x.1,()):List (List Int)×Unit)⟩
def S_cli:Spec:=⟨.pair lI .unit,.pair vI .unit,fun (x:List Int×Unit)=>x.1.length≤1000000000000,fun (x:List Int×Unit)=>((x.1,()):List Int×Unit)⟩
def S_cpst:Spec:=⟨.pair aSt .unit,.pair vSt .unit,fun (x:Sta×Unit)=>x.1.2.2.1.length≤1000000000000,fun (x:Sta×Unit)=>((x.1,()):Sta×Unit)⟩
def S_cpo:Spec:=⟨.pair aPo .unit,.pair (.agg (sPo fPes)) .unit,fun (x:Pos×Unit)=>okPo x.1,fun (x:Pos×Unit)=>((x.1,()):Pos×Unit)⟩
def A_cpo (x:Pos×Unit):Nat→Option LA
  | 0=>some ⟨[19,3],[],.pair nI (.pair (pPo fPes) .unit),fun (v:Int×Pos×Unit)=>0≤v.1∧v.1≤(x.1.2.2.1.length:Nat)∧v.2.1.1=x.1.1∧v.2.1.2.1=x.1.2.1∧v.2.1.2.2.1.length=x.1.2.2.1.length∧v.2.1.2.2.1.take v.1.toNat=x.1.2.2.1.take v.1.toNat,fun (v:Int×Pos×Unit)=>((x.1.2.2.1.length:Nat) - v.1).toNat⟩
  | _=>none
def S_go:Spec:=⟨.pair aPo (.pair aSt .unit),.pair (.agg (sPo fPes)) .unit,fun (x:Pos×Sta×Unit)=>okPo x.1∧x.2.1.2.2.1.length≤1000000000000,fun (x:Pos×Sta×Unit)=>((goF x.1 x.2.1,()):Pos×Unit)⟩
def S_new:Spec:=⟨.pair aC (.pair nI .unit),.pair (.tup (.pair vPo (.pair nI .unit))) .unit,fun _=>True,fun (x:Cfg×Int×Unit)=>((newF x.1 x.2.1,()):(Pos×Int×Unit)×Unit)⟩
def S_fp2:Spec:=⟨.pair nI (.pair (.var 3 (.pair nI .unit)) .unit),.pair .bool (.pair (.var 3 (.pair nI .unit)) .unit),fun _=>True,fun (x:Int×(Int×Unit)×Unit)=>((x.1==x.2.1.1,x.2):Bool×(Int×Unit)×Unit)⟩
def S_fp3:Spec:=⟨.pair nI (.pair (.var 3 (.pair nI .unit)) .unit),.pair .bool (.pair (.var 3 (.pair nI .unit)) .unit),fun _=>True,fun (x:Int×(Int×Unit)×Unit)=>((decide (x.2.1.1 < x.1),x.2):Bool×(Int×Unit)×Unit)⟩
abbrev cFit (f:Nat):Sh:=.fn f (.pair (.var 3 (.pair nI .unit)) .unit)
abbrev cPtr:Sh:=.var 111 (.pair (pPo fPes) .unit)
abbrev vFind:Type:=((Int×Unit)×Unit)×(Pos×Unit)×Unit
def S_fd2:Spec:=⟨.pair (cFit 87) (.pair cPtr .unit),.pair nI (.pair (.var 3 (.pair nI .unit)) (.pair cPtr .unit)),fun (x:vFind)=>x.2.1.1.2.2.1.length≤big,fun (x:vFind)=>(((eqAt x.2.1.1.2.2.1 x.1.1.1:Nat),x.1.1,x.2):Int×(Int×Unit)×(Pos×Unit)×Unit)⟩
def S_fd3:Spec:=⟨.pair (cFit 88) (.pair cPtr .unit),.pair nI (.pair (.var 3 (.pair nI .unit)) (.pair cPtr .unit)),fun (x:vFind)=>x.2.1.1.2.2.1.length≤big,fun (x:vFind)=>(((gtAt x.2.1.1.2.2.1 x.1.1.1:Nat),x.1.1,x.2):Int×(Int×Unit)×(Pos×Unit)×Unit)⟩
def A_fd2 (x:vFind):Nat→Option LA
  | 0=>some ⟨[11,0],[],.pair nI (.pair (cFit 87) .unit),fun (v:Int×((Int×Unit)×Unit)×Unit)=>0≤v.1∧v.1≤(x.2.1.1.2.2.1.length:Nat)∧v.2.1.1.1=x.1.1.1∧∀ q∈x.2.1.1.2.2.1.take v.1.toNat,(q.1==x.1.1.1)=false,fun (v:Int×((Int×Unit)×Unit)×Unit)=>((x.2.1.1.2.2.1.length:Nat) - v.1).toNat⟩
  | _=>none
def A_fd3 (x:vFind):Nat→Option LA
  | 0=>some ⟨[11,0],[],.pair nI (.pair (cFit 88) .unit),fun (v:Int×((Int×Unit)×Unit)×Unit)=>0≤v.1∧v.1≤(x.2.1.1.2.2.1.length:Nat)∧v.2.1.1.1=x.1.1.1∧∀ q∈x.2.1.1.2.2.1.take v.1.toNat,decide (x.1.1.1 < q.1)=false,fun (v:Int×((Int×Unit)×Unit)×Unit)=>((x.2.1.1.2.2.1.length:Nat) - v.1).toNat⟩
  | _=>none
def S_ins:Spec:=⟨.pair fPes (.pair nI (.pair (.view false tPe) .unit)),.pair oPes .unit,fun (x:List Pee×Int×List Pee×Unit)=>x.1.length≤2000000000∧x.2.2.1.length=1∧0≤x.2.1∧x.2.1≤(x.1.length:Nat),fun (x:List Pee×Int×List Pee×Unit)=>((insF x.1 x.2.1.toNat x.2.2.1,()):List Pee×Unit)⟩
def S_lw:Spec:=⟨.pair (pPo fPes) (.pair nI .unit),.atp 0 (.pair (pPo oPes) .unit),fun (x:Pos×Int×Unit)=>x.1.2.2.1.length≤big,fun (x:Pos×Int×Unit)=>((lnkI x.1.2.2.1 x.2.1,(x.1.1,x.1.2.1,lnkL x.1.2.2.1 x.2.1,()),()):Nat×Pos×Unit)⟩
theorem vc_pcpis:VC Tryz.prog Tryz.f117 (bodyOf Tryz.f117) S_pcpis [(28,S_scl)] A_cpis=(∀ (x:List (Int×List Int×Int×Unit)×Unit),okIts x.fst→
  List.length x.fst≤(9223372036854775807:Nat)→
  List.length x.fst≤(9223372036854775807:Nat)→
  (0:Int)≤(↑(List.length x.fst):Int)∧(↑(List.length x.fst):Int)≤(↑(List.length x.fst):Int)∧(40:Int)*(↑(List.length x.fst):Int)≤(281474976710656:Int)∧(↑(List.length x.fst):Int)≤(140737488351232:Int)∧(List.length x.fst≤(9223372036854775807:Nat)→
  ((0:Int)≤(0:Int)∧(0:Int)≤(↑(List.length x.fst):Int)∧List.length (List.replicate (Int.toNat (↑(List.length x.fst):Int)) (((0:Int),[],(0:Int),()):Itm))=List.length x.fst∧List.take (Int.toNat (0:Int)) (List.replicate (Int.toNat (↑(List.length x.fst):Int)) (((0:Int),[],(0:Int),()):Itm))=List.take (Int.toNat (0:Int)) x.fst)∧∀ (v:Int×List (Int×List Int×Int×Unit)×Unit),(0:Int)≤v.fst∧v.fst≤(↑(List.length x.fst):Int)∧List.length v.snd.fst=List.length x.fst∧List.take (Int.toNat v.fst) v.snd.fst=List.take (Int.toNat v.fst) x.fst→
  bif decide (v.fst < (↑(List.length x.fst):Int)) then (0:Int)≤v.fst∧v.fst < (↑(List.length x.fst):Int)∧∀ (c0:Int×List Int×Int×Unit),x.fst[Int.toNat v.fst]?=some c0→
  List.length c0.snd.fst≤(1000000000000:Nat)∧(0:Int)≤v.fst∧v.fst < (↑(List.length v.snd.fst):Int)∧Int.toNat v.fst < List.length v.snd.fst∧∀ (x0:Int×List Int×Int×Unit),v.snd.fst[Int.toNat v.fst]?=some x0→
  ((0:Int)≤IntKind.wrap IntKind.i64 (v.fst+(1:Int))∧IntKind.wrap IntKind.i64 (v.fst+(1:Int))≤(↑(List.length x.fst):Int)∧List.length (List.set v.snd.fst (Int.toNat v.fst) c0)=List.length x.fst∧List.take (Int.toNat (IntKind.wrap IntKind.i64 (v.fst+(1:Int)))) (List.set v.snd.fst (Int.toNat v.fst) c0)=List.take (Int.toNat (IntKind.wrap IntKind.i64 (v.fst+(1:Int)))) x.fst)∧Int.toNat ((↑(List.length x.fst):Int) - IntKind.wrap IntKind.i64 (v.fst+(1:Int))) < Int.toNat ((↑(List.length x.fst):Int) - v.fst) else v.snd=x)):=by kernel_rfl
theorem en_pcpis (us:Array Value) (u:World):(callFunc 117 us).run Tryz.prog u=.ok (.enter 117 us) u:=by kernel_rfl
theorem sc_pcpis:SC Tryz.prog 117 S_pcpis:=by
  refine SC.of Tryz.func117 (c:=bodyOf Tryz.f117) (by kernel_rfl) (by kernel_rfl) (fun x=>(by decide:(1:Nat)≤Tryz.f117.ntmps)) (DOk.cons sc_scl en_scl DOk.nil) (Eq.mpr vc_pcpis ?_)
  rintro ⟨l,⟨⟩⟩ ⟨h1,h2⟩ - -
  dsimp only at h1 h2 ⊢
  have hb:l.length≤1000000000:=h1
  refine ⟨by omega,Int.le_refl _,by omega,by omega,fun _=>⟨⟨Int.le_refl 0,by omega,by rw [List.length_replicate];omega,rfl⟩,?_⟩⟩
  rintro ⟨i,r,⟨⟩⟩ ⟨q0,q1,hl,ht⟩
  dsimp only at q0 q1 hl ht ⊢
  have wi:IntKind.i64.wrap (i+1)=i+1:=IntWalk.i64_in _ (by omega)
  by_cases hi:i < (l.length:Int)
  · rw [decide_eq_true hi,cond_true,wi]
    refine ⟨q0,hi,fun c hc=>⟨?_,q0,by omega,by omega,fun x0 _=>⟨⟨by omega,by omega,by rw [List.length_set,hl],?_⟩,by omega⟩⟩⟩
    · have hbc:c.2.1.length≤1000000000:=h2 c (List.mem_of_getElem? hc)
      omega
    · rw [show (i+1).toNat=i.toNat+1 by omega,take_snoc hc,take_set (by omega),ht]
  · rw [decide_eq_false hi,cond_false]
    obtain rfl:i=(l.length:Int):=by omega
    rw [show ((l.length:Nat):Int).toNat=l.length by omega,List.take_length,← hl,List.take_length] at ht
    rw [ht]
theorem vc_pcpbs:VC Tryz.prog Tryz.f118 (bodyOf Tryz.f118) S_pcpbs [(28,S_scl)] A_cpbs=(∀ (x:List (List Int)×Unit),okBs x.fst→
  List.length x.fst≤(9223372036854775807:Nat)→
  List.length x.fst≤(9223372036854775807:Nat)→
  (0:Int)≤(↑(List.length x.fst):Int)∧(↑(List.length x.fst):Int)≤(↑(List.length x.fst):Int)∧(24:Int)*(↑(List.length x.fst):Int)≤(281474976710656:Int)∧(↑(List.length x.fst):Int)≤(140737488351232:Int)∧(List.length x.fst≤(9223372036854775807:Nat)→
  ((0:Int)≤(0:Int)∧(0:Int)≤(↑(List.length x.fst):Int)∧List.length (List.replicate (Int.toNat (↑(List.length x.fst):Int)) ([]:List Int))=List.length x.fst∧List.take (Int.toNat (0:Int)) (List.replicate (Int.toNat (↑(List.length x.fst):Int)) ([]:List Int))=List.take (Int.toNat (0:Int)) x.fst)∧∀ (v:Int×List (List Int)×Unit),(0:Int)≤v.fst∧v.fst≤(↑(List.length x.fst):Int)∧List.length v.snd.fst=List.length x.fst∧List.take (Int.toNat v.fst) v.snd.fst=List.take (Int.toNat v.fst) x.fst→
  bif decide (v.fst < (↑(List.length x.fst):Int)) then (0:Int)≤v.fst∧v.fst < (↑(List.length x.fst):Int)∧∀ (c0:List Int),x.fst[Int.toNat v.fst]?=some c0→
  List.length c0≤(1000000000000:Nat)∧(0:Int)≤v.fst∧v.fst < (↑(List.length v.snd.fst):Int)∧Int.toNat v.fst < List.length v.snd.fst∧∀ (x0:List Int),v.snd.fst[Int.toNat v.fst]?=some x0→
  ((0:Int)≤IntKind.wrap IntKind.i64 (v.fst+(1:Int))∧IntKind.wrap IntKind.i64 (v.fst+(1:Int))≤(↑(List.length x.fst):Int)∧List.length (List.set v.snd.fst (Int.toNat v.fst) c0)=List.length x.fst∧List.take (Int.toNat (IntKind.wrap IntKind.i64 (v.fst+(1:Int)))) (List.set v.snd.fst (Int.toNat v.fst) c0)=List.take (Int.toNat (IntKind.wrap IntKind.i64 (v.fst+(1:Int)))) x.fst)∧Int.toNat ((↑(List.length x.fst):Int) - IntKind.wrap IntKind.i64 (v.fst+(1:Int))) < Int.toNat ((↑(List.length x.fst):Int) - v.fst) else v.snd=x)):=by kernel_rfl
theorem en_pcpbs (us:Array Value) (u:World):(callFunc 118 us).run Tryz.prog u=.ok (.enter 118 us) u:=by kernel_rfl
theorem sc_pcpbs:SC Tryz.prog 118 S_pcpbs:=by
  refine SC.of Tryz.func118 (c:=bodyOf Tryz.f118) (by kernel_rfl) (by kernel_rfl) (fun x=>(by decide:(1:Nat)≤Tryz.f118.ntmps)) (DOk.cons sc_scl en_scl DOk.nil) (Eq.mpr vc_pcpbs ?_)
  rintro ⟨l,⟨⟩⟩ ⟨h1,h2⟩ - -
  dsimp only at h1 h2 ⊢
  have hb:l.length≤1000000000:=h1
  refine ⟨by omega,Int.le_refl _,by omega,by omega,fun _=>⟨⟨Int.le_refl 0,by omega,by rw [List.length_replicate];omega,rfl⟩,?_⟩⟩
  rintro ⟨i,r,⟨⟩⟩ ⟨q0,q1,hl,ht⟩
  dsimp only at q0 q1 hl ht ⊢
  have wi:IntKind.i64.wrap (i+1)=i+1:=IntWalk.i64_in _ (by omega)
  by_cases hi:i < (l.length:Int)
  · rw [decide_eq_true hi,cond_true,wi]
    refine ⟨q0,hi,fun c hc=>⟨?_,q0,by omega,by omega,fun x0 _=>⟨⟨by omega,by omega,by rw [List.length_set,hl],?_⟩,by omega⟩⟩⟩
    · have hbc:c.length≤1000000000:=h2 c (List.mem_of_getElem? hc)
      omega
    · rw [show (i+1).toNat=i.toNat+1 by omega,take_snoc hc,take_set (by omega),ht]
  · rw [decide_eq_false hi,cond_false]
    obtain rfl:i=(l.length:Int):=by omega
    rw [show ((l.length:Nat):Int).toNat=l.length by omega,List.take_length,← hl,List.take_length] at ht
    rw [ht]
theorem vc_cli:VC Tryz.prog Tryz.f119 (bodyOf Tryz.f119) S_cli [] (fun _ _=>none)=(∀ (x:List Int×Unit),List.length x.fst≤(1000000000000:Nat)→
  List.length x.fst≤(9223372036854775807:Nat)→
  (List.length x.fst=(0:Nat)→
  ([],())=x)∧((0:Nat)+List.length x.fst)*(8:Nat)≤(140737488351232:Nat)∧([]++x.fst,())=x):=by kernel_rfl
theorem en_cli (us:Array Value) (u:World):(callFunc 119 us).run Tryz.prog u=.ok (.enter 119 us) u:=by kernel_rfl
theorem sc_cli:SC Tryz.prog 119 S_cli:=by
  refine SC.of Tryz.func119 (c:=bodyOf Tryz.f119) (by kernel_rfl) (by kernel_rfl) (fun x=>(by decide:(1:Nat)≤Tryz.f119.ntmps)) DOk.nil (Eq.mpr vc_cli ?_)
  rintro ⟨l,⟨⟩⟩ h -
  dsimp only at h ⊢
  refine ⟨fun h0=>?_,by omega,by rw [List.nil_append]⟩
  rw [List.eq_nil_of_length_eq_zero h0]
theorem vc_cpst:VC Tryz.prog Tryz.f85 (bodyOf Tryz.f85) S_cpst [(119,S_cli)] (fun _ _=>none)=(∀ (x:(Int×Int×List Int×Unit)×Unit),List.length x.fst.snd.snd.fst≤(1000000000000:Nat)→
  List.length x.fst.snd.snd.fst≤(9223372036854775807:Nat)→
  List.length x.fst.snd.snd.fst≤(1000000000000:Nat)∧x=x):=by kernel_rfl
theorem en_cpst (us:Array Value) (u:World):(callFunc 85 us).run Tryz.prog u=.ok (.enter 85 us) u:=by kernel_rfl
theorem sc_cpst:SC Tryz.prog 85 S_cpst:=by
  refine SC.of Tryz.func85 (c:=bodyOf Tryz.f85) (by kernel_rfl) (by kernel_rfl) (fun x=>(by decide:(1:Nat)≤Tryz.f85.ntmps)) (DOk.cons sc_cli en_cli DOk.nil) (Eq.mpr vc_cpst ?_)
  rintro x h -
  exact ⟨h,rfl⟩
theorem vc_cpo:VC Tryz.prog Tryz.f84 (bodyOf Tryz.f84) S_cpo [(85,S_cpst),(117,S_pcpis),(118,S_pcpbs)] A_cpo=(∀ (x:(Int×(Int×Int×List Int×Unit)×List (Int×(Int×List (Int×List Int×Int×Unit)×List (List Int)×Unit)×(Int×List (Int×List Int×Int×Unit)×Unit)×Unit)×Unit)×Unit),okPo x.fst→
  List.length x.fst.snd.fst.snd.snd.fst≤(9223372036854775807:Nat)→
  List.length x.fst.snd.snd.fst≤(9223372036854775807:Nat)→
  List.length x.fst.snd.fst.snd.snd.fst≤(1000000000000:Nat)∧(0:Int)≤(↑(List.length x.fst.snd.snd.fst):Int)∧(↑(List.length x.fst.snd.snd.fst):Int)≤(↑(List.length x.fst.snd.snd.fst):Int)∧(96:Int)*(↑(List.length x.fst.snd.snd.fst):Int)≤(281474976710656:Int)∧(↑(List.length x.fst.snd.snd.fst):Int)≤(140737488351232:Int)∧(List.length x.fst.snd.snd.fst≤(9223372036854775807:Nat)→
  ((0:Int)≤(0:Int)∧(0:Int)≤(↑(List.length x.fst.snd.snd.fst):Int)∧x.fst.fst=x.fst.fst∧x.fst.snd.fst=x.fst.snd.fst∧List.length (List.replicate (Int.toNat (↑(List.length x.fst.snd.snd.fst):Int)) (((0:Int),((0:Int),[],[],()),((0:Int),[],()),()):Pee))=List.length x.fst.snd.snd.fst∧List.take (Int.toNat (0:Int)) (List.replicate (Int.toNat (↑(List.length x.fst.snd.snd.fst):Int)) (((0:Int),((0:Int),[],[],()),((0:Int),[],()),()):Pee))=List.take (Int.toNat (0:Int)) x.fst.snd.snd.fst)∧∀ (v:Int×(Int×(Int×Int×List Int×Unit)×List (Int×(Int×List (Int×List Int×Int×Unit)×List (List Int)×Unit)×(Int×List (Int×List Int×Int×Unit)×Unit)×Unit)×Unit)×Unit),(0:Int)≤v.fst∧v.fst≤(↑(List.length x.fst.snd.snd.fst):Int)∧v.snd.fst.fst=x.fst.fst∧v.snd.fst.snd.fst=x.fst.snd.fst∧List.length v.snd.fst.snd.snd.fst=List.length x.fst.snd.snd.fst∧List.take (Int.toNat v.fst) v.snd.fst.snd.snd.fst=List.take (Int.toNat v.fst) x.fst.snd.snd.fst→
  bif decide (v.fst < (↑(List.length x.fst.snd.snd.fst):Int)) then (0:Int)≤v.fst∧v.fst < (↑(List.length x.fst.snd.snd.fst):Int)∧∀ (c0:Int×(Int×List (Int×List Int×Int×Unit)×List (List Int)×Unit)×(Int×List (Int×List Int×Int×Unit)×Unit)×Unit),x.fst.snd.snd.fst[Int.toNat v.fst]?=some c0→
  okIts c0.snd.fst.snd.fst∧okBs c0.snd.fst.snd.snd.fst∧okIts c0.snd.snd.fst.snd.fst∧(0:Int)≤v.fst∧v.fst < (↑(List.length v.snd.fst.snd.snd.fst):Int)∧Int.toNat v.fst < List.length v.snd.fst.snd.snd.fst∧∀ (x0:Int×(Int×List (Int×List Int×Int×Unit)×List (List Int)×Unit)×(Int×List (Int×List Int×Int×Unit)×Unit)×Unit),v.snd.fst.snd.snd.fst[Int.toNat v.fst]?=some x0→
  ((0:Int)≤IntKind.wrap IntKind.i64 (v.fst+(1:Int))∧IntKind.wrap IntKind.i64 (v.fst+(1:Int))≤(↑(List.length x.fst.snd.snd.fst):Int)∧v.snd.fst.fst=x.fst.fst∧v.snd.fst.snd.fst=x.fst.snd.fst∧List.length (List.set v.snd.fst.snd.snd.fst (Int.toNat v.fst) c0)=List.length x.fst.snd.snd.fst∧List.take (Int.toNat (IntKind.wrap IntKind.i64 (v.fst+(1:Int)))) (List.set v.snd.fst.snd.snd.fst (Int.toNat v.fst) c0)=List.take (Int.toNat (IntKind.wrap IntKind.i64 (v.fst+(1:Int)))) x.fst.snd.snd.fst)∧Int.toNat ((↑(List.length x.fst.snd.snd.fst):Int) - IntKind.wrap IntKind.i64 (v.fst+(1:Int))) < Int.toNat ((↑(List.length x.fst.snd.snd.fst):Int) - v.fst) else v.snd=x)):=by kernel_rfl
theorem en_cpo (us:Array Value) (u:World):(callFunc 84 us).run Tryz.prog u=.ok (.enter 84 us) u:=by kernel_rfl
theorem sc_cpo:SC Tryz.prog 84 S_cpo:=by
  refine SC.of Tryz.func84 (c:=bodyOf Tryz.f84) (by kernel_rfl) (by kernel_rfl) (fun x=>(by decide:(1:Nat)≤Tryz.f84.ntmps)) (DOk.cons sc_cpst en_cpst (DOk.cons sc_pcpis en_pcpis (DOk.cons sc_pcpbs en_pcpbs DOk.nil))) (Eq.mpr vc_cpo ?_)
  rintro ⟨⟨n,s,l,⟨⟩⟩,⟨⟩⟩ ⟨h0,h1,h2⟩ - -
  dsimp only at h0 h1 h2 ⊢
  have e0:s.2.2.1.length≤1000000000:=h0
  have e1:l.length≤1000000000:=h1
  refine ⟨by omega,by omega,Int.le_refl _,by omega,by omega,fun _=>⟨⟨Int.le_refl 0,by omega,rfl,rfl,by rw [List.length_replicate];omega,rfl⟩,?_⟩⟩
  rintro ⟨i,⟨a,b,r,⟨⟩⟩,⟨⟩⟩ ⟨q0,q1,ha,hb,hl,ht⟩
  dsimp only at q0 q1 ha hb hl ht ⊢
  subst ha
  subst hb
  have wi:IntKind.i64.wrap (i+1)=i+1:=IntWalk.i64_in _ (by omega)
  by_cases hi:i < (l.length:Int)
  · rw [decide_eq_true hi,cond_true,wi]
    refine ⟨q0,hi,fun c hc=>?_⟩
    obtain ⟨⟨k1,k2⟩,k3⟩:=h2 c (List.mem_of_getElem? hc)
    refine ⟨k1,k2,k3,q0,by omega,by omega,fun x0 _=>⟨⟨by omega,by omega,rfl,rfl,by rw [List.length_set,hl],?_⟩,by omega⟩⟩
    rw [show (i+1).toNat=i.toNat+1 by omega,take_snoc hc,take_set (by omega),ht]
  · rw [decide_eq_false hi,cond_false]
    obtain rfl:i=(l.length:Int):=by omega
    rw [show ((l.length:Nat):Int).toNat=l.length by omega,List.take_length,← hl,List.take_length] at ht
    rw [ht]
theorem vc_go:VC Tryz.prog Tryz.f53 (bodyOf Tryz.f53) S_go [(23,S_scmp),(84,S_cpo),(85,S_cpst)] (fun _ _=>none)=(∀ (x:(Int×(Int×Int×List Int×Unit)×List (Int×(Int×List (Int×List Int×Int×Unit)×List (List Int)×Unit)×(Int×List (Int×List Int×Int×Unit)×Unit)×Unit)×Unit)×(Int×Int×List Int×Unit)×Unit),okPo x.fst∧List.length x.snd.fst.snd.snd.fst≤(1000000000000:Nat)→
  List.length x.fst.snd.fst.snd.snd.fst≤(9223372036854775807:Nat)→
  List.length x.fst.snd.snd.fst≤(9223372036854775807:Nat)→
  List.length x.snd.fst.snd.snd.fst≤(9223372036854775807:Nat)→
  True∧bif decide (stCmp x.snd.fst x.fst.snd.fst≤(0:Int)) then okPo x.fst∧(x.fst,())=(goF x.fst x.snd.fst,()) else List.length x.snd.fst.snd.snd.fst≤(1000000000000:Nat)∧((x.fst.fst,x.snd.fst,[],()),())=(goF x.fst x.snd.fst,())):=by kernel_rfl
theorem en_go (us:Array Value) (u:World):(callFunc 53 us).run Tryz.prog u=.ok (.enter 53 us) u:=by kernel_rfl
theorem sc_go:SC Tryz.prog 53 S_go:=by
  refine SC.of Tryz.func53 (c:=bodyOf Tryz.f53) (by kernel_rfl) (by kernel_rfl) (fun x=>(by decide:(2:Nat)≤Tryz.f53.ntmps)) (DOk.cons sc_scmp en_scmp (DOk.cons sc_cpo en_cpo (DOk.cons sc_cpst en_cpst DOk.nil))) (Eq.mpr vc_go ?_)
  rintro ⟨p,s,⟨⟩⟩ ⟨h1,h2⟩ - - -
  dsimp only at h1 h2 ⊢
  refine ⟨trivial,?_⟩
  by_cases h:stCmp s p.2.1≤0
  · rw [decide_eq_true h,cond_true]
    exact ⟨h1,by rw [goF,if_pos h]⟩
  · rw [decide_eq_false h,cond_false]
    exact ⟨h2,by rw [goF,if_neg h]⟩
theorem vc_new:VC Tryz.prog Tryz.f40 (bodyOf Tryz.f40) S_new [(49,S_isN)] (fun _ _=>none)=(∀ (x:(List Int×Int×Int×Int×Int×Int×Int×Int×Int×Int×Int×Unit)×Int×Unit),True→
  List.length x.fst.fst≤(9223372036854775807:Nat)→
  True∧bif !isNodeF x.fst x.snd.fst then ((((0:Int),((0:Int),(0:Int),[],()),[],()),(1:Int),()),())=(newF x.fst x.snd.fst,()) else (((x.snd.fst,((0:Int),(0:Int),[],()),[],()),(0:Int),()),())=(newF x.fst x.snd.fst,())):=by kernel_rfl
theorem sc_new:SC Tryz.prog 40 S_new:=by
  refine SC.of Tryz.func40 (c:=bodyOf Tryz.f40) (by kernel_rfl) (by kernel_rfl) (fun x=>(by decide:(2:Nat)≤Tryz.f40.ntmps)) (DOk.cons sc_isN en_isN DOk.nil) (Eq.mpr vc_new ?_)
  rintro ⟨c,n,⟨⟩⟩ - -
  dsimp only
  refine ⟨trivial,?_⟩
  cases h:isNodeF c n
  · rw [Bool.not_false,cond_true,newF,h];rfl
  · rw [Bool.not_true,cond_false,newF,h];rfl
theorem vc_fp2:VC Tryz.prog Tryz.f87 (bodyOf Tryz.f87) S_fp2 [] (fun _ _=>none)=(∀ (x:Int×(Int×Unit)×Unit),True→
  (x.fst==x.snd.fst.fst,x.snd)=(x.fst==x.snd.fst.fst,x.snd)):=by kernel_rfl
theorem en_fp2 (us:Array Value) (u:World):(callFunc 87 us).run Tryz.prog u=.ok (.enter 87 us) u:=by kernel_rfl
theorem sc_fp2:SC Tryz.prog 87 S_fp2:=by
  refine SC.of Tryz.func87 (c:=bodyOf Tryz.f87) (by kernel_rfl) (by kernel_rfl) (fun x=>(by decide:(2:Nat)≤Tryz.f87.ntmps)) DOk.nil (Eq.mpr vc_fp2 ?_)
  intro x _
  rfl
theorem vc_fp3:VC Tryz.prog Tryz.f88 (bodyOf Tryz.f88) S_fp3 [] (fun _ _=>none)=(∀ (x:Int×(Int×Unit)×Unit),True→
  (decide (x.snd.fst.fst < x.fst),x.snd)=(decide (x.snd.fst.fst < x.fst),x.snd)):=by kernel_rfl
theorem en_fp3 (us:Array Value) (u:World):(callFunc 88 us).run Tryz.prog u=.ok (.enter 88 us) u:=by kernel_rfl
theorem sc_fp3:SC Tryz.prog 88 S_fp3:=by
  refine SC.of Tryz.func88 (c:=bodyOf Tryz.f88) (by kernel_rfl) (by kernel_rfl) (fun x=>(by decide:(2:Nat)≤Tryz.f88.ntmps)) DOk.nil (Eq.mpr vc_fp3 ?_)
  intro x _
  rfl
theorem vc_fd2:VC Tryz.prog Tryz.f86 (bodyOf Tryz.f86) S_fd2 [(87,S_fp2)] A_fd2=(∀ (x:((Int×Unit)×Unit)×((Int×(Int×Int×List Int×Unit)×List (Int×(Int×List (Int×List Int×Int×Unit)×List (List Int)×Unit)×(Int×List (Int×List Int×Int×Unit)×Unit)×Unit)×Unit)×Unit)×Unit),List.length x.snd.fst.fst.snd.snd.fst≤big→
  List.length x.snd.fst.fst.snd.fst.snd.snd.fst≤(9223372036854775807:Nat)→
  List.length x.snd.fst.fst.snd.snd.fst≤(9223372036854775807:Nat)→
  ((0:Int)≤(0:Int)∧(0:Int)≤(↑(List.length x.snd.fst.fst.snd.snd.fst):Int)∧x.fst.fst.fst=x.fst.fst.fst∧∀ (q:Int×(Int×List (Int×List Int×Int×Unit)×List (List Int)×Unit)×(Int×List (Int×List Int×Int×Unit)×Unit)×Unit),q∈List.take (Int.toNat (0:Int)) x.snd.fst.fst.snd.snd.fst→
  (q.fst==x.fst.fst.fst)=false)∧∀ (v:Int×((Int×Unit)×Unit)×Unit),((0:Int)≤v.fst∧v.fst≤(↑(List.length x.snd.fst.fst.snd.snd.fst):Int)∧v.snd.fst.fst.fst=x.fst.fst.fst∧∀ (q:Int×(Int×List (Int×List Int×Int×Unit)×List (List Int)×Unit)×(Int×List (Int×List Int×Int×Unit)×Unit)×Unit),q∈List.take (Int.toNat v.fst) x.snd.fst.fst.snd.snd.fst→
  (q.fst==x.fst.fst.fst)=false)→
  bif decide (v.fst < (↑(List.length x.snd.fst.fst.snd.snd.fst):Int)) then (0:Int)≤v.fst∧v.fst < (↑(List.length x.snd.fst.fst.snd.snd.fst):Int)∧Int.toNat v.fst < List.length x.snd.fst.fst.snd.snd.fst∧∀ (x_1:Int×(Int×List (Int×List Int×Int×Unit)×List (List Int)×Unit)×(Int×List (Int×List Int×Int×Unit)×Unit)×Unit),x.snd.fst.fst.snd.snd.fst[Int.toNat v.fst]?=some x_1→
  True∧bif x_1.fst==v.snd.fst.fst.fst then (v.fst,v.snd.fst.fst,x.snd)=((↑(eqAt x.snd.fst.fst.snd.snd.fst x.fst.fst.fst):Int),x.fst.fst,x.snd) else ((0:Int)≤IntKind.wrap IntKind.i64 (v.fst+(1:Int))∧IntKind.wrap IntKind.i64 (v.fst+(1:Int))≤(↑(List.length x.snd.fst.fst.snd.snd.fst):Int)∧v.snd.fst.fst.fst=x.fst.fst.fst∧∀ (q:Int×(Int×List (Int×List Int×Int×Unit)×List (List Int)×Unit)×(Int×List (Int×List Int×Int×Unit)×Unit)×Unit),q∈List.take (Int.toNat (IntKind.wrap IntKind.i64 (v.fst+(1:Int)))) x.snd.fst.fst.snd.snd.fst→
  (q.fst==x.fst.fst.fst)=false)∧Int.toNat ((↑(List.length x.snd.fst.fst.snd.snd.fst):Int) - IntKind.wrap IntKind.i64 (v.fst+(1:Int))) < Int.toNat ((↑(List.length x.snd.fst.fst.snd.snd.fst):Int) - v.fst) else ((↑(List.length x.snd.fst.fst.snd.snd.fst):Int),v.snd.fst.fst,x.snd)=((↑(eqAt x.snd.fst.fst.snd.snd.fst x.fst.fst.fst):Int),x.fst.fst,x.snd)):=by kernel_rfl
theorem en_fd2 (us:Array Value) (u:World):(callFunc 86 us).run Tryz.prog u=.ok (.enter 86 us) u:=by kernel_rfl
theorem sc_fd2:SC Tryz.prog 86 S_fd2:=by
  refine SC.of Tryz.func86 (c:=bodyOf Tryz.f86) (by kernel_rfl) (by kernel_rfl) (fun x=>(by decide:(2:Nat)≤Tryz.f86.ntmps)) (DOk.cons sc_fp2 en_fp2 DOk.nil) (Eq.mpr vc_fd2 ?_)
  rintro ⟨⟨⟨n,⟨⟩⟩,⟨⟩⟩,⟨⟨⟨pn,ps,l,⟨⟩⟩,⟨⟩⟩,⟨⟩⟩⟩ h - -
  dsimp only at h ⊢
  have e1:l.length≤1000000000:=h
  refine ⟨⟨Int.le_refl 0,by omega,rfl,fun q hq=>absurd hq (by simp)⟩,?_⟩
  rintro ⟨i,⟨⟨m,⟨⟩⟩,⟨⟩⟩,⟨⟩⟩ ⟨q0,q1,hm,hq⟩
  dsimp only at q0 q1 hm hq ⊢
  subst hm
  have wi:IntKind.i64.wrap (i+1)=i+1:=IntWalk.i64_in _ (by omega)
  by_cases hi:i < (l.length:Int)
  · rw [decide_eq_true hi,cond_true,wi]
    refine ⟨q0,hi,by omega,fun c hc=>⟨trivial,?_⟩⟩
    cases hb:c.1==m
    · rw [cond_false]
      refine ⟨⟨by omega,by omega,rfl,fun q hq'=>?_⟩,by omega⟩
      rw [show (i+1).toNat=i.toNat+1 by omega,take_snoc hc,List.mem_append,List.mem_singleton] at hq'
      rcases hq' with h | rfl
      · exact hq q h
      · exact hb
    · rw [cond_true,show eqAt l m=i.toNat from fIdx_at hc hb hq,Int.toNat_of_nonneg q0]
  · rw [decide_eq_false hi,cond_false]
    rw [List.take_of_length_le (by omega)] at hq
    rw [show eqAt l m=l.length from fIdx_no hq]
theorem vc_fd3:VC Tryz.prog Tryz.f86 (bodyOf Tryz.f86) S_fd3 [(88,S_fp3)] A_fd3=(∀ (x:((Int×Unit)×Unit)×((Int×(Int×Int×List Int×Unit)×List (Int×(Int×List (Int×List Int×Int×Unit)×List (List Int)×Unit)×(Int×List (Int×List Int×Int×Unit)×Unit)×Unit)×Unit)×Unit)×Unit),List.length x.snd.fst.fst.snd.snd.fst≤big→
  List.length x.snd.fst.fst.snd.fst.snd.snd.fst≤(9223372036854775807:Nat)→
  List.length x.snd.fst.fst.snd.snd.fst≤(9223372036854775807:Nat)→
  ((0:Int)≤(0:Int)∧(0:Int)≤(↑(List.length x.snd.fst.fst.snd.snd.fst):Int)∧x.fst.fst.fst=x.fst.fst.fst∧∀ (q:Int×(Int×List (Int×List Int×Int×Unit)×List (List Int)×Unit)×(Int×List (Int×List Int×Int×Unit)×Unit)×Unit),q∈List.take (Int.toNat (0:Int)) x.snd.fst.fst.snd.snd.fst→
  decide (x.fst.fst.fst < q.fst)=false)∧∀ (v:Int×((Int×Unit)×Unit)×Unit),((0:Int)≤v.fst∧v.fst≤(↑(List.length x.snd.fst.fst.snd.snd.fst):Int)∧v.snd.fst.fst.fst=x.fst.fst.fst∧∀ (q:Int×(Int×List (Int×List Int×Int×Unit)×List (List Int)×Unit)×(Int×List (Int×List Int×Int×Unit)×Unit)×Unit),q∈List.take (Int.toNat v.fst) x.snd.fst.fst.snd.snd.fst→
  decide (x.fst.fst.fst < q.fst)=false)→
  bif decide (v.fst < (↑(List.length x.snd.fst.fst.snd.snd.fst):Int)) then (0:Int)≤v.fst∧v.fst < (↑(List.length x.snd.fst.fst.snd.snd.fst):Int)∧Int.toNat v.fst < List.length x.snd.fst.fst.snd.snd.fst∧∀ (x_1:Int×(Int×List (Int×List Int×Int×Unit)×List (List Int)×Unit)×(Int×List (Int×List Int×Int×Unit)×Unit)×Unit),x.snd.fst.fst.snd.snd.fst[Int.toNat v.fst]?=some x_1→
  True∧bif decide (v.snd.fst.fst.fst < x_1.fst) then (v.fst,v.snd.fst.fst,x.snd)=((↑(gtAt x.snd.fst.fst.snd.snd.fst x.fst.fst.fst):Int),x.fst.fst,x.snd) else ((0:Int)≤IntKind.wrap IntKind.i64 (v.fst+(1:Int))∧IntKind.wrap IntKind.i64 (v.fst+(1:Int))≤(↑(List.length x.snd.fst.fst.snd.snd.fst):Int)∧v.snd.fst.fst.fst=x.fst.fst.fst∧∀ (q:Int×(Int×List (Int×List Int×Int×Unit)×List (List Int)×Unit)×(Int×List (Int×List Int×Int×Unit)×Unit)×Unit),q∈List.take (Int.toNat (IntKind.wrap IntKind.i64 (v.fst+(1:Int)))) x.snd.fst.fst.snd.snd.fst→
  decide (x.fst.fst.fst < q.fst)=false)∧Int.toNat ((↑(List.length x.snd.fst.fst.snd.snd.fst):Int) - IntKind.wrap IntKind.i64 (v.fst+(1:Int))) < Int.toNat ((↑(List.length x.snd.fst.fst.snd.snd.fst):Int) - v.fst) else ((↑(List.length x.snd.fst.fst.snd.snd.fst):Int),v.snd.fst.fst,x.snd)=((↑(gtAt x.snd.fst.fst.snd.snd.fst x.fst.fst.fst):Int),x.fst.fst,x.snd)):=by kernel_rfl
theorem en_fd3 (us:Array Value) (u:World):(callFunc 86 us).run Tryz.prog u=.ok (.enter 86 us) u:=by kernel_rfl
theorem sc_fd3:SC Tryz.prog 86 S_fd3:=by
  refine SC.of Tryz.func86 (c:=bodyOf Tryz.f86) (by kernel_rfl) (by kernel_rfl) (fun x=>(by decide:(2:Nat)≤Tryz.f86.ntmps)) (DOk.cons sc_fp3 en_fp3 DOk.nil) (Eq.mpr vc_fd3 ?_)
  rintro ⟨⟨⟨n,⟨⟩⟩,⟨⟩⟩,⟨⟨⟨pn,ps,l,⟨⟩⟩,⟨⟩⟩,⟨⟩⟩⟩ h - -
  dsimp only at h ⊢
  have e1:l.length≤1000000000:=h
  refine ⟨⟨Int.le_refl 0,by omega,rfl,fun q hq=>absurd hq (by simp)⟩,?_⟩
  rintro ⟨i,⟨⟨m,⟨⟩⟩,⟨⟩⟩,⟨⟩⟩ ⟨q0,q1,hm,hq⟩
  dsimp only at q0 q1 hm hq ⊢
  subst hm
  have wi:IntKind.i64.wrap (i+1)=i+1:=IntWalk.i64_in _ (by omega)
  by_cases hi:i < (l.length:Int)
  · rw [decide_eq_true hi,cond_true,wi]
    refine ⟨q0,hi,by omega,fun c hc=>⟨trivial,?_⟩⟩
    cases hb:decide (m < c.1)
    · rw [cond_false]
      refine ⟨⟨by omega,by omega,rfl,fun q hq'=>?_⟩,by omega⟩
      rw [show (i+1).toNat=i.toNat+1 by omega,take_snoc hc,List.mem_append,List.mem_singleton] at hq'
      rcases hq' with h | rfl
      · exact hq q h
      · exact hb
    · rw [cond_true,show gtAt l m=i.toNat from fIdx_at hc hb hq,Int.toNat_of_nonneg q0]
  · rw [decide_eq_false hi,cond_false]
    rw [List.take_of_length_le (by omega)] at hq
    rw [show gtAt l m=l.length from fIdx_no hq]
theorem vc_ins:VC Tryz.prog Tryz.f89 (bodyOf Tryz.f89) S_ins [] (fun _ _=>none)=(∀ (x:List (Int×(Int×List (Int×List Int×Int×Unit)×List (List Int)×Unit)×(Int×List (Int×List Int×Int×Unit)×Unit)×Unit)×Int×List (Int×(Int×List (Int×List Int×Int×Unit)×List (List Int)×Unit)×(Int×List (Int×List Int×Int×Unit)×Unit)×Unit)×Unit),List.length x.fst≤(2000000000:Nat)∧List.length x.snd.snd.fst=(1:Nat)∧(0:Int)≤x.snd.fst∧x.snd.fst≤(↑(List.length x.fst):Int)→
  List.length x.fst≤(9223372036854775807:Nat)→
  List.length x.snd.snd.fst≤(9223372036854775807:Nat)→
  (0:Int)≤x.snd.fst∧x.snd.fst≤(↑(List.length x.fst):Int)∧(↑(List.length x.fst):Int)≤(↑(List.length x.fst):Int)∧(List.length x.snd.snd.fst≤(9223372036854775807:Nat)→
  bif (↑(List.length x.snd.snd.fst):Int)==(0:Int) then (x.fst,())=(insF x.fst (Int.toNat x.snd.fst) x.snd.snd.fst,()) else bif x.snd.fst==(↑(List.length x.fst):Int) then (List.length x.fst+List.length x.snd.snd.fst)*(96:Nat)≤(140737488351232:Nat)∧(x.fst++x.snd.snd.fst,())=(insF x.fst (Int.toNat x.snd.fst) x.snd.snd.fst,()) else bif decide ((↑(List.length x.fst):Int) < IntKind.wrap IntKind.i64 ((↑(List.length x.fst):Int)+(↑(List.length x.snd.snd.fst):Int))) then (0:Int)≤(0:Int)∧(0:Int)≤x.snd.fst∧x.snd.fst≤(↑(List.length x.fst):Int)∧Int.toNat x.snd.fst - (0:Nat)≤List.length x.fst∧(0:Int)≤IntKind.wrap IntKind.i64 (IntKind.wrap IntKind.i64 ((↑(List.length x.fst):Int)+(↑(List.length x.snd.snd.fst):Int)) - x.snd.fst)∧(↑(List.length x.fst):Int) < (↑(Int.toNat x.snd.fst - (0:Nat)):Int)+IntKind.wrap IntKind.i64 (IntKind.wrap IntKind.i64 ((↑(List.length x.fst):Int)+(↑(List.length x.snd.snd.fst):Int)) - x.snd.fst)∧(↑(Int.toNat x.snd.fst - (0:Nat)):Int)+IntKind.wrap IntKind.i64 (IntKind.wrap IntKind.i64 ((↑(List.length x.fst):Int)+(↑(List.length x.snd.snd.fst):Int)) - x.snd.fst)≤(140737488351232:Int)∧((↑(Int.toNat x.snd.fst - (0:Nat)):Int)+IntKind.wrap IntKind.i64 (IntKind.wrap IntKind.i64 ((↑(List.length x.fst):Int)+(↑(List.length x.snd.snd.fst):Int)) - x.snd.fst))*(96:Int)≤(140737488351232:Int)∧(0:Int)≤x.snd.fst∧x.snd.fst≤(↑(List.length (List.take (Int.toNat x.snd.fst - (0:Nat)) x.fst++List.replicate (Int.toNat (IntKind.wrap IntKind.i64 (IntKind.wrap IntKind.i64 ((↑(List.length x.fst):Int)+(↑(List.length x.snd.snd.fst):Int)) - x.snd.fst))) (((0:Int),((0:Int),[],[],()),((0:Int),[],()),()):Pee))):Int)∧(↑(List.length (List.take (Int.toNat x.snd.fst - (0:Nat)) x.fst++List.replicate (Int.toNat (IntKind.wrap IntKind.i64 (IntKind.wrap IntKind.i64 ((↑(List.length x.fst):Int)+(↑(List.length x.snd.snd.fst):Int)) - x.snd.fst))) (((0:Int),((0:Int),[],[],()),((0:Int),[],()),()):Pee))):Int)≤(↑(List.length (List.take (Int.toNat x.snd.fst - (0:Nat)) x.fst++List.replicate (Int.toNat (IntKind.wrap IntKind.i64 (IntKind.wrap IntKind.i64 ((↑(List.length x.fst):Int)+(↑(List.length x.snd.snd.fst):Int)) - x.snd.fst))) (((0:Int),((0:Int),[],[],()),((0:Int),[],()),()):Pee))):Int)∧(0:Nat)+Int.toNat x.snd.fst+(Int.toNat (↑(List.length (List.take (Int.toNat x.snd.fst - (0:Nat)) x.fst++List.replicate (Int.toNat (IntKind.wrap IntKind.i64 (IntKind.wrap IntKind.i64 ((↑(List.length x.fst):Int)+(↑(List.length x.snd.snd.fst):Int)) - x.snd.fst))) (((0:Int),((0:Int),[],[],()),((0:Int),[],()),()):Pee))):Int) - Int.toNat x.snd.fst)≤List.length (List.take (Int.toNat x.snd.fst - (0:Nat)) x.fst++List.replicate (Int.toNat (IntKind.wrap IntKind.i64 (IntKind.wrap IntKind.i64 ((↑(List.length x.fst):Int)+(↑(List.length x.snd.snd.fst):Int)) - x.snd.fst))) (((0:Int),((0:Int),[],[],()),((0:Int),[],()),()):Pee))∧(0:Int)≤IntKind.wrap IntKind.i64 (x.snd.fst+(↑(List.length x.snd.snd.fst):Int))∧IntKind.wrap IntKind.i64 (x.snd.fst+(↑(List.length x.snd.snd.fst):Int))≤(↑(List.length (List.take ((0:Nat)+Int.toNat x.snd.fst) (List.take (Int.toNat x.snd.fst - (0:Nat)) x.fst++List.replicate (Int.toNat (IntKind.wrap IntKind.i64 (IntKind.wrap IntKind.i64 ((↑(List.length x.fst):Int)+(↑(List.length x.snd.snd.fst):Int)) - x.snd.fst))) (((0:Int),((0:Int),[],[],()),((0:Int),[],()),()):Pee))++List.take (min (Int.toNat (↑(List.length (List.take (Int.toNat x.snd.fst - (0:Nat)) x.fst++List.replicate (Int.toNat (IntKind.wrap IntKind.i64 (IntKind.wrap IntKind.i64 ((↑(List.length x.fst):Int)+(↑(List.length x.snd.snd.fst):Int)) - x.snd.fst))) (((0:Int),((0:Int),[],[],()),((0:Int),[],()),()):Pee))):Int) - Int.toNat x.snd.fst) (List.length x.snd.snd.fst)) x.snd.snd.fst++List.drop ((0:Nat)+Int.toNat x.snd.fst+min (Int.toNat (↑(List.length (List.take (Int.toNat x.snd.fst - (0:Nat)) x.fst++List.replicate (Int.toNat (IntKind.wrap IntKind.i64 (IntKind.wrap IntKind.i64 ((↑(List.length x.fst):Int)+(↑(List.length x.snd.snd.fst):Int)) - x.snd.fst))) (((0:Int),((0:Int),[],[],()),((0:Int),[],()),()):Pee))):Int) - Int.toNat x.snd.fst) (List.length x.snd.snd.fst)) (List.take (Int.toNat x.snd.fst - (0:Nat)) x.fst++List.replicate (Int.toNat (IntKind.wrap IntKind.i64 (IntKind.wrap IntKind.i64 ((↑(List.length x.fst):Int)+(↑(List.length x.snd.snd.fst):Int)) - x.snd.fst))) (((0:Int),((0:Int),[],[],()),((0:Int),[],()),()):Pee)))):Int)∧(↑(List.length (List.take ((0:Nat)+Int.toNat x.snd.fst) (List.take (Int.toNat x.snd.fst - (0:Nat)) x.fst++List.replicate (Int.toNat (IntKind.wrap IntKind.i64 (IntKind.wrap IntKind.i64 ((↑(List.length x.fst):Int)+(↑(List.length x.snd.snd.fst):Int)) - x.snd.fst))) (((0:Int),((0:Int),[],[],()),((0:Int),[],()),()):Pee))++List.take (min (Int.toNat (↑(List.length (List.take (Int.toNat x.snd.fst - (0:Nat)) x.fst++List.replicate (Int.toNat (IntKind.wrap IntKind.i64 (IntKind.wrap IntKind.i64 ((↑(List.length x.fst):Int)+(↑(List.length x.snd.snd.fst):Int)) - x.snd.fst))) (((0:Int),((0:Int),[],[],()),((0:Int),[],()),()):Pee))):Int) - Int.toNat x.snd.fst) (List.length x.snd.snd.fst)) x.snd.snd.fst++List.drop ((0:Nat)+Int.toNat x.snd.fst+min (Int.toNat (↑(List.length (List.take (Int.toNat x.snd.fst - (0:Nat)) x.fst++List.replicate (Int.toNat (IntKind.wrap IntKind.i64 (IntKind.wrap IntKind.i64 ((↑(List.length x.fst):Int)+(↑(List.length x.snd.snd.fst):Int)) - x.snd.fst))) (((0:Int),((0:Int),[],[],()),((0:Int),[],()),()):Pee))):Int) - Int.toNat x.snd.fst) (List.length x.snd.snd.fst)) (List.take (Int.toNat x.snd.fst - (0:Nat)) x.fst++List.replicate (Int.toNat (IntKind.wrap IntKind.i64 (IntKind.wrap IntKind.i64 ((↑(List.length x.fst):Int)+(↑(List.length x.snd.snd.fst):Int)) - x.snd.fst))) (((0:Int),((0:Int),[],[],()),((0:Int),[],()),()):Pee)))):Int)≤(↑(List.length (List.take ((0:Nat)+Int.toNat x.snd.fst) (List.take (Int.toNat x.snd.fst - (0:Nat)) x.fst++List.replicate (Int.toNat (IntKind.wrap IntKind.i64 (IntKind.wrap IntKind.i64 ((↑(List.length x.fst):Int)+(↑(List.length x.snd.snd.fst):Int)) - x.snd.fst))) (((0:Int),((0:Int),[],[],()),((0:Int),[],()),()):Pee))++List.take (min (Int.toNat (↑(List.length (List.take (Int.toNat x.snd.fst - (0:Nat)) x.fst++List.replicate (Int.toNat (IntKind.wrap IntKind.i64 (IntKind.wrap IntKind.i64 ((↑(List.length x.fst):Int)+(↑(List.length x.snd.snd.fst):Int)) - x.snd.fst))) (((0:Int),((0:Int),[],[],()),((0:Int),[],()),()):Pee))):Int) - Int.toNat x.snd.fst) (List.length x.snd.snd.fst)) x.snd.snd.fst++List.drop ((0:Nat)+Int.toNat x.snd.fst+min (Int.toNat (↑(List.length (List.take (Int.toNat x.snd.fst - (0:Nat)) x.fst++List.replicate (Int.toNat (IntKind.wrap IntKind.i64 (IntKind.wrap IntKind.i64 ((↑(List.length x.fst):Int)+(↑(List.length x.snd.snd.fst):Int)) - x.snd.fst))) (((0:Int),((0:Int),[],[],()),((0:Int),[],()),()):Pee))):Int) - Int.toNat x.snd.fst) (List.length x.snd.snd.fst)) (List.take (Int.toNat x.snd.fst - (0:Nat)) x.fst++List.replicate (Int.toNat (IntKind.wrap IntKind.i64 (IntKind.wrap IntKind.i64 ((↑(List.length x.fst):Int)+(↑(List.length x.snd.snd.fst):Int)) - x.snd.fst))) (((0:Int),((0:Int),[],[],()),((0:Int),[],()),()):Pee)))):Int)∧(0:Int)≤x.snd.fst∧x.snd.fst≤(↑(List.length x.fst):Int)∧(↑(List.length x.fst):Int)≤(↑(List.length x.fst):Int)∧(0:Nat)+Int.toNat (IntKind.wrap IntKind.i64 (x.snd.fst+(↑(List.length x.snd.snd.fst):Int)))+(Int.toNat (↑(List.length (List.take ((0:Nat)+Int.toNat x.snd.fst) (List.take (Int.toNat x.snd.fst - (0:Nat)) x.fst++List.replicate (Int.toNat (IntKind.wrap IntKind.i64 (IntKind.wrap IntKind.i64 ((↑(List.length x.fst):Int)+(↑(List.length x.snd.snd.fst):Int)) - x.snd.fst))) (((0:Int),((0:Int),[],[],()),((0:Int),[],()),()):Pee))++List.take (min (Int.toNat (↑(List.length (List.take (Int.toNat x.snd.fst - (0:Nat)) x.fst++List.replicate (Int.toNat (IntKind.wrap IntKind.i64 (IntKind.wrap IntKind.i64 ((↑(List.length x.fst):Int)+(↑(List.length x.snd.snd.fst):Int)) - x.snd.fst))) (((0:Int),((0:Int),[],[],()),((0:Int),[],()),()):Pee))):Int) - Int.toNat x.snd.fst) (List.length x.snd.snd.fst)) x.snd.snd.fst++List.drop ((0:Nat)+Int.toNat x.snd.fst+min (Int.toNat (↑(List.length (List.take (Int.toNat x.snd.fst - (0:Nat)) x.fst++List.replicate (Int.toNat (IntKind.wrap IntKind.i64 (IntKind.wrap IntKind.i64 ((↑(List.length x.fst):Int)+(↑(List.length x.snd.snd.fst):Int)) - x.snd.fst))) (((0:Int),((0:Int),[],[],()),((0:Int),[],()),()):Pee))):Int) - Int.toNat x.snd.fst) (List.length x.snd.snd.fst)) (List.take (Int.toNat x.snd.fst - (0:Nat)) x.fst++List.replicate (Int.toNat (IntKind.wrap IntKind.i64 (IntKind.wrap IntKind.i64 ((↑(List.length x.fst):Int)+(↑(List.length x.snd.snd.fst):Int)) - x.snd.fst))) (((0:Int),((0:Int),[],[],()),((0:Int),[],()),()):Pee)))):Int) - Int.toNat (IntKind.wrap IntKind.i64 (x.snd.fst+(↑(List.length x.snd.snd.fst):Int))))≤List.length (List.take ((0:Nat)+Int.toNat x.snd.fst) (List.take (Int.toNat x.snd.fst - (0:Nat)) x.fst++List.replicate (Int.toNat (IntKind.wrap IntKind.i64 (IntKind.wrap IntKind.i64 ((↑(List.length x.fst):Int)+(↑(List.length x.snd.snd.fst):Int)) - x.snd.fst))) (((0:Int),((0:Int),[],[],()),((0:Int),[],()),()):Pee))++List.take (min (Int.toNat (↑(List.length (List.take (Int.toNat x.snd.fst - (0:Nat)) x.fst++List.replicate (Int.toNat (IntKind.wrap IntKind.i64 (IntKind.wrap IntKind.i64 ((↑(List.length x.fst):Int)+(↑(List.length x.snd.snd.fst):Int)) - x.snd.fst))) (((0:Int),((0:Int),[],[],()),((0:Int),[],()),()):Pee))):Int) - Int.toNat x.snd.fst) (List.length x.snd.snd.fst)) x.snd.snd.fst++List.drop ((0:Nat)+Int.toNat x.snd.fst+min (Int.toNat (↑(List.length (List.take (Int.toNat x.snd.fst - (0:Nat)) x.fst++List.replicate (Int.toNat (IntKind.wrap IntKind.i64 (IntKind.wrap IntKind.i64 ((↑(List.length x.fst):Int)+(↑(List.length x.snd.snd.fst):Int)) - x.snd.fst))) (((0:Int),((0:Int),[],[],()),((0:Int),[],()),()):Pee))):Int) - Int.toNat x.snd.fst) (List.length x.snd.snd.fst)) (List.take (Int.toNat x.snd.fst - (0:Nat)) x.fst++List.replicate (Int.toNat (IntKind.wrap IntKind.i64 (IntKind.wrap IntKind.i64 ((↑(List.length x.fst):Int)+(↑(List.length x.snd.snd.fst):Int)) - x.snd.fst))) (((0:Int),((0:Int),[],[],()),((0:Int),[],()),()):Pee)))∧(0:Nat)+Int.toNat x.snd.fst+(Int.toNat (↑(List.length x.fst):Int) - Int.toNat x.snd.fst)≤List.length x.fst∧(List.take ((0:Nat)+Int.toNat (IntKind.wrap IntKind.i64 (x.snd.fst+(↑(List.length x.snd.snd.fst):Int)))) (List.take ((0:Nat)+Int.toNat x.snd.fst) (List.take (Int.toNat x.snd.fst - (0:Nat)) x.fst++List.replicate (Int.toNat (IntKind.wrap IntKind.i64 (IntKind.wrap IntKind.i64 ((↑(List.length x.fst):Int)+(↑(List.length x.snd.snd.fst):Int)) - x.snd.fst))) (((0:Int),((0:Int),[],[],()),((0:Int),[],()),()):Pee))++List.take (min (Int.toNat (↑(List.length (List.take (Int.toNat x.snd.fst - (0:Nat)) x.fst++List.replicate (Int.toNat (IntKind.wrap IntKind.i64 (IntKind.wrap IntKind.i64 ((↑(List.length x.fst):Int)+(↑(List.length x.snd.snd.fst):Int)) - x.snd.fst))) (((0:Int),((0:Int),[],[],()),((0:Int),[],()),()):Pee))):Int) - Int.toNat x.snd.fst) (List.length x.snd.snd.fst)) x.snd.snd.fst++List.drop ((0:Nat)+Int.toNat x.snd.fst+min (Int.toNat (↑(List.length (List.take (Int.toNat x.snd.fst - (0:Nat)) x.fst++List.replicate (Int.toNat (IntKind.wrap IntKind.i64 (IntKind.wrap IntKind.i64 ((↑(List.length x.fst):Int)+(↑(List.length x.snd.snd.fst):Int)) - x.snd.fst))) (((0:Int),((0:Int),[],[],()),((0:Int),[],()),()):Pee))):Int) - Int.toNat x.snd.fst) (List.length x.snd.snd.fst)) (List.take (Int.toNat x.snd.fst - (0:Nat)) x.fst++List.replicate (Int.toNat (IntKind.wrap IntKind.i64 (IntKind.wrap IntKind.i64 ((↑(List.length x.fst):Int)+(↑(List.length x.snd.snd.fst):Int)) - x.snd.fst))) (((0:Int),((0:Int),[],[],()),((0:Int),[],()),()):Pee)))++List.take (min (Int.toNat (↑(List.length (List.take ((0:Nat)+Int.toNat x.snd.fst) (List.take (Int.toNat x.snd.fst - (0:Nat)) x.fst++List.replicate (Int.toNat (IntKind.wrap IntKind.i64 (IntKind.wrap IntKind.i64 ((↑(List.length x.fst):Int)+(↑(List.length x.snd.snd.fst):Int)) - x.snd.fst))) (((0:Int),((0:Int),[],[],()),((0:Int),[],()),()):Pee))++List.take (min (Int.toNat (↑(List.length (List.take (Int.toNat x.snd.fst - (0:Nat)) x.fst++List.replicate (Int.toNat (IntKind.wrap IntKind.i64 (IntKind.wrap IntKind.i64 ((↑(List.length x.fst):Int)+(↑(List.length x.snd.snd.fst):Int)) - x.snd.fst))) (((0:Int),((0:Int),[],[],()),((0:Int),[],()),()):Pee))):Int) - Int.toNat x.snd.fst) (List.length x.snd.snd.fst)) x.snd.snd.fst++List.drop ((0:Nat)+Int.toNat x.snd.fst+min (Int.toNat (↑(List.length (List.take (Int.toNat x.snd.fst - (0:Nat)) x.fst++List.replicate (Int.toNat (IntKind.wrap IntKind.i64 (IntKind.wrap IntKind.i64 ((↑(List.length x.fst):Int)+(↑(List.length x.snd.snd.fst):Int)) - x.snd.fst))) (((0:Int),((0:Int),[],[],()),((0:Int),[],()),()):Pee))):Int) - Int.toNat x.snd.fst) (List.length x.snd.snd.fst)) (List.take (Int.toNat x.snd.fst - (0:Nat)) x.fst++List.replicate (Int.toNat (IntKind.wrap IntKind.i64 (IntKind.wrap IntKind.i64 ((↑(List.length x.fst):Int)+(↑(List.length x.snd.snd.fst):Int)) - x.snd.fst))) (((0:Int),((0:Int),[],[],()),((0:Int),[],()),()):Pee)))):Int) - Int.toNat (IntKind.wrap IntKind.i64 (x.snd.fst+(↑(List.length x.snd.snd.fst):Int)))) (List.length (List.take (Int.toNat (↑(List.length x.fst):Int) - Int.toNat x.snd.fst) (List.drop ((0:Nat)+Int.toNat x.snd.fst) x.fst)))) (List.take (Int.toNat (↑(List.length x.fst):Int) - Int.toNat x.snd.fst) (List.drop ((0:Nat)+Int.toNat x.snd.fst) x.fst))++List.drop ((0:Nat)+Int.toNat (IntKind.wrap IntKind.i64 (x.snd.fst+(↑(List.length x.snd.snd.fst):Int)))+min (Int.toNat (↑(List.length (List.take ((0:Nat)+Int.toNat x.snd.fst) (List.take (Int.toNat x.snd.fst - (0:Nat)) x.fst++List.replicate (Int.toNat (IntKind.wrap IntKind.i64 (IntKind.wrap IntKind.i64 ((↑(List.length x.fst):Int)+(↑(List.length x.snd.snd.fst):Int)) - x.snd.fst))) (((0:Int),((0:Int),[],[],()),((0:Int),[],()),()):Pee))++List.take (min (Int.toNat (↑(List.length (List.take (Int.toNat x.snd.fst - (0:Nat)) x.fst++List.replicate (Int.toNat (IntKind.wrap IntKind.i64 (IntKind.wrap IntKind.i64 ((↑(List.length x.fst):Int)+(↑(List.length x.snd.snd.fst):Int)) - x.snd.fst))) (((0:Int),((0:Int),[],[],()),((0:Int),[],()),()):Pee))):Int) - Int.toNat x.snd.fst) (List.length x.snd.snd.fst)) x.snd.snd.fst++List.drop ((0:Nat)+Int.toNat x.snd.fst+min (Int.toNat (↑(List.length (List.take (Int.toNat x.snd.fst - (0:Nat)) x.fst++List.replicate (Int.toNat (IntKind.wrap IntKind.i64 (IntKind.wrap IntKind.i64 ((↑(List.length x.fst):Int)+(↑(List.length x.snd.snd.fst):Int)) - x.snd.fst))) (((0:Int),((0:Int),[],[],()),((0:Int),[],()),()):Pee))):Int) - Int.toNat x.snd.fst) (List.length x.snd.snd.fst)) (List.take (Int.toNat x.snd.fst - (0:Nat)) x.fst++List.replicate (Int.toNat (IntKind.wrap IntKind.i64 (IntKind.wrap IntKind.i64 ((↑(List.length x.fst):Int)+(↑(List.length x.snd.snd.fst):Int)) - x.snd.fst))) (((0:Int),((0:Int),[],[],()),((0:Int),[],()),()):Pee)))):Int) - Int.toNat (IntKind.wrap IntKind.i64 (x.snd.fst+(↑(List.length x.snd.snd.fst):Int)))) (List.length (List.take (Int.toNat (↑(List.length x.fst):Int) - Int.toNat x.snd.fst) (List.drop ((0:Nat)+Int.toNat x.snd.fst) x.fst)))) (List.take ((0:Nat)+Int.toNat x.snd.fst) (List.take (Int.toNat x.snd.fst - (0:Nat)) x.fst++List.replicate (Int.toNat (IntKind.wrap IntKind.i64 (IntKind.wrap IntKind.i64 ((↑(List.length x.fst):Int)+(↑(List.length x.snd.snd.fst):Int)) - x.snd.fst))) (((0:Int),((0:Int),[],[],()),((0:Int),[],()),()):Pee))++List.take (min (Int.toNat (↑(List.length (List.take (Int.toNat x.snd.fst - (0:Nat)) x.fst++List.replicate (Int.toNat (IntKind.wrap IntKind.i64 (IntKind.wrap IntKind.i64 ((↑(List.length x.fst):Int)+(↑(List.length x.snd.snd.fst):Int)) - x.snd.fst))) (((0:Int),((0:Int),[],[],()),((0:Int),[],()),()):Pee))):Int) - Int.toNat x.snd.fst) (List.length x.snd.snd.fst)) x.snd.snd.fst++List.drop ((0:Nat)+Int.toNat x.snd.fst+min (Int.toNat (↑(List.length (List.take (Int.toNat x.snd.fst - (0:Nat)) x.fst++List.replicate (Int.toNat (IntKind.wrap IntKind.i64 (IntKind.wrap IntKind.i64 ((↑(List.length x.fst):Int)+(↑(List.length x.snd.snd.fst):Int)) - x.snd.fst))) (((0:Int),((0:Int),[],[],()),((0:Int),[],()),()):Pee))):Int) - Int.toNat x.snd.fst) (List.length x.snd.snd.fst)) (List.take (Int.toNat x.snd.fst - (0:Nat)) x.fst++List.replicate (Int.toNat (IntKind.wrap IntKind.i64 (IntKind.wrap IntKind.i64 ((↑(List.length x.fst):Int)+(↑(List.length x.snd.snd.fst):Int)) - x.snd.fst))) (((0:Int),((0:Int),[],[],()),((0:Int),[],()),()):Pee))),())=(insF x.fst (Int.toNat x.snd.fst) x.snd.snd.fst,()) else (0:Int)≤(0:Int)∧(0:Int)≤IntKind.wrap IntKind.i64 ((↑(List.length x.fst):Int)+(↑(List.length x.snd.snd.fst):Int))∧IntKind.wrap IntKind.i64 ((↑(List.length x.fst):Int)+(↑(List.length x.snd.snd.fst):Int))≤(↑(List.length x.fst):Int)∧(0:Int)≤IntKind.wrap IntKind.i64 (x.snd.fst+(↑(List.length x.snd.snd.fst):Int))∧IntKind.wrap IntKind.i64 (x.snd.fst+(↑(List.length x.snd.snd.fst):Int))≤(↑(Int.toNat (IntKind.wrap IntKind.i64 ((↑(List.length x.fst):Int)+(↑(List.length x.snd.snd.fst):Int))) - (0:Nat)):Int)∧(↑(Int.toNat (IntKind.wrap IntKind.i64 ((↑(List.length x.fst):Int)+(↑(List.length x.snd.snd.fst):Int))) - (0:Nat)):Int)≤(↑(Int.toNat (IntKind.wrap IntKind.i64 ((↑(List.length x.fst):Int)+(↑(List.length x.snd.snd.fst):Int))) - (0:Nat)):Int)∧False)):=by kernel_rfl
theorem en_ins (us:Array Value) (u:World):(callFunc 89 us).run Tryz.prog u=.ok (.enter 89 us) u:=by kernel_rfl
theorem sc_ins:SC Tryz.prog 89 S_ins:=by
  refine SC.of Tryz.func89 (c:=bodyOf Tryz.f89) (by kernel_rfl) (by kernel_rfl) (fun x=>(by decide:(3:Nat)≤Tryz.f89.ntmps)) DOk.nil (Eq.mpr vc_ins ?_)
  rintro ⟨l,i,v,⟨⟩⟩ ⟨h1,h2,h3,h4⟩ - -
  dsimp only at h1 h2 h3 h4 ⊢
  obtain ⟨y,rfl⟩:∃ y,v=[y]:=by
    cases v with
    | nil=>cases h2
    | cons y r => cases r with
      | nil=>exact ⟨y,rfl⟩
      | cons z r=>simp at h2
  obtain ⟨n,rfl⟩:∃ n:Nat,i=n:=⟨i.toNat,by omega⟩
  have hv:([y]:List Pee).length=1:=rfl
  have c1:((1:Nat):Int)=1:=rfl
  have w1:IntKind.i64.wrap ((l.length:Int)+1)=(l.length:Int)+1:=IntWalk.i64_in _ (by omega)
  have w2:IntKind.i64.wrap ((l.length:Int)+1 - n)=(l.length:Int)+1 - n:=IntWalk.i64_in _ (by omega)
  have w3:IntKind.i64.wrap ((n:Int)+1)=(n:Int)+1:=IntWalk.i64_in _ (by omega)
  have t1:Int.toNat ((l.length:Int)+1 - n)=l.length+1 - n:=by omega
  have t2:Int.toNat ((n:Int)+1)=n+1:=by omega
  rw [hv,c1,w1]
  refine ⟨h3,h4,Int.le_refl _,fun _=>?_⟩
  rw [show ((1:Int)==0)=false from rfl,cond_false]
  by_cases hn:(n:Int)=(l.length:Int)
  · rw [beq_iff_eq.2 hn,cond_true]
    refine ⟨by omega,?_⟩
    unfold insF
    rw [Int.toNat_natCast,List.take_of_length_le (by omega),List.drop_eq_nil_of_le (by omega),List.append_nil]
  rw [beq_eq_false_iff_ne.2 hn,cond_false,decide_eq_true (by omega:(l.length:Int) < (l.length:Int)+1),cond_true,w2,w3,t1,t2,Int.toNat_natCast]
  simp only [Nat.sub_zero,Nat.zero_add]
  generalize hS:List.take n l++List.replicate (l.length+1 - n) _=S2
  have l2:S2.length=l.length+1:=by rw [← hS,List.length_append,List.length_take,List.length_replicate];omega
  have k2:S2.take n=l.take n:=by rw [← hS,List.take_append_of_le_length (by rw [List.length_take];omega),List.take_take,Nat.min_self]
  rw [l2,Int.toNat_natCast,show min (l.length+1 - n) 1=1 by omega,show List.take 1 [y]=[y] from rfl,k2]
  generalize hS3:List.take n l++[y]++List.drop (n+1) S2=S3
  have l3:S3.length=l.length+1:=by rw [← hS3,List.length_append,List.length_append,List.length_take,List.length_drop,hv];omega
  have k3:S3.take (n+1)=l.take n++[y]:=by rw [← hS3,List.take_append_of_le_length (by rw [List.length_append,List.length_take,hv];omega),List.take_of_length_le (by rw [List.length_append,List.length_take,hv];omega)]
  rw [l3,Int.toNat_natCast,Int.toNat_natCast,List.take_of_length_le (by rw [List.length_drop];omega:(l.drop n).length≤l.length - n),List.length_drop,show min (l.length+1 - (n+1)) (l.length - n)=l.length - n by omega,List.take_of_length_le (by rw [List.length_drop];omega:(l.drop n).length≤l.length - n),k3,List.drop_eq_nil_of_le (by omega:S3.length≤n+1+(l.length - n)),List.append_nil]
  repeat (refine And.intro (by omega) ?_)
  rfl
theorem vc_lw:VC Tryz.prog Tryz.f54 (bodyOf Tryz.f54) S_lw [(86,S_fd2),(86,S_fd3),(89,S_ins)] (fun _ _=>none)=(∀ (x:(Int×(Int×Int×List Int×Unit)×List (Int×(Int×List (Int×List Int×Int×Unit)×List (List Int)×Unit)×(Int×List (Int×List Int×Int×Unit)×Unit)×Unit)×Unit)×Int×Unit),List.length x.fst.snd.snd.fst≤big→
  List.length x.fst.snd.fst.snd.snd.fst≤(9223372036854775807:Nat)→
  List.length x.fst.snd.snd.fst≤(9223372036854775807:Nat)→
  List.length x.fst.snd.snd.fst≤big∧bif (↑(eqAt x.fst.snd.snd.fst x.snd.fst):Int)==(↑(List.length x.fst.snd.snd.fst):Int) then List.length x.fst.snd.snd.fst≤big∧(List.length x.fst.snd.snd.fst≤(2000000000:Nat)∧List.length [((x.snd.fst,((0:Int),[],[],()),((0:Int),[],()),()):Pee)]=(1:Nat)∧(0:Int)≤(↑(gtAt x.fst.snd.snd.fst x.snd.fst):Int)∧(↑(gtAt x.fst.snd.snd.fst x.snd.fst):Int)≤(↑(List.length x.fst.snd.snd.fst):Int))∧(0:Int)≤(↑(gtAt x.fst.snd.snd.fst x.snd.fst):Int)∧(↑(gtAt x.fst.snd.snd.fst x.snd.fst):Int) < (↑(List.length (insF x.fst.snd.snd.fst (Int.toNat (↑(gtAt x.fst.snd.snd.fst x.snd.fst):Int)) [((x.snd.fst,((0:Int),[],[],()),((0:Int),[],()),()):Pee)])):Int)∧(Int.toNat (↑(gtAt x.fst.snd.snd.fst x.snd.fst):Int),(x.fst.fst,x.fst.snd.fst,insF x.fst.snd.snd.fst (Int.toNat (↑(gtAt x.fst.snd.snd.fst x.snd.fst):Int)) [((x.snd.fst,((0:Int),[],[],()),((0:Int),[],()),()):Pee)],()),())=(lnkI x.fst.snd.snd.fst x.snd.fst,(x.fst.fst,x.fst.snd.fst,lnkL x.fst.snd.snd.fst x.snd.fst,()),()) else (0:Int)≤(↑(eqAt x.fst.snd.snd.fst x.snd.fst):Int)∧(↑(eqAt x.fst.snd.snd.fst x.snd.fst):Int) < (↑(List.length x.fst.snd.snd.fst):Int)∧(Int.toNat (↑(eqAt x.fst.snd.snd.fst x.snd.fst):Int),x.fst,())=(lnkI x.fst.snd.snd.fst x.snd.fst,(x.fst.fst,x.fst.snd.fst,lnkL x.fst.snd.snd.fst x.snd.fst,()),())):=by kernel_rfl
theorem en_lw (us:Array Value) (u:World):(callFunc 54 us).run Tryz.prog u=.ok (.enter 54 us) u:=by kernel_rfl
theorem sc_lw:SC Tryz.prog 54 S_lw:=by
  refine SC.of Tryz.func54 (c:=bodyOf Tryz.f54) (by kernel_rfl) (by kernel_rfl) (fun x=>(by decide:(2:Nat)≤Tryz.f54.ntmps)) (DOk.cons sc_fd2 en_fd2 (DOk.cons sc_fd3 en_fd3 (DOk.cons sc_ins en_ins DOk.nil))) (Eq.mpr vc_lw ?_)
  rintro ⟨⟨a,s,l,⟨⟩⟩,n,⟨⟩⟩ h - -
  dsimp only at h ⊢
  have e1:l.length≤1000000000:=h
  have g1:=fIdx_le (fun q:Pee=>q.1==n) l
  have g2:=fIdx_le (fun q:Pee=>decide (n < q.1)) l
  have g1':eqAt l n≤l.length:=g1
  have g2':gtAt l n≤l.length:=g2
  refine ⟨h,?_⟩
  by_cases e:eqAt l n=l.length
  · rw [show (((eqAt l n:Nat):Int)==(l.length:Nat))=true from beq_iff_eq.2 (by omega),cond_true]
    refine ⟨h,⟨by omega,rfl,by omega,by omega⟩,by omega,?_,?_⟩
    · rw [insF_len _ _ _ (by omega),List.length_cons,List.length_nil]
      omega
    · rw [lnkI,if_pos e,lnkL,if_pos e,Int.toNat_natCast]
      rfl
  · rw [show (((eqAt l n:Nat):Int)==(l.length:Nat))=false from beq_eq_false_iff_ne.2 (by omega),cond_false]
    refine ⟨by omega,by omega,?_⟩
    rw [lnkI,if_neg e,lnkL,if_neg e,Int.toNat_natCast]
end Go.Proofs.YtjkbkhjalimebaaGreatDoor
namespace Go.Proofs.YtjkbkhjalimebaaGreatDoor
open Go.RowKit DoorU
set_option linter.unusedVariables false
set_option linter.unusedSimpArgs false
set_option maxRecDepth 100000
set_option maxHeartbeats 1000000
theorem vc_stake:VC Tryz.prog Tryz.f114 (bodyOf Tryz.f114) S_stake [(19,S_schk),(115,S_get)] A_stake=(∀ (x:List Int×Unit),(∀ (x_1:Int),x_1∈x.fst→
  (0:Int)≤x_1∧x_1 < (256:Int))→
  List.length x.fst≤(9223372036854775807:Nat)→
  List.length x.fst≤(9223372036854775807:Nat)→
  bif decide ((↑(List.length x.fst):Int) < (17:Int)) then ((((0:Int),(0:Int),[],()),(0:Int),(3:Int),()),())=((stTkS x.fst,stTkN x.fst,stTkE x.fst,()),()) else (0:Int)≤(16:Int)∧(16:Int) < (↑(List.length x.fst):Int)∧∀ (c0:Int),x.fst[(16:Nat)]?=some c0→
  bif decide ((8:Int) < IntKind.wrap IntKind.i64 c0) then ((((0:Int),(0:Int),[],()),(0:Int),(3:Int),()),())=((stTkS x.fst,stTkN x.fst,stTkE x.fst,()),()) else List.length x.fst≤(9223372036854775807:Nat)→
  bif decide ((↑(List.length x.fst):Int) < IntKind.wrap IntKind.i64 ((17:Int)+IntKind.wrap IntKind.i64 c0)) then ((((0:Int),(0:Int),[],()),(0:Int),(3:Int),()),())=((stTkS x.fst,stTkN x.fst,stTkE x.fst,()),()) else (0:Int)≤(0:Int)∧(0:Int)≤(8:Int)∧(8:Int)≤(↑(List.length x.fst):Int)∧(∀ (x_1:Int),x_1∈List.take ((8:Nat)) (List.drop ((0:Nat)) x.fst)→
  (0:Int)≤x_1∧x_1 < (256:Int))∧(0:Int)≤(8:Int)∧(8:Int)≤(16:Int)∧(16:Int)≤(↑(List.length x.fst):Int)∧(∀ (x_1:Int),x_1∈List.take ((8:Nat)) (List.drop ((8:Nat)) x.fst)→
  (0:Int)≤x_1∧x_1 < (256:Int))∧(0:Int)≤(17:Int)∧(17:Int)≤IntKind.wrap IntKind.i64 ((17:Int)+IntKind.wrap IntKind.i64 c0)∧IntKind.wrap IntKind.i64 ((17:Int)+IntKind.wrap IntKind.i64 c0)≤(↑(List.length x.fst):Int)∧(List.length (List.take (Int.toNat (IntKind.wrap IntKind.i64 ((17:Int)+IntKind.wrap IntKind.i64 c0)) - (17:Nat)) (List.drop ((17:Nat)) x.fst))≤(9223372036854775807:Nat)→
  ((0:Int)≤(0:Int)∧(0:Int)≤g16 x.fst∧(getR (List.take ((8:Nat)) (List.drop ((0:Nat)) x.fst)),getR (List.take ((8:Nat)) (List.drop ((8:Nat)) x.fst)),[],())=(g8 x.fst,g9 x.fst,g17 x.fst (Int.toNat (0:Int)),()))∧∀ (v:Int×(Int×Int×List Int×Unit)×Unit),(0:Int)≤v.fst∧v.fst≤g16 x.fst∧v.snd.fst=(g8 x.fst,g9 x.fst,g17 x.fst (Int.toNat v.fst),())→
  bif decide (v.fst < (↑(List.length (List.take (Int.toNat (IntKind.wrap IntKind.i64 ((17:Int)+IntKind.wrap IntKind.i64 c0)) - (17:Nat)) (List.drop ((17:Nat)) x.fst))):Int)) then (0:Int)≤v.fst∧v.fst < (↑(List.length (List.take (Int.toNat (IntKind.wrap IntKind.i64 ((17:Int)+IntKind.wrap IntKind.i64 c0)) - (17:Nat)) (List.drop ((17:Nat)) x.fst))):Int)∧∀ (c0_1:Int),(List.take (Int.toNat (IntKind.wrap IntKind.i64 ((17:Int)+IntKind.wrap IntKind.i64 c0)) - (17:Nat)) (List.drop ((17:Nat)) x.fst))[Int.toNat v.fst]?=some c0_1→
  (List.length v.snd.fst.snd.snd.fst+List.length [IntKind.wrap IntKind.i64 c0_1])*(8:Nat)≤(140737488351232:Nat)∧((0:Int)≤IntKind.wrap IntKind.i64 (v.fst+(1:Int))∧IntKind.wrap IntKind.i64 (v.fst+(1:Int))≤g16 x.fst∧(v.snd.fst.fst,v.snd.fst.snd.fst,v.snd.fst.snd.snd.fst++[IntKind.wrap IntKind.i64 c0_1],())=(g8 x.fst,g9 x.fst,g17 x.fst (Int.toNat (IntKind.wrap IntKind.i64 (v.fst+(1:Int)))),()))∧Int.toNat (g16 x.fst - IntKind.wrap IntKind.i64 (v.fst+(1:Int))) < Int.toNat (g16 x.fst - v.fst) else True∧bif stChk v.snd.fst != (0:Int) then ((((0:Int),(0:Int),[],()),(0:Int),(3:Int),()),())=((stTkS x.fst,stTkN x.fst,stTkE x.fst,()),()) else ((v.snd.fst,IntKind.wrap IntKind.i64 ((17:Int)+IntKind.wrap IntKind.i64 c0),(0:Int),()),())=((stTkS x.fst,stTkN x.fst,stTkE x.fst,()),()))):=by kernel_rfl
theorem en_stake (us:Array Value) (u:World):(callFunc 114 us).run Tryz.prog u=.ok (.enter 114 us) u:=by kernel_rfl
theorem sc_stake:SC Tryz.prog 114 S_stake:=by
  refine SC.of Tryz.func114 (c:=bodyOf Tryz.f114) (by kernel_rfl) (by kernel_rfl) (fun x=>(by decide:(1:Nat)≤Tryz.f114.ntmps)) (DOk.cons sc_schk en_schk (DOk.cons sc_get en_get DOk.nil)) (Eq.mpr vc_stake ?_)
  rintro ⟨b,⟨⟩⟩ hb hl -
  dsimp only at hb hl ⊢
  have hb':byt b:=hb
  have err:stTkE b=3→(((((0:Int),(0:Int),([]:List Int),()),(0:Int),(3:Int),()),()):(Sta×Int×Int×Unit)×Unit)=((stTkS b,stTkN b,stTkE b,()),()):=fun h=>by rw [stTkS,stTkN,h];rfl
  by_cases h1:b.length < 17
  · rw [decide_eq_true (by omega:(b.length:Int) < 17),cond_true]
    exact err (by unfold stTkE;rw [if_pos h1])
  rw [decide_eq_false (by omega),cond_false]
  refine ⟨by omega,by omega,fun c hc=>?_⟩
  have hc16:g16 b=c:=by
    show b.getD 16 0=c
    rw [List.getD_eq_getElem?_getD,hc];rfl
  have hcb:=hb' c (List.mem_of_getElem? hc)
  have w1:IntKind.i64.wrap c=c:=IntWalk.i64_in _ (by omega)
  have w2:IntKind.i64.wrap (17+c)=17+c:=IntWalk.i64_in _ (by omega)
  rw [w1,w2]
  by_cases h2:8 < c
  · rw [decide_eq_true h2,cond_true]
    exact err (by unfold stTkE;rw [if_neg h1,if_pos (by rw [hc16];exact h2)])
  rw [decide_eq_false h2,cond_false]
  intro _
  by_cases h3:(b.length:Int) < 17+c
  · rw [decide_eq_true h3,cond_true]
    exact err (by unfold stTkE;rw [if_neg h1,if_neg (by rw [hc16];exact h2),if_pos (by rw [hc16];exact h3)])
  have hE:stTkE b=if okS (stAt b) then 0 else 3:=by
    unfold stTkE
    rw [if_neg h1,if_neg (by rw [hc16];exact h2),if_neg (by rw [hc16];exact h3)]
  have hL:(List.take c.toNat (List.drop 17 b)).length=c.toNat:=by rw [List.length_take,List.length_drop];omega
  rw [decide_eq_false h3,cond_false,List.drop_zero,show Int.toNat (17+c) - 17=c.toNat by omega,hL,hc16]
  refine ⟨by omega,by omega,by omega,byt_take hb' 8,by omega,by omega,by omega,byt_take (byt_drop hb' 8) 8,by omega,by omega,by omega,fun _=>⟨⟨by omega,by omega,rfl⟩,?_⟩⟩
  rintro ⟨i,⟨a1,a2,ch,⟨⟩⟩,⟨⟩⟩ ⟨q0,q1,hv⟩
  dsimp only at q0 q1 hv ⊢
  simp only [Prod.mk.injEq,and_true] at hv
  obtain ⟨rfl,rfl,rfl⟩:=hv
  have wi:IntKind.i64.wrap (i+1)=i+1:=IntWalk.i64_in _ (by omega)
  by_cases hi:i < ((c.toNat:Nat):Int)
  · rw [decide_eq_true hi,cond_true,wi]
    refine ⟨q0,hi,fun d hd=>?_⟩
    have hd2:(List.drop 17 b)[i.toNat]?=some d:=by
      rw [List.getElem?_take] at hd
      rwa [if_pos (by omega)] at hd
    have hdb:=hb' d (List.mem_of_mem_drop (List.mem_of_getElem? hd2))
    have wd:IntKind.i64.wrap d=d:=IntWalk.i64_in _ (by omega)
    have gl:(g17 b i.toNat).length≤i.toNat:=by unfold g17;rw [List.length_take];omega
    rw [wd]
    refine ⟨by rw [List.length_cons,List.length_nil];omega,⟨by omega,by omega,?_⟩,by omega⟩
    have hs:g17 b (i+1).toNat=g17 b i.toNat++[d]:=by
      unfold g17
      rw [show (i+1).toNat=i.toNat+1 by omega,take_snoc hd2]
    rw [hs]
  · rw [decide_eq_false hi,cond_false]
    refine ⟨trivial,?_⟩
    have hs:(g8 b,g9 b,g17 b i.toNat,())=stAt b:=by
      rw [stAt,hc16,show i=c by omega]
    rw [hs]
    cases ho:okS (stAt b)
    · rw [show stChk (stAt b)=1 by rw [stChk,ho];rfl,show ((1:Int) != 0)=true from rfl,cond_true]
      exact err (by rw [hE,ho];rfl)
    · have h0:stTkE b=0:=by rw [hE,ho];rfl
      rw [show stChk (stAt b)=0 by rw [stChk,ho];rfl,show ((0:Int) != 0)=false from rfl,cond_false,stTkS,stTkN,h0,if_pos rfl,if_pos rfl,hc16]
theorem vc_fread:VC Tryz.prog Tryz.f78 (bodyOf Tryz.f78) S_fread [(114,S_stake),(115,S_get)] (fun _ _=>none)=(∀ (x:List Int×Unit),(∀ (x_1:Int),x_1∈x.fst→
  (0:Int)≤x_1∧x_1 < (256:Int))→
  List.length x.fst≤(9223372036854775807:Nat)→
  List.length x.fst≤(9223372036854775807:Nat)→
  bif decide ((↑(List.length x.fst):Int) < (2:Int)) then ((((0:Int),(0:Int),((0:Int),(0:Int),[],()),(0:Int),(0:Int),[],()),false,()),())=((frRdF x.fst,frRdE x.fst,()),()) else (0:Int)≤(2:Int)∧(2:Int)≤(↑(List.length x.fst):Int)∧(↑(List.length x.fst):Int)≤(↑(List.length x.fst):Int)∧(∀ (x_1:Int),x_1∈List.take (Int.toNat (↑(List.length x.fst):Int) - (2:Nat)) (List.drop ((2:Nat)) x.fst)→
  (0:Int)≤x_1∧x_1 < (256:Int))∧bif stTkE (List.take (Int.toNat (↑(List.length x.fst):Int) - (2:Nat)) (List.drop ((2:Nat)) x.fst)) != (0:Int) then ((((0:Int),(0:Int),((0:Int),(0:Int),[],()),(0:Int),(0:Int),[],()),false,()),())=((frRdF x.fst,frRdE x.fst,()),()) else (0:Int)≤IntKind.wrap IntKind.i64 ((2:Int)+stTkN (List.take (Int.toNat (↑(List.length x.fst):Int) - (2:Nat)) (List.drop ((2:Nat)) x.fst)))∧IntKind.wrap IntKind.i64 ((2:Int)+stTkN (List.take (Int.toNat (↑(List.length x.fst):Int) - (2:Nat)) (List.drop ((2:Nat)) x.fst)))≤(↑(List.length x.fst):Int)∧(↑(List.length x.fst):Int)≤(↑(List.length x.fst):Int)∧(List.length (List.take (Int.toNat (↑(List.length x.fst):Int) - Int.toNat (IntKind.wrap IntKind.i64 ((2:Int)+stTkN (List.take (Int.toNat (↑(List.length x.fst):Int) - (2:Nat)) (List.drop ((2:Nat)) x.fst))))) (List.drop (Int.toNat (IntKind.wrap IntKind.i64 ((2:Int)+stTkN (List.take (Int.toNat (↑(List.length x.fst):Int) - (2:Nat)) (List.drop ((2:Nat)) x.fst))))) x.fst))≤(9223372036854775807:Nat)→
  bif decide ((↑(List.length (List.take (Int.toNat (↑(List.length x.fst):Int) - Int.toNat (IntKind.wrap IntKind.i64 ((2:Int)+stTkN (List.take (Int.toNat (↑(List.length x.fst):Int) - (2:Nat)) (List.drop ((2:Nat)) x.fst))))) (List.drop (Int.toNat (IntKind.wrap IntKind.i64 ((2:Int)+stTkN (List.take (Int.toNat (↑(List.length x.fst):Int) - (2:Nat)) (List.drop ((2:Nat)) x.fst))))) x.fst))):Int) < (9:Int)) then ((((0:Int),(0:Int),((0:Int),(0:Int),[],()),(0:Int),(0:Int),[],()),false,()),())=((frRdF x.fst,frRdE x.fst,()),()) else (0:Int)≤(1:Int)∧(1:Int)≤(5:Int)∧(5:Int)≤(↑(List.length (List.take (Int.toNat (↑(List.length x.fst):Int) - Int.toNat (IntKind.wrap IntKind.i64 ((2:Int)+stTkN (List.take (Int.toNat (↑(List.length x.fst):Int) - (2:Nat)) (List.drop ((2:Nat)) x.fst))))) (List.drop (Int.toNat (IntKind.wrap IntKind.i64 ((2:Int)+stTkN (List.take (Int.toNat (↑(List.length x.fst):Int) - (2:Nat)) (List.drop ((2:Nat)) x.fst))))) x.fst))):Int)∧(∀ (x_1:Int),x_1∈List.take ((4:Nat)) (List.drop ((1:Nat)) (List.take (Int.toNat (↑(List.length x.fst):Int) - Int.toNat (IntKind.wrap IntKind.i64 ((2:Int)+stTkN (List.take (Int.toNat (↑(List.length x.fst):Int) - (2:Nat)) (List.drop ((2:Nat)) x.fst))))) (List.drop (Int.toNat (IntKind.wrap IntKind.i64 ((2:Int)+stTkN (List.take (Int.toNat (↑(List.length x.fst):Int) - (2:Nat)) (List.drop ((2:Nat)) x.fst))))) x.fst)))→
  (0:Int)≤x_1∧x_1 < (256:Int))∧(0:Int)≤(5:Int)∧(5:Int)≤(9:Int)∧(9:Int)≤(↑(List.length (List.take (Int.toNat (↑(List.length x.fst):Int) - Int.toNat (IntKind.wrap IntKind.i64 ((2:Int)+stTkN (List.take (Int.toNat (↑(List.length x.fst):Int) - (2:Nat)) (List.drop ((2:Nat)) x.fst))))) (List.drop (Int.toNat (IntKind.wrap IntKind.i64 ((2:Int)+stTkN (List.take (Int.toNat (↑(List.length x.fst):Int) - (2:Nat)) (List.drop ((2:Nat)) x.fst))))) x.fst))):Int)∧(∀ (x_1:Int),x_1∈List.take ((4:Nat)) (List.drop ((5:Nat)) (List.take (Int.toNat (↑(List.length x.fst):Int) - Int.toNat (IntKind.wrap IntKind.i64 ((2:Int)+stTkN (List.take (Int.toNat (↑(List.length x.fst):Int) - (2:Nat)) (List.drop ((2:Nat)) x.fst))))) (List.drop (Int.toNat (IntKind.wrap IntKind.i64 ((2:Int)+stTkN (List.take (Int.toNat (↑(List.length x.fst):Int) - (2:Nat)) (List.drop ((2:Nat)) x.fst))))) x.fst)))→
  (0:Int)≤x_1∧x_1 < (256:Int))∧(0:Int)≤(9:Int)∧(9:Int)≤(↑(List.length (List.take (Int.toNat (↑(List.length x.fst):Int) - Int.toNat (IntKind.wrap IntKind.i64 ((2:Int)+stTkN (List.take (Int.toNat (↑(List.length x.fst):Int) - (2:Nat)) (List.drop ((2:Nat)) x.fst))))) (List.drop (Int.toNat (IntKind.wrap IntKind.i64 ((2:Int)+stTkN (List.take (Int.toNat (↑(List.length x.fst):Int) - (2:Nat)) (List.drop ((2:Nat)) x.fst))))) x.fst))):Int)∧(↑(List.length (List.take (Int.toNat (↑(List.length x.fst):Int) - Int.toNat (IntKind.wrap IntKind.i64 ((2:Int)+stTkN (List.take (Int.toNat (↑(List.length x.fst):Int) - (2:Nat)) (List.drop ((2:Nat)) x.fst))))) (List.drop (Int.toNat (IntKind.wrap IntKind.i64 ((2:Int)+stTkN (List.take (Int.toNat (↑(List.length x.fst):Int) - (2:Nat)) (List.drop ((2:Nat)) x.fst))))) x.fst))):Int)≤(↑(List.length (List.take (Int.toNat (↑(List.length x.fst):Int) - Int.toNat (IntKind.wrap IntKind.i64 ((2:Int)+stTkN (List.take (Int.toNat (↑(List.length x.fst):Int) - (2:Nat)) (List.drop ((2:Nat)) x.fst))))) (List.drop (Int.toNat (IntKind.wrap IntKind.i64 ((2:Int)+stTkN (List.take (Int.toNat (↑(List.length x.fst):Int) - (2:Nat)) (List.drop ((2:Nat)) x.fst))))) x.fst))):Int)∧(List.length (List.take (Int.toNat (↑(List.length (List.take (Int.toNat (↑(List.length x.fst):Int) - Int.toNat (IntKind.wrap IntKind.i64 ((2:Int)+stTkN (List.take (Int.toNat (↑(List.length x.fst):Int) - (2:Nat)) (List.drop ((2:Nat)) x.fst))))) (List.drop (Int.toNat (IntKind.wrap IntKind.i64 ((2:Int)+stTkN (List.take (Int.toNat (↑(List.length x.fst):Int) - (2:Nat)) (List.drop ((2:Nat)) x.fst))))) x.fst))):Int) - (9:Nat)) (List.drop ((9:Nat)) (List.take (Int.toNat (↑(List.length x.fst):Int) - Int.toNat (IntKind.wrap IntKind.i64 ((2:Int)+stTkN (List.take (Int.toNat (↑(List.length x.fst):Int) - (2:Nat)) (List.drop ((2:Nat)) x.fst))))) (List.drop (Int.toNat (IntKind.wrap IntKind.i64 ((2:Int)+stTkN (List.take (Int.toNat (↑(List.length x.fst):Int) - (2:Nat)) (List.drop ((2:Nat)) x.fst))))) x.fst))))≤(9223372036854775807:Nat)→
  bif getR (List.take ((4:Nat)) (List.drop ((5:Nat)) (List.take (Int.toNat (↑(List.length x.fst):Int) - Int.toNat (IntKind.wrap IntKind.i64 ((2:Int)+stTkN (List.take (Int.toNat (↑(List.length x.fst):Int) - (2:Nat)) (List.drop ((2:Nat)) x.fst))))) (List.drop (Int.toNat (IntKind.wrap IntKind.i64 ((2:Int)+stTkN (List.take (Int.toNat (↑(List.length x.fst):Int) - (2:Nat)) (List.drop ((2:Nat)) x.fst))))) x.fst)))) != IntKind.wrap IntKind.u64 (↑(List.length (List.take (Int.toNat (↑(List.length (List.take (Int.toNat (↑(List.length x.fst):Int) - Int.toNat (IntKind.wrap IntKind.i64 ((2:Int)+stTkN (List.take (Int.toNat (↑(List.length x.fst):Int) - (2:Nat)) (List.drop ((2:Nat)) x.fst))))) (List.drop (Int.toNat (IntKind.wrap IntKind.i64 ((2:Int)+stTkN (List.take (Int.toNat (↑(List.length x.fst):Int) - (2:Nat)) (List.drop ((2:Nat)) x.fst))))) x.fst))):Int) - (9:Nat)) (List.drop ((9:Nat)) (List.take (Int.toNat (↑(List.length x.fst):Int) - Int.toNat (IntKind.wrap IntKind.i64 ((2:Int)+stTkN (List.take (Int.toNat (↑(List.length x.fst):Int) - (2:Nat)) (List.drop ((2:Nat)) x.fst))))) (List.drop (Int.toNat (IntKind.wrap IntKind.i64 ((2:Int)+stTkN (List.take (Int.toNat (↑(List.length x.fst):Int) - (2:Nat)) (List.drop ((2:Nat)) x.fst))))) x.fst))))):Int) then ((((0:Int),(0:Int),((0:Int),(0:Int),[],()),(0:Int),(0:Int),[],()),false,()),())=((frRdF x.fst,frRdE x.fst,()),()) else (0:Int)≤(0:Int)∧(0:Int) < (↑(List.length x.fst):Int)∧∀ (c0:Int),x.fst[(0:Nat)]?=some c0→
  (0:Int)≤(1:Int)∧(1:Int) < (↑(List.length x.fst):Int)∧∀ (c0_1:Int),x.fst[(1:Nat)]?=some c0_1→
  (0:Int)≤(0:Int)∧(0:Int) < (↑(List.length (List.take (Int.toNat (↑(List.length x.fst):Int) - Int.toNat (IntKind.wrap IntKind.i64 ((2:Int)+stTkN (List.take (Int.toNat (↑(List.length x.fst):Int) - (2:Nat)) (List.drop ((2:Nat)) x.fst))))) (List.drop (Int.toNat (IntKind.wrap IntKind.i64 ((2:Int)+stTkN (List.take (Int.toNat (↑(List.length x.fst):Int) - (2:Nat)) (List.drop ((2:Nat)) x.fst))))) x.fst))):Int)∧∀ (c0_2:Int),(List.take (Int.toNat (↑(List.length x.fst):Int) - Int.toNat (IntKind.wrap IntKind.i64 ((2:Int)+stTkN (List.take (Int.toNat (↑(List.length x.fst):Int) - (2:Nat)) (List.drop ((2:Nat)) x.fst))))) (List.drop (Int.toNat (IntKind.wrap IntKind.i64 ((2:Int)+stTkN (List.take (Int.toNat (↑(List.length x.fst):Int) - (2:Nat)) (List.drop ((2:Nat)) x.fst))))) x.fst))[(0:Nat)]?=some c0_2→
  (((IntKind.wrap IntKind.i64 c0,IntKind.wrap IntKind.i64 c0_1,stTkS (List.take (Int.toNat (↑(List.length x.fst):Int) - (2:Nat)) (List.drop ((2:Nat)) x.fst)),IntKind.wrap IntKind.i64 c0_2,IntKind.wrap IntKind.i64 (getR (List.take ((4:Nat)) (List.drop ((1:Nat)) (List.take (Int.toNat (↑(List.length x.fst):Int) - Int.toNat (IntKind.wrap IntKind.i64 ((2:Int)+stTkN (List.take (Int.toNat (↑(List.length x.fst):Int) - (2:Nat)) (List.drop ((2:Nat)) x.fst))))) (List.drop (Int.toNat (IntKind.wrap IntKind.i64 ((2:Int)+stTkN (List.take (Int.toNat (↑(List.length x.fst):Int) - (2:Nat)) (List.drop ((2:Nat)) x.fst))))) x.fst))))),List.take (Int.toNat (↑(List.length (List.take (Int.toNat (↑(List.length x.fst):Int) - Int.toNat (IntKind.wrap IntKind.i64 ((2:Int)+stTkN (List.take (Int.toNat (↑(List.length x.fst):Int) - (2:Nat)) (List.drop ((2:Nat)) x.fst))))) (List.drop (Int.toNat (IntKind.wrap IntKind.i64 ((2:Int)+stTkN (List.take (Int.toNat (↑(List.length x.fst):Int) - (2:Nat)) (List.drop ((2:Nat)) x.fst))))) x.fst))):Int) - (9:Nat)) (List.drop ((9:Nat)) (List.take (Int.toNat (↑(List.length x.fst):Int) - Int.toNat (IntKind.wrap IntKind.i64 ((2:Int)+stTkN (List.take (Int.toNat (↑(List.length x.fst):Int) - (2:Nat)) (List.drop ((2:Nat)) x.fst))))) (List.drop (Int.toNat (IntKind.wrap IntKind.i64 ((2:Int)+stTkN (List.take (Int.toNat (↑(List.length x.fst):Int) - (2:Nat)) (List.drop ((2:Nat)) x.fst))))) x.fst))),()),true,()),())=((frRdF x.fst,frRdE x.fst,()),())))):=by kernel_rfl
theorem en_fread (us:Array Value) (u:World):(callFunc 78 us).run Tryz.prog u=.ok (.enter 78 us) u:=by kernel_rfl
theorem sc_fread:SC Tryz.prog 78 S_fread:=by
  refine SC.of Tryz.func78 (c:=bodyOf Tryz.f78) (by kernel_rfl) (by kernel_rfl) (fun x=>(by decide:(1:Nat)≤Tryz.f78.ntmps)) (DOk.cons sc_stake en_stake (DOk.cons sc_get en_get DOk.nil)) (Eq.mpr vc_fread ?_)
  rintro ⟨l,⟨⟩⟩ hb hln -
  dsimp only at hb hln ⊢
  have hb':byt l:=hb
  have T2:=dropT l 2
  by_cases h1:l.length < 2
  · rw [decide_eq_true (by omega:(l.length:Int) < 2),cond_true]
    have e:frRdE l=false:=by unfold frRdE;rw [decide_eq_false (by omega)];rfl
    rw [frRdF,e];rfl
  rw [decide_eq_false (by omega),cond_false]
  obtain ⟨n0,n1,n2⟩:=stTk_N (byt_drop hb' 2)
  rw [List.length_drop] at n1
  have wN:IntKind.i64.wrap (2+stTkN (l.drop 2))=2+stTkN (l.drop 2):=IntWalk.i64_in _ (by omega)
  have TR:List.take (Int.toNat (l.length:Int) - Int.toNat (2+stTkN (l.drop 2))) (l.drop (Int.toNat (2+stTkN (l.drop 2))))=frRest l:=dropT l _
  simp only [T2,wN,TR]
  refine ⟨by omega,by omega,by omega,byt_drop hb' 2,?_⟩
  by_cases h2:stTkE (l.drop 2)=0
  rotate_left 1
  · rw [bneT h2,cond_true]
    have e:frRdE l=false:=by unfold frRdE;rw [beq_eq_false_iff_ne.2 h2];simp
    rw [frRdF,e];rfl
  rw [bneF h2,cond_false]
  refine ⟨by omega,by omega,by omega,fun _=>?_⟩
  have hbr:byt (frRest l):=byt_drop hb' _
  by_cases h3:(frRest l).length < 9
  · rw [decide_eq_true (by omega:((frRest l).length:Int) < 9),cond_true]
    have e:frRdE l=false:=by unfold frRdE;rw [decide_eq_false (by omega:¬ 9≤(frRest l).length)];simp
    rw [frRdF,e];rfl
  rw [decide_eq_false (by omega),cond_false]
  have T9:=dropT (frRest l) 9
  simp only [T9]
  refine ⟨by omega,by omega,by omega,byt_take (byt_drop hbr 1) 4,by omega,by omega,by omega,byt_take (byt_drop hbr 5) 4,by omega,by omega,by omega,fun _=>?_⟩
  have hrl:(frRest l).length≤l.length:=by unfold frRest;rw [List.length_drop];omega
  have wL:IntKind.u64.wrap (((frRest l).drop 9).length:Int)=(((frRest l).drop 9).length:Int):=IntWalk.u64_in _ ⟨by omega,by rw [List.length_drop];omega⟩
  rw [wL]
  by_cases h4:getR (((frRest l).drop 5).take 4)=(((frRest l).drop 9).length:Int)
  rotate_left 1
  · rw [bneT h4,cond_true]
    have e:frRdE l=false:=by unfold frRdE;rw [beq_eq_false_iff_ne.2 h4];simp
    rw [frRdF,e];rfl
  rw [bneF h4,cond_false]
  have e:frRdE l=true:=by unfold frRdE;rw [decide_eq_true (by omega:2≤l.length),h2,decide_eq_true (by omega:9≤(frRest l).length),h4];simp
  have gq:=getI4_bd (byt_take (byt_drop hbr 1) 4) (by rw [List.length_take,List.length_drop];omega)
  have wq:IntKind.i64.wrap (getR (((frRest l).drop 1).take 4))=getR (((frRest l).drop 1).take 4):=IntWalk.i64_in _ (by omega)
  rw [wq]
  refine ⟨by omega,by omega,fun c0 e0=>⟨by omega,by omega,fun c1 e1=>⟨by omega,by omega,fun c2 e2=>?_⟩⟩⟩
  have b0:=hb' c0 (List.mem_of_getElem? e0)
  have b1:=hb' c1 (List.mem_of_getElem? e1)
  have b2:=hbr c2 (List.mem_of_getElem? e2)
  rw [IntWalk.i64_in c0 (by omega),IntWalk.i64_in c1 (by omega),IntWalk.i64_in c2 (by omega),frRdF,e,if_pos rfl,frAt,getD_of e0 rfl,getD_of e1 rfl,getD_of e2 rfl]
theorem vc_ftake:VC Tryz.prog Tryz.f50 (bodyOf Tryz.f50) S_ftake [(78,S_fread),(79,S_fchk),(80,S_mchk),(81,S_bcl)] (fun _ _=>none)=(∀ (x:List Int×List Int×Unit),(List.length x.fst≤(1000000000:Nat)∧List.length x.snd.fst≤(100000000:Nat)∧∀ (x_1:Int),x_1∈x.snd.fst→
  (0:Int)≤x_1∧x_1 < (256:Int))→
  List.length x.fst≤(9223372036854775807:Nat)→
  List.length x.snd.fst≤(9223372036854775807:Nat)→
  List.length x.snd.fst≤(9223372036854775807:Nat)→
  bif decide (IntKind.wrap IntKind.i64 ((↑(List.length x.snd.fst):Int) - (32:Int)) < (0:Int)) then ((((0:Int),(0:Int),((0:Int),(0:Int),[],()),(0:Int),(0:Int),[],()),(3:Int),()),())=((frTkF x.fst x.snd.fst,frTkE x.fst x.snd.fst,()),()) else (0:Int)≤(0:Int)∧(0:Int)≤IntKind.wrap IntKind.i64 ((↑(List.length x.snd.fst):Int) - (32:Int))∧IntKind.wrap IntKind.i64 ((↑(List.length x.snd.fst):Int) - (32:Int))≤(↑(List.length x.snd.fst):Int)∧(∀ (x_1:Int),x_1∈List.take (Int.toNat (IntKind.wrap IntKind.i64 ((↑(List.length x.snd.fst):Int) - (32:Int))) - (0:Nat)) (List.drop ((0:Nat)) x.snd.fst)→
  (0:Int)≤x_1∧x_1 < (256:Int))∧bif !frRdE (List.take (Int.toNat (IntKind.wrap IntKind.i64 ((↑(List.length x.snd.fst):Int) - (32:Int))) - (0:Nat)) (List.drop ((0:Nat)) x.snd.fst)) then ((((0:Int),(0:Int),((0:Int),(0:Int),[],()),(0:Int),(0:Int),[],()),(3:Int),()),())=((frTkF x.fst x.snd.fst,frTkE x.fst x.snd.fst,()),()) else True∧bif frChk (frRdF (List.take (Int.toNat (IntKind.wrap IntKind.i64 ((↑(List.length x.snd.fst):Int) - (32:Int))) - (0:Nat)) (List.drop ((0:Nat)) x.snd.fst))) != (0:Int) then ((((0:Int),(0:Int),((0:Int),(0:Int),[],()),(0:Int),(0:Int),[],()),(3:Int),()),())=((frTkF x.fst x.snd.fst,frTkE x.fst x.snd.fst,()),()) else (0:Int)≤(0:Int)∧(0:Int)≤IntKind.wrap IntKind.i64 ((↑(List.length x.snd.fst):Int) - (32:Int))∧IntKind.wrap IntKind.i64 ((↑(List.length x.snd.fst):Int) - (32:Int))≤(↑(List.length x.snd.fst):Int)∧(0:Int)≤IntKind.wrap IntKind.i64 ((↑(List.length x.snd.fst):Int) - (32:Int))∧IntKind.wrap IntKind.i64 ((↑(List.length x.snd.fst):Int) - (32:Int))≤(↑(List.length x.snd.fst):Int)∧(↑(List.length x.snd.fst):Int)≤(↑(List.length x.snd.fst):Int)∧(List.length x.fst≤(1000000000:Nat)∧List.length (List.take (Int.toNat (IntKind.wrap IntKind.i64 ((↑(List.length x.snd.fst):Int) - (32:Int))) - (0:Nat)) (List.drop ((0:Nat)) x.snd.fst))≤(100000000:Nat)∧∀ (x_1:Int),x_1∈List.take (Int.toNat (↑(List.length x.snd.fst):Int) - Int.toNat (IntKind.wrap IntKind.i64 ((↑(List.length x.snd.fst):Int) - (32:Int)))) (List.drop (Int.toNat (IntKind.wrap IntKind.i64 ((↑(List.length x.snd.fst):Int) - (32:Int)))) x.snd.fst)→
  (0:Int)≤x_1∧x_1 < (256:Int))∧bif (if List.take (Int.toNat (↑(List.length x.snd.fst):Int) - Int.toNat (IntKind.wrap IntKind.i64 ((↑(List.length x.snd.fst):Int) - (32:Int)))) (List.drop (Int.toNat (IntKind.wrap IntKind.i64 ((↑(List.length x.snd.fst):Int) - (32:Int)))) x.snd.fst)=tagF x.fst (List.take (Int.toNat (IntKind.wrap IntKind.i64 ((↑(List.length x.snd.fst):Int) - (32:Int))) - (0:Nat)) (List.drop ((0:Nat)) x.snd.fst)) then (0:Int) else (4:Int)) != (0:Int) then ((((0:Int),(0:Int),((0:Int),(0:Int),[],()),(0:Int),(0:Int),[],()),(4:Int),()),())=((frTkF x.fst x.snd.fst,frTkE x.fst x.snd.fst,()),()) else List.length (frRdF (List.take (Int.toNat (IntKind.wrap IntKind.i64 ((↑(List.length x.snd.fst):Int) - (32:Int))) - (0:Nat)) (List.drop ((0:Nat)) x.snd.fst))).snd.snd.snd.snd.snd.fst≤(1000000000000:Nat)∧((frRdF (List.take (Int.toNat (IntKind.wrap IntKind.i64 ((↑(List.length x.snd.fst):Int) - (32:Int))) - (0:Nat)) (List.drop ((0:Nat)) x.snd.fst)),(0:Int),()),())=((frTkF x.fst x.snd.fst,frTkE x.fst x.snd.fst,()),())):=by kernel_rfl
theorem en_ftake (us:Array Value) (u:World):(callFunc 50 us).run Tryz.prog u=.ok (.enter 50 us) u:=by kernel_rfl
theorem sc_ftake:SC Tryz.prog 50 S_ftake:=by
  refine SC.of Tryz.func50 (c:=bodyOf Tryz.f50) (by kernel_rfl) (by kernel_rfl) (fun x=>(by decide:(2:Nat)≤Tryz.f50.ntmps)) (DOk.cons sc_fread en_fread (DOk.cons sc_fchk en_fchk (DOk.cons sc_mchk en_mchk (DOk.cons sc_bcl en_bcl DOk.nil)))) (Eq.mpr vc_ftake ?_)
  rintro ⟨k,l,⟨⟩⟩ ⟨hk,hl,hb⟩ - - -
  dsimp only at hk hl hb ⊢
  have hb':byt l:=hb
  have w32:IntKind.i64.wrap ((l.length:Int) - 32)=(l.length:Int) - 32:=IntWalk.i64_in _ (by omega)
  rw [w32]
  by_cases h1:l.length < 32
  · rw [decide_eq_true (by omega:(l.length:Int) - 32 < 0),cond_true]
    have e:frTkE k l=3:=by unfold frTkE;rw [if_pos h1]
    rw [frTkF,e];rfl
  rw [decide_eq_false (by omega),cond_false]
  have e1:Int.toNat ((l.length:Int) - 32)=l.length - 32:=by omega
  have TT:List.take (l.length - 32 - 0) (List.drop 0 l)=l.take (l.length - 32):=by rw [List.drop_zero,Nat.sub_zero]
  have TD:=dropT l (l.length - 32)
  simp only [e1,TT,TD]
  have hbt:=byt_take hb' (l.length - 32)
  have hbd:=byt_drop hb' (l.length - 32)
  refine ⟨by omega,by omega,by omega,hbt,?_⟩
  cases h2:frRdE (l.take (l.length - 32))
  · rw [Bool.not_false,cond_true]
    have e:frTkE k l=3:=by unfold frTkE;rw [if_neg h1,h2];rfl
    rw [frTkF,e];rfl
  rw [Bool.not_true,cond_false]
  refine ⟨trivial,?_⟩
  by_cases h3:frChk (frRdF (l.take (l.length - 32)))=0
  rotate_left 1
  · rw [bneT h3,cond_true]
    have e:frTkE k l=3:=by unfold frTkE;rw [if_neg h1,h2,if_pos rfl,if_neg h3]
    rw [frTkF,e];rfl
  rw [bneF h3,cond_false]
  refine ⟨by omega,by omega,by omega,by omega,by omega,by omega,⟨hk,by rw [List.length_take];omega,hbd⟩,?_⟩
  by_cases h4:l.drop (l.length - 32)=tagF k (l.take (l.length - 32))
  rotate_left 1
  · rw [if_neg h4,show ((4:Int) != 0)=true from rfl,cond_true]
    have e:frTkE k l=4:=by unfold frTkE;rw [if_neg h1,h2,if_pos rfl,if_pos h3,if_neg h4]
    rw [frTkF,e];rfl
  rw [if_pos h4,show ((0:Int) != 0)=false from rfl,cond_false]
  have e:frTkE k l=0:=by unfold frTkE;rw [if_neg h1,h2,if_pos rfl,if_pos h3,if_pos h4]
  obtain ⟨_,_,_,_,_,_,_,_,c9⟩:=frChk_0 h3
  exact ⟨by rcases c9 with h | h <;> omega,by rw [frTkF,e];rfl⟩
end Go.Proofs.YtjkbkhjalimebaaGreatDoor
namespace Go.Proofs.YtjkbkhjalimebaaGreatDoor
open Go.RowKit DoorU
set_option linter.unusedVariables false
set_option linter.unusedSimpArgs false
set_option maxRecDepth 100000
set_option maxHeartbeats 1000000
namespace DoorU
def parF (c:Cfg) (f:Fra) (b:Bool):List Par:=if frChk f=0 then [(f.2.1,frPutF (pairF c f.1 f.2.1) f,b,())] else []
def iparF (c:Cfg) (p:Pos) (to:Int) (l:List Itm) (b:Bool):List Par:=l.flatMap fun x=>parF c (p.1,to,p.2.1,1,x.1,x.2.1,()) b
def winC (c:Cfg):Int:=c.2.2.2.2.2.2.2.2.1
def linkE (p:Pos) (n:Int):Pee:=(lnkL p.2.2.1 n).getD (lnkI p.2.2.1 n) (newPe n)
def putPe (p:Pos) (n:Int) (q:Pee):Pos:=(p.1,p.2.1,(lnkL p.2.2.1 n).set (lnkI p.2.2.1 n) q,())
def sndQ (c:Cfg) (p:Pos) (to:Int) (b:List Int) (now:Int):Ouq×List Itm×Unit:=sendF (linkE p to).2.1 b (winC c) now
def sndP (c:Cfg) (p:Pos) (to:Int) (b:List Int) (now:Int):Pos:=putPe p to ((linkE p to).1,(sndQ c p to b now).1,(linkE p to).2.2)
def psF (c:Cfg) (p:Pos) (to:Int) (b:List Int) (now:Int):Pos×List Par×Int×Unit:=
  if isNodeF c to=false∨to=p.1∨stChk p.2.1≠0 then (zPo,[],1,()) else if 65536 < b.length then (zPo,[],2,())
  else (sndP c p to b now,iparF c (sndP c p to b now) to (sndQ c p to b now).2.1 true,0,())
def tkA (c:Cfg) (p:Pos) (n:Int) (f:Fra) (now:Int):Ouq×List Itm×Unit:=ackF (linkE (goF p f.2.2.1) n).2.1 f.2.2.2.2.1 (winC c) now
def tkT (c:Cfg) (p:Pos) (n:Int) (f:Fra):Inq×List (List Int)×Int×Unit:=takF (linkE (goF p f.2.2.1) n).2.2.1 f.2.2.2.2.1 f.2.2.2.2.2.1 (winC c)
def tkAP (c:Cfg) (p:Pos) (n:Int) (f:Fra) (now:Int):Pos:=putPe (goF p f.2.2.1) n ((linkE (goF p f.2.2.1) n).1,(tkA c p n f now).1,(linkE (goF p f.2.2.1) n).2.2)
def tkTP (c:Cfg) (p:Pos) (n:Int) (f:Fra):Pos:=putPe (goF p f.2.2.1) n ((linkE (goF p f.2.2.1) n).1,(linkE (goF p f.2.2.1) n).2.1,(tkT c p n f).1,())
def ptG (c:Cfg) (p:Pos) (n:Int) (f:Fra) (now:Int):Pos×List (List Int)×List Par×Int×Unit:=
  if f.1≠n∨f.2.1≠p.1 then (zPo,[],[],1,())
  else if stCmp f.2.2.1 p.2.1 < 0∨(stCmp f.2.2.1 p.2.1=0∧stSame f.2.2.1 p.2.1=false) then (zPo,[],[],6,())
  else if f.2.2.2.1=2 then (tkAP c p n f now,[],iparF c (tkAP c p n f now) n (tkA c p n f now).2.1 true,0,())
  else (tkTP c p n f,(tkT c p n f).2.1,parF c ((goF p f.2.2.1).1,n,(goF p f.2.2.1).2.1,2,(tkT c p n f).2.2.1,[],()) false,0,())
def ptF (c:Cfg) (p:Pos) (n:Int) (b:List Int) (now:Int):Pos×List (List Int)×List Par×Int×Unit:=
  if isNodeF c n=false∨n=p.1 then (zPo,[],[],1,())
  else if frTkE (pairF c n p.1) b≠0 then (zPo,[],[],frTkE (pairF c n p.1) b,())
  else ptG c p n (frTkF (pairF c n p.1) b) now
theorem pairF_len (c:Cfg) (a b:Int):(pairF c a b).length=32:=tagF_len _ _
theorem parF_len (c:Cfg) (f:Fra) (b:Bool):(parF c f b).length≤1:=by
  unfold parF
  split
  · exact Nat.le_refl 1
  · exact Nat.zero_le 1
theorem iparF_snoc (c:Cfg) (p:Pos) (to:Int) (l:List Itm) (x:Itm) (b:Bool):iparF c p to (l++[x]) b=iparF c p to l b++parF c (p.1,to,p.2.1,1,x.1,x.2.1,()) b:=by
  simp only [iparF,List.flatMap_append,List.flatMap_cons,List.flatMap_nil,List.append_nil]
theorem sendF_len (o:Ouq) (b:List Int) (w now:Int):(sendF o b w now).2.1.length≤1:=by
  unfold sendF
  split
  · exact Nat.zero_le 1
  · exact Nat.le_refl 1
theorem ackGo_len (w now:Int):∀ (l:List (List Int)) (nx:Int) (s t:List Itm),(ackGo w now nx s t l).2.1.length≤t.length+l.length
  | [],nx,s,t=>Nat.le_refl _
  | b :: r, nx, s, t => by
    rw [ackGo]
    split
    · have:=ackGo_len w now r (i64 (nx+1)) (s++[itm nx b now]) (t++[itm nx b now])
      rw [List.length_append,List.length_cons,List.length_nil] at this
      rw [List.length_cons]
      omega
    · exact Nat.le_add_right _ _
theorem lnkI_lt (l:List Pee) (n:Int):lnkI l n < (lnkL l n).length:=by
  have g1:eqAt l n≤l.length:=fIdx_le _ l
  have g2:gtAt l n≤l.length:=fIdx_le _ l
  unfold lnkI lnkL
  split
  · rw [insF_len _ _ _ g2,List.length_cons,List.length_nil]
    omega
  · omega
theorem newPe_ok (n:Int):okPe (newPe n):=⟨⟨⟨Nat.zero_le _,fun x h=>by cases h⟩,⟨Nat.zero_le _,fun x h=>by cases h⟩⟩,⟨Nat.zero_le _,fun x h=>by cases h⟩⟩
theorem lnkL_ok {l:List Pee} (h:∀ q∈l,okPe q) (n:Int):∀ q∈lnkL l n,okPe q:=by
  unfold lnkL
  split
  · intro q hq
    unfold insF at hq
    rw [List.mem_append,List.mem_append,List.mem_singleton] at hq
    rcases hq with (hq | rfl) | hq
    · exact h q (List.mem_of_mem_take hq)
    · exact newPe_ok n
    · exact h q (List.mem_of_mem_drop hq)
  · exact h
theorem linkE_of {p:Pos} {n:Int} {q:Pee} (h:(lnkL p.2.2.1 n)[lnkI p.2.2.1 n]?=some q):linkE p n=q:=by
  unfold linkE
  rw [List.getD_eq_getElem?_getD,h]
  rfl
theorem getI8_bd {l:List Int} (h:byt l) (hl:l.length=8):0≤getR l∧getR l < 18446744073709551616:=by
  have e:getE l=0:=by unfold getE;rw [if_neg (by omega),if_neg (by omega)]
  unfold getR
  rw [if_pos e]
  have:=getI_bd l h
  rw [hl] at this
  exact this
theorem stTk_ok {b:List Int} (hb:byt b) (h:stTkE b=0):stTkS b=stAt b∧okSt (stAt b)∧okS (stAt b)=true:=by
  refine ⟨by rw [stTkS,if_pos h],?_⟩
  unfold stTkE at h
  split at h
  · cases h
  split at h
  · cases h
  split at h
  · cases h
  split at h
  · rename_i h1 _ _ ho
    exact ⟨⟨getI8_bd (byt_take hb 8) (by rw [List.length_take];omega),getI8_bd (byt_take (byt_drop hb 8) 8) (by rw [List.length_take,List.length_drop];omega)⟩,ho⟩
  · cases h
theorem frRd_ok {b:List Int} (hb:byt b) (h:frRdE b=true):okSt (frRdF b).2.2.1∧(frRdF b).2.2.1.2.2.1.length≤8:=by
  have e:frRdF b=frAt b:=by rw [frRdF,if_pos h]
  have h2:stTkE (b.drop 2)=0:=by
    unfold frRdE at h
    simp only [Bool.and_eq_true,beq_iff_eq] at h
    exact h.2.1
  obtain ⟨q1,q2,q3⟩:=stTk_ok (byt_drop hb 2) h2
  rw [e]
  show okSt (stTkS (b.drop 2))∧(stTkS (b.drop 2)).2.2.1.length≤8
  rw [q1]
  exact ⟨q2,(okS_len q3).2⟩
theorem frTk_ok {k b:List Int} (hb:byt b) (h:frTkE k b=0):okSt (frTkF k b).2.2.1∧(frTkF k b).2.2.1.2.2.1.length≤8∧(frTkF k b).2.2.2.2.2.1.length≤65536∧frChk (frTkF k b)=0:=by
  have e:frTkF k b=frRdF (b.take (b.length - 32)):=by rw [frTkF,if_pos h]
  unfold frTkE at h
  split at h
  · cases h
  split at h
  · rename_i h1
    split at h
    · rename_i h2
      obtain ⟨q1,q2⟩:=frRd_ok (byt_take hb _) h1
      obtain ⟨_,_,_,_,_,_,_,_,c9⟩:=frChk_0 h2
      rw [e]
      exact ⟨q1,q2,by rcases c9 with h | h <;> omega,h2⟩
    · cases h
  · cases h
theorem goF_ok {p:Pos} (h:okPo p) {s:Sta} (hs:s.2.2.1.length≤big):okPo (goF p s):=by
  unfold goF
  split
  · exact h
  · exact ⟨hs,Nat.zero_le _,fun q hq=>by cases hq⟩
theorem goF_st {p:Pos} (h:okSt p.2.1) {s:Sta} (hs:okSt s):okSt (goF p s).2.1:=by
  unfold goF
  split
  · exact h
  · exact hs
end DoorU
abbrev oPas:Sh:=.own tPa 51
def S_fpar:Spec:=⟨.pair aC (.pair aFr (.pair .bool .unit)),.pair oPas .unit,fun (x:Cfg×Fra×Bool×Unit)=>x.1.1.length≤big∧okSt x.2.1.2.2.1,fun (x:Cfg×Fra×Bool×Unit)=>((parF x.1 x.2.1 x.2.2.1,()):List Par×Unit)⟩
def S_ipar:Spec:=⟨.pair aC (.pair aPo (.pair nI (.pair lIts (.pair .bool .unit)))),.pair oPas .unit,fun (x:Cfg×Pos×Int×List Itm×Bool×Unit)=>x.1.1.length≤big∧okSt x.2.1.2.1∧x.2.2.2.1.length≤2000000000,fun (x:Cfg×Pos×Int×List Itm×Bool×Unit)=>((iparF x.1 x.2.1 x.2.2.1 x.2.2.2.1 x.2.2.2.2.1,()):List Par×Unit)⟩
def A_ipar (x:Cfg×Pos×Int×List Itm×Bool×Unit):Nat→Option LA
  | 0=>some ⟨[17,11],[(11,tPa,51)],.pair nI (.pair (.own tPa 51) .unit),fun (v:Int×List Par×Unit)=>0≤v.1∧v.1≤(x.2.2.2.1.length:Nat)∧v.2.1.length≤v.1.toNat∧v.2.1=iparF x.1 x.2.1 x.2.2.1 (x.2.2.2.1.take v.1.toNat) x.2.2.2.2.1,fun (v:Int×List Par×Unit)=>((x.2.2.2.1.length:Nat) - v.1).toNat⟩
  | _=>none
def S_psend:Spec:=⟨.pair aC (.pair aPo (.pair nI (.pair lY (.pair nI .unit)))),.pair (.tup (.pair vPo (.pair vPas (.pair nI .unit)))) .unit,fun (x:Cfg×Pos×Int×List Int×Int×Unit)=>x.1.1.length≤big∧okPo x.2.1∧okSt x.2.1.2.1∧x.2.2.2.1.length≤big,fun (x:Cfg×Pos×Int×List Int×Int×Unit)=>((psF x.1 x.2.1 x.2.2.1 x.2.2.2.1 x.2.2.2.2.1,()):(Pos×List Par×Int×Unit)×Unit)⟩
def S_ptake:Spec:=⟨.pair aC (.pair aPo (.pair nI (.pair vY (.pair nI .unit)))),.pair (.tup (.pair vPo (.pair (.view false tYs) (.pair oPas (.pair nI .unit))))) .unit,fun (x:Cfg×Pos×Int×List Int×Int×Unit)=>x.1.1.length≤big∧okPo x.2.1∧okSt x.2.1.2.1∧x.2.2.2.1.length≤100000000∧byt x.2.2.2.1,fun (x:Cfg×Pos×Int×List Int×Int×Unit)=>((ptF x.1 x.2.1 x.2.2.1 x.2.2.2.1 x.2.2.2.2.1,()):(Pos×List (List Int)×List Par×Int×Unit)×Unit)⟩
theorem vc_fpar:VC Tryz.prog Tryz.f58 (bodyOf Tryz.f58) S_fpar [(51,S_pair),(95,S_fput)] (fun _ _=>none)=(∀ (x:(List Int×Int×Int×Int×Int×Int×Int×Int×Int×Int×Int×Unit)×(Int×Int×(Int×Int×List Int×Unit)×Int×Int×List Int×Unit)×Bool×Unit),List.length x.fst.fst≤big∧okSt x.snd.fst.snd.snd.fst→
  List.length x.fst.fst≤(9223372036854775807:Nat)→
  List.length x.snd.fst.snd.snd.fst.snd.snd.fst≤(9223372036854775807:Nat)→
  List.length x.snd.fst.snd.snd.snd.snd.snd.fst≤(9223372036854775807:Nat)→
  List.length x.fst.fst≤(1000000000:Nat)∧(List.length (pairF x.fst x.snd.fst.fst x.snd.fst.snd.fst)≤(1000000000:Nat)∧okSt x.snd.fst.snd.snd.fst)∧bif frChk x.snd.fst != (0:Int) then ([],())=(parF x.fst x.snd.fst x.snd.snd.fst,()) else ([(x.snd.fst.snd.fst,frPutF (pairF x.fst x.snd.fst.fst x.snd.fst.snd.fst) x.snd.fst,x.snd.snd)],())=(parF x.fst x.snd.fst x.snd.snd.fst,())):=by kernel_rfl
theorem en_fpar (us:Array Value) (u:World):(callFunc 58 us).run Tryz.prog u=.ok (.enter 58 us) u:=by kernel_rfl
theorem sc_fpar:SC Tryz.prog 58 S_fpar:=by
  refine SC.of Tryz.func58 (c:=bodyOf Tryz.f58) (by kernel_rfl) (by kernel_rfl) (fun x=>(by decide:(3:Nat)≤Tryz.f58.ntmps)) (DOk.cons sc_pair en_pair (DOk.cons sc_fput en_fput DOk.nil)) (Eq.mpr vc_fpar ?_)
  rintro ⟨c,f,b,⟨⟩⟩ ⟨h1,h2⟩ - - -
  dsimp only at h1 h2 ⊢
  refine ⟨h1,⟨by rw [pairF_len];omega,h2⟩,?_⟩
  by_cases h:frChk f=0
  · rw [bneF h,cond_false,parF,if_pos h]
  · rw [bneT h,cond_true,parF,if_neg h]
theorem vc_ipar:VC Tryz.prog Tryz.f56 (bodyOf Tryz.f56) S_ipar [(58,S_fpar)] A_ipar=(∀ (x:(List Int×Int×Int×Int×Int×Int×Int×Int×Int×Int×Int×Unit)×(Int×(Int×Int×List Int×Unit)×List (Int×(Int×List (Int×List Int×Int×Unit)×List (List Int)×Unit)×(Int×List (Int×List Int×Int×Unit)×Unit)×Unit)×Unit)×Int×List (Int×List Int×Int×Unit)×Bool×Unit),List.length x.fst.fst≤big∧okSt x.snd.fst.snd.fst∧List.length x.snd.snd.snd.fst≤(2000000000:Nat)→
  List.length x.fst.fst≤(9223372036854775807:Nat)→
  List.length x.snd.fst.snd.fst.snd.snd.fst≤(9223372036854775807:Nat)→
  List.length x.snd.fst.snd.snd.fst≤(9223372036854775807:Nat)→
  List.length x.snd.snd.snd.fst≤(9223372036854775807:Nat)→
  List.length x.snd.snd.snd.fst≤(9223372036854775807:Nat)→
  ((0:Int)≤(0:Int)∧(0:Int)≤(↑(List.length x.snd.snd.snd.fst):Int)∧List.length ([]:List Par)≤Int.toNat (0:Int)∧[]=iparF x.fst x.snd.fst x.snd.snd.fst (List.take (Int.toNat (0:Int)) x.snd.snd.snd.fst) x.snd.snd.snd.snd.fst)∧∀ (v:Int×List (Int×List Int×Bool×Unit)×Unit),(0:Int)≤v.fst∧v.fst≤(↑(List.length x.snd.snd.snd.fst):Int)∧List.length v.snd.fst≤Int.toNat v.fst∧v.snd.fst=iparF x.fst x.snd.fst x.snd.snd.fst (List.take (Int.toNat v.fst) x.snd.snd.snd.fst) x.snd.snd.snd.snd.fst→
  bif decide (v.fst < (↑(List.length x.snd.snd.snd.fst):Int)) then (0:Int)≤v.fst∧v.fst < (↑(List.length x.snd.snd.snd.fst):Int)∧∀ (c0:Int×List Int×Int×Unit),x.snd.snd.snd.fst[Int.toNat v.fst]?=some c0→
  (List.length x.fst.fst≤big∧okSt x.snd.fst.snd.fst)∧(List.length v.snd.fst+List.length (parF x.fst (x.snd.fst.fst,x.snd.snd.fst,x.snd.fst.snd.fst,(1:Int),c0.fst,c0.snd.fst,()) x.snd.snd.snd.snd.fst))*(40:Nat)≤(140737488351232:Nat)∧((0:Int)≤IntKind.wrap IntKind.i64 (v.fst+(1:Int))∧IntKind.wrap IntKind.i64 (v.fst+(1:Int))≤(↑(List.length x.snd.snd.snd.fst):Int)∧List.length (v.snd.fst++parF x.fst (x.snd.fst.fst,x.snd.snd.fst,x.snd.fst.snd.fst,(1:Int),c0.fst,c0.snd.fst,()) x.snd.snd.snd.snd.fst)≤Int.toNat (IntKind.wrap IntKind.i64 (v.fst+(1:Int)))∧v.snd.fst++parF x.fst (x.snd.fst.fst,x.snd.snd.fst,x.snd.fst.snd.fst,(1:Int),c0.fst,c0.snd.fst,()) x.snd.snd.snd.snd.fst=iparF x.fst x.snd.fst x.snd.snd.fst (List.take (Int.toNat (IntKind.wrap IntKind.i64 (v.fst+(1:Int)))) x.snd.snd.snd.fst) x.snd.snd.snd.snd.fst)∧Int.toNat ((↑(List.length x.snd.snd.snd.fst):Int) - IntKind.wrap IntKind.i64 (v.fst+(1:Int))) < Int.toNat ((↑(List.length x.snd.snd.snd.fst):Int) - v.fst) else v.snd=(iparF x.fst x.snd.fst x.snd.snd.fst x.snd.snd.snd.fst x.snd.snd.snd.snd.fst,())):=by kernel_rfl
theorem en_ipar (us:Array Value) (u:World):(callFunc 56 us).run Tryz.prog u=.ok (.enter 56 us) u:=by kernel_rfl
theorem sc_ipar:SC Tryz.prog 56 S_ipar:=by
  refine SC.of Tryz.func56 (c:=bodyOf Tryz.f56) (by kernel_rfl) (by kernel_rfl) (fun x=>(by decide:(5:Nat)≤Tryz.f56.ntmps)) (DOk.cons sc_fpar en_fpar DOk.nil) (Eq.mpr vc_ipar ?_)
  rintro ⟨c,p,to,l,b,⟨⟩⟩ ⟨h1,h2,h3⟩ - - - - -
  dsimp only at h1 h2 h3 ⊢
  refine ⟨⟨Int.le_refl 0,by omega,Nat.zero_le _,rfl⟩,?_⟩
  rintro ⟨i,v,⟨⟩⟩ ⟨q0,q1,ql,hv⟩
  dsimp only at q0 q1 ql hv ⊢
  have wi:IntKind.i64.wrap (i+1)=i+1:=IntWalk.i64_in _ (by omega)
  by_cases hi:i < (l.length:Int)
  · rw [decide_eq_true hi,cond_true,wi]
    refine ⟨q0,hi,fun x hx=>?_⟩
    have pl:=parF_len c (p.1,to,p.2.1,1,x.1,x.2.1,()) b
    refine ⟨⟨h1,h2⟩,by omega,⟨by omega,by omega,by rw [List.length_append];omega,?_⟩,by omega⟩
    rw [show (i+1).toNat=i.toNat+1 by omega,take_snoc hx,iparF_snoc,hv]
  · rw [decide_eq_false hi,cond_false,hv,List.take_of_length_le (by omega)]
theorem vc_psend:VC Tryz.prog Tryz.f65 (bodyOf Tryz.f65) S_psend [(49,S_isN),(19,S_schk),(84,S_cpo),(54,S_lw),(106,S_lsend),(56,S_ipar)] (fun _ _=>none)=(∀ (x:(List Int×Int×Int×Int×Int×Int×Int×Int×Int×Int×Int×Unit)×(Int×(Int×Int×List Int×Unit)×List (Int×(Int×List (Int×List Int×Int×Unit)×List (List Int)×Unit)×(Int×List (Int×List Int×Int×Unit)×Unit)×Unit)×Unit)×Int×List Int×Int×Unit),List.length x.fst.fst≤big∧okPo x.snd.fst∧okSt x.snd.fst.snd.fst∧List.length x.snd.snd.snd.fst≤big→
  List.length x.fst.fst≤(9223372036854775807:Nat)→
  List.length x.snd.fst.snd.fst.snd.snd.fst≤(9223372036854775807:Nat)→
  List.length x.snd.fst.snd.snd.fst≤(9223372036854775807:Nat)→
  List.length x.snd.snd.snd.fst≤(9223372036854775807:Nat)→
  True∧bif !isNodeF x.fst x.snd.snd.fst then ((((0:Int),((0:Int),(0:Int),[],()),[],()),[],(1:Int),()),())=(psF x.fst x.snd.fst x.snd.snd.fst x.snd.snd.snd.fst x.snd.snd.snd.snd.fst,()) else bif x.snd.snd.fst==x.snd.fst.fst then ((((0:Int),((0:Int),(0:Int),[],()),[],()),[],(1:Int),()),())=(psF x.fst x.snd.fst x.snd.snd.fst x.snd.snd.snd.fst x.snd.snd.snd.snd.fst,()) else True∧bif stChk x.snd.fst.snd.fst != (0:Int) then ((((0:Int),((0:Int),(0:Int),[],()),[],()),[],(1:Int),()),())=(psF x.fst x.snd.fst x.snd.snd.fst x.snd.snd.snd.fst x.snd.snd.snd.snd.fst,()) else List.length x.snd.snd.snd.fst≤(9223372036854775807:Nat)→
  bif decide ((65536:Int) < (↑(List.length x.snd.snd.snd.fst):Int)) then ((((0:Int),((0:Int),(0:Int),[],()),[],()),[],(2:Int),()),())=(psF x.fst x.snd.fst x.snd.snd.fst x.snd.snd.snd.fst x.snd.snd.snd.snd.fst,()) else okPo x.snd.fst∧List.length x.snd.fst.snd.snd.fst≤big∧lnkI x.snd.fst.snd.snd.fst x.snd.snd.fst < List.length (lnkL x.snd.fst.snd.snd.fst x.snd.snd.fst)∧∀ (x_1:Int×(Int×List (Int×List Int×Int×Unit)×List (List Int)×Unit)×(Int×List (Int×List Int×Int×Unit)×Unit)×Unit),(lnkL x.snd.fst.snd.snd.fst x.snd.snd.fst)[lnkI x.snd.fst.snd.snd.fst x.snd.snd.fst]?=some x_1→
  (okOut x_1.snd.fst∧List.length x.snd.snd.snd.fst≤big)∧lnkI x.snd.fst.snd.snd.fst x.snd.snd.fst < List.length (lnkL x.snd.fst.snd.snd.fst x.snd.snd.fst)∧∀ (x0:Int×(Int×List (Int×List Int×Int×Unit)×List (List Int)×Unit)×(Int×List (Int×List Int×Int×Unit)×Unit)×Unit),(lnkL x.snd.fst.snd.snd.fst x.snd.snd.fst)[lnkI x.snd.fst.snd.snd.fst x.snd.snd.fst]?=some x0→
  (List.length x.fst.fst≤big∧okSt x.snd.fst.snd.fst∧List.length (sendF x_1.snd.fst x.snd.snd.snd.fst x.fst.snd.snd.snd.snd.snd.snd.snd.snd.fst x.snd.snd.snd.snd.fst).snd.fst≤(2000000000:Nat))∧(((x.snd.fst.fst,x.snd.fst.snd.fst,List.set (lnkL x.snd.fst.snd.snd.fst x.snd.snd.fst) (lnkI x.snd.fst.snd.snd.fst x.snd.snd.fst) (x0.fst,(sendF x_1.snd.fst x.snd.snd.snd.fst x.fst.snd.snd.snd.snd.snd.snd.snd.snd.fst x.snd.snd.snd.snd.fst).fst,x0.snd.snd),()),iparF x.fst (x.snd.fst.fst,x.snd.fst.snd.fst,List.set (lnkL x.snd.fst.snd.snd.fst x.snd.snd.fst) (lnkI x.snd.fst.snd.snd.fst x.snd.snd.fst) (x0.fst,(sendF x_1.snd.fst x.snd.snd.snd.fst x.fst.snd.snd.snd.snd.snd.snd.snd.snd.fst x.snd.snd.snd.snd.fst).fst,x0.snd.snd),()) x.snd.snd.fst (sendF x_1.snd.fst x.snd.snd.snd.fst x.fst.snd.snd.snd.snd.snd.snd.snd.snd.fst x.snd.snd.snd.snd.fst).snd.fst true,(0:Int),()),())=(psF x.fst x.snd.fst x.snd.snd.fst x.snd.snd.snd.fst x.snd.snd.snd.snd.fst,())):=by kernel_rfl
theorem en_psend (us:Array Value) (u:World):(callFunc 65 us).run Tryz.prog u=.ok (.enter 65 us) u:=by kernel_rfl
theorem sc_psend:SC Tryz.prog 65 S_psend:=by
  refine SC.of Tryz.func65 (c:=bodyOf Tryz.f65) (by kernel_rfl) (by kernel_rfl) (fun x=>(by decide:(5:Nat)≤Tryz.f65.ntmps)) (DOk.cons sc_isN en_isN (DOk.cons sc_schk en_schk (DOk.cons sc_cpo en_cpo (DOk.cons sc_lw en_lw (DOk.cons sc_lsend en_lsend (DOk.cons sc_ipar en_ipar DOk.nil)))))) (Eq.mpr vc_psend ?_)
  rintro ⟨c,p,to,b,now,⟨⟩⟩ ⟨h1,h2,h3,h4⟩ - - - -
  dsimp only at h1 h2 h3 h4 ⊢
  refine ⟨trivial,?_⟩
  have e1:(isNodeF c to=false∨to=p.1∨stChk p.2.1≠0)→((((0,(0,0,[],()),[],()),[],1,()),()):(Pos×List Par×Int×Unit)×Unit)=(psF c p to b now,()):=fun h=>by rw [psF,if_pos h];rfl
  cases hn:isNodeF c to
  · rw [Bool.not_false,cond_true];exact e1 (.inl hn)
  rw [Bool.not_true,cond_false]
  by_cases h5:to=p.1
  · rw [beq_iff_eq.2 h5,cond_true];exact e1 (.inr (.inl h5))
  rw [beq_eq_false_iff_ne.2 h5,cond_false]
  refine ⟨trivial,?_⟩
  by_cases h6:stChk p.2.1=0
  rotate_left 1
  · rw [bneT h6,cond_true];exact e1 (.inr (.inr h6))
  rw [bneF h6,cond_false]
  intro _
  have hno:¬ (isNodeF c to=false∨to=p.1∨stChk p.2.1≠0):=by
    rintro (h | h | h)
    · rw [hn] at h;cases h
    · exact h5 h
    · exact h h6
  by_cases h7:65536 < b.length
  · rw [decide_eq_true (by omega:(65536:Int) < (b.length:Int)),cond_true,psF,if_neg hno,if_pos h7];rfl
  rw [decide_eq_false (by omega),cond_false]
  have lt:=lnkI_lt p.2.2.1 to
  refine ⟨h2,h2.2.1,lt,fun q hq=>?_⟩
  have hqe:=linkE_of hq
  have okq:=lnkL_ok h2.2.2 to q (List.mem_of_getElem? hq)
  refine ⟨⟨okq.1,h4⟩,lt,fun q' hq'=>?_⟩
  rw [hq] at hq'
  cases hq'
  refine ⟨⟨h1,h3,Nat.le_trans (sendF_len _ _ _ _) (by omega)⟩,?_⟩
  rw [psF,if_neg hno,if_neg h7]
  simp only [sndP,sndQ,hqe,putPe,winC]
def PtRest (x:Cfg×Pos×Int×List Int×Int×Unit) (f:Fra):Prop:=(okPo x.snd.fst∧List.length f.snd.snd.fst.snd.snd.fst≤(1000000000000:Nat))∧List.length (goF x.snd.fst f.snd.snd.fst).snd.snd.fst≤big∧bif f.snd.snd.snd.fst==(2:Int) then lnkI (goF x.snd.fst f.snd.snd.fst).snd.snd.fst x.snd.snd.fst < List.length (lnkL (goF x.snd.fst f.snd.snd.fst).snd.snd.fst x.snd.snd.fst)∧∀ (x_1:Int×(Int×List (Int×List Int×Int×Unit)×List (List Int)×Unit)×(Int×List (Int×List Int×Int×Unit)×Unit)×Unit),(lnkL (goF x.snd.fst f.snd.snd.fst).snd.snd.fst x.snd.snd.fst)[lnkI (goF x.snd.fst f.snd.snd.fst).snd.snd.fst x.snd.snd.fst]?=some x_1→
  okOut x_1.snd.fst∧lnkI (goF x.snd.fst f.snd.snd.fst).snd.snd.fst x.snd.snd.fst < List.length (lnkL (goF x.snd.fst f.snd.snd.fst).snd.snd.fst x.snd.snd.fst)∧∀ (x0:Int×(Int×List (Int×List Int×Int×Unit)×List (List Int)×Unit)×(Int×List (Int×List Int×Int×Unit)×Unit)×Unit),(lnkL (goF x.snd.fst f.snd.snd.fst).snd.snd.fst x.snd.snd.fst)[lnkI (goF x.snd.fst f.snd.snd.fst).snd.snd.fst x.snd.snd.fst]?=some x0→
  (List.length x.fst.fst≤big∧okSt (goF x.snd.fst f.snd.snd.fst).snd.fst∧List.length (ackF x_1.snd.fst f.snd.snd.snd.snd.fst x.fst.snd.snd.snd.snd.snd.snd.snd.snd.fst x.snd.snd.snd.snd.fst).snd.fst≤(2000000000:Nat))∧((((goF x.snd.fst f.snd.snd.fst).fst,(goF x.snd.fst f.snd.snd.fst).snd.fst,List.set (lnkL (goF x.snd.fst f.snd.snd.fst).snd.snd.fst x.snd.snd.fst) (lnkI (goF x.snd.fst f.snd.snd.fst).snd.snd.fst x.snd.snd.fst) (x0.fst,(ackF x_1.snd.fst f.snd.snd.snd.snd.fst x.fst.snd.snd.snd.snd.snd.snd.snd.snd.fst x.snd.snd.snd.snd.fst).fst,x0.snd.snd),()),[],iparF x.fst ((goF x.snd.fst f.snd.snd.fst).fst,(goF x.snd.fst f.snd.snd.fst).snd.fst,List.set (lnkL (goF x.snd.fst f.snd.snd.fst).snd.snd.fst x.snd.snd.fst) (lnkI (goF x.snd.fst f.snd.snd.fst).snd.snd.fst x.snd.snd.fst) (x0.fst,(ackF x_1.snd.fst f.snd.snd.snd.snd.fst x.fst.snd.snd.snd.snd.snd.snd.snd.snd.fst x.snd.snd.snd.snd.fst).fst,x0.snd.snd),()) x.snd.snd.fst (ackF x_1.snd.fst f.snd.snd.snd.snd.fst x.fst.snd.snd.snd.snd.snd.snd.snd.snd.fst x.snd.snd.snd.snd.fst).snd.fst true,(0:Int),()),())=(ptF x.fst x.snd.fst x.snd.snd.fst x.snd.snd.snd.fst x.snd.snd.snd.snd.fst,()) else lnkI (goF x.snd.fst f.snd.snd.fst).snd.snd.fst x.snd.snd.fst < List.length (lnkL (goF x.snd.fst f.snd.snd.fst).snd.snd.fst x.snd.snd.fst)∧∀ (x_1:Int×(Int×List (Int×List Int×Int×Unit)×List (List Int)×Unit)×(Int×List (Int×List Int×Int×Unit)×Unit)×Unit),(lnkL (goF x.snd.fst f.snd.snd.fst).snd.snd.fst x.snd.snd.fst)[lnkI (goF x.snd.fst f.snd.snd.fst).snd.snd.fst x.snd.snd.fst]?=some x_1→
  (okIn x_1.snd.snd.fst∧List.length f.snd.snd.snd.snd.snd.fst≤big)∧lnkI (goF x.snd.fst f.snd.snd.fst).snd.snd.fst x.snd.snd.fst < List.length (lnkL (goF x.snd.fst f.snd.snd.fst).snd.snd.fst x.snd.snd.fst)∧∀ (x0:Int×(Int×List (Int×List Int×Int×Unit)×List (List Int)×Unit)×(Int×List (Int×List Int×Int×Unit)×Unit)×Unit),(lnkL (goF x.snd.fst f.snd.snd.fst).snd.snd.fst x.snd.snd.fst)[lnkI (goF x.snd.fst f.snd.snd.fst).snd.snd.fst x.snd.snd.fst]?=some x0→
  (List.length x.fst.fst≤big∧okSt (goF x.snd.fst f.snd.snd.fst).snd.fst)∧((((goF x.snd.fst f.snd.snd.fst).fst,(goF x.snd.fst f.snd.snd.fst).snd.fst,List.set (lnkL (goF x.snd.fst f.snd.snd.fst).snd.snd.fst x.snd.snd.fst) (lnkI (goF x.snd.fst f.snd.snd.fst).snd.snd.fst x.snd.snd.fst) (x0.fst,x0.snd.fst,((tkE x_1.snd.snd.fst f.snd.snd.snd.snd.fst f.snd.snd.snd.snd.snd.fst x.fst.snd.snd.snd.snd.snd.snd.snd.snd.fst).fst,tkK (tkL x_1.snd.snd.fst f.snd.snd.snd.snd.fst f.snd.snd.snd.snd.snd.fst x.fst.snd.snd.snd.snd.snd.snd.snd.snd.fst) (tkE x_1.snd.snd.fst f.snd.snd.snd.snd.fst f.snd.snd.snd.snd.snd.fst x.fst.snd.snd.snd.snd.snd.snd.snd.snd.fst).snd.fst,()),()),()),(tkE x_1.snd.snd.fst f.snd.snd.snd.snd.fst f.snd.snd.snd.snd.snd.fst x.fst.snd.snd.snd.snd.snd.snd.snd.snd.fst).snd.snd,parF x.fst ((goF x.snd.fst f.snd.snd.fst).fst,x.snd.snd.fst,(goF x.snd.fst f.snd.snd.fst).snd.fst,(2:Int),(tkE x_1.snd.snd.fst f.snd.snd.snd.snd.fst f.snd.snd.snd.snd.snd.fst x.fst.snd.snd.snd.snd.snd.snd.snd.snd.fst).fst,[],()) false,(0:Int),()),())=(ptF x.fst x.snd.fst x.snd.snd.fst x.snd.snd.snd.fst x.snd.snd.snd.snd.fst,())
theorem ptRest_ok (c:Cfg) (p:Pos) (n:Int) (b:List Int) (now:Int) (f:Fra) (h1:c.1.length≤big) (h2:okPo p) (h3:okSt p.2.1) (f1:okSt f.2.2.1) (f2:f.2.2.1.2.2.1.length≤8) (f3:f.2.2.2.2.2.1.length≤65536)
    (h:ptF c p n b now=if f.2.2.2.1=2 then (tkAP c p n f now,[],iparF c (tkAP c p n f now) n (tkA c p n f now).2.1 true,0,())
      else (tkTP c p n f,(tkT c p n f).2.1,parF c ((goF p f.2.2.1).1,n,(goF p f.2.2.1).2.1,2,(tkT c p n f).2.2.1,[],()) false,0,())):PtRest (c,p,n,b,now,()) f:=by
  have hg:=goF_ok h2 (s:=f.2.2.1) (by show _≤1000000000;omega)
  have hs:=goF_st h3 f1
  have lt:=lnkI_lt (goF p f.2.2.1).2.2.1 n
  unfold PtRest
  dsimp only
  refine ⟨⟨h2,by omega⟩,hg.2.1,?_⟩
  by_cases hk:f.2.2.2.1=2
  · rw [beq_iff_eq.2 hk,cond_true]
    refine ⟨lt,fun q hq=>?_⟩
    have hqe:=linkE_of hq
    have okq:=lnkL_ok hg.2.2 n q (List.mem_of_getElem? hq)
    refine ⟨okq.1,lt,fun q' hq'=>?_⟩
    rw [hq] at hq'
    cases hq'
    have al:=ackGo_len (winC c) now q.2.1.2.2.1 q.2.1.1 (ackS q.2.1.2.1 f.2.2.2.2.1) []
    have wl:q.2.1.2.2.1.length≤1000000000:=okq.1.2.1
    refine ⟨⟨h1,hs,Nat.le_trans al (by rw [List.length_nil];omega)⟩,?_⟩
    rw [h,if_pos hk]
    simp only [tkAP,tkA,hqe,putPe,winC]
  · rw [beq_eq_false_iff_ne.2 hk,cond_false]
    refine ⟨lt,fun q hq=>?_⟩
    have hqe:=linkE_of hq
    have okq:=lnkL_ok hg.2.2 n q (List.mem_of_getElem? hq)
    refine ⟨⟨okq.2,by show _≤1000000000;omega⟩,lt,fun q' hq'=>?_⟩
    rw [hq] at hq'
    cases hq'
    refine ⟨⟨h1,hs⟩,?_⟩
    rw [h,if_neg hk]
    simp only [tkTP,tkT,hqe,putPe,winC,takF]
theorem vc_ptake:VC Tryz.prog Tryz.f30 (bodyOf Tryz.f30) S_ptake [(49,S_isN),(51,S_pair),(50,S_ftake),(23,S_scmp),(52,S_ssame),(53,S_go),(54,S_lw),(55,S_lack),(57,S_ltake),(56,S_ipar),(58,S_fpar)] (fun _ _=>none)=(∀ (x:(List Int×Int×Int×Int×Int×Int×Int×Int×Int×Int×Int×Unit)×(Int×(Int×Int×List Int×Unit)×List (Int×(Int×List (Int×List Int×Int×Unit)×List (List Int)×Unit)×(Int×List (Int×List Int×Int×Unit)×Unit)×Unit)×Unit)×Int×List Int×Int×Unit),(List.length x.fst.fst≤big∧okPo x.snd.fst∧okSt x.snd.fst.snd.fst∧List.length x.snd.snd.snd.fst≤(100000000:Nat)∧∀ (x_1:Int),x_1∈x.snd.snd.snd.fst→
  (0:Int)≤x_1∧x_1 < (256:Int))→
  List.length x.fst.fst≤(9223372036854775807:Nat)→
  List.length x.snd.fst.snd.fst.snd.snd.fst≤(9223372036854775807:Nat)→
  List.length x.snd.fst.snd.snd.fst≤(9223372036854775807:Nat)→
  List.length x.snd.snd.snd.fst≤(9223372036854775807:Nat)→
  True∧bif !isNodeF x.fst x.snd.snd.fst then ((((0:Int),((0:Int),(0:Int),[],()),[],()),[],[],(1:Int),()),())=(ptF x.fst x.snd.fst x.snd.snd.fst x.snd.snd.snd.fst x.snd.snd.snd.snd.fst,()) else bif x.snd.snd.fst==x.snd.fst.fst then ((((0:Int),((0:Int),(0:Int),[],()),[],()),[],[],(1:Int),()),())=(ptF x.fst x.snd.fst x.snd.snd.fst x.snd.snd.snd.fst x.snd.snd.snd.snd.fst,()) else List.length x.fst.fst≤(1000000000:Nat)∧(List.length (pairF x.fst x.snd.snd.fst x.snd.fst.fst)≤(1000000000:Nat)∧List.length x.snd.snd.snd.fst≤(100000000:Nat)∧∀ (x_1:Int),x_1∈x.snd.snd.snd.fst→
  (0:Int)≤x_1∧x_1 < (256:Int))∧bif frTkE (pairF x.fst x.snd.snd.fst x.snd.fst.fst) x.snd.snd.snd.fst != (0:Int) then ((((0:Int),((0:Int),(0:Int),[],()),[],()),[],[],frTkE (pairF x.fst x.snd.snd.fst x.snd.fst.fst) x.snd.snd.snd.fst,()),())=(ptF x.fst x.snd.fst x.snd.snd.fst x.snd.snd.snd.fst x.snd.snd.snd.snd.fst,()) else bif (frTkF (pairF x.fst x.snd.snd.fst x.snd.fst.fst) x.snd.snd.snd.fst).fst != x.snd.snd.fst then ((((0:Int),((0:Int),(0:Int),[],()),[],()),[],[],(1:Int),()),())=(ptF x.fst x.snd.fst x.snd.snd.fst x.snd.snd.snd.fst x.snd.snd.snd.snd.fst,()) else bif (frTkF (pairF x.fst x.snd.snd.fst x.snd.fst.fst) x.snd.snd.snd.fst).snd.fst != x.snd.fst.fst then ((((0:Int),((0:Int),(0:Int),[],()),[],()),[],[],(1:Int),()),())=(ptF x.fst x.snd.fst x.snd.snd.fst x.snd.snd.snd.fst x.snd.snd.snd.snd.fst,()) else True∧bif decide (stCmp (frTkF (pairF x.fst x.snd.snd.fst x.snd.fst.fst) x.snd.snd.snd.fst).snd.snd.fst x.snd.fst.snd.fst < (0:Int)) then ((((0:Int),((0:Int),(0:Int),[],()),[],()),[],[],(6:Int),()),())=(ptF x.fst x.snd.fst x.snd.snd.fst x.snd.snd.snd.fst x.snd.snd.snd.snd.fst,()) else bif stCmp (frTkF (pairF x.fst x.snd.snd.fst x.snd.fst.fst) x.snd.snd.snd.fst).snd.snd.fst x.snd.fst.snd.fst==(0:Int) then True∧bif !stSame (frTkF (pairF x.fst x.snd.snd.fst x.snd.fst.fst) x.snd.snd.snd.fst).snd.snd.fst x.snd.fst.snd.fst then ((((0:Int),((0:Int),(0:Int),[],()),[],()),[],[],(6:Int),()),())=(ptF x.fst x.snd.fst x.snd.snd.fst x.snd.snd.snd.fst x.snd.snd.snd.snd.fst,()) else PtRest x (frTkF (pairF x.fst x.snd.snd.fst x.snd.fst.fst) x.snd.snd.snd.fst) else PtRest x (frTkF (pairF x.fst x.snd.snd.fst x.snd.fst.fst) x.snd.snd.snd.fst)):=by kernel_rfl
theorem en_ptake (us:Array Value) (u:World):(callFunc 30 us).run Tryz.prog u=.ok (.enter 30 us) u:=by kernel_rfl
theorem sc_ptake:SC Tryz.prog 30 S_ptake:=by
  refine SC.of Tryz.func30 (c:=bodyOf Tryz.f30) (by kernel_rfl) (by kernel_rfl) (fun x=>(by decide:(5:Nat)≤Tryz.f30.ntmps)) (DOk.cons sc_isN en_isN (DOk.cons sc_pair en_pair (DOk.cons sc_ftake en_ftake (DOk.cons sc_scmp en_scmp (DOk.cons sc_ssame en_ssame (DOk.cons sc_go en_go (DOk.cons sc_lw en_lw (DOk.cons sc_lack en_lack (DOk.cons sc_ltake en_ltake (DOk.cons sc_ipar en_ipar (DOk.cons sc_fpar en_fpar DOk.nil))))))))))) (Eq.mpr vc_ptake ?_)
  rintro ⟨c,p,n,b,now,⟨⟩⟩ ⟨h1,h2,h3,h4,h5⟩ - - - -
  dsimp only at h1 h2 h3 h4 h5 ⊢
  have hb:byt b:=h5
  refine ⟨trivial,?_⟩
  have e1:(isNodeF c n=false∨n=p.1)→((((0,(0,0,[],()),[],()),[],[],1,()),()):(Pos×List (List Int)×List Par×Int×Unit)×Unit)=(ptF c p n b now,()):=fun h=>by rw [ptF,if_pos h];rfl
  cases hn:isNodeF c n
  · rw [Bool.not_false,cond_true];exact e1 (.inl hn)
  rw [Bool.not_true,cond_false]
  by_cases h6:n=p.1
  · rw [beq_iff_eq.2 h6,cond_true];exact e1 (.inr h6)
  rw [beq_eq_false_iff_ne.2 h6,cond_false]
  have hno:¬ (isNodeF c n=false∨n=p.1):=by
    rintro (h | h)
    · rw [hn] at h;cases h
    · exact h6 h
  refine ⟨h1,⟨by rw [pairF_len];omega,h4,hb⟩,?_⟩
  by_cases h7:frTkE (pairF c n p.1) b=0
  rotate_left 1
  · rw [bneT h7,cond_true,ptF,if_neg hno,if_pos h7];rfl
  rw [bneF h7,cond_false]
  obtain ⟨f1,f2,f3,f4⟩:=frTk_ok hb h7
  have hG:ptF c p n b now=ptG c p n (frTkF (pairF c n p.1) b) now:=by rw [ptF,if_neg hno,if_neg (fun h=>h h7)]
  generalize frTkF (pairF c n p.1) b=f at f1 f2 f3 f4 hG ⊢
  by_cases h8:f.1=n
  rotate_left 1
  · rw [bneT h8,cond_true,hG,ptG,if_pos (.inl h8)];rfl
  rw [bneF h8,cond_false]
  by_cases h9:f.2.1=p.1
  rotate_left 1
  · rw [bneT h9,cond_true,hG,ptG,if_pos (.inr h9)];rfl
  rw [bneF h9,cond_false]
  have hn1:¬ (f.1≠n∨f.2.1≠p.1):=by
    rintro (h | h)
    · exact h h8
    · exact h h9
  rw [ptG,if_neg hn1] at hG
  refine ⟨trivial,?_⟩
  by_cases h10:stCmp f.2.2.1 p.2.1 < 0
  · rw [decide_eq_true h10,cond_true,hG,if_pos (.inl h10)];rfl
  rw [decide_eq_false h10,cond_false]
  by_cases h11:stCmp f.2.2.1 p.2.1=0
  · rw [beq_iff_eq.2 h11,cond_true]
    refine ⟨trivial,?_⟩
    cases h12:stSame f.2.2.1 p.2.1
    · rw [Bool.not_false,cond_true,hG,if_pos (.inr ⟨h11,h12⟩)];rfl
    · rw [Bool.not_true,cond_false]
      refine ptRest_ok c p n b now f h1 h2 h3 f1 f2 f3 ?_
      rw [hG,if_neg]
      rintro (h | ⟨_,h⟩)
      · exact h10 h
      · rw [h12] at h;cases h
  · rw [beq_eq_false_iff_ne.2 h11,cond_false]
    refine ptRest_ok c p n b now f h1 h2 h3 f1 f2 f3 ?_
    rw [hG,if_neg]
    rintro (h | ⟨h,_⟩)
    · exact h10 h
    · exact h11 h
end Go.Proofs.YtjkbkhjalimebaaGreatDoor
namespace Go.Proofs.YtjkbkhjalimebaaGreatDoor
open Go.RowKit DoorU
set_option linter.unusedVariables false
set_option linter.unusedSimpArgs false
set_option maxRecDepth 100000
namespace DoorU
theorem putI_succ (n:Int) (w:Nat):putI n (w+1)=putI (n / 256) w++[n % 256]:=by
  unfold putI
  rw [List.range_succ,List.map_append,List.map_cons,List.map_nil]
  congr 1
  · apply List.map_congr_left
    intro j hj
    rw [List.mem_range] at hj
    have e:(256:Int) ^ (w+1 - 1 - j)=256*256 ^ (w - 1 - j):=by
      rw [show w+1 - 1 - j=(w - 1 - j)+1 by omega,Int.pow_succ,Int.mul_comm]
    rw [e,Int.ediv_ediv_of_nonneg (by decide)]
  · rw [show w+1 - 1 - w=0 by omega,Int.pow_zero,Int.ediv_one]
theorem getI_putI:∀ (w:Nat) (n:Int),0≤n→n < 256 ^ w→getI (putI n w)=n
  | 0, n, h0, h1 => by
    rw [Int.pow_zero] at h1
    have:n=0:=by omega
    subst this
    rfl
  | w + 1, n, h0, h1 => by
    rw [Int.pow_succ] at h1
    rw [putI_succ,getI_snoc,getI_putI w (n / 256) (by omega) (Int.ediv_lt_of_lt_mul (by decide) h1)]
    omega
theorem putI_byt (n:Int) (w:Nat):byt (putI n w):=fun x hx=>by
  unfold putI at hx
  obtain ⟨j,_,rfl⟩:=List.mem_map.1 hx
  omega
theorem getR8 {n:Int} (h:okW n):getR (putI n 8)=n:=by
  have e:getE (putI n 8)=0:=by unfold getE;rw [putI_len,if_neg (by decide),if_neg (by decide)]
  unfold getR
  rw [if_pos e,getI_putI 8 n h.1 h.2]
theorem getR4 {n:Int} (h0:0≤n) (h:n < 4294967296):getR (putI n 4)=n:=by
  have e:getE (putI n 4)=0:=by unfold getE;rw [putI_len,if_neg (by decide),if_neg (by decide)]
  unfold getR
  rw [if_pos e,getI_putI 4 n h0 h]
theorem w8_in {n:Int} (h0:0≤n) (h:n < 256):w8 n=n:=by
  show IntKind.u8.wrap n=n
  rw [w8_of]
  omega
theorem okG_mem:∀ {l p:List Int},okG p l=true→∀ x∈l,1≤x∧x≤16
  | [],p,_,x,hx=>by cases hx
  | n :: r, p, h, x, hx => by
    simp only [okG,Bool.and_eq_true,decide_eq_true_eq] at h
    rcases List.mem_cons.1 hx with rfl | hx
    · exact ⟨h.1,h.2.1⟩
    · exact okG_mem h.2.2.2 x hx
theorem map_w8:∀ {l:List Int},(∀ x∈l,1≤x∧x≤16)→l.map w8=l
  | [],_=>rfl
  | x :: r, h => by
    have hx:=h x (List.mem_cons_self ..)
    rw [List.map_cons,w8_in (by omega) (by omega),map_w8 (fun y hy=>h y (List.mem_cons_of_mem _ hy))]
theorem okS_mem {s:Sta} (h:okS s=true):∀ x∈s.2.2.1,1≤x∧x≤16:=by
  simp only [okS,Bool.and_eq_true,decide_eq_true_eq] at h
  exact okG_mem h.2.2
theorem parts {A B D:List Int} {c:Int} {m k:Nat} (hA:A.length=m) (hB:B.length=k):
    (A++B++[c]++D).take m=A∧((A++B++[c]++D).drop m).take k=B∧(A++B++[c]++D).getD (m+k) 0=c∧(A++B++[c]++D).drop (m+k+1)=D:=by
  have e:A++B++[c]++D=A++(B++([c]++D)):=by simp only [List.append_assoc]
  have e2:A++(B++([c]++D))=(A++B)++([c]++D):=by simp only [List.append_assoc]
  have e3:A++(B++([c]++D))=(A++B++[c])++D:=by simp only [List.append_assoc]
  rw [e]
  refine ⟨List.take_left' hA,by rw [List.drop_left' hA,List.take_left' hB],?_,?_⟩
  · rw [e2,List.getD_eq_getElem?_getD,List.getElem?_append_right (by rw [List.length_append];omega),show m+k - (A++B).length=0 by rw [List.length_append];omega]
    rfl
  · rw [e3,List.drop_left' (by rw [List.length_append,List.length_append,hA,hB];rfl)]
theorem stTk_put {s:Sta} (hs:okSt s) (hk:okS s=true) (R:List Int):stTkE (stL s++R)=0∧stTkS (stL s++R)=s∧stTkN (stL s++R)=17+(s.2.2.1.length:Nat):=by
  obtain ⟨e,r,ch,⟨⟩⟩:=s
  have hl:=okS_len hk
  have hm:=map_w8 (okS_mem hk)
  dsimp only at hl hm
  have hL:stL (e,r,ch,())++R=putI e 8++putI r 8++[w8 ch.length]++(ch++R):=by
    show putI e 8++putI r 8++[w8 ch.length]++ch.map w8++R=_
    rw [hm,List.append_assoc (putI e 8++putI r 8++[w8 ch.length])]
  obtain ⟨p1,p2,p3,p4⟩:=parts (A:=putI e 8) (B:=putI r 8) (c:=w8 ch.length) (D:=ch++R) (putI_len e 8) (putI_len r 8)
  rw [hL]
  have hlen:(putI e 8++putI r 8++[w8 ch.length]++(ch++R)).length=17+ch.length+R.length:=by
    simp only [List.length_append,putI_len,List.length_cons,List.length_nil]
    omega
  generalize putI e 8++putI r 8++[w8 ch.length]++(ch++R)=l at p1 p2 p3 p4 hlen
  have hg:g16 l=(ch.length:Nat):=by
    show l.getD (8+8) 0=_
    rw [p3,w8_in (by omega) (by omega)]
  have hA:stAt l=(e,r,ch,()):=by
    unfold stAt g8 g9 g17
    rw [hg,p1,p2,p4,getR8 hs.1,getR8 hs.2,Int.toNat_natCast,List.take_left' rfl]
  have h0:stTkE l=0:=by
    unfold stTkE
    rw [if_neg (by omega),hg,if_neg (by omega),if_neg (by omega),hA,if_pos hk]
  exact ⟨h0,by rw [stTkS,if_pos h0,hA],by rw [stTkN,if_pos h0,hg]⟩
theorem frRd_hd {f:Fra} (hc:frChk f=0) (hs:okSt f.2.2.1):frRdE (frHd f)=true∧frRdF (frHd f)=f:=by
  obtain ⟨c1,c2,c3,c4,c5,c6,c7,c8,c9⟩:=frChk_0 hc
  obtain ⟨a,b,s,kd,q,bd,⟨⟩⟩:=f
  dsimp only at c1 c2 c3 c4 c5 c6 c7 c8 c9 hs
  have hk:=stChk_0 c6
  have hbl:bd.length≤65536:=by rcases c9 with h | h <;> omega
  have hkd:0≤kd∧kd < 256:=by rcases c9 with h | h <;> omega
  have hR:frHd (a,b,s,kd,q,bd,())=[w8 a,w8 b]++(stL s++([w8 kd]++putI q 4++putI bd.length 4++bd)):=by
    unfold frHd
    simp only [List.append_assoc]
  obtain ⟨t1,t2,t3⟩:=stTk_put hs hk ([w8 kd]++putI q 4++putI bd.length 4++bd)
  have d2:(frHd (a,b,s,kd,q,bd,())).drop 2=stL s++([w8 kd]++putI q 4++putI bd.length 4++bd):=by rw [hR];rfl
  have dR:frRest (frHd (a,b,s,kd,q,bd,()))=[w8 kd]++putI q 4++putI bd.length 4++bd:=by
    unfold frRest
    rw [d2,t3,show (2+(17+((s.2.2.1.length:Nat):Int))).toNat=2+(17+s.2.2.1.length) by omega,← List.drop_drop,d2,List.drop_left' (stL_len s)]
  have r1:([w8 kd]++putI q 4++putI bd.length 4++bd).getD 0 0=kd:=by
    rw [← w8_in hkd.1 hkd.2]
    conv=>rhs;rw [w8_in hkd.1 hkd.2]
    show w8 (w8 kd)=kd
    rw [w8_in hkd.1 hkd.2,w8_in hkd.1 hkd.2]
  have r2:(([w8 kd]++putI q 4++putI bd.length 4++bd).drop 1).take 4=putI q 4:=by
    rw [show [w8 kd]++putI q 4++putI bd.length 4++bd=[w8 kd]++(putI q 4++(putI bd.length 4++bd)) by simp only [List.append_assoc],show List.drop 1 ([w8 kd]++(putI q 4++(putI bd.length 4++bd)))=putI q 4++(putI bd.length 4++bd) from rfl,List.take_left' (putI_len q 4)]
  have r3:(([w8 kd]++putI q 4++putI bd.length 4++bd).drop 5).take 4=putI bd.length 4:=by
    rw [show [w8 kd]++putI q 4++putI bd.length 4++bd=([w8 kd]++putI q 4)++(putI bd.length 4++bd) by simp only [List.append_assoc],List.drop_left' (by rw [List.length_append,putI_len];rfl),List.take_left' (putI_len _ 4)]
  have r4:([w8 kd]++putI q 4++putI bd.length 4++bd).drop 9=bd:=List.drop_left' (by rw [List.length_append,List.length_append,putI_len,putI_len];rfl)
  have rl:([w8 kd]++putI q 4++putI bd.length 4++bd).length=9+bd.length:=by
    simp only [List.length_append,putI_len,List.length_cons,List.length_nil]
  have g5:getR (putI bd.length 4)=(bd.length:Nat):=getR4 (by omega) (by omega)
  have hE:frRdE (frHd (a,b,s,kd,q,bd,()))=true:=by
    unfold frRdE
    rw [d2,t1,dR,r3,r4,rl,g5,frHd_len]
    simp only [Bool.and_eq_true,decide_eq_true_eq,beq_iff_eq,true_and]
    exact ⟨by omega,by omega,trivial⟩
  refine ⟨hE,?_⟩
  have a0:(frHd (a,b,s,kd,q,bd,())).getD 0 0=a:=by
    rw [hR]
    exact w8_in c1 (by omega)
  have a1:(frHd (a,b,s,kd,q,bd,())).getD 1 0=b:=by
    rw [hR]
    exact w8_in c3 (by omega)
  rw [frRdF,if_pos hE,frAt,d2,t2,dR,r1,r2,r4,getR4 c7 (by omega),a0,a1]
theorem frTk_put (k:List Int) {f:Fra} (hc:frChk f=0) (hs:okSt f.2.2.1):frTkE k (frPutF k f)=0∧frTkF k (frPutF k f)=f:=by
  have e:frPutF k f=frHd f++tagF k (frHd f):=by rw [frPutF,if_pos hc]
  obtain ⟨h1,h2⟩:=frRd_hd hc hs
  have hl:(frPutF k f).length=(frHd f).length+32:=by rw [e,List.length_append,tagF_len]
  have ht:(frPutF k f).take ((frPutF k f).length - 32)=frHd f:=by
    rw [hl,Nat.add_sub_cancel,e,List.take_left' rfl]
  have hd:(frPutF k f).drop ((frPutF k f).length - 32)=tagF k (frHd f):=by
    rw [hl,Nat.add_sub_cancel,e,List.drop_left' rfl]
  have h0:frTkE k (frPutF k f)=0:=by
    unfold frTkE
    rw [ht,hd,h1,h2,if_neg (by omega),if_pos rfl,if_pos hc,if_pos rfl]
  exact ⟨h0,by rw [frTkF,if_pos h0,ht,h2]⟩
end DoorU
end Go.Proofs.YtjkbkhjalimebaaGreatDoor

