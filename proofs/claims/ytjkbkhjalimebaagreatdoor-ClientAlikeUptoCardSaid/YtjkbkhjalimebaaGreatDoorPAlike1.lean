import Derived.WalkKit
import Derived.WalkLawsBesides
import Derived.WalkSpells
import Derived.Lib.Hide
import Derived.Laws.AppendOwnNone
import Derived.Laws.CopyOwn
import Derived.Lib.SlBytesConst
namespace Go.Proofs.YtjkbkhjalimebaaGreatDoor
open Go.RowKit
def B (u:UInt8):Value:=.int .u8 (u.toNat:Int)
structure Row (w:World) (a:Option Addr) (vs:List Value):Prop where
  cell:∀ i v,vs[i]?=some v→∃ b off,a=some ⟨b,off,none⟩∧w.cell? ⟨b,off+i,none⟩=some v
theorem Row.nil (w:World) (a:Option Addr):Row w a []:=⟨fun i v h=>by simp at h⟩
theorem Row.keep {w w':World} {a:Option Addr} {vs:List Value} (h:Row w a vs) (hb:Below w.heap.size w w'):Row w' a vs:=by
  refine ⟨fun i v hv=>?_⟩
  obtain ⟨b,off,ha,hc⟩:=h.cell i v hv
  exact ⟨b,off,ha,(hb.cell (World.block_lt_of_cell? _ _ hc)).trans hc⟩
theorem Row.at {w:World} {a:Option Addr} {vs:List Value} (h:Row w a vs) (hne:vs≠[]):
    ∃ b off,a=some ⟨b,off,none⟩∧∀ i v,vs[i]?=some v→w.cell? ⟨b,off+i,none⟩=some v:=by
  obtain ⟨v,l,rfl⟩:=List.exists_cons_of_ne_nil hne
  obtain ⟨b,off,ha,_⟩:=h.cell 0 v rfl
  refine ⟨b,off,ha,fun i u hu=>?_⟩
  obtain ⟨b',off',ha',hc⟩:=h.cell i u hu
  rw [ha] at ha'
  cases ha'
  exact hc
theorem Row.of {w:World} {b off:Nat} {vs:List Value} (h:∀ i v,vs[i]?=some v→w.cell? ⟨b,off+i,none⟩=some v):Row w (some ⟨b,off,none⟩) vs:=
  ⟨fun i v hv=>⟨b,off,rfl,h i v hv⟩⟩
structure Cells (w:World) (a:Option Addr) (n cap size:Nat) (vs:List Value):Prop where
  len:vs.length=n*size
  le:n≤cap
  max:cap≤maxLen
  zero:a=none→cap=0
  row:Row w a vs
theorem Cells.keep {w w':World} {a:Option Addr} {n cap size:Nat} {vs:List Value} (h:Cells w a n cap size vs) (hb:Below w.heap.size w w'):Cells w' a n cap size vs:=
  ⟨h.len,h.le,h.max,h.zero,h.row.keep hb⟩
theorem Cells.le_i64 {w:World} {a:Option Addr} {n cap size:Nat} {vs:List Value} (h:Cells w a n cap size vs):n≤9223372036854775807∧cap≤9223372036854775807:=by
  have h1:=h.max;have h2:=h.le
  unfold maxLen at h1
  omega
structure Bytes (w:World) (a:Option Addr) (n cap:Nat) (l:List UInt8):Prop where
  len:l.length=n
  le:n≤cap
  max:cap≤maxLen
  zero:a=none→cap=0
  row:Row w a (l.map B)
theorem Bytes.at {w:World} {a:Option Addr} {n cap:Nat} {l:List UInt8} (h:Bytes w a n cap l) (hne:l≠[]):
    ∃ b off,a=some ⟨b,off,none⟩∧∀ i (hi:i < l.length),w.cell? ⟨b,off+i,none⟩=some (B l[i]):=by
  obtain ⟨b,off,ha,hc⟩:=h.row.at (by simpa using hne)
  exact ⟨b,off,ha,fun i hi=>hc i _ (by simp [hi])⟩
theorem take_snoc {α:Type} {l:List α} {k:Nat} {u:α} (h:l[k]?=some u):l.take (k+1)=l.take k++[u]:=by
  rw [List.take_add_one,h];rfl
theorem cells_of_owns {w:World} {base e size n:Nat} {v:Value} {xs:List Value} (h:w.ownsRow base e size v n xs):
    ∃ a cap,v=.slice a n cap∧Cells w a n cap size xs∧(a=none∨∃ g,a=some ⟨g,0,none⟩∧base≤g):=by
  have hl:xs.length=n*size:=h.1
  rcases h.2 with ⟨rfl,rfl⟩ | ⟨g,cap,cur,rfl,hb,hg,hn,hm,hs,ht⟩
  · obtain rfl:xs=[]:=List.eq_nil_of_length_eq_zero (by simpa using hl)
    exact ⟨none,0,rfl,⟨hl,Nat.le_refl _,Nat.zero_le _,fun _=>rfl,Row.nil _ _⟩,.inl rfl⟩
  · refine ⟨_,cap,rfl,⟨hl,hn,hm,fun h=>by simp at h,Row.of fun i v hv=>?_⟩,.inr ⟨g,rfl,hb⟩⟩
    have:=h.cells (g:=g) rfl i v hv
    simpa [Addr.add_lit] using this
theorem wp_append_row {P:Program} {w:World} {o:Oper} {a:Act} {K:Act→World→Prop} {Q:Exit→Act→World→Prop} (s x:Operand) (t:TypeId)
    (ho:o.op=.call { callee:=.builtin .append,args:=#[s,x],argTypes:=#[t,t] })
    (base:Nat) (e:TypeId) (i:TypeInfo) (z:Value) (size bytes:Nat) (ht:P.underlying t=some (.slice e)) (hi:P.info? e=some i) (hz:i.zero=some z)
    (hsize:i.size=size) (hby:i.bytes=bytes) (hzs:z.cells.size=size) (hsz:0 < size)
    (sa:Option Addr) (n scap:Nat) (xs:List Value) (hs:a.eval s=.slice sa n scap) (hown:w.ownsRow base e size (.slice sa n scap) n xs)
    (ao:Option Addr) (m c:Nat) (news:List Value) (hx:a.eval x=.slice ao m c) (hc:Cells w ao m c size news) (h1:∀ u∈news,u.oneCell'=true)
    (h63:n+m≤maxLen) (hbytes:(n+m)*bytes≤140737488355328) (w0:World) (hbase:Below base w0 w) (hbs:base≤w.heap.size)
    (h:∀ a' cap' w',w'.ownsRow base e size (.slice a' (n+m) cap') (n+m) (xs++news)→Below base w0 w'→K (a.put o.dst (.slice a' (n+m) cap')) w'):
    o.wp P a w K Q:=by
  have hbl:∀ w',w.grownBy w' (Value.slice sa n scap).ownBlock→Below base w0 w':=fun w' hg=>
    hbase.grown hg hbs (fun k hk=>(hown.lt k hk).1)
  cases ao with
  | some ad =>
    refine wp_append_own w s x t ho base e i z size bytes ht hi hz hsize hby hzs hsz _ n xs hs hown ad m c news hx hc.len (fun j u hu=>?_) h1 h63 hbytes hbs ?_
    · obtain ⟨b,off,hab,hcell⟩:=hc.row.cell j u hu
      cases hab
      rw [Addr.add_lit]
      exact hcell
    · intro v' w' ho' hg _
      obtain ⟨a',cap',rfl,_,_⟩:=cells_of_owns ho'
      exact h a' cap' w' ho' (hbl w' hg)
  | none =>
    have hc0:=hc.zero rfl
    have hm0:m=0:=by have:=hc.le;omega
    subst hm0
    subst hc0
    obtain rfl:news=[]:=List.eq_nil_of_length_eq_zero (by simpa using hc.len)
    have hrun:=run_append_owned_none (P:=P) w base t o.type e i size ht hi _ n xs hown
    have:=h sa scap w (by simpa using hown) hbase
    simp only [Nat.add_zero] at this
    unfold Oper.wp
    simp [execOp,ho,resolve,invoke,builtin,hs,hx,hrun,Result.andThen]
    exact this
theorem wpList_append_row {P:Program} {w:World} {ops:Array Oper} {rest:List Oper} {o:Oper} {a:Act} {Q:Exit→Act→World→Prop} (hgd:o.guard=none) (s x:Operand) (t:TypeId)
    (ho:o.op=.call { callee:=.builtin .append,args:=#[s,x],argTypes:=#[t,t] })
    (base:Nat) (e:TypeId) (i:TypeInfo) (z:Value) (size bytes:Nat) (ht:P.underlying t=some (.slice e)) (hi:P.info? e=some i) (hz:i.zero=some z)
    (hsize:i.size=size) (hby:i.bytes=bytes) (hzs:z.cells.size=size) (hsz:0 < size)
    (sa:Option Addr) (n scap:Nat) (xs:List Value) (hs:a.eval s=.slice sa n scap) (hown:w.ownsRow base e size (.slice sa n scap) n xs)
    (ao:Option Addr) (m c:Nat) (news:List Value) (hx:a.eval x=.slice ao m c) (hc:Cells w ao m c size news) (h1:∀ u∈news,u.oneCell'=true)
    (h63:n+m≤maxLen) (hbytes:(n+m)*bytes≤140737488355328) (w0:World) (hbase:Below base w0 w) (hbs:base≤w.heap.size)
    (h:∀ a' cap' w',w'.ownsRow base e size (.slice a' (n+m) cap') (n+m) (xs++news)→Below base w0 w'→wpList P ops Q rest (a.put o.dst (.slice a' (n+m) cap')) w'):
    wpList P ops Q (o::rest) a w:=
  wpList_plain hgd fun _ hK=>wp_append_row s x t ho base e i z size bytes ht hi hz hsize hby hzs hsz sa n scap xs hs hown ao m c news hx hc h1 h63 hbytes w0 hbase hbs fun a' cap' w' h2 h3=>hK _ _ (h a' cap' w' h2 h3)
theorem Bytes.toStr {P:Program} {w:World} {a:Option Addr} {n cap:Nat} {l:List UInt8} (h:Bytes w a n cap l) (src dst e:TypeId)
    (hs:P.underlying src=some (.slice e)) (he:P.underlying e=some (.int .u8)) (hd:P.underlying dst=some .string):
    (convert src dst (.slice a n cap)).run P w=.ok (.string ⟨l.toArray⟩) w:=by
  by_cases hl:l=[]
  · subst hl
    have hn:n=0:=by simpa using h.len.symm
    subst hn
    cases a with
    | none=>exact run_convert_bytes_nil w src e hs he _ _ dst hd
    | some x =>
      rw [run_convert_bytes_string w src dst e _ _ cap hs he hd,run_bytesToString w x 0 cap [] (by simp [loadCells,loadCellsFrom])]
      rfl
  · obtain ⟨b,off,rfl,hc⟩:=h.at hl
    rw [run_convert_bytes_arg w src e hs he b off n cap (l.map fun u=>(u.toNat:Int)) (by simpa using h.len) (fun i hi=>?_) dst hd]
    · congr 2
      simp only [strOfNums]
      congr 2
      rw [List.map_map]
      conv=>rhs;rw [← List.map_id l]
      apply List.map_congr_left
      intro u _
      simp
    · rw [hc i (by rw [h.len];exact hi)]
      simp [B,List.getD,h.len,hi]
end Go.Proofs.YtjkbkhjalimebaaGreatDoor

