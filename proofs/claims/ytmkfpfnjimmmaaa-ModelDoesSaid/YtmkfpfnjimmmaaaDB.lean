/- The contract of the reference's own: a model's copy whose rows, and the boxes in it, are all the call's own. -/
import Derived.Test.YtmkfpfnjimmmaaaEC
import Derived.Test.YtmkfpfnjimmmaaaDA
import Derived.Deep.RegionLaw
import Derived.Deep.RegionWith
import Derived.Deep.DeepCutAuto
namespace Go.Proofs.Ytmkfpfnjimmmaaa
open Go.RowKit
set_option linter.unusedVariables false

/-- An append as one step of a region that draws its order. -/
theorem step_append_row3 {P : Program} {w : World} {ops : Array Oper} {o : Oper} {a : Act} {K : Act → World → Prop} {Q : Exit → Act → World → Prop} {E : Prop} (hgd : o.guard = none) (s x : Operand) (t : TypeId)
    (ho : o.op = .call { callee := .builtin .append, args := #[s, x], argTypes := #[t, t] })
    (base : Nat) (e : TypeId) (i : TypeInfo) (z : Value) (size bytes : Nat) (ht : P.underlying t = some (.slice e)) (hi : P.info? e = some i) (hz : i.zero = some z)
    (hsize : i.size = size) (hby : i.bytes = bytes) (hzs : z.cells.size = size) (hsz : 0 < size)
    (sa : Option Addr) (n scap : Nat) (xs : List Value) (hs : a.eval s = .slice sa n scap) (hown : w.ownsRow base e size (.slice sa n scap) n xs)
    (ao : Option Addr) (m c : Nat) (news : List Value) (hx : a.eval x = .slice ao m c) (hc : Cells w ao m c size news) (h1 : ∀ u ∈ news, u.oneCell' = true)
    (h63 : n + m ≤ maxLen) (hbytes : (n + m) * bytes ≤ 140737488355328) (hbs : base ≤ w.heap.size)
    (h : ∀ a' cap' w', w'.ownsRow base e size (.slice a' (n + m) cap') (n + m) (xs ++ news) → w.grownBy w' (Value.slice sa n scap).ownBlock →
      ((Value.slice a' (n + m) cap').ownBlock = (Value.slice sa n scap).ownBlock ∨ (Value.slice a' (n + m) cap').ownBlock = some w.heap.size) → K (a.put o.dst (.slice a' (n + m) cap')) w') :
    if Region.wanted o (yielded ops a.tmps) = true then Oper.wp P o a w K Q else E := by
  have hw : Region.wanted o (yielded ops a.tmps) = true := by simp [Region.wanted, hgd]
  rw [if_pos hw]
  exact wp_append_row3 s x t ho base e i z size bytes ht hi hz hsize hby hzs hsz sa n scap xs hs hown ao m c news hx hc h1 h63 hbytes hbs h

theorem dinfo_let : (Try.prog.info? 46).map (fun i => (i.zero, i.size, i.bytes)) = some (some (.agg #[.bool false, .int .i64 0, .int .i64 0, .int .u64 0, .slice none 0 0]), 5, 56) := by kernel_rfl
theorem dinfo_que : (Try.prog.info? 77).map (fun i => (i.zero, i.size, i.bytes)) = some (some (.agg #[.int .u64 0, .slice none 0 0]), 2, 32) := by kernel_rfl
theorem dinfo_box : (Try.prog.info? 74).map (fun i => (i.zero, i.size, i.bytes)) = some (some (.slice none 0 0), 1, 24) := by kernel_rfl
theorem dinfo_int : (Try.prog.info? 3).map (fun i => (i.zero, i.size, i.bytes)) = some (some (.int .i64 0), 1, 8) := by kernel_rfl

abbrev rQ : Rep (List D) := rD 2 32 (by decide) (by decide)
abbrev rN : Rep (List D) := rD 1 8 (by decide) (by decide)
abbrev rX : Rep (List D) := rD 1 24 (by decide) (by decide)
abbrev rE : Rep (List D) := rD 5 56 (by decide) (by decide)
def MM : Nat := 140737488351232

theorem grown_below {w w' : World} (h : w.grownBy w' none) : Below w.heap.size w w' := ⟨h.os, h.tape, h.output, h.size, fun k hk => h.block k hk (fun e => by cases e)⟩

theorem below_grown {w W w1 : World} (h : Below w.heap.size w W) (g : W.grownBy w1 none) : Below w.heap.size w w1 := h.trans ((grown_below g).mono h.size)
theorem cell_underAt {w : World} {o : Obj} {a : Addr} {v : Value} (h : w.cell? a = some v) : (w.alloc o).cell? a = some v := by
  have hlt := World.block_lt_of_cell? _ _ h
  exact (World.cell?_of_block (w := w) (Below.heap_alloc w o a.block hlt)).trans h

theorem CellsAt.under {w : World} {G : Nat} {v : Value} {vs : List Value} (h : CellsAt w G (v :: vs)) (o : Obj) : CellsAt (w.alloc o) G (v :: vs) := h.keep (Below.heap_alloc w o G h.lt)

theorem CellsAt.grown {w W w' : World} {G : Nat} {v : Value} {vs : List Value} (h : CellsAt w G (v :: vs)) (g : W.grownBy w' none) (e : W.heap = w.heap) : CellsAt w' G (v :: vs) :=
  h.keep ((g.block G (by rw [e]; exact h.lt) (fun e => by cases e)).trans (by rw [e]))

abbrev Z3 : List Value := [.slice none 0 0, .slice none 0 0, .slice none 0 0]
/-- What stands behind the copies of queues and numbers. -/
def Own1 (w : World) (U : Nat → Prop) (qa ca ba : Option Addr) (qn qc cn cc bn bc : Nat) (Qs Cs : List (List D)) (s3 : Value) (wx : World) : Prop :=
  ∃ G a1 c1 a2 c2, s3 = .pointer (some ⟨G, 0, none⟩) ∧ w.heap.size + 2 ≤ G ∧ CellsAt wx G [.slice a1 qn c1, .slice a2 cn c2, .slice none 0 0] ∧ CellsAt wx w.heap.size [.slice qa qn qc, .slice ca cn cc, .slice ba bn bc] ∧ CellsAt wx (w.heap.size + 1) Z3 ∧ Below w.heap.size w wx ∧
    Own rQ (w.heap.size + 2) 77 (fun b => U b ∧ b < w.heap.size) wx a1 qn c1 Qs ∧ Own rN (w.heap.size + 2) 3 (fun b => U b ∧ b < w.heap.size) wx a2 cn c2 Cs ∧
    (∀ g, (Value.slice a1 qn c1).ownBlock = some g → g ≠ G ∧ (Value.slice a2 cn c2).ownBlock ≠ some g) ∧ (∀ g, (Value.slice a2 cn c2).ownBlock = some g → g ≠ G)

theorem own_of {r : Rep (List D)} {w w1 wx : World} {U : Nat → Prop} {e : TypeId} {a : Option Addr} {n c : Nat} {vs : List Value} {xs : List (List D)} {B : Nat} (hB : w.heap.size ≤ B) (ow : w1.ownsRow 0 e r.sz (.slice a n c) n vs) (hg : ∀ g, (Value.slice a n c).ownBlock = some g → B ≤ g ∧ wx.heap[g]? = w1.heap[g]?)
    (hl : xs.length = n) (h1 : ∀ v ∈ vs, v.oneCell' = true) (hR : ∀ i x, xs[i]? = some x → r.R U w ((vs.drop (i * r.sz)).take r.sz) x) (bx : Below w.heap.size w wx) : Own r B e (fun b => U b ∧ b < w.heap.size) wx a n c xs := by
  refine ⟨vs, ⟨ow.1, ow.2.imp id ?_⟩, hl, h1, fun i x hx => ?_⟩
  · rintro ⟨g, cap, cur, hv, _, hc, hr⟩
    obtain ⟨q1, q2⟩ := hg g (by rw [hv]; rfl)
    exact ⟨g, cap, cur, hv, q1, q2.trans hc, hr⟩
  · have h2 := r.keep (Same.of_below bx) (r.lt (hR i x hx))
    exact r.mono (fun b hb => ⟨hb, fun e => by have := (hg b e).1; have := hb.2; omega⟩) h2

theorem own1_mk {w w1 w2 wx : World} {U : Nat → Prop} {qa ca ba a1 a2 : Option Addr} {qn qc cn cc bn bc c1 c2 n1 n2 G : Nat} {Qs Cs : List (List D)} {vq vc : List Value}
    (lq : Qs.length = qn) (oq : ∀ v ∈ vq, v.oneCell' = true) (Rq : ∀ i x, Qs[i]? = some x → rQ.R U w ((vq.drop (i * rQ.sz)).take rQ.sz) x)
    (lc : Cs.length = cn) (oc : ∀ v ∈ vc, v.oneCell' = true) (Rc : ∀ i x, Cs[i]? = some x → rN.R U w ((vc.drop (i * rN.sz)).take rN.sz) x)
    (ow1 : w1.ownsRow 0 77 2 (.slice a1 (0 + qn) c1) (0 + qn) ([] ++ vq)) (sm1 : (Value.slice a1 (0 + qn) c1).ownBlock = (Value.slice none 0 0).ownBlock ∨ (Value.slice a1 (0 + qn) c1).ownBlock = some n1) (hn1 : w.heap.size + 2 ≤ n1)
    (ow2 : w2.ownsRow 0 3 1 (.slice a2 (0 + cn) c2) (0 + cn) ([] ++ vc)) (sm2 : (Value.slice a2 (0 + cn) c2).ownBlock = (Value.slice none 0 0).ownBlock ∨ (Value.slice a2 (0 + cn) c2).ownBlock = some n2) (hn2 : w1.heap.size ≤ n2)
    (hG : w.heap.size + 2 ≤ G) (hG1 : n1 < w1.heap.size → n1 ≠ G) (hG2 : n2 < w2.heap.size → n2 ≠ G) (h2 : w.heap.size + 2 ≤ w1.heap.size)
    (k1 : ∀ b, b < w1.heap.size → b ≠ G → wx.heap[b]? = w1.heap[b]?) (k2 : ∀ b, b < w2.heap.size → b ≠ G → wx.heap[b]? = w2.heap[b]?)
    (CG : CellsAt wx G [.slice a1 qn c1, .slice a2 cn c2, .slice none 0 0]) (KM : CellsAt w1 w.heap.size [.slice qa qn qc, .slice ca cn cc, .slice ba bn bc]) (KR : CellsAt w1 (w.heap.size + 1) Z3) (bx : Below w.heap.size w wx) :
    Own1 w U qa ca ba qn qc cn cc bn bc Qs Cs (.pointer (some ⟨G, 0, none⟩)) wx := by
  rw [Nat.zero_add, List.nil_append] at ow1 ow2
  rw [Nat.zero_add] at sm1 sm2
  have q1 : ∀ g, (Value.slice a1 qn c1).ownBlock = some g → g = n1 ∧ g < w1.heap.size := fun g e => by
    rcases sm1 with h | h
    · rw [h] at e; cases e
    · have := (ow1.lt g e).2; rw [h] at e; cases e; exact ⟨rfl, this⟩
  have q2 : ∀ g, (Value.slice a2 cn c2).ownBlock = some g → g = n2 ∧ g < w2.heap.size := fun g e => by
    rcases sm2 with h | h
    · rw [h] at e; cases e
    · have := (ow2.lt g e).2; rw [h] at e; cases e; exact ⟨rfl, this⟩
  refine ⟨G, a1, c1, a2, c2, rfl, hG, CG, KM.keep (k1 _ (by omega) (by omega)), KR.keep (k1 _ (by omega) (by omega)), bx, own_of (r := rQ) (by omega) ow1 (fun g e => ?_) lq oq Rq bx, own_of (r := rN) (by omega) ow2 (fun g e => ?_) lc oc Rc bx, fun g e => ?_, fun g e => ?_⟩
  · obtain ⟨rfl, h⟩ := q1 g e
    exact ⟨hn1, k1 _ h (hG1 h)⟩
  · obtain ⟨rfl, h⟩ := q2 g e
    exact ⟨by omega, k2 _ h (hG2 h)⟩
  · obtain ⟨rfl, h⟩ := q1 g e
    exact ⟨hG1 h, fun e' => by have := (q2 _ e').1; omega⟩
  · obtain ⟨rfl, h⟩ := q2 g e
    exact hG2 h

/-- The copy: its rows, and the boxes, are the call's own. -/
def OwnPost (w : World) (U : Nat → Prop) (qn cn bn : Nat) (Qs Cs : List (List D)) (Bs : List (List (List D))) (e : Ending) (w' : World) : Prop :=
  ∃ a1 c1 a2 c2 a3 c3 B0, e = .returned (.agg #[.slice a1 qn c1, .slice a2 cn c2, .slice a3 bn c3]) ∧ Below w.heap.size w w' ∧ w.heap.size ≤ B0 ∧
    Own rQ w.heap.size 77 (fun b => U b ∧ b < w.heap.size) w' a1 qn c1 Qs ∧ Own rN w.heap.size 3 (fun b => U b ∧ b < w.heap.size) w' a2 cn c2 Cs ∧
    Rows rE B0 74 46 (fun b => U b ∧ b < w.heap.size) w'.heap.size w' a3 bn c3 Bs ∧
    (∀ g, (Value.slice a1 qn c1).ownBlock = some g → g < B0 ∧ (Value.slice a2 cn c2).ownBlock ≠ some g) ∧ (∀ g, (Value.slice a2 cn c2).ownBlock = some g → g < B0)

theorem set3_other (w : World) (G : Nat) (x y z : Value) {b : Nat} (hb : b ≠ G) : (((w.setCell ⟨G, 0, none⟩ x).setCell ⟨G, 1, none⟩ y).setCell ⟨G, 2, none⟩ z).heap[b]? = w.heap[b]? :=
  (Below.heap_setCell _ _ _ _ hb).trans ((Below.heap_setCell _ _ _ _ hb).trans (Below.heap_setCell _ _ _ _ hb))

theorem own_round {w W wr w5 w7 : World} {U : Nat → Prop} {qn cn k n G B0 B : Nat} {a1 a2 a3 a5 a7 : Option Addr} {c1 c2 c3 c5 c7 : Nat} {Qs Cs es : List (List D)} {Bs : List (List (List D))} {vs ve Ms : List Value} {m0 : Value}
    (hU0 : w.heap.size ≤ B0) (hGB : G < B0) (hG : w.heap.size + 2 ≤ G) (q0 : B0 ≤ B) (q1 : B ≤ wr.heap.size)
    (CG : CellsAt wr G [.slice a1 qn c1, .slice a2 cn c2, .slice a3 k c3]) (KM : CellsAt wr w.heap.size (m0 :: Ms)) (KR : CellsAt wr (w.heap.size + 1) Z3)
    (o1 : Own rQ (w.heap.size + 2) 77 (fun b => U b ∧ b < w.heap.size) wr a1 qn c1 Qs) (o2 : Own rN (w.heap.size + 2) 3 (fun b => U b ∧ b < w.heap.size) wr a2 cn c2 Cs)
    (p1 : ∀ g, (Value.slice a1 qn c1).ownBlock = some g → g < B0 ∧ g ≠ G) (p2 : ∀ g, (Value.slice a2 cn c2).ownBlock = some g → g < B0 ∧ g ≠ G) (bx : Below w.heap.size w wr)
    (hv1 : wr.ownsRow B0 74 1 (.slice a3 k c3) k vs) (hv2 : (Bs.take k).length = k) (hv3 : ∀ g, (Value.slice a3 k c3).ownBlock = some g → g < B)
    (hv4 : ∀ (i : Nat) (es : List (List D)), (Bs.take k)[i]? = some es → ∃ a' n' c', vs[i]? = some (Value.slice a' n' c') ∧ Own rE B0 46 (fun b => U b ∧ b < w.heap.size) wr a' n' c' es ∧
      ∀ g, (Value.slice a' n' c').ownBlock = some g → g < B ∧ (Value.slice a3 k c3).ownBlock ≠ some g ∧ ∀ (j : Nat) (v : Value), vs[j]? = some v → v.ownBlock = some g → j = i)
    (le : es.length = n) (Re : ∀ i x, es[i]? = some x → rE.R U w ((ve.drop (i * rE.sz)).take rE.sz) x) (oe : ∀ v ∈ ve, v.oneCell' = true) (hes : Bs[k]? = some es)
    (ow5 : w5.ownsRow 0 46 5 (.slice a5 (0 + n) c5) (0 + n) ([] ++ ve)) (hW : W.heap.size = wr.heap.size) (sm5 : (Value.slice a5 (0 + n) c5).ownBlock = (Value.slice none 0 0).ownBlock ∨ (Value.slice a5 (0 + n) c5).ownBlock = some W.heap.size) (hb5 : Below wr.heap.size wr w5)
    (ow7 : w7.ownsRow B0 74 1 (.slice a7 (k + 1) c7) (k + 1) (vs ++ [.slice a5 n c5])) (gr7 : (w5.alloc (.cells #[.slice a5 n c5] 74)).grownBy w7 (Value.slice a3 k c3).ownBlock)
    (sm7 : (Value.slice a7 (k + 1) c7).ownBlock = (Value.slice a3 k c3).ownBlock ∨ (Value.slice a7 (k + 1) c7).ownBlock = some (w5.alloc (.cells #[.slice a5 n c5] 74)).heap.size)
    (KH : CellsAt w7 G [.slice a1 qn c1, .slice a2 cn c2, .slice a3 k c3]) {wf : World} (hwf : wf = w7.setCell ⟨G, 2, none⟩ (.slice a7 (k + 1) c7)) :
    ∃ B', B0 ≤ B' ∧ B' ≤ wf.heap.size ∧ CellsAt wf G [.slice a1 qn c1, .slice a2 cn c2, .slice a7 (k + 1) c7] ∧ CellsAt wf w.heap.size (m0 :: Ms) ∧ CellsAt wf (w.heap.size + 1) Z3 ∧ Below w.heap.size w wf ∧
      Own rQ (w.heap.size + 2) 77 (fun b => U b ∧ b < w.heap.size) wf a1 qn c1 Qs ∧ Own rN (w.heap.size + 2) 3 (fun b => U b ∧ b < w.heap.size) wf a2 cn c2 Cs ∧ Rows rE B0 74 46 (fun b => U b ∧ b < w.heap.size) B' wf a7 (k + 1) c7 (Bs.take (k + 1)) := by
  rw [Nat.zero_add, List.nil_append] at ow5
  rw [Nat.zero_add, hW] at sm5
  have q5 : ∀ g, (Value.slice a5 n c5).ownBlock = some g → g = wr.heap.size ∧ g < w5.heap.size := fun g e => by
    rcases sm5 with h | h
    · rw [h] at e; cases e
    · have := (ow5.lt g e).2; rw [h] at e; cases e; exact ⟨rfl, this⟩
  obtain ⟨W6, hW6⟩ : ∃ W6, W6 = w5.alloc (.cells #[.slice a5 n c5] 74) := ⟨_, rfl⟩
  rw [← hW6] at gr7 sm7
  have hs6 : W6.heap.size = w5.heap.size + 1 := by rw [hW6]; simp
  have b6 : Below wr.heap.size wr W6 := by rw [hW6]; exact hb5.alloc hb5.size _
  have hs5 := hb5.size
  have hs7 := gr7.size
  have hU : ∀ b, (U b ∧ b < w.heap.size) → b < B0 := fun b hb => by have := hb.2; omega
  have oE : Own rE B0 46 (fun b => U b ∧ b < w.heap.size) W6 a5 n c5 es := own_of (r := rE) hU0 ow5 (fun g e => by
    obtain ⟨h1, h2⟩ := q5 g e
    exact ⟨by omega, by rw [hW6]; exact Below.heap_alloc w5 _ g h2⟩) le oe Re (bx.trans (b6.mono bx.size))
  have R7 := Rows.push (r := rE) hU (B := B) (B' := w5.heap.size) (by omega) (by omega) (owns_keep hv1 b6) hv2 hv3 (fun i es he => by
    obtain ⟨a', n', c', k1, k2, k3⟩ := hv4 i es he
    exact ⟨a', n', c', k1, k2.keep b6, k3⟩) oE (fun g e => by obtain ⟨h1, h2⟩ := q5 g e; omega) ow7 gr7 sm7
  rw [← take_snoc hes] at R7
  have hfar : ∀ g, (Value.slice a3 k c3).ownBlock = some g → B0 ≤ g := fun g e => (hv1.lt g e).1
  have hk : ∀ b, b < B0 → b ≠ G → wf.heap[b]? = wr.heap[b]? := fun b hb hne => by
    rw [hwf]
    exact (Below.heap_setCell _ _ _ _ hne).trans ((gr7.block b (by omega) (fun e => by have := hfar b e.symm; omega)).trans (b6.block b (by omega)))
  have hsf : wf.heap.size = w7.heap.size := by rw [hwf]; simp [World.setCell]
  have Rf : Rows rE B0 74 46 (fun b => U b ∧ b < w.heap.size) (W6.heap.size + 1) wf a7 (k + 1) c7 (Bs.take (k + 1)) := by
    rw [hwf]
    exact R7.but (But1.setCell w7 G 2 _) (fun b hb e => by cases e; have := hb.2; omega) (fun g hg _ e => by cases e; omega)
  have b7 : Below w.heap.size w w7 := (bx.trans (b6.mono bx.size)).grown gr7 (by have := bx.size; omega) (fun g e => by have := hfar g e; omega)
  refine ⟨wf.heap.size, by omega, Nat.le_refl _, ?_, KM.keep (hk _ (by omega) (by omega)), KR.keep (hk _ (by omega) (by omega)), by rw [hwf]; exact b7.setCell (by show w.heap.size ≤ G; omega) _, o1.heq fun b hb h => ?_, o2.heq fun b hb h => ?_, Rf.tight⟩
  · rw [hwf]
    exact KH.set (k := 2) (by simp) _
  · rcases h with h | h
    · exact hk b (p1 b h).1 (p1 b h).2
    · exact hk b (hU b h) (by have := h.2; omega)
  · rcases h with h | h
    · exact hk b (p2 b h).1 (p2 b h).2
    · exact hk b (hU b h) (by have := h.2; omega)

theorem own_end {w wr wf : World} {U : Nat → Prop} {qn cn k G B0 B : Nat} {a1 a2 a3 : Option Addr} {c1 c2 c3 : Nat} {Qs Cs : List (List D)} {Bs : List (List (List D))} {x y z : Value}
    (hU0 : w.heap.size ≤ B0) (hGB : G < B0) (hG : w.heap.size + 2 ≤ G) (lb : Bs.length = k)
    (o1 : Own rQ (w.heap.size + 2) 77 (fun b => U b ∧ b < w.heap.size) wr a1 qn c1 Qs) (o2 : Own rN (w.heap.size + 2) 3 (fun b => U b ∧ b < w.heap.size) wr a2 cn c2 Cs)
    (p1 : ∀ g, (Value.slice a1 qn c1).ownBlock = some g → g < B0 ∧ g ≠ G ∧ (Value.slice a2 cn c2).ownBlock ≠ some g) (p2 : ∀ g, (Value.slice a2 cn c2).ownBlock = some g → g < B0 ∧ g ≠ G) (bx : Below w.heap.size w wr)
    (hR : Rows rE B0 74 46 (fun b => U b ∧ b < w.heap.size) B wr a3 k c3 (Bs.take k))
    (hwf : wf = ((wr.setCell ⟨w.heap.size + 1, 0, none⟩ x).setCell ⟨w.heap.size + 1, 1, none⟩ y).setCell ⟨w.heap.size + 1, 2, none⟩ z) :
    OwnPost w U qn cn k Qs Cs Bs (.returned (.agg #[.slice a1 qn c1, .slice a2 cn c2, .slice a3 k c3])) wf := by
  have hb : But1 (some (w.heap.size + 1)) wr wf := fun b _ hne => by
    rw [hwf]
    exact set3_other wr _ _ _ _ (fun e => hne (by rw [e]))
  rw [List.take_of_length_le (by omega)] at hR
  have hUne : ∀ b, (U b ∧ b < w.heap.size) → some (w.heap.size + 1) ≠ some b := fun b hb e => by cases e; have := hb.2; omega
  refine ⟨a1, c1, a2, c2, a3, c3, B0, rfl, ?_, hU0, ?_, ?_, (hR.but hb hUne (fun g h1 _ e => by cases e; omega)).tight, fun g e => ⟨(p1 g e).1, (p1 g e).2.2⟩, fun g e => (p2 g e).1⟩
  · rw [hwf]
    exact ((bx.setCell (by show w.heap.size ≤ w.heap.size + 1; omega) _).setCell (by show w.heap.size ≤ w.heap.size + 1; omega) _).setCell (by show w.heap.size ≤ w.heap.size + 1; omega) _
  · exact (o1.but hb (fun g e q => by cases q; have := (o1.lt e).2; omega) hUne).mono (by omega) (fun b h => h)
  · exact (o2.but hb (fun g e q => by cases q; have := (o2.lt e).2; omega) hUne).mono (by omega) (fun b h => h)

set_option maxRecDepth 100000 in
set_option maxHeartbeats 1600000 in
theorem own_any {w : World} {U : Nat → Prop} {qa ca ba : Option Addr} {qn qc cn cc bn bc : Nat} {Qs Cs : List (List D)} {Bs : List (List (List D))}
    (hq : Sl rQ U w qa qn qc Qs) (hc : Sl rN U w ca cn cc Cs) (hb : Sl rX U w ba bn bc (Bs.map fun es => [.view 5 es])) (sq : qn * 32 ≤ MM) (sc : cn * 8 ≤ MM) (sb : bn * 24 ≤ MM) (se : ∀ es ∈ Bs, es.length * 56 ≤ MM) :
    Calls Try.prog 89 #[.agg #[.slice qa qn qc, .slice ca cn cc, .slice ba bn bc]] w (OwnPost w U qn cn bn Qs Cs Bs) := by
  obtain ⟨iq, hiq, hq0, hq1, hq2⟩ := info_parts dinfo_que
  obtain ⟨ic, hic, hc0, hc1, hc2⟩ := info_parts dinfo_int
  obtain ⟨vq, Cq, oq, Rq⟩ := hq.cells
  obtain ⟨vc, Cc, oc, Rc⟩ := hc.cells
  have lq := hq.len
  have lc := hc.len
  have HCq : Hid (∀ W, Below w.heap.size w W → Cells W qa qn qc 2 vq) := fun W hW => Cq.keep hW
  have HCc : Hid (∀ W, Below w.heap.size w W → Cells W ca cn cc 1 vc) := fun W hW => Cc.keep hW
  have hMM : MM = 140737488351232 := rfl
  have h63q : 0 + qn ≤ maxLen := by unfold maxLen; omega
  have h63c : 0 + cn ≤ maxLen := by unfold maxLen; omega
  have h47q : (0 + qn) * 32 ≤ 140737488355328 := by omega
  have h47c : (0 + cn) * 8 ≤ 140737488355328 := by omega
  go_enter Try.func89, Try.ntmps89
  go_upto_region 1 with fail
  go_cut [3] (fun s3 wx => Own1 w U qa ca ba qn qc cn cc bn bc Qs Cs s3 wx)
  case first =>
    go_region_law (first
      | (refine step_append_row3 rfl (.const (.slice none 0 0)) (.tmp 7) 56 rfl 0 77 iq _ 2 32 Try.underlying56 hiq hq0 hq1 hq2 rfl (by decide) none 0 0 [] ?_ (World.ownsRow_nil _ _ _ _) qa qn qc vq ?_ ?hcq oq h63q h47q (Nat.zero_le _) ?_
         case hcq => exact HCq.out _ (by repeat (first | assumption | exact Below.refl _ _ | refine Below.drew ?_ | refine Below.alloc ?_ (by first | (simp; done) | (simp; omega) | omega) _ | refine Below.setCell ?_ (by first | (simp; done) | (simp; omega) | omega) _))
         go_simp; go_simp; intro a1 c1 w1 ow1 gr1 sm1
         have hb1 := below_grown (w := w) (by repeat (first | assumption | exact Below.refl _ _ | refine Below.drew ?_ | refine Below.alloc ?_ (by first | (simp; done) | (simp; omega) | omega) _ | refine Below.setCell ?_ (by first | (simp; done) | (simp; omega) | omega) _)) gr1
         have m1 := ((grown_below gr1).cell (p := ⟨w.heap.size, 1, none⟩) (by simp; omega)).trans (by first | exact cell_underAt (cell_underAt (cell_lastAt _ _ _ rfl rfl)) | exact cell_underAt (cell_lastAt _ _ _ rfl rfl) : World.cell? _ ⟨w.heap.size, 1, none⟩ = some (.slice ca cn cc))
         have m2 := fun o : Obj => cell_underAt (o := o) m1
         have zz1 := hb1.size
         have z22 : w.heap.size + 2 ≤ w1.heap.size := Nat.le_trans (by simp) gr1.size
         first
           | (have KZ : CellsAt w1 (w.heap.size + 1 + 1) Z3 := (CellsAt.new ((w.alloc (.cells #[.slice qa qn qc, .slice ca cn cc, .slice ba bn bc] 60)).alloc (.cells #[.slice none 0 0, .slice none 0 0, .slice none 0 0] 60)) Z3 60 (g := w.heap.size + 1 + 1) (by simp)).grown gr1 rfl
              have KM : Hid (CellsAt w1 w.heap.size [.slice qa qn qc, .slice ca cn cc, .slice ba bn bc]) := ((((CellsAt.new w [.slice qa qn qc, .slice ca cn cc, .slice ba bn bc] 60 rfl).under _).under _).grown gr1 rfl)
              have KR : Hid (CellsAt w1 (w.heap.size + 1) Z3) := ((CellsAt.new (w.alloc (.cells #[.slice qa qn qc, .slice ca cn cc, .slice ba bn bc] 60)) Z3 60 (g := w.heap.size + 1) (by simp)).under _).grown gr1 rfl)
           | (have KM : Hid (CellsAt w1 w.heap.size [.slice qa qn qc, .slice ca cn cc, .slice ba bn bc]) := (((CellsAt.new w [.slice qa qn qc, .slice ca cn cc, .slice ba bn bc] 60 rfl).under _).grown gr1 rfl)
              have KR : Hid (CellsAt w1 (w.heap.size + 1) Z3) := (CellsAt.new (w.alloc (.cells #[.slice qa qn qc, .slice ca cn cc, .slice ba bn bc] 60)) Z3 60 (g := w.heap.size + 1) (by simp)).grown gr1 rfl))
      | (refine step_append_row3 rfl (.const (.slice none 0 0)) (.tmp 10) 57 rfl 0 3 ic _ 1 8 Try.underlying57 hic hc0 hc1 hc2 rfl (by decide) none 0 0 [] ?_ (World.ownsRow_nil _ _ _ _) ca cn cc vc ?_ ?hcc oc h63c h47c (Nat.zero_le _) ?_
         case hcc => exact HCc.out _ (by repeat (first | assumption | exact Below.refl _ _ | refine Below.drew ?_ | refine Below.alloc ?_ (by first | (simp; done) | (simp; omega) | omega) _ | refine Below.setCell ?_ (by first | (simp; done) | (simp; omega) | omega) _))
         go_simp; go_simp; intro a2 c2 w2 ow2 gr2 sm2
         first
           | (have KY := KZ.grown gr2 rfl
              obtain ⟨⟨z0, y0⟩, ⟨z1, y1⟩, ⟨z2, y2⟩⟩ := (⟨KY 0 _ rfl, KY 1 _ rfl, KY 2 _ rfl⟩ : _ ∧ _ ∧ _)
              have KH := Lib.hid KY
              clear KY)
           | (have KY := (CellsAt.new w1 [.slice none 0 0, .slice none 0 0, .slice none 0 0] 60 (g := w1.heap.size) rfl).grown gr2 rfl
              obtain ⟨⟨z0, y0⟩, ⟨z1, y1⟩, ⟨z2, y2⟩⟩ := (⟨KY 0 _ rfl, KY 1 _ rfl, KY 2 _ rfl⟩ : _ ∧ _ ∧ _)
              have KH := Lib.hid KY
              clear KY)
           | skip))
    all_goals
      have hbx1 : Below w.heap.size w w2 := by first | exact below_grown hb1 gr2 | exact below_grown (hb1.alloc hb1.size _) gr2
      go_wp2_with fail
      go_meet
      first
        | exact own1_mk (G := w2.heap.size) lq oq Rq lc oc Rc ow1 sm1 (by simp) ow2 sm2 (Nat.le_refl _) (by have := gr2.size; omega) (fun h => by have := gr2.size; simp at h ⊢; omega) (fun h => by omega) z22 (fun b hb _ => (Below.heap_alloc w2 _ b (Nat.lt_of_lt_of_le hb gr2.size)).trans (gr2.block b hb (fun e => by cases e))) (fun b hb _ => Below.heap_alloc w2 _ b hb) (CellsAt.new w2 _ _ rfl) KM.out KR.out (hbx1.alloc hbx1.size _)
        | exact own1_mk (G := w1.heap.size) lq oq Rq lc oc Rc ow1 sm1 (by simp) ow2 sm2 (by simp) (by omega) (fun h => by simp at h ⊢; omega) (fun h => by simp) z22 (fun b hb hne => (set3_other w2 _ _ _ _ hne).trans ((gr2.block b (by simp; omega) (fun e => by cases e)).trans (Below.heap_alloc w1 _ b hb))) (fun b hb hne => set3_other w2 _ _ _ _ hne) (((KH.out.set (k := 0) (by simp) _).set (k := 1) (by simp) _).set (k := 2) (by simp) _) KM.out KR.out (((hbx1.setCell (by simp; omega) _).setCell (by simp; omega) _).setCell (by simp; omega) _)
        | exact own1_mk (G := w.heap.size + 1 + 1) lq oq Rq lc oc Rc ow1 sm1 (by simp) ow2 sm2 (Nat.le_refl _) (by omega) (fun h => by simp) (fun h => by have := gr1.size; simp at this; omega) z22 (fun b hb hne => (set3_other w2 _ _ _ _ hne).trans (gr2.block b hb (fun e => by cases e))) (fun b hb hne => set3_other w2 _ _ _ _ hne) (((KH.out.set (k := 0) (by simp) _).set (k := 1) (by simp) _).set (k := 2) (by simp) _) KM.out KR.out (((hbx1.setCell (by simp; omega) _).setCell (by simp; omega) _).setCell (by simp; omega) _)
  case rest =>
    obtain ⟨G, a1, c1, a2, c2, rfl, hG, CG, KM, KR, bx, o1, o2, ap1, ap2⟩ := hcut
    obtain ⟨ib, hib, hb0, hb1, hb2⟩ := info_parts dinfo_box
    obtain ⟨il, hil, hl0, hl1, hl2⟩ := info_parts dinfo_let
    have lb : Bs.length = bn := by have := hb.len; rwa [List.length_map] at this
    have hcapb := hb.le_i64
    obtain ⟨⟨m0, _⟩, ⟨m1, _⟩, ⟨m2, _⟩⟩ := (⟨KM 0 _ rfl, KM 1 _ rfl, KM 2 _ rfl⟩ : _ ∧ _ ∧ _)
    obtain ⟨B0, hB0⟩ : ∃ B0, B0 = wc.heap.size := ⟨_, rfl⟩
    have hGB : G < B0 := by rw [hB0]; exact CG.lt
    have hRows : Rows rE B0 74 46 (fun b => U b ∧ b < w.heap.size) B0 wc none 0 0 (Bs.take 0) := Rows.nil _ _ _ _ _ _ _
    have g1 : ∀ g, (Value.slice a1 qn c1).ownBlock = some g → g < B0 := fun g e => by rw [hB0]; exact (o1.lt e).1
    have g2 : ∀ g, (Value.slice a2 cn c2).ownBlock = some g → g < B0 := fun g e => by rw [hB0]; exact (o2.lt e).1
    have HS : Hid (B0 ≤ wc.heap.size ∧ CellsAt wc G [.slice a1 qn c1, .slice a2 cn c2, .slice none 0 0] ∧ CellsAt wc w.heap.size [.slice qa qn qc, .slice ca cn cc, .slice ba bn bc] ∧ CellsAt wc (w.heap.size + 1) Z3 ∧ Below w.heap.size w wc ∧
      Own rQ (w.heap.size + 2) 77 (fun b => U b ∧ b < w.heap.size) wc a1 qn c1 Qs ∧ Own rN (w.heap.size + 2) 3 (fun b => U b ∧ b < w.heap.size) wc a2 cn c2 Cs ∧ Rows rE B0 74 46 (fun b => U b ∧ b < w.heap.size) B0 wc none 0 0 (Bs.take 0)) :=
      ⟨Nat.le_of_eq hB0, CG, KM, KR, bx, o1, o2, hRows⟩
    have HAP : Hid ((∀ g, (Value.slice a1 qn c1).ownBlock = some g → g < B0 ∧ g ≠ G ∧ (Value.slice a2 cn c2).ownBlock ≠ some g) ∧ (∀ g, (Value.slice a2 cn c2).ownBlock = some g → g < B0 ∧ g ≠ G)) :=
      ⟨fun g e => ⟨g1 g e, ap1 g e⟩, fun g e => ⟨g2 g e, ap2 g e⟩⟩
    have hU0 : Hid (w.heap.size ≤ B0) := by show _ ≤ _; omega
    have HB : Hid (Sl rX U w ba bn bc (Bs.map fun es => [.view 5 es])) := hb
    have HSE : Hid (∀ es ∈ Bs, es.length * 56 ≤ MM) := se
    clear CG KM KR bx o1 o2 hRows g1 g2 ap1 ap2 hB0 hq hc hb se Cq oq Rq Cc oc Rc HCq HCc
    go_wp2_with fail
    go_loopw [16] (fun i wr => ∃ k a3 c3 B, k ≤ bn ∧ i = .int .i64 (k : Nat) ∧ Hid (B0 ≤ B ∧ B ≤ wr.heap.size ∧ CellsAt wr G [.slice a1 qn c1, .slice a2 cn c2, .slice a3 k c3] ∧ CellsAt wr w.heap.size [.slice qa qn qc, .slice ca cn cc, .slice ba bn bc] ∧ CellsAt wr (w.heap.size + 1) Z3 ∧ Below w.heap.size w wr ∧
      Own rQ (w.heap.size + 2) 77 (fun b => U b ∧ b < w.heap.size) wr a1 qn c1 Qs ∧ Own rN (w.heap.size + 2) 3 (fun b => U b ∧ b < w.heap.size) wr a2 cn c2 Cs ∧ Rows rE B0 74 46 (fun b => U b ∧ b < w.heap.size) B wr a3 k c3 (Bs.take k))) (fun i _ => bn - (intOf i).toNat)
    case atStart => exact ⟨0, none, 0, B0, Nat.zero_le _, rfl, ⟨Nat.le_refl _, HS.out⟩⟩
    case round =>
      obtain ⟨k, a3, c3, B, hk, rfl, hH⟩ := hrel
      obtain ⟨q0, q1, CG, KM, KR, bx, o1, o2, hR⟩ := hH.out
      obtain ⟨⟨n0, f0⟩, ⟨n1, f1⟩, ⟨n2, f2⟩⟩ := (⟨CG 0 _ rfl, CG 1 _ rfl, CG 2 _ rfl⟩ : _ ∧ _ ∧ _)
      obtain ⟨⟨d0, e0⟩, ⟨d1, e1⟩, ⟨d2, e2⟩⟩ := (⟨KR 0 _ rfl, KR 1 _ rfl, KR 2 _ rfl⟩ : _ ∧ _ ∧ _)
      by_cases hlt : k < bn
      · obtain ⟨es, hes⟩ : ∃ es, Bs[k]? = some es := ⟨_, List.getElem?_eq_getElem (by rw [lb]; exact hlt)⟩
        obtain ⟨b, off, hba, cs, ⟨_, hcl, hcv⟩, hcc⟩ := HB.out.part k [.view 5 es] (by rw [List.getElem?_map, hes]; rfl)
        subst hba
        obtain ⟨v, rfl⟩ : ∃ v, cs = [v] := by
          match cs, hcl with
          | [v], _ => exact ⟨v, rfl⟩
        obtain ⟨a, n, c, rfl, hsl⟩ := sl_of_view (bytes := 56) (p1 := by decide) (p2 := by decide) (hcv 0 _ _ rfl rfl)
        have x0 : wr.cell? ⟨b, off + k, none⟩ = some (.slice a n c) := by
          have h0 := hcc 0 _ rfl
          rw [show k * rX.sz + 0 = k from Nat.mul_one k] at h0
          exact (bx.cell (World.block_lt_of_cell? _ _ h0)).trans h0
        obtain ⟨ve, Ce, oe, Re⟩ := hsl.cells
        have HCe : Hid (∀ W, Below w.heap.size w W → Cells W a n c 5 ve) := fun W hW => Ce.keep hW
        have HRe := Lib.hid (And.intro hsl.len Re)
        have hnb : n * 56 ≤ MM := by rw [← hsl.len]; exact HSE.out es (List.mem_of_getElem? hes)
        obtain ⟨vs, hv1, hv2, hv3, hv4⟩ := hR
        have HV := Lib.hid (And.intro hv2 (And.intro hv3 hv4))
        have h63e : 0 + n ≤ maxLen := by unfold maxLen; omega
        have h47e : (0 + n) * 56 ≤ 140737488355328 := by omega
        have h63b : k + 1 ≤ maxLen := by unfold maxLen; omega
        have h47b : (k + 1) * 24 ≤ 140737488355328 := by omega
        have hfar : ∀ g, (Value.slice a3 k c3).ownBlock = some g → B0 ≤ g := fun g e => (hv1.lt g e).1
        have Hfar := Lib.hid hfar
        have Hes := Lib.hid hes
        have HO := Lib.hid (And.intro CG (And.intro KM (And.intro KR (And.intro o1 o2))))
        clear hsl Ce Re hcv hcc hes hv2 hv3 hv4 hfar d0 d1 d2 e0 e1 e2 m0 m1 m2 n0 n1 f0 f1 f2 CG KM KR o1 o2
        go_wp2_with fail
        go_region_law (first
          | (refine step_append_row3 rfl (.const (.slice none 0 0)) (.tmp 22) 74 rfl 0 46 il _ 5 56 Try.underlying74 hil hl0 hl1 hl2 rfl (by decide) none 0 0 [] ?_ (World.ownsRow_nil _ _ _ _) a n c ve ?_ ?hce oe h63e h47e (Nat.zero_le _) ?_
             case hce => exact HCe.out _ (by repeat (first | assumption | exact Below.refl _ _ | refine Below.drew ?_ | refine Below.alloc ?_ (by first | (simp; done) | (simp; omega) | omega) _))
             go_simp; go_simp; intro a5 c5 w5 ow5 gr5 sm5
             have hb5 : Below wr.heap.size wr w5 := below_grown (by repeat (first | assumption | exact Below.refl _ _ | refine Below.drew ?_ | refine Below.alloc ?_ (by first | (simp; done) | (simp; omega) | omega) _)) gr5
             have n5 := (hb5.cell (p := ⟨G, 2, none⟩) HO.out.1.lt).trans n2
             have n6 := fun o : Obj => cell_underAt (o := o) n5)
          | (refine step_append_row3 rfl (.tmp 21) (.tmp 24) 58 rfl B0 74 ib _ 1 24 Try.underlying58 hib hb0 hb1 hb2 rfl (by decide) a3 k c3 vs ?_ ?hown (some ⟨w5.heap.size, 0, none⟩) 1 1 [.slice a5 n c5] ?_ ?hcel (by simp [Value.oneCell']) h63b h47b ?hbs ?_
             case hown => exact owns_keep hv1 (hb5.alloc hb5.size _)
             case hcel => exact cells_lit w5 #[.slice a5 n c5] 74 1 1 (by unfold maxLen; omega) rfl
             case hbs => exact Nat.le_trans (Nat.le_trans q0 q1) (Nat.le_trans hb5.size (by simp))
             go_simp; go_simp; intro a7 c7 w7 ow7 gr7 sm7
             have KY := (HO.out.1.below (hb5.alloc hb5.size (.cells #[.slice a5 n c5] 74))).keep (gr7.block G (Nat.lt_of_lt_of_le HO.out.1.lt (Nat.le_trans hb5.size (by simp))) (fun e => absurd (Hfar.out G e.symm) (Nat.not_le.2 hGB)))
             obtain ⟨z2, y2⟩ := KY 2 _ rfl
             have KH := Lib.hid KY
             clear KY))
        all_goals
          have HN := Lib.hid (own_round hU0.out hGB hG q0 q1 HO.out.1 HO.out.2.1 HO.out.2.2.1 HO.out.2.2.2.1 HO.out.2.2.2.2 (fun g e => ⟨(HAP.out.1 g e).1, (HAP.out.1 g e).2.1⟩) HAP.out.2 bx hv1 HV.out.1 HV.out.2.1 HV.out.2.2 HRe.out.1 HRe.out.2 oe Hes.out ow5 (by simp) sm5 hb5 ow7 gr7 sm7 KH.out rfl)
          clear ow5 gr5 sm5 hb5 ow7 gr7 sm7 KH HV HRe oe hv1 HO bx HCe n5 n6 n2
          go_wp2
          obtain ⟨B', hN⟩ := HN.out
          exact ⟨⟨k + 1, a7, c7, B', by omega, by go_num, hN⟩, by simp [intOf]; omega⟩
      · have hkn : k = bn := by omega
        subst hkn
        have HN := Lib.hid (own_end (wf := ((wr.setCell ⟨w.heap.size + 1, 0, none⟩ (.slice a1 qn c1)).setCell ⟨w.heap.size + 1, 1, none⟩ (.slice a2 cn c2)).setCell ⟨w.heap.size + 1, 2, none⟩ (.slice a3 k c3)) hU0.out hGB hG lb o1 o2 HAP.out.1 HAP.out.2 bx hR rfl)
        clear o1 o2 HAP bx hR CG KM KR HS HB HSE hH
        go_wp2
        refine bodyPost_ret (v := .agg #[.slice a1 qn c1, .slice a2 cn c2, .slice a3 k c3]) (by simp [results, Try.results89, go_sem, *]) rfl ?_
        exact HN.out
end Go.Proofs.Ytmkfpfnjimmmaaa
