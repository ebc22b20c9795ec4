/- The contract of the reference's Come: a letter is put behind those of a box, in place or not. -/
import Derived.Test.YtmkfpfnjimmmaaaDB
import Derived.BigQuiet
import Derived.Deep.QuietTactic
import Derived.StillTailTactics
import Derived.Deep.RegionHeld3
namespace Go.Proofs.Ytmkfpfnjimmmaaa
open Go.RowKit
open DoorU
set_option linter.unusedVariables false
set_option linter.unusedSimpArgs false

theorem below_drewN {B : Nat} {w W : World} (h : Below B w W) (n : Nat) : Below B w (W.drewN n) := ⟨h.os, h.tape, h.output, h.size, h.block⟩
theorem ret_boolC {a b : Bool} (h : a = b) : Ending.returned (.bool a) = .returned (.bool b) := by rw [h]
theorem denS_get {T : Ty} {l : List (Val T)} {i : Nat} {x : Val T} (h : l[i]? = some x) : (denS l)[i]? = some (flatD T x) := by unfold denS; rw [List.getElem?_map, h]; rfl

set_option maxRecDepth 100000 in
set_option maxHeartbeats 800000 in
theorem rclient_any {a a2 a3 : Option Addr} {n cap n2 cap2 n3 cap3 : Nat} {w : World} (k : Int) (m1 : n ≤ 9223372036854775807) (m2 : n2 ≤ 9223372036854775807) (m3 : n3 ≤ 9223372036854775807) {r : Bool} (hr : r = (decide (0 ≤ k) && decide (k < n) && decide (k < n2) && decide (k < n3))) :
    Calls Try.prog 88 #[.agg #[.slice a n cap, .slice a2 n2 cap2, .slice a3 n3 cap3], .int .i64 k] w fun e w' => e = .returned (.bool r) ∧ Below w.heap.size w w' := by
  have hb := (Below.refl w.heap.size w).alloc (Nat.le_refl _) (.cells #[.slice a n cap, .slice a2 n2 cap2, .slice a3 n3 cap3] 60)
  have HE := Lib.hid hr
  clear hr
  by_cases h0 : 0 ≤ k
  · by_cases h1 : k < (n : Int)
    · by_cases h2 : k < (n2 : Int)
      · by_cases h3 : k < (n3 : Int)
        · go_enter Try.func88, Try.ntmps88
          go_wp2
          go_ret
          exact ⟨ret_boolC (by rw [HE.out, decide_eq_true h0, decide_eq_true h1, decide_eq_true h2, decide_eq_true h3]; rfl), hb⟩
        · go_enter Try.func88, Try.ntmps88
          go_wp2
          go_ret
          exact ⟨ret_boolC (by rw [HE.out, decide_eq_true h0, decide_eq_true h1, decide_eq_true h2, decide_eq_false (by omega)]; rfl), hb⟩
      · go_enter Try.func88, Try.ntmps88
        go_wp2
        go_ret
        exact ⟨ret_boolC (by rw [HE.out, decide_eq_true h0, decide_eq_true h1, decide_eq_false (by omega)]; rfl), hb⟩
    · go_enter Try.func88, Try.ntmps88
      go_wp2
      go_ret
      exact ⟨ret_boolC (by rw [HE.out, decide_eq_true h0, decide_eq_false (by omega)]; rfl), hb⟩
  · go_enter Try.func88, Try.ntmps88
    go_wp2
    go_ret
    exact ⟨ret_boolC (by rw [HE.out, decide_eq_false (by omega)]; rfl), hb⟩

/-- What a model's slices read as. -/
def VM (w : World) (U : Nat → Prop) (m : Mod) (s1 s2 s3 : Value) : Prop :=
  VD w NoF U w.heap.size (.view 2 (denS (T := tQ) m.1)) s1 ∧ VD w NoF U w.heap.size (.view 1 (denS (T := tI) m.2.1)) s2 ∧ VD w NoF U w.heap.size (.view 1 (denS (T := .sl tL) m.2.2.1)) s3

def CPost (w : World) (U : Nat → Prop) (r : Mod × Bool) (e : Ending) (w' : World) : Prop :=
  ∃ s1 s2 s3, e = .returned (.tuple #[.agg #[s1, s2, s3], .bool r.2]) ∧ Below w.heap.size w w' ∧ VM w' (fun b => U b ∨ w.heap.size ≤ b) r.1 s1 s2 s3

theorem VM.below {w w' : World} {U : Nat → Prop} {m : Mod} {s1 s2 s3 : Value} (h : VM w U m s1 s2 s3) (hb : Below w.heap.size w w') : VM w' U m s1 s2 s3 :=
  ⟨h.1.same (Same.of_below hb), h.2.1.same (Same.of_below hb), h.2.2.same (Same.of_below hb)⟩
theorem VM.mono {w : World} {U V : Nat → Prop} {m : Mod} {s1 s2 s3 : Value} (h : VM w U m s1 s2 s3) (hu : ∀ b, U b → V b) : VM w V m s1 s2 s3 :=
  ⟨h.1.chg (fun _ _ h => h) fun b _ h => h.imp (hu b) id, h.2.1.chg (fun _ _ h => h) fun b _ h => h.imp (hu b) id, h.2.2.chg (fun _ _ h => h) fun b _ h => h.imp (hu b) id⟩

/-- A queue's cells. -/
theorem que_at {w : World} {U : Nat → Prop} {a : Option Addr} {n c i : Nat} {Q : List Que} {q : Que} (h : Sl rQ U w a n c (denS (T := tQ) Q)) (hi : Q[i]? = some q) :
    ∃ b off ia n' c', a = some ⟨b, off, none⟩ ∧ i < n ∧ w.cell? ⟨b, off + i * 2, none⟩ = some (.int .u64 q.1) ∧ w.cell? ⟨b, off + i * 2 + 1, none⟩ = some (.slice ia n' c') ∧ Sl rE U w ia n' c' (denS (T := tL) q.2.1) := by
  have hx : (denS (T := tQ) Q)[i]? = some (flatD tQ q) := denS_get (T := tQ) hi
  obtain ⟨b, off, ha, cs, ⟨_, hl, hv⟩, hc⟩ := h.part i _ hx
  match cs, hl, hv, hc with
  | [v0, v1], _, hv, hc =>
    have h0 := hv 0 _ _ rfl rfl
    have h1 : VD w NoF U w.heap.size (.view 5 (denS (T := tL) q.2.1)) v1 := hv 1 _ _ rfl rfl
    obtain ⟨ia, n', c', rfl, hs⟩ := sl_of_view (bytes := 56) (p1 := by decide) (p2 := by decide) h1
    have h0' : v0 = .int .u64 q.1 := by
      have h0 : VD w NoF U w.heap.size (.int .u64 q.1) v0 := h0
      cases h0; rfl
    subst h0'
    refine ⟨b, off, ia, n', c', ha, ?_, hc 0 _ rfl, hc 1 _ rfl, hs⟩
    have := (List.getElem?_eq_some_iff.1 hx).1
    rw [h.len] at this
    exact this

theorem num_at {w : World} {U : Nat → Prop} {a : Option Addr} {n c i : Nat} {C : List Int} {p : Int} (h : Sl rN U w a n c (denS (T := tI) C)) (hi : C[i]? = some p) :
    ∃ b off, a = some ⟨b, off, none⟩ ∧ i < n ∧ w.cell? ⟨b, off + i, none⟩ = some (.int .i64 p) := by
  have hx : (denS (T := tI) C)[i]? = some (flatD tI p) := denS_get (T := tI) hi
  obtain ⟨b, off, ha, cs, ⟨_, hl, hv⟩, hc⟩ := h.part i _ hx
  match cs, hl, hv, hc with
  | [v0], _, hv, hc =>
    have h0 : VD w NoF U w.heap.size (.int .i64 p) v0 := hv 0 _ _ rfl rfl
    have h0' : v0 = .int .i64 p := by cases h0; rfl
    subst h0'
    have := (List.getElem?_eq_some_iff.1 hx).1
    rw [h.len] at this
    have hc0 := hc 0 _ rfl
    rw [show i * rN.sz + 0 = i from Nat.mul_one i] at hc0
    exact ⟨b, off, ha, this, hc0⟩

/-- A letter's cells. -/
theorem let_at {w : World} {U : Nat → Prop} {a : Option Addr} {n c i : Nat} {L : List Let} {l : Let} (h : Sl rE U w a n c (denS (T := tL) L)) (hi : L[i]? = some l) :
    ∃ b off ta tn tc, a = some ⟨b, off, none⟩ ∧ i < n ∧ w.cell? ⟨b, off + i * 5, none⟩ = some (.bool l.1) ∧ w.cell? ⟨b, off + i * 5 + 1, none⟩ = some (.int .i64 l.2.1) ∧ w.cell? ⟨b, off + i * 5 + 2, none⟩ = some (.int .i64 l.2.2.1) ∧
      w.cell? ⟨b, off + i * 5 + 3, none⟩ = some (.int .u64 l.2.2.2.1) ∧ w.cell? ⟨b, off + i * 5 + 4, none⟩ = some (.slice ta tn tc) ∧ rE.R U w [.bool l.1, .int .i64 l.2.1, .int .i64 l.2.2.1, .int .u64 l.2.2.2.1, .slice ta tn tc] (flatD tL l) := by
  have hx : (denS (T := tL) L)[i]? = some (flatD tL l) := denS_get (T := tL) hi
  obtain ⟨b, off, ha, cs, hR, hc⟩ := h.part i _ hx
  obtain ⟨hl0, hl, hv⟩ := hR
  match cs, hl, hv, hc with
  | [v0, v1, v2, v3, v4], hl, hv, hc =>
    have h0 : VD w NoF U w.heap.size (.bool l.1) v0 := hv 0 _ _ rfl rfl
    have h1 : VD w NoF U w.heap.size (.int .i64 l.2.1) v1 := hv 1 _ _ rfl rfl
    have h2 : VD w NoF U w.heap.size (.int .i64 l.2.2.1) v2 := hv 2 _ _ rfl rfl
    have h3 : VD w NoF U w.heap.size (.int .u64 l.2.2.2.1) v3 := hv 3 _ _ rfl rfl
    have h4 : VD w NoF U w.heap.size (.view 1 (denS (T := tY) l.2.2.2.2.1)) v4 := hv 4 _ _ rfl rfl
    obtain ⟨ta, tn, tc, rfl, hs⟩ := sl_of_view (bytes := 1) (p1 := by decide) (p2 := by decide) h4
    have e0 : v0 = .bool l.1 := by cases h0; rfl
    have e1 : v1 = .int .i64 l.2.1 := by cases h1; rfl
    have e2 : v2 = .int .i64 l.2.2.1 := by cases h2; rfl
    have e3 : v3 = .int .u64 l.2.2.2.1 := by cases h3; rfl
    subst e0 e1 e2 e3
    have := (List.getElem?_eq_some_iff.1 hx).1
    rw [h.len] at this
    exact ⟨b, off, ta, tn, tc, ha, this, hc 0 _ rfl, hc 1 _ rfl, hc 2 _ rfl, hc 3 _ rfl, hc 4 _ rfl, hl0, hl, hv⟩

theorem mCl_len {m : Mod} {k : Int} {n n2 n3 : Nat} (h1 : m.1.length = n) (h2 : m.2.1.length = n2) (h3 : m.2.2.1.length = n3) : mCl m k = (decide (0 ≤ k) && decide (k < n) && decide (k < n2) && decide (k < n3)) := by
  subst h1 h2 h3; rfl
theorem mCl_at {m : Mod} {k : Int} (h : mCl m k = true) : ∃ i q p b, k = ((i : Nat) : Int) ∧ m.1[i]? = some q ∧ m.2.1[i]? = some p ∧ m.2.2.1[i]? = some b := by
  simp only [mCl, Bool.and_eq_true, decide_eq_true_eq] at h
  obtain ⟨⟨⟨h0, h1⟩, h2⟩, h3⟩ := h
  exact ⟨k.toNat, m.1[k.toNat]'(by omega), m.2.1[k.toNat]'(by omega), m.2.2.1[k.toNat]'(by omega), by omega, List.getElem?_eq_getElem _, List.getElem?_eq_getElem _, List.getElem?_eq_getElem _⟩

theorem denS_set {T : Ty} (l : List (Val T)) (i : Nat) (x : Val T) : denS (l.set i x) = (denS l).set i (flatD T x) := by unfold denS; rw [List.map_set]
theorem denS_snoc {T : Ty} (l : List (Val T)) (x : Val T) : denS (l ++ [x]) = denS l ++ [flatD T x] := by unfold denS; rw [List.map_append]; rfl
def dL (b : List Let) : List (List D) := denS (T := tL) b
def dB (B : List (List Let)) : List (List (List D)) := B.map dL
theorem dL_len (b : List Let) : (dL b).length = b.length := denS_len (T := tL) b
theorem dL_snoc (b : List Let) (l : Let) : dL (b ++ [l]) = dL b ++ [flatD tL l] := denS_snoc (T := tL) b l
theorem dB_set (B : List (List Let)) (d : Nat) (b : List Let) : dB (B.set d b) = (dB B).set d (dL b) := by unfold dB; rw [List.map_set]
theorem dB_get {B : List (List Let)} {d : Nat} {b : List Let} (h : B[d]? = some b) : (dB B)[d]? = some (dL b) := by unfold dB; rw [List.getElem?_map, h]; rfl
theorem denS_boxes (B : List (List Let)) : denS (T := .sl tL) B = (dB B).map fun es => [.view 5 es] :=
  (List.map_map (l := B) (f := dL) (g := fun es => [D.view 5 es])).symm

theorem come_fin {w wc w3 W6 w7 : World} {U : Nat → Prop} {m : Mod} {qn cn bn i j d n' g2 g3 B0 : Nat} {a1 a' a5 : Option Addr} {c1 c2 c3 c' c5 : Nat} {vs ls : List Value} {b : List Let} {l : Let} {v0 : Value}
    (bwc : Below w.heap.size w wc) (hN : w.heap.size + 2 ≤ wc.heap.size) (hZ : CellsAt wc (w.heap.size + 1) Z3) (bb3 : Below wc.heap.size wc w3) (hB0 : wc.heap.size ≤ B0)
    (o1 : Own rQ wc.heap.size 77 (fun b => (U b ∧ b < w.heap.size) ∧ b < wc.heap.size) w3 a1 qn c1 (denS (T := tQ) m.1))
    (o2 : Own rN wc.heap.size 3 (fun b => (U b ∧ b < w.heap.size) ∧ b < wc.heap.size) w3 (some ⟨g2, 0, none⟩) cn c2 (denS (T := tI) m.2.1))
    (p1 : ∀ g, (Value.slice a1 qn c1).ownBlock = some g → g < B0 ∧ g ≠ g2) (p2 : g2 < B0) (hpi : m.2.1[i]? = some (j : Int)) (hbd : m.2.2.1[d]? = some b)
    (hg3 : B0 ≤ g3) (hg3' : g3 < w3.heap.size) (pk : ∀ k, (Value.slice a' n' c').ownBlock = some k → B0 ≤ k ∧ k < w3.heap.size ∧ k ≠ g3)
    (hvs : w3.ownsRow B0 46 5 (.slice a' n' c') n' vs) (hes : (dL b).length = n') (hone : ∀ v ∈ vs, v.oneCell' = true)
    (hread : ∀ i x, (dL b)[i]? = some x → rE.R (fun b => ((U b ∧ b < w.heap.size) ∧ b < wc.heap.size) ∧ (Value.slice a' n' c').ownBlock ≠ some b) w3 ((vs.drop (i * rE.sz)).take rE.sz) x)
    (hcont : ∀ W, Below w3.heap.size w3 W → w3.heap.size ≤ W.heap.size → (W.cell? ⟨g3, d, none⟩ = some (.slice a' n' c') ∧ W.frozen? ⟨g3, d, none⟩ = false) ∧
        ∀ w2 a2 n2 c2 es2, Own rE B0 46 (fun b => (U b ∧ b < w.heap.size) ∧ b < wc.heap.size) w2 a2 n2 c2 es2 → But1 (Value.slice a' n' c').ownBlock W w2 → ((Value.slice a2 n2 c2).ownBlock = (Value.slice a' n' c').ownBlock ∨ (Value.slice a2 n2 c2).ownBlock = some W.heap.size) →
          (w2.cell? ⟨g3, d, none⟩ = some (.slice a' n' c') ∧ w2.frozen? ⟨g3, d, none⟩ = false) ∧ Rows rE B0 74 46 (fun b => (U b ∧ b < w.heap.size) ∧ b < wc.heap.size) (W.heap.size + 1) (w2.setCell ⟨g3, d, none⟩ (.slice a2 n2 c2)) (some ⟨g3, 0, none⟩) bn c3 ((dB m.2.2.1).set d es2))
    (bW : Below w3.heap.size w3 W6) (CG7 : CellsAt W6 w3.heap.size [.slice a1 qn c1, .slice (some ⟨g2, 0, none⟩) cn c2, .slice (some ⟨g3, 0, none⟩) bn c3]) (CG8 : CellsAt W6 (w3.heap.size + 1) (v0 :: ls))
    (lR : rE.R U w (v0 :: ls) (flatD tL l))
    (ow7 : w7.ownsRow B0 46 5 (.slice a5 (n' + 1) c5) (n' + 1) (vs ++ (v0 :: ls))) (gr7 : W6.grownBy w7 (Value.slice a' n' c').ownBlock) (sm7 : (Value.slice a5 (n' + 1) c5).ownBlock = (Value.slice a' n' c').ownBlock ∨ (Value.slice a5 (n' + 1) c5).ownBlock = some W6.heap.size) :
    (CellsAt w7 w3.heap.size [.slice a1 qn c1, .slice (some ⟨g2, 0, none⟩) cn c2, .slice (some ⟨g3, 0, none⟩) bn c3] ∧ CellsAt w7 (w3.heap.size + 1) (v0 :: ls) ∧ w7.cell? ⟨g3, d, none⟩ = some (.slice a' n' c') ∧ w7.frozen? ⟨g3, d, none⟩ = false) ∧
    (CellsAt (w7.setCell ⟨g3, d, none⟩ (.slice a5 (n' + 1) c5)) w3.heap.size [.slice a1 qn c1, .slice (some ⟨g2, 0, none⟩) cn c2, .slice (some ⟨g3, 0, none⟩) bn c3] ∧
      (w7.setCell ⟨g3, d, none⟩ (.slice a5 (n' + 1) c5)).cell? ⟨g2, i, none⟩ = some (.int .i64 (j : Int)) ∧ (w7.setCell ⟨g3, d, none⟩ (.slice a5 (n' + 1) c5)).frozen? ⟨g2, i, none⟩ = false) ∧
    (CellsAt ((w7.setCell ⟨g3, d, none⟩ (.slice a5 (n' + 1) c5)).setCell ⟨g2, i, none⟩ (.int .i64 ((j : Int) + 1))) w3.heap.size [.slice a1 qn c1, .slice (some ⟨g2, 0, none⟩) cn c2, .slice (some ⟨g3, 0, none⟩) bn c3] ∧
      CellsAt ((w7.setCell ⟨g3, d, none⟩ (.slice a5 (n' + 1) c5)).setCell ⟨g2, i, none⟩ (.int .i64 ((j : Int) + 1))) (w.heap.size + 1) Z3) ∧
    ∀ x y z, CPost w U ((m.1, m.2.1.set i ((j : Int) + 1), m.2.2.1.set d (b ++ [l]), ()), true) (.returned (.tuple #[.agg #[.slice a1 qn c1, .slice (some ⟨g2, 0, none⟩) cn c2, .slice (some ⟨g3, 0, none⟩) bn c3], .bool true]))
      (((((w7.setCell ⟨g3, d, none⟩ (.slice a5 (n' + 1) c5)).setCell ⟨g2, i, none⟩ (.int .i64 ((j : Int) + 1))).setCell ⟨w.heap.size + 1, 0, none⟩ x).setCell ⟨w.heap.size + 1, 1, none⟩ y).setCell ⟨w.heap.size + 1, 2, none⟩ z) := by
  obtain ⟨W8, hW8⟩ : ∃ W8, W8 = w7.setCell ⟨g3, d, none⟩ (.slice a5 (n' + 1) c5) := ⟨_, rfl⟩
  obtain ⟨W9, hW9⟩ : ∃ W9, W9 = W8.setCell ⟨g2, i, none⟩ (.int .i64 ((j : Int) + 1)) := ⟨_, rfl⟩
  have hs3 := bb3.size
  have hs6 := bW.size
  have hg2 : wc.heap.size ≤ g2 := (o2.lt rfl).2
  have hU1 : ∀ b, ((U b ∧ b < w.heap.size) ∧ b < wc.heap.size) → b < w.heap.size := fun b h => h.1.2
  have l7 : w3.heap.size < W6.heap.size := CG7.lt
  have l8 : w3.heap.size + 1 < W6.heap.size := CG8.lt
  have hk7 : ∀ b, b < W6.heap.size → (b < B0 ∨ w3.heap.size ≤ b) → w7.heap[b]? = W6.heap[b]? := fun b hb h => gr7.block b hb fun e => by
    obtain ⟨q1, q2, _⟩ := pk b e.symm
    omega
  have es5 : Own rE B0 46 (fun b => (U b ∧ b < w.heap.size) ∧ b < wc.heap.size) w7 a5 (n' + 1) c5 (dL b ++ [flatD tL l]) :=
    own_push_of (r := rE) (fun b h => by have := hU1 b h; omega) (owns_keep hvs bW) hes hone (fun i x hx => rE.below bW (rE.mono (fun b h => h.1) (hread i x hx)))
      (rE.mono (fun b h => ⟨h, by have := h.2; omega⟩) (rE.keep (Same.of_below ((bwc.trans (bb3.mono bwc.size)).trans (bW.mono (Nat.le_trans bwc.size bb3.size)))) (rE.lt lR))) ow7 gr7
  obtain ⟨⟨hc7, hf7⟩, R8⟩ := (hcont W6 bW hs6).2 w7 a5 (n' + 1) c5 _ es5 (But1.of_grown gr7) sm7
  rw [← hW8] at R8 ⊢
  rw [← hW9]
  have K7 := CG7.keep (hk7 _ l7 (.inr (Nat.le_refl _)))
  have K8 := CG8.keep (hk7 _ l8 (.inr (Nat.le_succ _)))
  have K78 : CellsAt W8 w3.heap.size [.slice a1 qn c1, .slice (some ⟨g2, 0, none⟩) cn c2, .slice (some ⟨g3, 0, none⟩) bn c3] := by rw [hW8]; exact K7.far _ _ (by show g3 ≠ _; omega)
  have K79 : CellsAt W9 w3.heap.size [.slice a1 qn c1, .slice (some ⟨g2, 0, none⟩) cn c2, .slice (some ⟨g3, 0, none⟩) bn c3] := by rw [hW9]; exact K78.far _ _ (by show g2 ≠ _; omega)
  have bA : But1 (some g3) w7 W8 := by rw [hW8]; exact But1.setCell _ _ _ _
  have bB : But1 (some g2) W8 W9 := by rw [hW9]; exact But1.setCell _ _ _ _
  have nUk : ∀ b, ((U b ∧ b < w.heap.size) ∧ b < wc.heap.size) → (Value.slice a' n' c').ownBlock ≠ some b := fun b h e => by have := (pk b e).1; have := hU1 b h; omega
  have o1' := ((o1.keep bW).but (But1.of_grown gr7) (fun g e q => by have := (pk g q).1; have := (p1 g e).1; omega) nUk).but bA (fun g e q => by cases q; have := (p1 _ e).1; omega) (fun b h e => by cases e; have := hU1 _ h; omega)
  have o2' := ((o2.keep bW).but (But1.of_grown gr7) (fun g e q => by have e' : g2 = g := Option.some.inj e; have := (pk g q).1; omega) nUk).but bA (fun g e q => by have e' : g2 = g := Option.some.inj e; have q' : g3 = g := Option.some.inj q; omega) (fun b h e => by cases e; have := hU1 _ h; omega)
  obtain ⟨bq, oq, ha, hin, hcell⟩ := num_at ((o2'.mono (V := fun b => ((U b ∧ b < w.heap.size) ∧ b < wc.heap.size) ∨ wc.heap.size ≤ b) (Nat.le_refl _) (fun b h => .inl h)).sl fun b h => .inr h) hpi
  cases ha
  rw [Nat.zero_add] at hcell
  obtain ⟨_, hf2, o2s⟩ := own_set1 (r := rN) rfl o2' (fun b h => by have := hU1 b h; omega) hin (v := .int .i64 ((j : Int) + 1)) (y := [.int .i64 ((j : Int) + 1)]) ⟨rfl, rfl, fun k e v he hv => by
    cases k with
    | zero => cases he; cases hv; exact .int _ _
    | succ k => simp at he⟩
  rw [← hW9] at o2s
  have o1'' := o1'.but bB (fun g e q => by cases q; exact (p1 _ e).2 rfl) (fun b h e => by cases e; have := hU1 _ h; omega)
  have R9 := R8.but bB (fun b h e => by cases e; have := hU1 _ h; omega) (fun g h _ e => by cases e; omega)
  have bw7 : Below w.heap.size w w7 := ((bwc.trans (bb3.mono bwc.size)).trans (bW.mono (Nat.le_trans bwc.size bb3.size))).grown gr7 (by have := bwc.size; omega) (fun g e => by have := (pk g e).1; omega)
  have bw9 : Below w.heap.size w W9 := by rw [hW9, hW8]; exact (bw7.setCell (by show w.heap.size ≤ g3; omega) _).setCell (by show w.heap.size ≤ g2; omega) _
  have Z9 : CellsAt W9 (w.heap.size + 1) Z3 := by
    have h6 : CellsAt W6 (w.heap.size + 1) Z3 := (hZ.below bb3).below bW
    have h7 := h6.keep (hk7 _ h6.lt (.inl (by omega)))
    rw [hW9, hW8]
    exact (h7.far _ _ (by show g3 ≠ _; omega)).far _ _ (by show g2 ≠ _; omega)
  refine ⟨⟨K7, K8, hc7, hf7⟩, ⟨K78, hcell, hf2⟩, ⟨K79, Z9⟩, fun x y z => ?_⟩
  obtain ⟨WE, hWE⟩ : ∃ WE, WE = ((W9.setCell ⟨w.heap.size + 1, 0, none⟩ x).setCell ⟨w.heap.size + 1, 1, none⟩ y).setCell ⟨w.heap.size + 1, 2, none⟩ z := ⟨_, rfl⟩
  rw [← hWE]
  have bC : But1 (some (w.heap.size + 1)) W9 WE := fun b _ hne => by rw [hWE]; exact set3_other W9 _ _ _ _ (fun e => hne (by rw [e]))
  have bwE : Below w.heap.size w WE := by
    rw [hWE]
    exact ((bw9.setCell (by show w.heap.size ≤ w.heap.size + 1; omega) _).setCell (by show w.heap.size ≤ w.heap.size + 1; omega) _).setCell (by show w.heap.size ≤ w.heap.size + 1; omega) _
  have hUn : ∀ b, ((U b ∧ b < w.heap.size) ∧ b < wc.heap.size) → some (w.heap.size + 1) ≠ some b := fun b h e => by cases e; have := hU1 _ h; omega
  have f1 := (o1''.but bC (fun g e q => by cases q; have := (o1''.lt e).2; omega) hUn).mono (V := fun b => U b ∨ w.heap.size ≤ b) bwc.size (fun b h => .inl h.1.1)
  have f2 := (o2s.but bC (fun g e q => by cases q; have := (o2s.lt e).2; omega) hUn).mono (V := fun b => U b ∨ w.heap.size ≤ b) bwc.size (fun b h => .inl h.1.1)
  have f3 := (R9.but bC hUn (fun g h _ e => by cases e; omega)).sl (M2 := 0) (V := fun b => U b ∨ w.heap.size ≤ b) (fun b h => h.elim (fun h => .inl h.1.1) (fun h => .inr (by have := bwc.size; omega)))
  refine ⟨_, _, _, rfl, bwE, view_of_sl (f1.sl fun b h => .inr h), ?_, ?_⟩
  · have e2 : denS (T := tI) (m.2.1.set i ((j : Int) + 1)) = (denS (T := tI) m.2.1).set i [.int .i64 ((j : Int) + 1)] := denS_set (T := tI) m.2.1 i _
    show VD _ _ _ _ (.view 1 (denS (T := tI) (m.2.1.set i ((j : Int) + 1)))) _
    rw [e2]
    exact view_of_sl (f2.sl fun b h => .inr h)
  · have e3 : denS (T := .sl tL) (m.2.2.1.set d (b ++ [l])) = ((dB m.2.2.1).set d (dL b ++ [flatD tL l])).map fun es => [.view 5 es] := by
      rw [denS_boxes, dB_set, dL_snoc]
    show VD _ _ _ _ (.view 1 (denS (T := .sl tL) (m.2.2.1.set d (b ++ [l])))) _
    rw [e3]
    exact view_of_sl f3

set_option maxRecDepth 100000 in
set_option maxHeartbeats 1600000 in
theorem rcome_any {w : World} {U : Nat → Prop} {s1 s2 s3 : Value} {m : Mod} (hm : VM w U m s1 s2 s3) (sq : m.1.length * 32 ≤ MM) (sc : m.2.1.length * 8 ≤ MM) (sb : m.2.2.1.length * 24 ≤ MM) (se : ∀ b ∈ m.2.2.1, b.length * 56 ≤ MM) (si : ∀ q ∈ m.1, q.2.1.length * 56 ≤ MM) (k : Int) :
    Calls Try.prog 57 #[.agg #[s1, s2, s3], .int .i64 k] w (CPost w U (mCome m k)) := by
  obtain ⟨qa, qn, qc, rfl, hq⟩ := sl_of_view (bytes := 32) (p1 := by decide) (p2 := by decide) hm.1
  obtain ⟨ca, cn, cc, rfl, hc⟩ := sl_of_view (bytes := 8) (p1 := by decide) (p2 := by decide) hm.2.1
  obtain ⟨ba, bn, bc, rfl, hb⟩ := sl_of_view (bytes := 24) (p1 := by decide) (p2 := by decide) hm.2.2
  have lq : m.1.length = qn := (denS_len (T := tQ) m.1).symm.trans hq.len
  have lc : m.2.1.length = cn := (denS_len (T := tI) m.2.1).symm.trans hc.len
  have lb : m.2.2.1.length = bn := (denS_len (T := .sl tL) m.2.2.1).symm.trans hb.len
  have mq := hq.le_i64.1
  have mc := hc.le_i64.1
  have mb := hb.le_i64.1
  obtain ⟨W1, hW1⟩ : ∃ W1, W1 = (w.alloc (.cells #[.slice qa qn qc, .slice ca cn cc, .slice ba bn bc] 60)).alloc (.cells #[.slice none 0 0, .slice none 0 0, .slice none 0 0] 60) := ⟨_, rfl⟩
  have hs1 : W1.heap.size = w.heap.size + 1 + 1 := by rw [hW1]; simp
  have b1 : Below w.heap.size w W1 := by rw [hW1]; exact ((Below.refl w.heap.size w).alloc (Nat.le_refl _) _).alloc (by simp) _
  have N1 : CellsAt W1 w.heap.size [.slice qa qn qc, .slice ca cn cc, .slice ba bn bc] := by rw [hW1]; exact (CellsAt.new _ _ _ rfl).under _
  have R1 : CellsAt W1 (w.heap.size + 1) Z3 := by rw [hW1]; exact CellsAt.new _ _ _ (by simp)
  have HW1 := Lib.hid hW1
  have HS1 := Lib.hid hs1
  have HAll : Hid (∀ W, Below W1.heap.size W1 W → CellsAt W w.heap.size [.slice qa qn qc, .slice ca cn cc, .slice ba bn bc] ∧ CellsAt W (w.heap.size + 1) Z3 ∧ Below w.heap.size w W) := fun W hW =>
    ⟨N1.below hW, R1.below hW, below_then b1 hW⟩
  have HOut : Hid (∀ W, Below w.heap.size w W → CPost w U (m, false) (.returned (.tuple #[.agg #[.slice qa qn qc, .slice ca cn cc, .slice ba bn bc], .bool false])) (((W.setCell ⟨w.heap.size + 1, 0, none⟩ (.slice qa qn qc)).setCell ⟨w.heap.size + 1, 1, none⟩ (.slice ca cn cc)).setCell ⟨w.heap.size + 1, 2, none⟩ (.slice ba bn bc))) := fun W hW => by
    have hb : Below w.heap.size w (((W.setCell ⟨w.heap.size + 1, 0, none⟩ (.slice qa qn qc)).setCell ⟨w.heap.size + 1, 1, none⟩ (.slice ca cn cc)).setCell ⟨w.heap.size + 1, 2, none⟩ (.slice ba bn bc)) :=
      ((hW.setCell (by show w.heap.size ≤ w.heap.size + 1; omega) _).setCell (by show w.heap.size ≤ w.heap.size + 1; omega) _).setCell (by show w.heap.size ≤ w.heap.size + 1; omega) _
    exact ⟨_, _, _, rfl, hb, (hm.below hb).mono fun b h => .inl h⟩
  have HK : Hid (∀ (k : Int) (W : World), Calls Try.prog 88 #[.agg #[.slice qa qn qc, .slice ca cn cc, .slice ba bn bc], .int .i64 k] W fun e w' => e = .returned (.bool (mCl m k)) ∧ Below W.heap.size W w') := fun k W => by
    exact rclient_any k mq mc mb (mCl_len lq lc lb)
  have HM := Lib.hid hm
  cases hcl : mCl m k with
  | false =>
    have HE : Hid (mCome m k = (m, false)) := by show _ = _; unfold mCome; rw [hcl]; rfl
    have HK1 := Lib.hid (HK.out k W1)
    rw [hcl] at HK1
    obtain ⟨R, hR⟩ : ∃ R, R = mCome m k := ⟨_, rfl⟩
    rw [← hR] at HE ⊢
    clear hm hq hc hb hW1 hs1 b1 N1 R1 hcl hR
    go_enter Try.func57, Try.ntmps57
    go_wp2_with fail
    rw [← HW1.out]
    refine HK1.out.mono ?_
    rintro e w1 ⟨rfl, bb1⟩
    obtain ⟨cn', cz, bw⟩ := HAll.out w1 bb1
    obtain ⟨⟨d0, e0⟩, ⟨d1, e1⟩, ⟨d2, e2⟩⟩ := (⟨cz 0 _ rfl, cz 1 _ rfl, cz 2 _ rfl⟩ : _ ∧ _ ∧ _)
    obtain ⟨⟨k0, _⟩, ⟨k1, _⟩, ⟨k2, _⟩⟩ := (⟨cn' 0 _ rfl, cn' 1 _ rfl, cn' 2 _ rfl⟩ : _ ∧ _ ∧ _)
    have HO := Lib.hid (HOut.out w1 bw)
    clear cn' cz bw bb1
    go_wp2
    refine bodyPost_ret (v := .tuple #[.agg #[.slice qa qn qc, .slice ca cn cc, .slice ba bn bc], .bool false]) (by simp [results, Try.results57, go_sem, *]) rfl ?_
    rw [HE.out]
    exact HO.out
  | true =>
    obtain ⟨i, q, p, bx, rfl, hqi, hpi, hbi⟩ := mCl_at hcl
    have HE : Hid (mCome m i = bif decide (p < 0) || decide ((q.2.1.length : Int) ≤ p) then (m, false) else (match q.2.1[p.toNat]? with
      | some l => bif mCl m l.2.2.1 then (match m.2.2.1[l.2.2.1.toNat]? with
        | some b => ((m.1, m.2.1.set i (p + 1), m.2.2.1.set l.2.2.1.toNat (b ++ [l]), ()), true)
        | none => (m, false)) else (m, false)
      | none => (m, false))) := by
      show _ = _
      unfold mCome
      rw [hcl, cond_true, Int.toNat_natCast, hpi, hqi]
      rfl
    have HK1 := Lib.hid (HK.out i W1)
    rw [hcl] at HK1
    obtain ⟨R, hR⟩ : ∃ R, R = mCome m i := ⟨_, rfl⟩
    rw [← hR] at HE ⊢
    obtain ⟨bq, oq, ia, ni, ci, rfl, hin, c0, c1, hit⟩ := que_at hq hqi
    obtain ⟨bC, oC, rfl, hin2, cc0⟩ := num_at hc hpi
    have li : q.2.1.length = ni := (denS_len (T := tL) q.2.1).symm.trans hit.len
    have mi := hit.le_i64.1
    have HC : Hid (∀ W, Below w.heap.size w W → W.cell? ⟨bq, oq + i * 2 + 1, none⟩ = some (.slice ia ni ci) ∧ W.cell? ⟨bC, oC + i, none⟩ = some (.int .i64 p)) := fun W hW =>
      ⟨(hW.cell (World.block_lt_of_cell? _ _ c1)).trans c1, (hW.cell (World.block_lt_of_cell? _ _ cc0)).trans cc0⟩
    have HIT := Lib.hid hit
    have HQ := Lib.hid hq
    have HCC := Lib.hid hc
    have HBB := Lib.hid hb
    clear hm hq hc hb hW1 hs1 b1 N1 R1 hcl hR c0 c1 cc0 hit
    go_enter Try.func57, Try.ntmps57
    go_wp2_with fail
    rw [← HW1.out]
    refine HK1.out.mono ?_
    rintro e w1 ⟨rfl, bb1⟩
    obtain ⟨cn', cz, bw⟩ := HAll.out w1 bb1
    obtain ⟨⟨d0, e0⟩, ⟨d1, e1⟩, ⟨d2, e2⟩⟩ := (⟨cz 0 _ rfl, cz 1 _ rfl, cz 2 _ rfl⟩ : _ ∧ _ ∧ _)
    obtain ⟨⟨k0, _⟩, ⟨k1, _⟩, ⟨k2, _⟩⟩ := (⟨cn' 0 _ rfl, cn' 1 _ rfl, cn' 2 _ rfl⟩ : _ ∧ _ ∧ _)
    obtain ⟨c1, cc0⟩ := HC.out w1 bw
    have HO := Lib.hid (HOut.out w1 bw)
    have BW := Lib.hid bw
    have BB1 := Lib.hid bb1
    clear bw bb1 cn' cz
    by_cases hp0 : p < 0
    · have HQ2 : Hid (R = (m, false)) := by show _ = _; rw [HE.out, decide_eq_true hp0]; rfl
      have hp0' : decide (p < 0) = true := decide_eq_true hp0
      clear HE HIT HQ HCC HBB HC HAll HK HK1 HO HM
      go_wp2_with fail
      go_quiet (fail)
      go_wp2
      refine bodyPost_ret (v := .tuple #[.agg #[.slice (some ⟨bq, oq, none⟩) qn qc, .slice (some ⟨bC, oC, none⟩) cn cc, .slice ba bn bc], .bool false]) (by simp [results, Try.results57, go_sem, *]) rfl ?_
      rw [HQ2.out]
      exact HOut.out _ (below_drewN BW.out _)
    have hp0' : decide (p < 0) = false := decide_eq_false hp0
    by_cases hpl : ((q.2.1.length : Nat) : Int) ≤ p
    · have HQ2 : Hid (R = (m, false)) := by show _ = _; rw [HE.out, hp0', decide_eq_true hpl]; rfl
      have hpl' : decide ((ni : Int) ≤ p) = true := decide_eq_true (by rw [← li]; exact hpl)
      clear HE HIT HQ HCC HBB HC HAll HK HK1 HO HM
      go_wp2_with fail
      go_quiet (fail)
      go_wp2
      refine bodyPost_ret (v := .tuple #[.agg #[.slice (some ⟨bq, oq, none⟩) qn qc, .slice (some ⟨bC, oC, none⟩) cn cc, .slice ba bn bc], .bool false]) (by simp [results, Try.results57, go_sem, *]) rfl ?_
      rw [HQ2.out]
      exact HOut.out _ (below_drewN BW.out _)
    have hpl' : decide ((ni : Int) ≤ p) = false := decide_eq_false (by rw [← li]; exact hpl)
    obtain ⟨j, rfl⟩ : ∃ j : Nat, p = (j : Int) := ⟨p.toNat, by omega⟩
    obtain ⟨l, hl⟩ : ∃ l, q.2.1[j]? = some l := ⟨_, List.getElem?_eq_getElem (by omega)⟩
    obtain ⟨bl, ol, ta, tn, tc, rfl, hjn, l0, l1, l2, l3, l4, lR⟩ := let_at HIT.out hl
    have HL : Hid (∀ W, Below w.heap.size w W → W.cell? ⟨bl, ol + j * 5, none⟩ = some (.bool l.1) ∧ W.cell? ⟨bl, ol + j * 5 + 1, none⟩ = some (.int .i64 l.2.1) ∧ W.cell? ⟨bl, ol + j * 5 + 2, none⟩ = some (.int .i64 l.2.2.1) ∧ W.cell? ⟨bl, ol + j * 5 + 3, none⟩ = some (.int .u64 l.2.2.2.1) ∧ W.cell? ⟨bl, ol + j * 5 + 4, none⟩ = some (.slice ta tn tc)) := fun W hW =>
      ⟨(hW.cell (World.block_lt_of_cell? _ _ l0)).trans l0, (hW.cell (World.block_lt_of_cell? _ _ l1)).trans l1, (hW.cell (World.block_lt_of_cell? _ _ l2)).trans l2, (hW.cell (World.block_lt_of_cell? _ _ l3)).trans l3, (hW.cell (World.block_lt_of_cell? _ _ l4)).trans l4⟩
    have HLR := Lib.hid lR
    have HE2 : Hid (R = bif mCl m l.2.2.1 then (match m.2.2.1[l.2.2.1.toNat]? with
        | some b => ((m.1, m.2.1.set i ((j : Int) + 1), m.2.2.1.set l.2.2.1.toNat (b ++ [l]), ()), true)
        | none => (m, false)) else (m, false)) := by
      show _ = _
      rw [HE.out, hp0', decide_eq_false hpl, Int.toNat_natCast, hl]
      rfl
    obtain ⟨_, _, l2', _, _⟩ := HL.out w1 BW.out
    clear HE l0 l1 l2 l3 l4 lR HIT
    go_upto_region 4 with fail
    go_cut [46] (fun s46 wx => s46 = .bool (!mCl m l.2.2.1) ∧ Below w1.heap.size w1 wx)
    case first =>
      clear HO HC HL HLR HOut HAll HQ HCC HBB HM d0 d1 d2 e0 e1 e2
      go_still_tail 25, (by kernel_rfl)
      change wpList _ _ _ _ _ w1.drew
      go_wp2_with fail
      refine (HK.out _ _).mono ?_
      rintro e w2 ⟨rfl, bb2⟩
      go_wp2_with fail
      go_meet
      exact ⟨by rw [decide_eq_false (by omega)]; rfl, ((Below.refl w1.heap.size w1).drew).trans bb2⟩
    case rest =>
      obtain ⟨rfl, bx2⟩ := hcut
      have bw2 := BB1.out.trans (bx2.mono BB1.out.size)
      obtain ⟨cn2, cz2, bwx⟩ := HAll.out wc bw2
      have HN2 := Lib.hid cn2
      have HZ2 := Lib.hid cz2
      have HBW2 := Lib.hid bwx
      clear d0 d1 d2 e0 e1 e2 k0 k1 k2 c1 cc0 l2'
      cases hc2 : mCl m l.2.2.1 with
      | false =>
        have HQ2 : Hid (R = (m, false)) := by show _ = _; rw [HE2.out, hc2]; rfl
        obtain ⟨⟨d0, e0⟩, ⟨d1, e1⟩, ⟨d2, e2⟩⟩ := (⟨cz2 0 _ rfl, cz2 1 _ rfl, cz2 2 _ rfl⟩ : _ ∧ _ ∧ _)
        obtain ⟨⟨k0, _⟩, ⟨k1, _⟩, ⟨k2, _⟩⟩ := (⟨cn2 0 _ rfl, cn2 1 _ rfl, cn2 2 _ rfl⟩ : _ ∧ _ ∧ _)
        have HO := Lib.hid (HOut.out wc bwx)
        clear cn2 cz2 bwx HE2 HQ HCC HBB HC HAll HK HK1 HM HL HLR bw2 bx2
        go_wp2
        refine bodyPost_ret (v := .tuple #[.agg #[.slice (some ⟨bq, oq, none⟩) qn qc, .slice (some ⟨bC, oC, none⟩) cn cc, .slice ba bn bc], .bool false]) (by simp [results, Try.results57, go_sem, *]) rfl ?_
        rw [HQ2.out]
        exact HO.out
      | true =>
        obtain ⟨d, qd, pd, b, hld, _, _, hbd⟩ := mCl_at hc2
        have HQ2 : Hid (R = ((m.1, m.2.1.set i ((j : Int) + 1), m.2.2.1.set d (b ++ [l]), ()), true)) := by
          show _ = _
          rw [HE2.out, hc2, cond_true, hld, Int.toNat_natCast, hbd]
        obtain ⟨il, hil, hl0, hl1, hl2⟩ := info_parts dinfo_let
        have HOWN := Lib.hid (own_any (U := fun b => U b ∧ b < w.heap.size) (Bs := dB m.2.2.1) (HQ.out.lt.keep bwx) (HCC.out.lt.keep bwx) (by rw [← denS_boxes]; exact HBB.out.lt.keep bwx) (by rw [← lq]; exact sq) (by rw [← lc]; exact sc) (by rw [← lb]; exact sb) (fun es he => by
          obtain ⟨b, hb, rfl⟩ := List.mem_map.1 he
          rw [dL_len]
          exact se b hb))
        have hszw : w.heap.size + 2 ≤ wc.heap.size := by have h1 := bw2.size; have h2 : W1.heap.size = w.heap.size + 1 + 1 := HS1.out; omega
        obtain ⟨⟨k0, _⟩, ⟨k1, _⟩, ⟨k2, _⟩⟩ := (⟨cn2 0 _ rfl, cn2 1 _ rfl, cn2 2 _ rfl⟩ : _ ∧ _ ∧ _)
        have hMM : MM = 140737488351232 := rfl
        have hbm : b.length * 56 ≤ MM := se b (List.mem_of_getElem? hbd)
        have Hbd := Lib.hid hbd
        have Hpi := Lib.hid hpi
        have Hld := Lib.hid hld
        clear cn2 cz2 bwx HE2 HQ HCC HBB HK HK1 HM bw2 bx2 HOut HO hc2 hbd hpi hqi hbi hl sq sc sb se si hld
        go_wp2_with fail
        refine HOWN.out.mono ?_
        rintro e w3 ⟨a1, c1, a2, c2, a3, c3, B0, rfl, bb3, hB0, o1, o2, hR, p1, p2⟩
        obtain ⟨u2, hu2⟩ : ∃ u2, (denS (T := tI) m.2.1)[i]? = some u2 := ⟨_, denS_get (T := tI) Hpi.out⟩
        obtain ⟨vs2, ho2, _⟩ := (id o2 : Own rN _ _ _ _ _ _ _ _)
        obtain ⟨g2, rfl, hg2⟩ := owns_shape ho2 (by omega)
        obtain ⟨g3, a', n', c', vs, rfl, hg3, hg3', hdn, hvs, hes, hone, hread, pk, hcont⟩ := hR.at (fun b h => by have := h.2; omega) (i := d) (es := dL b) (dB_get Hbd.out)
        have hn' : b.length = n' := (dL_len b).symm.trans hes
        have bw3 : Below w.heap.size w w3 := HBW2.out.trans (bb3.mono HBW2.out.size)
        have bwA : ∀ o : Obj, Below w.heap.size w (w3.alloc o) := fun o => bw3.alloc bw3.size o
        obtain ⟨_, cc0'⟩ := HC.out w3 bw3
        obtain ⟨c1x, _⟩ := HC.out _ (bwA (.cells #[.slice a1 qn c1, .slice (some ⟨g2, 0, none⟩) cn c2, .slice (some ⟨g3, 0, none⟩) bn c3] 60))
        obtain ⟨l0, l1, l2, l3, l4⟩ := HL.out _ (bwA (.cells #[.slice a1 qn c1, .slice (some ⟨g2, 0, none⟩) cn c2, .slice (some ⟨g3, 0, none⟩) bn c3] 60))
        rw [Hld.out] at l2
        obtain ⟨⟨k0, _⟩, ⟨k1, _⟩, ⟨k2, _⟩⟩ := (⟨((HN2.out.below bb3).under (.cells #[.slice a1 qn c1, .slice (some ⟨g2, 0, none⟩) cn c2, .slice (some ⟨g3, 0, none⟩) bn c3] 60)) 0 _ rfl, ((HN2.out.below bb3).under (.cells #[.slice a1 qn c1, .slice (some ⟨g2, 0, none⟩) cn c2, .slice (some ⟨g3, 0, none⟩) bn c3] 60)) 1 _ rfl, ((HN2.out.below bb3).under (.cells #[.slice a1 qn c1, .slice (some ⟨g2, 0, none⟩) cn c2, .slice (some ⟨g3, 0, none⟩) bn c3] 60)) 2 _ rfl⟩ : _ ∧ _ ∧ _)
        have h63 : n' + 1 ≤ maxLen := by unfold maxLen; omega
        have h47 : (n' + 1) * 56 ≤ 140737488355328 := by omega
        have HF : Hid (∀ (W w7 : World) (a5 : Option Addr) (c5 : Nat), Below w3.heap.size w3 W → CellsAt W w3.heap.size [.slice a1 qn c1, .slice (some ⟨g2, 0, none⟩) cn c2, .slice (some ⟨g3, 0, none⟩) bn c3] → CellsAt W (w3.heap.size + 1) [.bool l.1, .int .i64 l.2.1, .int .i64 (d : Int), .int .u64 l.2.2.2.1, .slice ta tn tc] →
            w7.ownsRow B0 46 5 (.slice a5 (n' + 1) c5) (n' + 1) (vs ++ [.bool l.1, .int .i64 l.2.1, .int .i64 (d : Int), .int .u64 l.2.2.2.1, .slice ta tn tc]) → W.grownBy w7 (Value.slice a' n' c').ownBlock → ((Value.slice a5 (n' + 1) c5).ownBlock = (Value.slice a' n' c').ownBlock ∨ (Value.slice a5 (n' + 1) c5).ownBlock = some W.heap.size) → _) :=
          fun W w7 a5 c5 bW CG7 CG8 ow7 gr7 sm7 => come_fin (U := U) (m := m) (l := l) HBW2.out hszw HZ2.out bb3 hB0 o1 o2 (fun g e => ⟨(p1 g e).1, fun q => (p1 g e).2 (by rw [q]; rfl)⟩) (p2 g2 rfl) Hpi.out Hbd.out hg3 hg3' pk hvs hes hone hread hcont bW CG7 CG8 (by have := HLR.out; rw [Hld.out] at this; exact this) ow7 gr7 sm7
        have b5 : Below w3.heap.size w3 ((w3.alloc (.cells #[.slice a1 qn c1, .slice (some ⟨g2, 0, none⟩) cn c2, .slice (some ⟨g3, 0, none⟩) bn c3] 60)).alloc (.cells #[.bool l.1, .int .i64 l.2.1, .int .i64 (d : Int), .int .u64 l.2.2.2.1, .slice ta tn tc] 46)) := ((Below.refl _ _).alloc (Nat.le_refl _) _).alloc (by simp) _
        have hx5 := (hcont ((w3.alloc (.cells #[.slice a1 qn c1, .slice (some ⟨g2, 0, none⟩) cn c2, .slice (some ⟨g3, 0, none⟩) bn c3] 60)).alloc (.cells #[.bool l.1, .int .i64 l.2.1, .int .i64 (d : Int), .int .u64 l.2.2.2.1, .slice ta tn tc] 46)) b5 b5.size).1.1
        have hx6 := fun o : Obj => cell_underAt (o := o) hx5
        have G7 : Hid (∀ W, Below (w3.heap.size + 2) ((w3.alloc (.cells #[.slice a1 qn c1, .slice (some ⟨g2, 0, none⟩) cn c2, .slice (some ⟨g3, 0, none⟩) bn c3] 60)).alloc (.cells #[.bool l.1, .int .i64 l.2.1, .int .i64 (d : Int), .int .u64 l.2.2.2.1, .slice ta tn tc] 46)) W → Below w3.heap.size w3 W ∧ CellsAt W w3.heap.size [.slice a1 qn c1, .slice (some ⟨g2, 0, none⟩) cn c2, .slice (some ⟨g3, 0, none⟩) bn c3] ∧ CellsAt W (w3.heap.size + 1) [.bool l.1, .int .i64 l.2.1, .int .i64 (d : Int), .int .u64 l.2.2.2.1, .slice ta tn tc]) := fun W hW =>
          ⟨b5.trans (hW.mono (by omega)), ((CellsAt.new w3 [.slice a1 qn c1, .slice (some ⟨g2, 0, none⟩) cn c2, .slice (some ⟨g3, 0, none⟩) bn c3] 60 rfl).under (.cells #[.bool l.1, .int .i64 l.2.1, .int .i64 (d : Int), .int .u64 l.2.2.2.1, .slice ta tn tc] 46)).keep (hW.block _ (by omega)), (CellsAt.new (w3.alloc (.cells #[.slice a1 qn c1, .slice (some ⟨g2, 0, none⟩) cn c2, .slice (some ⟨g3, 0, none⟩) bn c3] 60)) [.bool l.1, .int .i64 l.2.1, .int .i64 (d : Int), .int .u64 l.2.2.2.1, .slice ta tn tc] 46 (by simp)).keep (hW.block _ (by omega))⟩
        have HSK : Hid (∀ W, Below (w3.heap.size + 2) ((w3.alloc (.cells #[.slice a1 qn c1, .slice (some ⟨g2, 0, none⟩) cn c2, .slice (some ⟨g3, 0, none⟩) bn c3] 60)).alloc (.cells #[.bool l.1, .int .i64 l.2.1, .int .i64 (d : Int), .int .u64 l.2.2.2.1, .slice ta tn tc] 46)) W → (W.cell? ⟨w3.heap.size, 2, none⟩ = some (.slice (some ⟨g3, 0, none⟩) bn c3) ∧ W.cell? ⟨w3.heap.size + 1, 0, none⟩ = some (.bool l.1) ∧ W.cell? ⟨w3.heap.size + 1, 1, none⟩ = some (.int .i64 l.2.1) ∧ W.cell? ⟨w3.heap.size + 1, 2, none⟩ = some (.int .i64 (d : Int)) ∧ W.cell? ⟨w3.heap.size + 1, 3, none⟩ = some (.int .u64 l.2.2.2.1) ∧ W.cell? ⟨w3.heap.size + 1, 4, none⟩ = some (.slice ta tn tc) )) := fun W hW => by
          obtain ⟨h1, h2, h3⟩ := G7.out W hW
          exact ⟨(h2 2 _ rfl).1, (h3 0 _ rfl).1, (h3 1 _ rfl).1, (h3 2 _ rfl).1, (h3 3 _ rfl).1, (h3 4 _ rfl).1⟩
        have HCEL : Hid (Cells (((w3.alloc (.cells #[.slice a1 qn c1, .slice (some ⟨g2, 0, none⟩) cn c2, .slice (some ⟨g3, 0, none⟩) bn c3] 60)).alloc (.cells #[.bool l.1, .int .i64 l.2.1, .int .i64 (d : Int), .int .u64 l.2.2.2.1, .slice ta tn tc] 46)).alloc (.cells #[.bool l.1, .int .i64 l.2.1, .int .i64 (d : Int), .int .u64 l.2.2.2.1, .slice ta tn tc] 46)) (some ⟨w3.heap.size + 1 + 1, 0, none⟩) 1 1 5 [.bool l.1, .int .i64 l.2.1, .int .i64 (d : Int), .int .u64 l.2.2.2.1, .slice ta tn tc]) := by
          have h := cells_lit ((w3.alloc (.cells #[.slice a1 qn c1, .slice (some ⟨g2, 0, none⟩) cn c2, .slice (some ⟨g3, 0, none⟩) bn c3] 60)).alloc (.cells #[.bool l.1, .int .i64 l.2.1, .int .i64 (d : Int), .int .u64 l.2.2.2.1, .slice ta tn tc] 46)) #[.bool l.1, .int .i64 l.2.1, .int .i64 (d : Int), .int .u64 l.2.2.2.1, .slice ta tn tc] 46 1 5 (by unfold maxLen; omega) rfl
          rw [show ((w3.alloc (.cells #[.slice a1 qn c1, .slice (some ⟨g2, 0, none⟩) cn c2, .slice (some ⟨g3, 0, none⟩) bn c3] 60)).alloc (.cells #[.bool l.1, .int .i64 l.2.1, .int .i64 (d : Int), .int .u64 l.2.2.2.1, .slice ta tn tc] 46)).heap.size = w3.heap.size + 1 + 1 by simp] at h
          exact h
        have HVS : Hid (∀ W, Below w3.heap.size w3 W → W.ownsRow B0 46 5 (.slice a' n' c') n' vs) := fun W hW => owns_keep hvs hW
        have HB3 : Hid (B0 ≤ w3.heap.size) := by show _ ≤ _; omega
        clear hR hcont hvs hes hread o1 o2 p1 p2 pk HC HL HLR HOWN HAll HW1 HS1 BW BB1 b5 bwA bw3 bb3 HN2 HZ2 HBW2 hu2 ho2 hg2 Hpi Hbd
        go_upto_region 8 with fail
        refine wp_region_held_drew (S := (fun W => W.cell? ⟨w3.heap.size, 2, none⟩ = some (.slice (some ⟨g3, 0, none⟩) bn c3) ∧ W.cell? ⟨w3.heap.size + 1, 0, none⟩ = some (.bool l.1) ∧ W.cell? ⟨w3.heap.size + 1, 1, none⟩ = some (.int .i64 l.2.1) ∧ W.cell? ⟨w3.heap.size + 1, 2, none⟩ = some (.int .i64 (d : Int)) ∧ W.cell? ⟨w3.heap.size + 1, 3, none⟩ = some (.int .u64 l.2.2.2.1) ∧ W.cell? ⟨w3.heap.size + 1, 4, none⟩ = some (.slice ta tn tc))) (by kernel_rfl) ?_ (fun hHeld => ?_)
        · exact HSK.out _ (by repeat (first | assumption | exact Below.refl _ _ | refine Below.drew ?_ | refine Below.alloc ?_ (by first | (simp; done) | (simp; omega) | omega) _))
        refine wpAnyH_take (i := 0) (oi := _) (v := .pointer (some ⟨w3.heap.size, 2, none⟩)) rfl (by kernel_rfl) (by kernel_rfl) (by kernel_rfl) (fun _ _ _ h => h) (Or.inl ⟨by rfl, ?_⟩) (by assumption) ?_
        · intro w hSw; (try dsimp only at hSw); go_simp
        simp only [Act.put, List.getElem_toArray, List.getElem_cons_zero, List.getElem_cons_succ, List.setIfInBounds_toArray, List.set_cons_zero, List.set_cons_succ]
        refine wpAnyH_take (i := 2) (oi := _) (v := .pointer (some ⟨w3.heap.size + 1, 2, none⟩)) rfl (by kernel_rfl) (by kernel_rfl) (by kernel_rfl) (fun _ _ _ h => h) (Or.inl ⟨by rfl, ?_⟩) (by assumption) ?_
        · intro w hSw; (try dsimp only at hSw); go_simp
        simp only [Act.put, List.getElem_toArray, List.getElem_cons_zero, List.getElem_cons_succ, List.setIfInBounds_toArray, List.set_cons_zero, List.set_cons_succ]
        refine wpAnyH_take (i := 4) (oi := _) (v := .pointer (some ⟨w3.heap.size, 2, none⟩)) rfl (by kernel_rfl) (by kernel_rfl) (by kernel_rfl) (fun _ _ _ h => h) (Or.inl ⟨by rfl, ?_⟩) (by assumption) ?_
        · intro w hSw; (try dsimp only at hSw); go_simp
        simp only [Act.put, List.getElem_toArray, List.getElem_cons_zero, List.getElem_cons_succ, List.setIfInBounds_toArray, List.set_cons_zero, List.set_cons_succ]
        refine wpAnyH_take (i := 6) (oi := _) (v := .pointer (some ⟨w3.heap.size + 1, 2, none⟩)) rfl (by kernel_rfl) (by kernel_rfl) (by kernel_rfl) (fun _ _ _ h => h) (Or.inl ⟨by rfl, ?_⟩) (by assumption) ?_
        · intro w hSw; (try dsimp only at hSw); go_simp
        simp only [Act.put, List.getElem_toArray, List.getElem_cons_zero, List.getElem_cons_succ, List.setIfInBounds_toArray, List.set_cons_zero, List.set_cons_succ]
        refine wpAnyH_take (i := 1) (oi := _) (v := .slice (some ⟨g3, 0, none⟩) bn c3) rfl (by kernel_rfl) (by kernel_rfl) (by kernel_rfl) (fun _ _ _ h => h) (Or.inl ⟨by rfl, ?_⟩) (by assumption) ?_
        · intro w hSw; (try dsimp only at hSw); go_simp
        simp only [Act.put, List.getElem_toArray, List.getElem_cons_zero, List.getElem_cons_succ, List.setIfInBounds_toArray, List.set_cons_zero, List.set_cons_succ]
        refine wpAnyH_take (i := 3) (oi := _) (v := .int .i64 (d : Int)) rfl (by kernel_rfl) (by kernel_rfl) (by kernel_rfl) (fun _ _ _ h => h) (Or.inl ⟨by rfl, ?_⟩) (by assumption) ?_
        · intro w hSw; (try dsimp only at hSw); go_simp
        simp only [Act.put, List.getElem_toArray, List.getElem_cons_zero, List.getElem_cons_succ, List.setIfInBounds_toArray, List.set_cons_zero, List.set_cons_succ]
        refine wpAnyH_take (i := 5) (oi := _) (v := .slice (some ⟨g3, 0, none⟩) bn c3) rfl (by kernel_rfl) (by kernel_rfl) (by kernel_rfl) (fun _ _ _ h => h) (Or.inl ⟨by rfl, ?_⟩) (by assumption) ?_
        · intro w hSw; (try dsimp only at hSw); go_simp
        simp only [Act.put, List.getElem_toArray, List.getElem_cons_zero, List.getElem_cons_succ, List.setIfInBounds_toArray, List.set_cons_zero, List.set_cons_succ]
        refine wpAnyH_take (i := 7) (oi := _) (v := .int .i64 (d : Int)) rfl (by kernel_rfl) (by kernel_rfl) (by kernel_rfl) (fun _ _ _ h => h) (Or.inl ⟨by rfl, ?_⟩) (by assumption) ?_
        · intro w hSw; (try dsimp only at hSw); go_simp
        simp only [Act.put, List.getElem_toArray, List.getElem_cons_zero, List.getElem_cons_succ, List.setIfInBounds_toArray, List.set_cons_zero, List.set_cons_succ]
        refine wpAnyH_take (i := 8) (oi := _) (v := .pointer (some ⟨g3, d, none⟩)) rfl (by kernel_rfl) (by kernel_rfl) (by kernel_rfl) (fun _ _ _ h => h) (Or.inl ⟨by rfl, ?_⟩) (by assumption) ?_
        · intro w hSw; (try dsimp only at hSw); go_simp
        simp only [Act.put, List.getElem_toArray, List.getElem_cons_zero, List.getElem_cons_succ, List.setIfInBounds_toArray, List.set_cons_zero, List.set_cons_succ]
        refine wpAnyH_take (i := 10) (oi := _) (v := .agg #[.bool l.1, .int .i64 l.2.1, .int .i64 (d : Int), .int .u64 l.2.2.2.1, .slice ta tn tc]) rfl (by kernel_rfl) (by kernel_rfl) (by kernel_rfl) (fun _ _ _ h => h) (Or.inl ⟨by rfl, ?_⟩) (by assumption) ?_
        · intro w hSw; (try dsimp only at hSw); go_simp
        simp only [Act.put, List.getElem_toArray, List.getElem_cons_zero, List.getElem_cons_succ, List.setIfInBounds_toArray, List.set_cons_zero, List.set_cons_succ]
        refine wpAnyH_ready (rs := [9, 11]) (by kernel_rfl) (by simp) ?_
        refine AllReadyH.cons (o := _) rfl (fun K hK => ?_) (AllReadyH.cons (o := _) rfl (fun K hK => ?_) AllReadyH.nil)
        · go_simp
          refine hK.out _ _ ?_ (fun hHeld => ?_)
          · exact HSK.out _ (by repeat (first | assumption | exact Below.refl _ _ | refine Below.drew ?_ | refine Below.alloc ?_ (by first | (simp; done) | (simp; omega) | omega) _))
          clear hK K
          try simp only [Act.put, List.getElem_toArray, List.getElem_cons_zero, List.getElem_cons_succ, List.setIfInBounds_toArray, List.set_cons_zero, List.set_cons_succ]
          refine wpAnyH_ready (rs := [11]) (by kernel_rfl) (by simp) ?_
          refine AllReadyH.cons (o := _) rfl (fun K hK => ?_) AllReadyH.nil
          go_simp
          refine hK.out _ _ ?_ (fun hHeld => ?_)
          · exact HSK.out _ (by repeat (first | assumption | exact Below.refl _ _ | refine Below.drew ?_ | refine Below.alloc ?_ (by first | (simp; done) | (simp; omega) | omega) _))
          clear hK K
          try simp only [Act.put, List.getElem_toArray, List.getElem_cons_zero, List.getElem_cons_succ, List.setIfInBounds_toArray, List.set_cons_zero, List.set_cons_succ]
          refine wpAnyH_ready (rs := [12]) (by kernel_rfl) (by simp) ?_
          refine AllReadyH.cons (o := _) rfl (fun K hK => ?_) AllReadyH.nil
          refine step_append_row3 rfl (.tmp 68) (.tmp 70) 74 rfl B0 46 il _ 5 56 Try.underlying74 hil hl0 hl1 hl2 rfl (by decide) a' n' c' vs ?_ ?hown (some ⟨w3.heap.size + 1 + 1, 0, none⟩) 1 1 [.bool l.1, .int .i64 l.2.1, .int .i64 (d : Int), .int .u64 l.2.2.2.1, .slice ta tn tc] ?_ ?hcel (by simp [Value.oneCell']) h63 h47 ?hbs ?_
          case hown => exact HVS.out _ (G7.out _ (by repeat (first | assumption | exact Below.refl _ _ | refine Below.drew ?_ | refine Below.alloc ?_ (by first | (simp; done) | (simp; omega) | omega) _))).1
          case hcel => first | exact HCEL.out | exact HCEL.out.keep ((Below.refl _ _).drew)
          case hbs => exact Nat.le_trans HB3.out (G7.out _ (by repeat (first | assumption | exact Below.refl _ _ | refine Below.drew ?_ | refine Below.alloc ?_ (by first | (simp; done) | (simp; omega) | omega) _))).1.size
          go_simp; go_simp; intro a5 c5 w7 ow7 gr7 sm7
          have hF := HF.out _ w7 a5 c5 (G7.out _ (by repeat (first | assumption | exact Below.refl _ _ | refine Below.drew ?_ | refine Below.alloc ?_ (by first | (simp; done) | (simp; omega) | omega) _))).1 (G7.out _ (by repeat (first | assumption | exact Below.refl _ _ | refine Below.drew ?_ | refine Below.alloc ?_ (by first | (simp; done) | (simp; omega) | omega) _))).2.1 (G7.out _ (by repeat (first | assumption | exact Below.refl _ _ | refine Below.drew ?_ | refine Below.alloc ?_ (by first | (simp; done) | (simp; omega) | omega) _))).2.2 ow7 gr7 sm7
          have hS7 : w7.cell? ⟨w3.heap.size, 2, none⟩ = some (.slice (some ⟨g3, 0, none⟩) bn c3) ∧ w7.cell? ⟨w3.heap.size + 1, 0, none⟩ = some (.bool l.1) ∧ w7.cell? ⟨w3.heap.size + 1, 1, none⟩ = some (.int .i64 l.2.1) ∧ w7.cell? ⟨w3.heap.size + 1, 2, none⟩ = some (.int .i64 (d : Int)) ∧ w7.cell? ⟨w3.heap.size + 1, 3, none⟩ = some (.int .u64 l.2.2.2.1) ∧ w7.cell? ⟨w3.heap.size + 1, 4, none⟩ = some (.slice ta tn tc) := ⟨(hF.1.1 2 _ rfl).1, (hF.1.2.1 0 _ rfl).1, (hF.1.2.1 1 _ rfl).1, (hF.1.2.1 2 _ rfl).1, (hF.1.2.1 3 _ rfl).1, (hF.1.2.1 4 _ rfl).1⟩
          have hK8 := hF.1.2.1.far ⟨g3, d, none⟩ (.slice a5 (n' + 1) c5) (by show g3 ≠ _; omega)
          have hS8 := And.intro (hF.2.1.1 2 _ rfl).1 (And.intro (hK8 0 _ rfl).1 (And.intro (hK8 1 _ rfl).1 (And.intro (hK8 2 _ rfl).1 (And.intro (hK8 3 _ rfl).1 (hK8 4 _ rfl).1))))
          have hc7 := hF.1.2.2.1
          have hf7 := hF.1.2.2.2
          have HG := Lib.hid hF.2
          clear hF ow7 gr7 sm7 hK8
          refine hK.out _ _ ?_ (fun hHeld => ?_)
          · exact hS7
          clear hK K
          try simp only [Act.put, List.getElem_toArray, List.getElem_cons_zero, List.getElem_cons_succ, List.setIfInBounds_toArray, List.set_cons_zero, List.set_cons_succ]
          refine wpAnyH_ready (rs := [13]) (by kernel_rfl) (by simp) ?_
          refine AllReadyH.cons (o := _) rfl (fun K hK => ?_) AllReadyH.nil
          go_simp
          refine hK.out _ _ ?_ (fun hHeld => ?_)
          · exact hS7
          clear hK K
          try simp only [Act.put, List.getElem_toArray, List.getElem_cons_zero, List.getElem_cons_succ, List.setIfInBounds_toArray, List.set_cons_zero, List.set_cons_succ]
          refine wpAnyH_ready (rs := [14]) (by kernel_rfl) (by simp) ?_
          refine AllReadyH.cons (o := _) rfl (fun K hK => ?_) AllReadyH.nil
          go_simp
          refine hK.out _ _ ?_ (fun hHeld => ?_)
          · exact hS8
          clear hK K
          try simp only [Act.put, List.getElem_toArray, List.getElem_cons_zero, List.getElem_cons_succ, List.setIfInBounds_toArray, List.set_cons_zero, List.set_cons_succ]
          refine wpAnyH_done (by kernel_rfl) ?_ _
          obtain ⟨⟨KK8, y2, u2⟩, ⟨KK9, ZZ9⟩, HEnd⟩ := HG.out
          obtain ⟨r0, _⟩ := KK8 1 _ rfl
          obtain ⟨⟨r1, _⟩, ⟨r2, _⟩, ⟨r3, _⟩⟩ := (⟨KK9 0 _ rfl, KK9 1 _ rfl, KK9 2 _ rfl⟩ : _ ∧ _ ∧ _)
          obtain ⟨⟨d0, e0⟩, ⟨d1, e1⟩, ⟨d2, e2⟩⟩ := (⟨ZZ9 0 _ rfl, ZZ9 1 _ rfl, ZZ9 2 _ rfl⟩ : _ ∧ _ ∧ _)
          have HEnd' := Lib.hid HEnd
          clear HEnd KK8 KK9 ZZ9 HG hS7 hS8 hc7 hf7 hHeld HF G7 HSK HCEL HVS HB3
          go_wp2
          refine bodyPost_ret (v := .tuple #[.agg #[.slice a1 qn c1, .slice (some ⟨g2, 0, none⟩) cn c2, .slice (some ⟨g3, 0, none⟩) bn c3], .bool true]) (by simp [results, Try.results57, go_sem, *]) rfl ?_
          rw [HQ2.out]
          exact HEnd'.out _ _ _
        · go_simp
          refine hK.out _ _ ?_ (fun hHeld => ?_)
          · exact HSK.out _ (by repeat (first | assumption | exact Below.refl _ _ | refine Below.drew ?_ | refine Below.alloc ?_ (by first | (simp; done) | (simp; omega) | omega) _))
          clear hK K
          try simp only [Act.put, List.getElem_toArray, List.getElem_cons_zero, List.getElem_cons_succ, List.setIfInBounds_toArray, List.set_cons_zero, List.set_cons_succ]
          refine wpAnyH_ready (rs := [9]) (by kernel_rfl) (by simp) ?_
          refine AllReadyH.cons (o := _) rfl (fun K hK => ?_) AllReadyH.nil
          go_simp
          refine hK.out _ _ ?_ (fun hHeld => ?_)
          · exact HSK.out _ (by repeat (first | assumption | exact Below.refl _ _ | refine Below.drew ?_ | refine Below.alloc ?_ (by first | (simp; done) | (simp; omega) | omega) _))
          clear hK K
          try simp only [Act.put, List.getElem_toArray, List.getElem_cons_zero, List.getElem_cons_succ, List.setIfInBounds_toArray, List.set_cons_zero, List.set_cons_succ]
          refine wpAnyH_ready (rs := [12]) (by kernel_rfl) (by simp) ?_
          refine AllReadyH.cons (o := _) rfl (fun K hK => ?_) AllReadyH.nil
          refine step_append_row3 rfl (.tmp 68) (.tmp 70) 74 rfl B0 46 il _ 5 56 Try.underlying74 hil hl0 hl1 hl2 rfl (by decide) a' n' c' vs ?_ ?hown (some ⟨w3.heap.size + 1 + 1, 0, none⟩) 1 1 [.bool l.1, .int .i64 l.2.1, .int .i64 (d : Int), .int .u64 l.2.2.2.1, .slice ta tn tc] ?_ ?hcel (by simp [Value.oneCell']) h63 h47 ?hbs ?_
          case hown => exact HVS.out _ (G7.out _ (by repeat (first | assumption | exact Below.refl _ _ | refine Below.drew ?_ | refine Below.alloc ?_ (by first | (simp; done) | (simp; omega) | omega) _))).1
          case hcel => first | exact HCEL.out | exact HCEL.out.keep ((Below.refl _ _).drew)
          case hbs => exact Nat.le_trans HB3.out (G7.out _ (by repeat (first | assumption | exact Below.refl _ _ | refine Below.drew ?_ | refine Below.alloc ?_ (by first | (simp; done) | (simp; omega) | omega) _))).1.size
          go_simp; go_simp; intro a5 c5 w7 ow7 gr7 sm7
          have hF := HF.out _ w7 a5 c5 (G7.out _ (by repeat (first | assumption | exact Below.refl _ _ | refine Below.drew ?_ | refine Below.alloc ?_ (by first | (simp; done) | (simp; omega) | omega) _))).1 (G7.out _ (by repeat (first | assumption | exact Below.refl _ _ | refine Below.drew ?_ | refine Below.alloc ?_ (by first | (simp; done) | (simp; omega) | omega) _))).2.1 (G7.out _ (by repeat (first | assumption | exact Below.refl _ _ | refine Below.drew ?_ | refine Below.alloc ?_ (by first | (simp; done) | (simp; omega) | omega) _))).2.2 ow7 gr7 sm7
          have hS7 : w7.cell? ⟨w3.heap.size, 2, none⟩ = some (.slice (some ⟨g3, 0, none⟩) bn c3) ∧ w7.cell? ⟨w3.heap.size + 1, 0, none⟩ = some (.bool l.1) ∧ w7.cell? ⟨w3.heap.size + 1, 1, none⟩ = some (.int .i64 l.2.1) ∧ w7.cell? ⟨w3.heap.size + 1, 2, none⟩ = some (.int .i64 (d : Int)) ∧ w7.cell? ⟨w3.heap.size + 1, 3, none⟩ = some (.int .u64 l.2.2.2.1) ∧ w7.cell? ⟨w3.heap.size + 1, 4, none⟩ = some (.slice ta tn tc) := ⟨(hF.1.1 2 _ rfl).1, (hF.1.2.1 0 _ rfl).1, (hF.1.2.1 1 _ rfl).1, (hF.1.2.1 2 _ rfl).1, (hF.1.2.1 3 _ rfl).1, (hF.1.2.1 4 _ rfl).1⟩
          have hK8 := hF.1.2.1.far ⟨g3, d, none⟩ (.slice a5 (n' + 1) c5) (by show g3 ≠ _; omega)
          have hS8 := And.intro (hF.2.1.1 2 _ rfl).1 (And.intro (hK8 0 _ rfl).1 (And.intro (hK8 1 _ rfl).1 (And.intro (hK8 2 _ rfl).1 (And.intro (hK8 3 _ rfl).1 (hK8 4 _ rfl).1))))
          have hc7 := hF.1.2.2.1
          have hf7 := hF.1.2.2.2
          have HG := Lib.hid hF.2
          clear hF ow7 gr7 sm7 hK8
          refine hK.out _ _ ?_ (fun hHeld => ?_)
          · exact hS7
          clear hK K
          try simp only [Act.put, List.getElem_toArray, List.getElem_cons_zero, List.getElem_cons_succ, List.setIfInBounds_toArray, List.set_cons_zero, List.set_cons_succ]
          refine wpAnyH_ready (rs := [13]) (by kernel_rfl) (by simp) ?_
          refine AllReadyH.cons (o := _) rfl (fun K hK => ?_) AllReadyH.nil
          go_simp
          refine hK.out _ _ ?_ (fun hHeld => ?_)
          · exact hS7
          clear hK K
          try simp only [Act.put, List.getElem_toArray, List.getElem_cons_zero, List.getElem_cons_succ, List.setIfInBounds_toArray, List.set_cons_zero, List.set_cons_succ]
          refine wpAnyH_ready (rs := [14]) (by kernel_rfl) (by simp) ?_
          refine AllReadyH.cons (o := _) rfl (fun K hK => ?_) AllReadyH.nil
          go_simp
          refine hK.out _ _ ?_ (fun hHeld => ?_)
          · exact hS8
          clear hK K
          try simp only [Act.put, List.getElem_toArray, List.getElem_cons_zero, List.getElem_cons_succ, List.setIfInBounds_toArray, List.set_cons_zero, List.set_cons_succ]
          refine wpAnyH_done (by kernel_rfl) ?_ _
          obtain ⟨⟨KK8, y2, u2⟩, ⟨KK9, ZZ9⟩, HEnd⟩ := HG.out
          obtain ⟨r0, _⟩ := KK8 1 _ rfl
          obtain ⟨⟨r1, _⟩, ⟨r2, _⟩, ⟨r3, _⟩⟩ := (⟨KK9 0 _ rfl, KK9 1 _ rfl, KK9 2 _ rfl⟩ : _ ∧ _ ∧ _)
          obtain ⟨⟨d0, e0⟩, ⟨d1, e1⟩, ⟨d2, e2⟩⟩ := (⟨ZZ9 0 _ rfl, ZZ9 1 _ rfl, ZZ9 2 _ rfl⟩ : _ ∧ _ ∧ _)
          have HEnd' := Lib.hid HEnd
          clear HEnd KK8 KK9 ZZ9 HG hS7 hS8 hc7 hf7 hHeld HF G7 HSK HCEL HVS HB3
          go_wp2
          refine bodyPost_ret (v := .tuple #[.agg #[.slice a1 qn c1, .slice (some ⟨g2, 0, none⟩) cn c2, .slice (some ⟨g3, 0, none⟩) bn c3], .bool true]) (by simp [results, Try.results57, go_sem, *]) rfl ?_
          rw [HQ2.out]
          exact HEnd'.out _ _ _
end Go.Proofs.Ytmkfpfnjimmmaaa
