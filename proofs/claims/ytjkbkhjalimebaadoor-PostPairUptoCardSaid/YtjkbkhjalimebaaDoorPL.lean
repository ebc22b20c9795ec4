/- The words of the references that the laws of post use. Printed by gen.py. -/
import Derived.Test.YtjkbkhjalimebaaDoorPM
namespace Go.Proofs.YtjkbkhjalimebaaDoor
open Go.RowKit DoorU
set_option linter.unusedVariables false
set_option linter.unusedSimpArgs false
set_option maxRecDepth 100000
set_option maxHeartbeats 1000000

namespace DoorU
def rnodF (c : Cfg) : Int := i64 (i64 (i64 (1 + c.2.1) + c.2.2.1) + c.2.2.2.1)
def sz1 (n : Nat) : Int := i64 (1 + i64 (Int.tdiv n 64))
def itSum : Int → List Itm → Int
  | s, [] => s
  | s, x :: r => itSum (i64 (s + sz1 x.2.1.length)) r
def bsSum : Int → List (List Int) → Int
  | s, [] => s
  | s, x :: r => bsSum (i64 (s + sz1 x.length)) r
def fewO (o : Ouq) : Bool := decide (bsSum (itSum 0 o.2.1) o.2.2.1 ≤ 150)
def fewI (i : Inq) : Bool := decide (itSum 0 i.2.1 ≤ 150)
def fewPe (q : Pee) : Bool := fewO q.2.1 && (fewI q.2.2.1 && !decide (30 < (q.2.1.2.1.length : Int)))
def fewP (p : Pos) : Bool := p.2.2.1.all fewPe && (decide ((p.2.2.1.length : Int) ≤ 8) && decide ((p.2.1.2.2.1.length : Int) ≤ 60))
def mayF (c : Cfg) (p : Pos) : Bool := kchkF c == 0 && fewP p
def stp : Sta := (1, 1, List.map up1 [0, 1], ())
def pA : Pos := (0, stp, [], ())
def pB : Pos := (1, zSt, [], ())
def f0 : Fra := (0, 1, stp, 1, 0, [7], ())
def plainC : Cfg := ([], 2, 1, 2, 3, 4, 20, 5, 4, 1, 1, ())
def liL : List Par := iparF plainC (sndP plainC pA 1 [7] 0) 1 [itm 0 [7] 0] true
theorem liL_eq : liL = [(1, frPutF (pairF plainC 0 1) f0, true, ())] := by
  have h : frChk f0 = 0 := by decide
  unfold liL
  simp only [iparF, List.flatMap_cons, List.flatMap_nil, List.append_nil]
  show parF plainC f0 true = _
  rw [parF, if_pos h]
  rfl
theorem liveB : ∃ (Q : Pos) (L : List Par), ptF plainC pB 0 (frPutF (pairF plainC 0 1) f0) 1 = (Q, [[7]], L, 0, ()) ∧ Q.2.1.1 = 1 ∧ L.length = 1 := by
  obtain ⟨t0, t1⟩ := frTk_put (pairF plainC 0 1) (f := f0) (by decide) (by unfold okSt okW; decide)
  have hno : ¬ (isNodeF plainC 0 = false ∨ (0 : Int) = pB.1) := by decide
  have h1 : ¬ (f0.1 ≠ (0 : Int) ∨ f0.2.1 ≠ pB.1) := by decide
  have h2 : ¬ (stCmp f0.2.2.1 pB.2.1 < 0 ∨ (stCmp f0.2.2.1 pB.2.1 = 0 ∧ stSame f0.2.2.1 pB.2.1 = false)) := by decide
  have h3 : ¬ f0.2.2.2.1 = 2 := by decide
  have hG : ptF plainC pB 0 (frPutF (pairF plainC 0 1) f0) 1 = (tkTP plainC pB 0 f0, (tkT plainC pB 0 f0).2.1, parF plainC ((goF pB f0.2.2.1).1, 0, (goF pB f0.2.2.1).2.1, 2, (tkT plainC pB 0 f0).2.2.1, [], ()) false, 0, ()) := by
    rw [ptF, if_neg hno, show pairF plainC 0 pB.1 = pairF plainC 0 1 from rfl, if_neg (fun h => h t0), t1, ptG, if_neg h1, if_neg h2, if_neg h3]
  have hg : goF pB f0.2.2.1 = (1, stp, [], ()) := by rw [goF, if_neg (by decide)]; rfl
  have hT : (tkT plainC pB 0 f0).2.1 = [[7]] := by unfold tkT; rw [hg]; decide
  have hN : (tkT plainC pB 0 f0).2.2.1 = 1 := by unfold tkT; rw [hg]; decide
  refine ⟨_, _, by rw [hG, hT], ?_, ?_⟩
  · show (goF pB f0.2.2.1).2.1.1 = 1
    rw [hg]
    rfl
  · rw [hg, hN, parF, if_pos (by decide)]
    rfl
theorem byt_app {a b : List Int} (ha : byt a) (hb : byt b) : byt (a ++ b) := fun x hx => (List.mem_append.1 hx).elim (ha x) (hb x)
theorem w8_byt (n : Int) : byt [w8 n] := fun x hx => by
  rw [List.mem_singleton] at hx
  subst hx
  show 0 ≤ IntKind.u8.wrap n ∧ IntKind.u8.wrap n < 256
  rw [w8_of]
  omega
theorem frHd_byt {f : Fra} (hb : byt f.2.2.2.2.2.1) : byt (frHd f) := by
  unfold frHd stL
  refine byt_app (byt_app (byt_app (byt_app (byt_app (byt_app (w8_byt _) (w8_byt _)) (byt_app (byt_app (byt_app (putI_byt _ _) (putI_byt _ _)) (w8_byt _)) fun x hx => ?_)) (w8_byt _)) (putI_byt _ _)) (putI_byt _ _)) hb
  obtain ⟨y, _, rfl⟩ := List.mem_map.1 hx
  exact w8_byt y _ (List.mem_singleton.2 rfl)
theorem frPutF_byt (k : List Int) {f : Fra} (hb : byt f.2.2.2.2.2.1) : byt (frPutF k f) := by
  unfold frPutF
  split
  · exact byt_app (frHd_byt hb) (tagF_byt _ _)
  · exact fun x hx => by cases hx
theorem frPutF_len (k : List Int) {f : Fra} (h : frChk f = 0) : (frPutF k f).length = 60 + f.2.2.1.2.2.1.length + f.2.2.2.2.2.1.length := by
  rw [frPutF, if_pos h, List.length_append, frHd_len, tagF_len]
  omega
end DoorU
abbrev aPe : Sh := .agg (shOf true tPe)
abbrev vC : Sh := .agg (shOf false tC)
def S_rwit : Spec := ⟨.pair nI (.pair nI (.pair nI .unit)), .pair .bool .unit, fun _ => True, fun (x : Int × Int × Int × Unit) => ((wit x.1 x.2.1 x.2.2.1, ()) : Bool × Unit)⟩
def S_rchk : Spec := ⟨.pair aC .unit, .pair nI .unit, fun _ => True, fun (x : Cfg × Unit) => ((kchkF x.1, ()) : Int × Unit)⟩
def S_rnod : Spec := ⟨.pair aC .unit, .pair nI .unit, fun _ => True, fun (x : Cfg × Unit) => ((rnodF x.1, ()) : Int × Unit)⟩
def S_fewo : Spec := ⟨.pair aOut .unit, .pair .bool .unit, fun (x : Ouq × Unit) => x.1.2.1.length ≤ big ∧ x.1.2.2.1.length ≤ big, fun (x : Ouq × Unit) => ((fewO x.1, ()) : Bool × Unit)⟩
def A_fewo (x : Ouq × Unit) : Nat → Option LA
  | 0 => some ⟨[11, 3], [], .pair nI (.pair nI .unit), fun (v : Int × Int × Unit) => 0 ≤ v.1 ∧ v.1 ≤ (x.1.2.1.length : Nat) ∧ itSum v.2.1 (x.1.2.1.drop v.1.toNat) = itSum 0 x.1.2.1, fun (v : Int × Int × Unit) => ((x.1.2.1.length : Nat) - v.1).toNat⟩
  | 1 => some ⟨[26, 3], [], .pair nI (.pair nI .unit), fun (v : Int × Int × Unit) => 0 ≤ v.1 ∧ v.1 ≤ (x.1.2.2.1.length : Nat) ∧ bsSum v.2.1 (x.1.2.2.1.drop v.1.toNat) = bsSum (itSum 0 x.1.2.1) x.1.2.2.1, fun (v : Int × Int × Unit) => ((x.1.2.2.1.length : Nat) - v.1).toNat⟩
  | _ => none
def S_fewi : Spec := ⟨.pair aIn .unit, .pair .bool .unit, fun (x : Inq × Unit) => x.1.2.1.length ≤ big, fun (x : Inq × Unit) => ((fewI x.1, ()) : Bool × Unit)⟩
def A_fewi (x : Inq × Unit) : Nat → Option LA
  | 0 => some ⟨[9, 3], [], .pair nI (.pair nI .unit), fun (v : Int × Int × Unit) => 0 ≤ v.1 ∧ v.1 ≤ (x.1.2.1.length : Nat) ∧ itSum v.2.1 (x.1.2.1.drop v.1.toNat) = itSum 0 x.1.2.1, fun (v : Int × Int × Unit) => ((x.1.2.1.length : Nat) - v.1).toNat⟩
  | _ => none
def S_few : Spec := ⟨.pair aPo .unit, .pair .bool .unit, fun (x : Pos × Unit) => okPo x.1, fun (x : Pos × Unit) => ((fewP x.1, ()) : Bool × Unit)⟩
def A_few (x : Pos × Unit) : Nat → Option LA
  | 0 => some ⟨[8], [], .pair nI .unit, fun (v : Int × Unit) => 0 ≤ v.1 ∧ v.1 ≤ (x.1.2.2.1.length : Nat) ∧ (x.1.2.2.1.drop v.1.toNat).all fewPe = x.1.2.2.1.all fewPe, fun (v : Int × Unit) => ((x.1.2.2.1.length : Nat) - v.1).toNat⟩
  | _ => none
def S_plain : Spec := ⟨.unit, .pair vC .unit, fun _ => True, fun (x : Unit) => ((plainC, ()) : Cfg × Unit)⟩
def S_may : Spec := ⟨.pair aC (.pair aPo .unit), .pair .bool .unit, fun (x : Cfg × Pos × Unit) => okPo x.2.1, fun (x : Cfg × Pos × Unit) => ((mayF x.1 x.2.1, ()) : Bool × Unit)⟩
def S_live : Spec := ⟨.unit, .pair .bool .unit, fun _ => True, fun (x : Unit) => ((true, ()) : Bool × Unit)⟩

theorem vc_rwit : VC Tryd.prog Tryd.f64 (bodyOf Tryd.f64) S_rwit [] (fun _ _ => none) = (∀ (x : Int × Int × Int × Unit), True →
  bif decide (x.snd.fst ≤ x.fst) then (decide (x.fst ≤ x.snd.snd.fst), ()) = (wit x.fst x.snd.fst x.snd.snd.fst, ()) else (false, ()) = (wit x.fst x.snd.fst x.snd.snd.fst, ())) := by kernel_rfl
theorem en_rwit (us : Array Value) (u : World) : (callFunc 64 us).run Tryd.prog u = .ok (.enter 64 us) u := by kernel_rfl
theorem sc_rwit : SC Tryd.prog 64 S_rwit := by
  refine SC.of Tryd.func64 (c := bodyOf Tryd.f64) (by kernel_rfl) (by kernel_rfl) (fun x => (by decide : (3:Nat) ≤ Tryd.f64.ntmps)) DOk.nil (Eq.mpr vc_rwit ?_)
  rintro ⟨n, a, b, ⟨⟩⟩ -
  dsimp only [wit]
  cases decide (a ≤ n) <;> rfl

theorem vc_rchk : VC Tryd.prog Tryd.f24 (bodyOf Tryd.f24) S_rchk [(64, S_rwit)] (fun _ _ => none) = (∀ (x : (List Int × Int × Int × Int × Int × Int × Int × Int × Int × Int × Int × Unit) × Unit), True →
  List.length x.fst.fst ≤ (9223372036854775807 : Nat) →
  List.length x.fst.fst ≤ (9223372036854775807 : Nat) →
  bif decide ((↑(List.length x.fst.fst) : Int) ≤ (64 : Int)) then True ∧ bif wit x.fst.snd.fst (1 : Int) (8 : Int) then True ∧ bif wit x.fst.snd.snd.fst (0 : Int) (8 : Int) then True ∧ bif wit x.fst.snd.snd.snd.fst (1 : Int) (8 : Int) then True ∧ bif wit x.fst.snd.snd.snd.snd.fst (1 : Int) (64 : Int) then True ∧ bif wit x.fst.snd.snd.snd.snd.snd.fst (1 : Int) (10000 : Int) then bif decide (x.fst.snd.snd.snd.snd.snd.fst < x.fst.snd.snd.snd.snd.snd.snd.fst) then bif decide (x.fst.snd.snd.snd.snd.snd.snd.fst ≤ (10000 : Int)) then True ∧ bif wit x.fst.snd.snd.snd.snd.snd.snd.snd.fst (1 : Int) (10000 : Int) then True ∧ bif !wit x.fst.snd.snd.snd.snd.snd.snd.snd.snd.fst (1 : Int) (64 : Int) then ((1 : Int), ()) = (kchkF x.fst, ()) else bif decide (x.fst.snd.snd.snd.snd.snd.snd.snd.snd.snd.fst < (1 : Int)) then ((1 : Int), ()) = (kchkF x.fst, ()) else bif decide (x.fst.snd.snd.snd.snd.snd.snd.snd.snd.snd.snd.fst < (1 : Int)) then ((1 : Int), ()) = (kchkF x.fst, ()) else ((0 : Int), ()) = (kchkF x.fst, ()) else ((1 : Int), ()) = (kchkF x.fst, ()) else ((1 : Int), ()) = (kchkF x.fst, ()) else ((1 : Int), ()) = (kchkF x.fst, ()) else ((1 : Int), ()) = (kchkF x.fst, ()) else ((1 : Int), ()) = (kchkF x.fst, ()) else ((1 : Int), ()) = (kchkF x.fst, ()) else ((1 : Int), ()) = (kchkF x.fst, ()) else ((1 : Int), ()) = (kchkF x.fst, ()) else ((1 : Int), ()) = (kchkF x.fst, ())) := by kernel_rfl
theorem en_rchk (us : Array Value) (u : World) : (callFunc 24 us).run Tryd.prog u = .ok (.enter 24 us) u := by kernel_rfl
theorem sc_rchk : SC Tryd.prog 24 S_rchk := by
  refine SC.of Tryd.func24 (c := bodyOf Tryd.f24) (by kernel_rfl) (by kernel_rfl) (fun x => (by decide : (1:Nat) ≤ Tryd.f24.ntmps)) (DOk.cons sc_rwit en_rwit DOk.nil) (Eq.mpr vc_rchk ?_)
  rintro ⟨⟨sd, ch, st, cl, qu, cs, lo, ag, wn, ro, sq, ⟨⟩⟩, ⟨⟩⟩ - - -
  have kc : ∀ c : Cfg, kchkF c = bif okC c then 0 else 1 := fun c => by
    unfold kchkF
    cases okC c <;> rfl
  rw [kc]
  dsimp only [okC]
  by_cases h1 : sd.length ≤ 64
  rotate_left 1
  · rw [decide_eq_false (by omega : ¬ (sd.length : Int) ≤ 64), decide_eq_false h1]; rfl
  rw [decide_eq_true (by omega : (sd.length : Int) ≤ 64), decide_eq_true h1, cond_true]
  refine ⟨trivial, ?_⟩
  cases wit ch 1 8
  · rfl
  rw [cond_true]
  refine ⟨trivial, ?_⟩
  cases wit st 0 8
  · rfl
  rw [cond_true]
  refine ⟨trivial, ?_⟩
  cases wit cl 1 8
  · rfl
  rw [cond_true]
  refine ⟨trivial, ?_⟩
  cases wit qu 1 64
  · rfl
  rw [cond_true]
  refine ⟨trivial, ?_⟩
  cases wit cs 1 10000
  · rfl
  rw [cond_true]
  by_cases h2 : cs < lo
  rotate_left 1
  · rw [decide_eq_false h2, decide_eq_true (by omega : lo ≤ cs)]; rfl
  rw [decide_eq_true h2, decide_eq_false (by omega : ¬ lo ≤ cs), cond_true]
  cases decide (lo ≤ 10000)
  · rfl
  rw [cond_true]
  refine ⟨trivial, ?_⟩
  cases wit ag 1 10000
  · rfl
  rw [cond_true]
  refine ⟨trivial, ?_⟩
  cases wit wn 1 64
  · rfl
  rw [Bool.not_true, cond_false]
  by_cases h3 : ro < 1
  · rw [decide_eq_true h3, decide_eq_false (by omega : ¬ (1 : Int) ≤ ro)]; rfl
  rw [decide_eq_false h3, decide_eq_true (by omega : (1 : Int) ≤ ro), cond_false]
  by_cases h4 : sq < 1
  · rw [decide_eq_true h4, decide_eq_false (by omega : ¬ (1 : Int) ≤ sq)]; rfl
  rw [decide_eq_false h4, decide_eq_true (by omega : (1 : Int) ≤ sq)]; rfl

theorem vc_rnod : VC Tryd.prog Tryd.f12 (bodyOf Tryd.f12) S_rnod [] (fun _ _ => none) = (∀ (x : (List Int × Int × Int × Int × Int × Int × Int × Int × Int × Int × Int × Unit) × Unit), True →
  List.length x.fst.fst ≤ (9223372036854775807 : Nat) →
  (IntKind.wrap IntKind.i64 (IntKind.wrap IntKind.i64 (IntKind.wrap IntKind.i64 ((1 : Int) + x.fst.snd.fst) + x.fst.snd.snd.fst) + x.fst.snd.snd.snd.fst), ()) = (rnodF x.fst, ())) := by kernel_rfl
theorem en_rnod (us : Array Value) (u : World) : (callFunc 12 us).run Tryd.prog u = .ok (.enter 12 us) u := by kernel_rfl
theorem sc_rnod : SC Tryd.prog 12 S_rnod := by
  refine SC.of Tryd.func12 (c := bodyOf Tryd.f12) (by kernel_rfl) (by kernel_rfl) (fun x => (by decide : (1:Nat) ≤ Tryd.f12.ntmps)) DOk.nil (Eq.mpr vc_rnod ?_)
  intro x _ _
  rfl

theorem vc_fewo : VC Tryd.prog Tryd.f78 (bodyOf Tryd.f78) S_fewo [] A_fewo = (∀ (x : (Int × List (Int × List Int × Int × Unit) × List (List Int) × Unit) × Unit), List.length x.fst.snd.fst ≤ big ∧ List.length x.fst.snd.snd.fst ≤ big →
  List.length x.fst.snd.fst ≤ (9223372036854775807 : Nat) →
  List.length x.fst.snd.snd.fst ≤ (9223372036854775807 : Nat) →
  List.length x.fst.snd.fst ≤ (9223372036854775807 : Nat) →
  ((0 : Int) ≤ (0 : Int) ∧ (0 : Int) ≤ (↑(List.length x.fst.snd.fst) : Int) ∧ itSum (0 : Int) (List.drop (Int.toNat (0 : Int)) x.fst.snd.fst) = itSum (0 : Int) x.fst.snd.fst) ∧ ∀ (v : Int × Int × Unit), (0 : Int) ≤ v.fst ∧ v.fst ≤ (↑(List.length x.fst.snd.fst) : Int) ∧ itSum v.snd.fst (List.drop (Int.toNat v.fst) x.fst.snd.fst) = itSum (0 : Int) x.fst.snd.fst →
  bif decide (v.fst < (↑(List.length x.fst.snd.fst) : Int)) then (0 : Int) ≤ v.fst ∧ v.fst < (↑(List.length x.fst.snd.fst) : Int) ∧ ∀ (c0 : Int × List Int × Int × Unit), x.fst.snd.fst[Int.toNat v.fst]? = some c0 →
  List.length c0.snd.fst ≤ (9223372036854775807 : Nat) →
  (64 : Int) ≠ (0 : Int) ∧ ((0 : Int) ≤ IntKind.wrap IntKind.i64 (v.fst + (1 : Int)) ∧ IntKind.wrap IntKind.i64 (v.fst + (1 : Int)) ≤ (↑(List.length x.fst.snd.fst) : Int) ∧ itSum (IntKind.wrap IntKind.i64 (v.snd.fst + IntKind.wrap IntKind.i64 ((1 : Int) + IntKind.wrap IntKind.i64 (Int.tdiv (↑(List.length c0.snd.fst) : Int) (64 : Int))))) (List.drop (Int.toNat (IntKind.wrap IntKind.i64 (v.fst + (1 : Int)))) x.fst.snd.fst) = itSum (0 : Int) x.fst.snd.fst) ∧ Int.toNat ((↑(List.length x.fst.snd.fst) : Int) - IntKind.wrap IntKind.i64 (v.fst + (1 : Int))) < Int.toNat ((↑(List.length x.fst.snd.fst) : Int) - v.fst) else List.length x.fst.snd.snd.fst ≤ (9223372036854775807 : Nat) →
  ((0 : Int) ≤ (0 : Int) ∧ (0 : Int) ≤ (↑(List.length x.fst.snd.snd.fst) : Int) ∧ bsSum v.snd.fst (List.drop (Int.toNat (0 : Int)) x.fst.snd.snd.fst) = bsSum (itSum (0 : Int) x.fst.snd.fst) x.fst.snd.snd.fst) ∧ ∀ (v : Int × Int × Unit), (0 : Int) ≤ v.fst ∧ v.fst ≤ (↑(List.length x.fst.snd.snd.fst) : Int) ∧ bsSum v.snd.fst (List.drop (Int.toNat v.fst) x.fst.snd.snd.fst) = bsSum (itSum (0 : Int) x.fst.snd.fst) x.fst.snd.snd.fst →
  bif decide (v.fst < (↑(List.length x.fst.snd.snd.fst) : Int)) then (0 : Int) ≤ v.fst ∧ v.fst < (↑(List.length x.fst.snd.snd.fst) : Int) ∧ ∀ (c0 : List Int), x.fst.snd.snd.fst[Int.toNat v.fst]? = some c0 →
  List.length c0 ≤ (9223372036854775807 : Nat) →
  (64 : Int) ≠ (0 : Int) ∧ ((0 : Int) ≤ IntKind.wrap IntKind.i64 (v.fst + (1 : Int)) ∧ IntKind.wrap IntKind.i64 (v.fst + (1 : Int)) ≤ (↑(List.length x.fst.snd.snd.fst) : Int) ∧ bsSum (IntKind.wrap IntKind.i64 (v.snd.fst + IntKind.wrap IntKind.i64 ((1 : Int) + IntKind.wrap IntKind.i64 (Int.tdiv (↑(List.length c0) : Int) (64 : Int))))) (List.drop (Int.toNat (IntKind.wrap IntKind.i64 (v.fst + (1 : Int)))) x.fst.snd.snd.fst) = bsSum (itSum (0 : Int) x.fst.snd.fst) x.fst.snd.snd.fst) ∧ Int.toNat ((↑(List.length x.fst.snd.snd.fst) : Int) - IntKind.wrap IntKind.i64 (v.fst + (1 : Int))) < Int.toNat ((↑(List.length x.fst.snd.snd.fst) : Int) - v.fst) else (decide (v.snd.fst ≤ (150 : Int)), ()) = (fewO x.fst, ())) := by kernel_rfl
theorem en_fewo (us : Array Value) (u : World) : (callFunc 78 us).run Tryd.prog u = .ok (.enter 78 us) u := by kernel_rfl
theorem sc_fewo : SC Tryd.prog 78 S_fewo := by
  refine SC.of Tryd.func78 (c := bodyOf Tryd.f78) (by kernel_rfl) (by kernel_rfl) (fun x => (by decide : (1:Nat) ≤ Tryd.f78.ntmps)) DOk.nil (Eq.mpr vc_fewo ?_)
  rintro ⟨⟨n, l, w, ⟨⟩⟩, ⟨⟩⟩ ⟨h1, h2⟩ - - -
  dsimp only at h1 h2 ⊢
  have e1 : l.length ≤ 1000000000 := h1
  have e2 : w.length ≤ 1000000000 := h2
  refine ⟨⟨Int.le_refl 0, by omega, rfl⟩, ?_⟩
  rintro ⟨i, s, ⟨⟩⟩ ⟨q0, q1, hg⟩
  dsimp only at q0 q1 hg ⊢
  have wi : IntKind.i64.wrap (i + 1) = i + 1 := IntWalk.i64_in _ (by omega)
  by_cases hi : i < (l.length : Int)
  · rw [decide_eq_true hi, cond_true, wi]
    refine ⟨q0, hi, fun c hc _ => ?_⟩
    rw [drop_of hc, itSum] at hg
    refine ⟨by decide, ⟨by omega, by omega, ?_⟩, by omega⟩
    rw [show (i + 1).toNat = i.toNat + 1 by omega]
    exact hg
  rw [decide_eq_false hi, cond_false]
  rw [List.drop_eq_nil_of_le (by omega), itSum] at hg
  intro _
  subst hg
  refine ⟨⟨Int.le_refl 0, by omega, rfl⟩, ?_⟩
  rintro ⟨k, s, ⟨⟩⟩ ⟨k0, k1, hg⟩
  dsimp only at k0 k1 hg ⊢
  have wk : IntKind.i64.wrap (k + 1) = k + 1 := IntWalk.i64_in _ (by omega)
  by_cases hk : k < (w.length : Int)
  · rw [decide_eq_true hk, cond_true, wk]
    refine ⟨k0, hk, fun c hc _ => ?_⟩
    rw [drop_of hc, bsSum] at hg
    refine ⟨by decide, ⟨by omega, by omega, ?_⟩, by omega⟩
    rw [show (k + 1).toNat = k.toNat + 1 by omega]
    exact hg
  · rw [decide_eq_false hk, cond_false]
    rw [List.drop_eq_nil_of_le (by omega), bsSum] at hg
    rw [hg]
    rfl

theorem vc_fewi : VC Tryd.prog Tryd.f79 (bodyOf Tryd.f79) S_fewi [] A_fewi = (∀ (x : (Int × List (Int × List Int × Int × Unit) × Unit) × Unit), List.length x.fst.snd.fst ≤ big →
  List.length x.fst.snd.fst ≤ (9223372036854775807 : Nat) →
  List.length x.fst.snd.fst ≤ (9223372036854775807 : Nat) →
  ((0 : Int) ≤ (0 : Int) ∧ (0 : Int) ≤ (↑(List.length x.fst.snd.fst) : Int) ∧ itSum (0 : Int) (List.drop (Int.toNat (0 : Int)) x.fst.snd.fst) = itSum (0 : Int) x.fst.snd.fst) ∧ ∀ (v : Int × Int × Unit), (0 : Int) ≤ v.fst ∧ v.fst ≤ (↑(List.length x.fst.snd.fst) : Int) ∧ itSum v.snd.fst (List.drop (Int.toNat v.fst) x.fst.snd.fst) = itSum (0 : Int) x.fst.snd.fst →
  bif decide (v.fst < (↑(List.length x.fst.snd.fst) : Int)) then (0 : Int) ≤ v.fst ∧ v.fst < (↑(List.length x.fst.snd.fst) : Int) ∧ ∀ (c0 : Int × List Int × Int × Unit), x.fst.snd.fst[Int.toNat v.fst]? = some c0 →
  List.length c0.snd.fst ≤ (9223372036854775807 : Nat) →
  (64 : Int) ≠ (0 : Int) ∧ ((0 : Int) ≤ IntKind.wrap IntKind.i64 (v.fst + (1 : Int)) ∧ IntKind.wrap IntKind.i64 (v.fst + (1 : Int)) ≤ (↑(List.length x.fst.snd.fst) : Int) ∧ itSum (IntKind.wrap IntKind.i64 (v.snd.fst + IntKind.wrap IntKind.i64 ((1 : Int) + IntKind.wrap IntKind.i64 (Int.tdiv (↑(List.length c0.snd.fst) : Int) (64 : Int))))) (List.drop (Int.toNat (IntKind.wrap IntKind.i64 (v.fst + (1 : Int)))) x.fst.snd.fst) = itSum (0 : Int) x.fst.snd.fst) ∧ Int.toNat ((↑(List.length x.fst.snd.fst) : Int) - IntKind.wrap IntKind.i64 (v.fst + (1 : Int))) < Int.toNat ((↑(List.length x.fst.snd.fst) : Int) - v.fst) else (decide (v.snd.fst ≤ (150 : Int)), ()) = (fewI x.fst, ())) := by kernel_rfl
theorem en_fewi (us : Array Value) (u : World) : (callFunc 79 us).run Tryd.prog u = .ok (.enter 79 us) u := by kernel_rfl
theorem sc_fewi : SC Tryd.prog 79 S_fewi := by
  refine SC.of Tryd.func79 (c := bodyOf Tryd.f79) (by kernel_rfl) (by kernel_rfl) (fun x => (by decide : (1:Nat) ≤ Tryd.f79.ntmps)) DOk.nil (Eq.mpr vc_fewi ?_)
  rintro ⟨⟨n, l, ⟨⟩⟩, ⟨⟩⟩ h1 - -
  dsimp only at h1 ⊢
  have e1 : l.length ≤ 1000000000 := h1
  refine ⟨⟨Int.le_refl 0, by omega, rfl⟩, ?_⟩
  rintro ⟨i, s, ⟨⟩⟩ ⟨q0, q1, hg⟩
  dsimp only at q0 q1 hg ⊢
  have wi : IntKind.i64.wrap (i + 1) = i + 1 := IntWalk.i64_in _ (by omega)
  by_cases hi : i < (l.length : Int)
  · rw [decide_eq_true hi, cond_true, wi]
    refine ⟨q0, hi, fun c hc _ => ?_⟩
    rw [drop_of hc, itSum] at hg
    refine ⟨by decide, ⟨by omega, by omega, ?_⟩, by omega⟩
    rw [show (i + 1).toNat = i.toNat + 1 by omega]
    exact hg
  · rw [decide_eq_false hi, cond_false]
    rw [List.drop_eq_nil_of_le (by omega), itSum] at hg
    rw [hg]
    rfl

theorem vc_few : VC Tryd.prog Tryd.f38 (bodyOf Tryd.f38) S_few [(78, S_fewo), (79, S_fewi)] A_few = (∀ (x : (Int × (Int × Int × List Int × Unit) × List (Int × (Int × List (Int × List Int × Int × Unit) × List (List Int) × Unit) × (Int × List (Int × List Int × Int × Unit) × Unit) × Unit) × Unit) × Unit), okPo x.fst →
  List.length x.fst.snd.fst.snd.snd.fst ≤ (9223372036854775807 : Nat) →
  List.length x.fst.snd.snd.fst ≤ (9223372036854775807 : Nat) →
  List.length x.fst.snd.snd.fst ≤ (9223372036854775807 : Nat) →
  ((0 : Int) ≤ (0 : Int) ∧ (0 : Int) ≤ (↑(List.length x.fst.snd.snd.fst) : Int) ∧ List.all (List.drop (Int.toNat (0 : Int)) x.fst.snd.snd.fst) fewPe = List.all x.fst.snd.snd.fst fewPe) ∧ ∀ (v : Int × Unit), (0 : Int) ≤ v.fst ∧ v.fst ≤ (↑(List.length x.fst.snd.snd.fst) : Int) ∧ List.all (List.drop (Int.toNat v.fst) x.fst.snd.snd.fst) fewPe = List.all x.fst.snd.snd.fst fewPe →
  bif decide (v.fst < (↑(List.length x.fst.snd.snd.fst) : Int)) then (0 : Int) ≤ v.fst ∧ v.fst < (↑(List.length x.fst.snd.snd.fst) : Int) ∧ ∀ (c0 : Int × (Int × List (Int × List Int × Int × Unit) × List (List Int) × Unit) × (Int × List (Int × List Int × Int × Unit) × Unit) × Unit), x.fst.snd.snd.fst[Int.toNat v.fst]? = some c0 →
  (List.length c0.snd.fst.snd.fst ≤ big ∧ List.length c0.snd.fst.snd.snd.fst ≤ big) ∧ bif !fewO c0.snd.fst then (false, ()) = (fewP x.fst, ()) else List.length c0.snd.snd.fst.snd.fst ≤ big ∧ bif !fewI c0.snd.snd.fst then (false, ()) = (fewP x.fst, ()) else List.length c0.snd.fst.snd.fst ≤ (9223372036854775807 : Nat) →
  bif decide ((30 : Int) < (↑(List.length c0.snd.fst.snd.fst) : Int)) then (false, ()) = (fewP x.fst, ()) else ((0 : Int) ≤ IntKind.wrap IntKind.i64 (v.fst + (1 : Int)) ∧ IntKind.wrap IntKind.i64 (v.fst + (1 : Int)) ≤ (↑(List.length x.fst.snd.snd.fst) : Int) ∧ List.all (List.drop (Int.toNat (IntKind.wrap IntKind.i64 (v.fst + (1 : Int)))) x.fst.snd.snd.fst) fewPe = List.all x.fst.snd.snd.fst fewPe) ∧ Int.toNat ((↑(List.length x.fst.snd.snd.fst) : Int) - IntKind.wrap IntKind.i64 (v.fst + (1 : Int))) < Int.toNat ((↑(List.length x.fst.snd.snd.fst) : Int) - v.fst) else List.length x.fst.snd.snd.fst ≤ (9223372036854775807 : Nat) →
  bif decide ((↑(List.length x.fst.snd.snd.fst) : Int) ≤ (8 : Int)) then List.length x.fst.snd.fst.snd.snd.fst ≤ (9223372036854775807 : Nat) →
  (decide ((↑(List.length x.fst.snd.fst.snd.snd.fst) : Int) ≤ (60 : Int)), ()) = (fewP x.fst, ()) else (false, ()) = (fewP x.fst, ())) := by kernel_rfl
theorem en_few (us : Array Value) (u : World) : (callFunc 38 us).run Tryd.prog u = .ok (.enter 38 us) u := by kernel_rfl
theorem sc_few : SC Tryd.prog 38 S_few := by
  refine SC.of Tryd.func38 (c := bodyOf Tryd.f38) (by kernel_rfl) (by kernel_rfl) (fun x => (by decide : (1:Nat) ≤ Tryd.f38.ntmps)) (DOk.cons sc_fewo en_fewo (DOk.cons sc_fewi en_fewi DOk.nil)) (Eq.mpr vc_few ?_)
  rintro ⟨⟨n, s, l, ⟨⟩⟩, ⟨⟩⟩ ⟨h0, h1, h2⟩ - - -
  dsimp only at h0 h1 h2 ⊢
  have e1 : l.length ≤ 1000000000 := h1
  refine ⟨⟨Int.le_refl 0, by omega, rfl⟩, ?_⟩
  rintro ⟨i, ⟨⟩⟩ ⟨q0, q1, hg⟩
  dsimp only at q0 q1 hg ⊢
  have wi : IntKind.i64.wrap (i + 1) = i + 1 := IntWalk.i64_in _ (by omega)
  by_cases hi : i < (l.length : Int)
  · rw [decide_eq_true hi, cond_true, wi]
    refine ⟨q0, hi, fun c hc => ?_⟩
    obtain ⟨⟨k1, k2⟩, k3⟩ := h2 c (List.mem_of_getElem? hc)
    rw [drop_of hc, List.all_cons] at hg
    have bad : fewPe c = false → ((false, ()) : Bool × Unit) = (fewP (n, s, l, ()), ()) := fun h => by
      rw [h, Bool.false_and] at hg
      unfold fewP
      dsimp only
      rw [← hg]
      rfl
    refine ⟨⟨k1.1, k2.1⟩, ?_⟩
    cases ha : fewO c.2.1
    · rw [Bool.not_false, cond_true]
      exact bad (by rw [fewPe, ha]; rfl)
    rw [Bool.not_true, cond_false]
    refine ⟨k3.1, ?_⟩
    cases hb : fewI c.2.2.1
    · rw [Bool.not_false, cond_true]
      exact bad (by rw [fewPe, ha, hb]; rfl)
    rw [Bool.not_true, cond_false]
    intro _
    by_cases h30 : 30 < (c.2.1.2.1.length : Int)
    · rw [decide_eq_true h30, cond_true]
      exact bad (by rw [fewPe, ha, hb, decide_eq_true h30]; rfl)
    rw [decide_eq_false h30, cond_false]
    refine ⟨⟨by omega, by omega, ?_⟩, by omega⟩
    rw [show (i + 1).toNat = i.toNat + 1 by omega]
    rw [show fewPe c = true by rw [fewPe, ha, hb, decide_eq_false h30]; rfl, Bool.true_and] at hg
    exact hg
  · rw [decide_eq_false hi, cond_false]
    rw [List.drop_eq_nil_of_le (by omega), List.all_nil] at hg
    intro _
    by_cases h8 : (l.length : Int) ≤ 8
    · rw [decide_eq_true h8, cond_true]
      intro _
      unfold fewP
      dsimp only
      rw [← hg, decide_eq_true h8]
      rfl
    · rw [decide_eq_false h8, cond_false]
      unfold fewP
      dsimp only
      rw [← hg, decide_eq_false h8]
      rfl

theorem vc_plain : VC Tryd.prog Tryd.f36 (bodyOf Tryd.f36) S_plain [] (fun _ _ => none) = (∀ (x : Unit), True →
  (([], (2 : Int), (1 : Int), (2 : Int), (3 : Int), (4 : Int), (20 : Int), (5 : Int), (4 : Int), (1 : Int), (1 : Int), ()), ()) = (plainC, ())) := by kernel_rfl
theorem en_plain (us : Array Value) (u : World) : (callFunc 36 us).run Tryd.prog u = .ok (.enter 36 us) u := by kernel_rfl
theorem sc_plain : SC Tryd.prog 36 S_plain := by
  refine SC.of Tryd.func36 (c := bodyOf Tryd.f36) (by kernel_rfl) (by kernel_rfl) (fun x => (by decide : (0:Nat) ≤ Tryd.f36.ntmps)) DOk.nil (Eq.mpr vc_plain ?_)
  intro x _
  rfl

theorem vc_may : VC Tryd.prog Tryd.f11 (bodyOf Tryd.f11) S_may [(24, S_rchk), (38, S_few)] (fun _ _ => none) = (∀ (x : (List Int × Int × Int × Int × Int × Int × Int × Int × Int × Int × Int × Unit) × (Int × (Int × Int × List Int × Unit) × List (Int × (Int × List (Int × List Int × Int × Unit) × List (List Int) × Unit) × (Int × List (Int × List Int × Int × Unit) × Unit) × Unit) × Unit) × Unit), okPo x.snd.fst →
  List.length x.fst.fst ≤ (9223372036854775807 : Nat) →
  List.length x.snd.fst.snd.fst.snd.snd.fst ≤ (9223372036854775807 : Nat) →
  List.length x.snd.fst.snd.snd.fst ≤ (9223372036854775807 : Nat) →
  True ∧ bif kchkF x.fst == (0 : Int) then okPo x.snd.fst ∧ (fewP x.snd.fst, ()) = (mayF x.fst x.snd.fst, ()) else (false, ()) = (mayF x.fst x.snd.fst, ())) := by kernel_rfl
theorem en_may (us : Array Value) (u : World) : (callFunc 11 us).run Tryd.prog u = .ok (.enter 11 us) u := by kernel_rfl
theorem sc_may : SC Tryd.prog 11 S_may := by
  refine SC.of Tryd.func11 (c := bodyOf Tryd.f11) (by kernel_rfl) (by kernel_rfl) (fun x => (by decide : (2:Nat) ≤ Tryd.f11.ntmps)) (DOk.cons sc_rchk en_rchk (DOk.cons sc_few en_few DOk.nil)) (Eq.mpr vc_may ?_)
  rintro ⟨c, p, ⟨⟩⟩ h - - -
  dsimp only [mayF] at h ⊢
  refine ⟨trivial, ?_⟩
  cases kchkF c == 0
  · rfl
  · exact ⟨h, rfl⟩

theorem vc_live : VC Tryd.prog Tryd.f10 (bodyOf Tryd.f10) S_live [(36, S_plain), (25, S_new), (21, S_psend), (26, S_go), (27, S_first), (16, S_ptake), (37, S_eq)] (fun _ _ => none) = (∀ (x : Unit), True →
  True ∧ True ∧ True ∧ (List.length ([] : List Int) ≤ big ∧ okPo ((0 : Int), ((0 : Int), (0 : Int), [], ()), [], ()) ∧ okSt ((0 : Int), (0 : Int), [], ()) ∧ List.length [(7 : Int)] ≤ big) ∧ True ∧ True ∧ True ∧ True ∧ (okPo ((0 : Int), ((0 : Int), (0 : Int), [], ()), [], ()) ∧ List.length (List.map up1 [(0 : Nat), (1 : Nat)]) ≤ (1000000000000 : Nat)) ∧ True ∧ (List.length ([] : List Int) ≤ big ∧ okPo pA ∧ okSt ((1 : Int), (1 : Int), List.map up1 [(0 : Nat), (1 : Nat)], ()) ∧ List.length [(7 : Int)] ≤ big) ∧ bif (0 : Int) != (0 : Int) then (false, ()) = (true, ()) else bif (1 : Int) != (1 : Int) then (false, ()) = (true, ()) else bif (0 : Int) != (0 : Int) then (false, ()) = (true, ()) else bif (0 : Int) != (0 : Int) then (false, ()) = (true, ()) else List.length (liL) ≤ (9223372036854775807 : Nat) →
  bif (↑(List.length (liL)) : Int) != (1 : Int) then (false, ()) = (true, ()) else True ∧ (0 : Int) ≤ (0 : Int) ∧ (0 : Int) < (↑(List.length (liL)) : Int) ∧ ∀ (c0 : Int × List Int × Bool × Unit), (liL)[(0 : Nat)]? = some c0 →
  (List.length ([] : List Int) ≤ big ∧ okPo pB ∧ okSt ((0 : Int), (0 : Int), [], ()) ∧ List.length c0.snd.fst ≤ (100000000 : Nat) ∧ ∀ (x : Int), x ∈ c0.snd.fst →
  (0 : Int) ≤ x ∧ x < (256 : Int)) ∧ bif (ptF plainC pB (0 : Int) c0.snd.fst (1 : Int)).snd.snd.snd.fst == (0 : Int) then bif (ptF plainC pB (0 : Int) c0.snd.fst (1 : Int)).fst.snd.fst.fst == (1 : Int) then List.length (ptF plainC pB (0 : Int) c0.snd.fst (1 : Int)).snd.fst ≤ (9223372036854775807 : Nat) →
  bif (↑(List.length (ptF plainC pB (0 : Int) c0.snd.fst (1 : Int)).snd.fst) : Int) == (1 : Int) then (0 : Int) ≤ (0 : Int) ∧ (0 : Int) < (↑(List.length (ptF plainC pB (0 : Int) c0.snd.fst (1 : Int)).snd.fst) : Int) ∧ ∀ (c0_1 : List Int), (ptF plainC pB (0 : Int) c0.snd.fst (1 : Int)).snd.fst[(0 : Nat)]? = some c0_1 →
  ((∀ (x : Int), x ∈ c0_1 →
  (0 : Int) ≤ x ∧ x < (256 : Int)) ∧ ∀ (x : Int), x ∈ [(7 : Int)] →
  (0 : Int) ≤ x ∧ x < (256 : Int)) ∧ bif c0_1 == [(7 : Int)] then List.length (ptF plainC pB (0 : Int) c0.snd.fst (1 : Int)).snd.snd.fst ≤ (9223372036854775807 : Nat) →
  ((↑(List.length (ptF plainC pB (0 : Int) c0.snd.fst (1 : Int)).snd.snd.fst) : Int) == (1 : Int), ()) = (true, ()) else (false, ()) = (true, ()) else (false, ()) = (true, ()) else (false, ()) = (true, ()) else (false, ()) = (true, ())) := by kernel_rfl
theorem en_live (us : Array Value) (u : World) : (callFunc 10 us).run Tryd.prog u = .ok (.enter 10 us) u := by kernel_rfl
theorem sc_live : SC Tryd.prog 10 S_live := by
  refine SC.of Tryd.func10 (c := bodyOf Tryd.f10) (by kernel_rfl) (by kernel_rfl) (fun x => (by decide : (0:Nat) ≤ Tryd.f10.ntmps)) (DOk.cons sc_plain en_plain (DOk.cons sc_new en_new (DOk.cons sc_psend en_psend (DOk.cons sc_go en_go (DOk.cons sc_first en_first (DOk.cons sc_ptake en_ptake (DOk.cons sc_same1 en_same1 DOk.nil))))))) (Eq.mpr vc_live ?_)
  intro x _
  have hlen : liL.length = 1 := by rw [liL_eq]; rfl
  have ok0 : ∀ (n : Int) (s : Sta), s.2.2.1.length ≤ 8 → okPo (n, s, [], ()) := fun n s hs => ⟨Nat.le_trans hs (by decide), Nat.zero_le _, fun q hq => by cases hq⟩
  obtain ⟨Q, L, hT, hQ, hL⟩ := liveB
  have b7 : byt [7] := fun x hx => by
    rw [List.mem_singleton] at hx
    subst hx
    exact ⟨by decide, by decide⟩
  refine ⟨trivial, trivial, trivial, ⟨Nat.zero_le _, ok0 0 zSt (by decide), ⟨⟨by decide, by decide⟩, ⟨by decide, by decide⟩⟩, by decide⟩, trivial, trivial, trivial, trivial, ⟨ok0 0 zSt (by decide), by decide⟩, trivial, ⟨Nat.zero_le _, ok0 0 stp (by decide), ⟨⟨by decide, by decide⟩, ⟨by decide, by decide⟩⟩, by decide⟩, ?_⟩
  rw [bneF (rfl : (0 : Int) = 0), cond_false, bneF (rfl : (1 : Int) = 1), cond_false, cond_false, cond_false]
  intro _
  rw [hlen, show (((1 : Nat) : Int) != 1) = false from rfl, cond_false]
  refine ⟨trivial, Int.le_refl _, by decide, fun c hc => ?_⟩
  rw [liL_eq] at hc
  obtain rfl := Option.some.inj hc
  dsimp only
  rw [hT]
  dsimp only
  refine ⟨⟨Nat.zero_le _, ok0 1 zSt (by decide), ⟨⟨by decide, by decide⟩, ⟨by decide, by decide⟩⟩, by rw [frPutF_len _ (by decide)]; decide, frPutF_byt _ b7⟩, ?_⟩
  rw [show ((0 : Int) == 0) = true from rfl, cond_true, hQ, show ((1 : Int) == 1) = true from rfl, cond_true]
  intro _
  rw [show ((([[7]] : List (List Int)).length : Nat) : Int) == 1 from rfl, cond_true]
  refine ⟨Int.le_refl _, by decide, fun d hd => ?_⟩
  obtain rfl := Option.some.inj hd
  refine ⟨⟨b7, b7⟩, ?_⟩
  rw [show (([7] : List Int) == [7]) = true from rfl, cond_true]
  intro _
  rw [hL]
  rfl
end Go.Proofs.YtjkbkhjalimebaaDoor
