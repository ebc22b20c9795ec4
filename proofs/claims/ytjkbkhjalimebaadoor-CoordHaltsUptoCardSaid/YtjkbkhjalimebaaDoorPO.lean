/- When posts are the same, by the references; the law PostForged. Printed by gen.py. -/
import Derived.Test.YtjkbkhjalimebaaDoorPL
namespace Go.Proofs.YtjkbkhjalimebaaDoor
open Go.RowKit DoorU
set_option linter.unusedVariables false
set_option linter.unusedSimpArgs false
set_option maxRecDepth 100000
set_option maxHeartbeats 1000000

namespace DoorU
def bytIts (l : List Itm) : Prop := ∀ x ∈ l, byt x.2.1
def bytBs (l : List (List Int)) : Prop := ∀ x ∈ l, byt x
def bytOut (o : Ouq) : Prop := bytIts o.2.1 ∧ bytBs o.2.2.1
def bytIn (i : Inq) : Prop := bytIts i.2.1
def bytPe (q : Pee) : Prop := bytOut q.2.1 ∧ bytIn q.2.2.1
def bytPo (p : Pos) : Prop := ∀ q ∈ p.2.2.1, bytPe q
theorem bytPo_nil {p : Pos} (h : p.2.2.1 = []) : bytPo p := fun q hq => by rw [h] at hq; cases hq
noncomputable def sIts (a b : List Itm) : Bool := @decide (a = b) (Classical.propDecidable _)
theorem sIts_t {a b : List Itm} (h : a = b) : sIts a b = true := @decide_eq_true _ (Classical.propDecidable _) h
theorem sIts_f {a b : List Itm} (h : ¬ a = b) : sIts a b = false := @decide_eq_false _ (Classical.propDecidable _) h
noncomputable def sBs (a b : List (List Int)) : Bool := @decide (a = b) (Classical.propDecidable _)
theorem sBs_t {a b : List (List Int)} (h : a = b) : sBs a b = true := @decide_eq_true _ (Classical.propDecidable _) h
theorem sBs_f {a b : List (List Int)} (h : ¬ a = b) : sBs a b = false := @decide_eq_false _ (Classical.propDecidable _) h
noncomputable def sOut (a b : Ouq) : Bool := @decide (a = b) (Classical.propDecidable _)
theorem sOut_t {a b : Ouq} (h : a = b) : sOut a b = true := @decide_eq_true _ (Classical.propDecidable _) h
theorem sOut_f {a b : Ouq} (h : ¬ a = b) : sOut a b = false := @decide_eq_false _ (Classical.propDecidable _) h
noncomputable def sIn (a b : Inq) : Bool := @decide (a = b) (Classical.propDecidable _)
theorem sIn_t {a b : Inq} (h : a = b) : sIn a b = true := @decide_eq_true _ (Classical.propDecidable _) h
theorem sIn_f {a b : Inq} (h : ¬ a = b) : sIn a b = false := @decide_eq_false _ (Classical.propDecidable _) h
noncomputable def sPos (a b : Pos) : Bool := @decide (a = b) (Classical.propDecidable _)
theorem sPos_t {a b : Pos} (h : a = b) : sPos a b = true := @decide_eq_true _ (Classical.propDecidable _) h
theorem sPos_f {a b : Pos} (h : ¬ a = b) : sPos a b = false := @decide_eq_false _ (Classical.propDecidable _) h
end DoorU
def LA_eq {α : Type} (s : Nat) (a b : List α) : LA := ⟨[s], [], .pair nI .unit, fun (v : Int × Unit) => 0 ≤ v.1 ∧ v.1 ≤ (a.length : Nat) ∧ a.length = b.length ∧ a.take v.1.toNat = b.take v.1.toNat, fun (v : Int × Unit) => ((a.length : Nat) - v.1).toNat⟩
def A_rints (x : List Int × List Int × Unit) : Nat → Option LA
  | 0 => some (LA_eq 13 x.1 x.2.1)
  | _ => none
noncomputable def S_ritm : Spec := ⟨.pair (.view true tIt) (.pair (.view true tIt) .unit), .pair .bool .unit, fun (x : List Itm × List Itm × Unit) => bytIts x.1 ∧ bytIts x.2.1, fun (x : List Itm × List Itm × Unit) => ((sIts x.1 x.2.1, ()) : Bool × Unit)⟩
def A_ritm (x : List Itm × List Itm × Unit) : Nat → Option LA
  | 0 => some (LA_eq 13 x.1 x.2.1)
  | _ => none
noncomputable def S_rpts : Spec := ⟨.pair (.view true tYs) (.pair (.view true tYs) .unit), .pair .bool .unit, fun (x : List (List Int) × List (List Int) × Unit) => bytBs x.1 ∧ bytBs x.2.1, fun (x : List (List Int) × List (List Int) × Unit) => ((sBs x.1 x.2.1, ()) : Bool × Unit)⟩
def A_rpts (x : List (List Int) × List (List Int) × Unit) : Nat → Option LA
  | 0 => some (LA_eq 13 x.1 x.2.1)
  | _ => none
noncomputable def S_rout : Spec := ⟨.pair aOut (.pair aOut .unit), .pair .bool .unit, fun (x : Ouq × Ouq × Unit) => bytOut x.1 ∧ bytOut x.2.1, fun (x : Ouq × Ouq × Unit) => ((sOut x.1 x.2.1, ()) : Bool × Unit)⟩
noncomputable def S_rin : Spec := ⟨.pair aIn (.pair aIn .unit), .pair .bool .unit, fun (x : Inq × Inq × Unit) => bytIn x.1 ∧ bytIn x.2.1, fun (x : Inq × Inq × Unit) => ((sIn x.1 x.2.1, ()) : Bool × Unit)⟩
noncomputable def S_rpo : Spec := ⟨.pair aPo (.pair aPo .unit), .pair .bool .unit, fun (x : Pos × Pos × Unit) => bytPo x.1 ∧ bytPo x.2.1, fun (x : Pos × Pos × Unit) => ((sPos x.1 x.2.1, ()) : Bool × Unit)⟩
def A_rpo (x : Pos × Pos × Unit) : Nat → Option LA
  | 0 => some (LA_eq 31 x.1.2.2.1 x.2.1.2.2.1)
  | _ => none
def S_forg : Spec := ⟨.pair aC (.pair aPo (.pair nI (.pair vY .unit))), .pair .bool .unit, fun (x : Cfg × Pos × Int × List Int × Unit) => x.1.1.length ≤ big ∧ okPo x.2.1 ∧ okSt x.2.1.2.1 ∧ x.2.2.2.1.length ≤ big ∧ byt x.2.2.2.1, fun _ => ((true, ()) : Bool × Unit)⟩

theorem vc_rints : VC Tryd.prog Tryd.f73 (bodyOf Tryd.f73) S_eqi [] A_rints = (∀ (x : List Int × List Int × Unit), True →
  List.length x.fst ≤ (9223372036854775807 : Nat) →
  List.length x.snd.fst ≤ (9223372036854775807 : Nat) →
  List.length x.fst ≤ (9223372036854775807 : Nat) →
  List.length x.snd.fst ≤ (9223372036854775807 : Nat) →
  bif (↑(List.length x.fst) : Int) != (↑(List.length x.snd.fst) : Int) then (false, ()) = (x.fst == x.snd.fst, ()) else List.length x.fst ≤ (9223372036854775807 : Nat) →
  ((0 : Int) ≤ (0 : Int) ∧ (0 : Int) ≤ (↑(List.length x.fst) : Int) ∧ List.length x.fst = List.length x.snd.fst ∧ List.take (Int.toNat (0 : Int)) x.fst = List.take (Int.toNat (0 : Int)) x.snd.fst) ∧ ∀ (v : Int × Unit), (0 : Int) ≤ v.fst ∧ v.fst ≤ (↑(List.length x.fst) : Int) ∧ List.length x.fst = List.length x.snd.fst ∧ List.take (Int.toNat v.fst) x.fst = List.take (Int.toNat v.fst) x.snd.fst →
  bif decide (v.fst < (↑(List.length x.fst) : Int)) then (0 : Int) ≤ v.fst ∧ v.fst < (↑(List.length x.fst) : Int) ∧ ∀ (c0 : Int), x.fst[Int.toNat v.fst]? = some c0 →
  (0 : Int) ≤ v.fst ∧ v.fst < (↑(List.length x.snd.fst) : Int) ∧ ∀ (c0_1 : Int), x.snd.fst[Int.toNat v.fst]? = some c0_1 →
  bif c0 != c0_1 then (false, ()) = (x.fst == x.snd.fst, ()) else ((0 : Int) ≤ IntKind.wrap IntKind.i64 (v.fst + (1 : Int)) ∧ IntKind.wrap IntKind.i64 (v.fst + (1 : Int)) ≤ (↑(List.length x.fst) : Int) ∧ List.length x.fst = List.length x.snd.fst ∧ List.take (Int.toNat (IntKind.wrap IntKind.i64 (v.fst + (1 : Int)))) x.fst = List.take (Int.toNat (IntKind.wrap IntKind.i64 (v.fst + (1 : Int)))) x.snd.fst) ∧ Int.toNat ((↑(List.length x.fst) : Int) - IntKind.wrap IntKind.i64 (v.fst + (1 : Int))) < Int.toNat ((↑(List.length x.fst) : Int) - v.fst) else (true, ()) = (x.fst == x.snd.fst, ())) := by kernel_rfl
theorem en_rints (us : Array Value) (u : World) : (callFunc 73 us).run Tryd.prog u = .ok (.enter 73 us) u := by kernel_rfl
theorem sc_rints : SC Tryd.prog 73 S_eqi := by
  refine SC.of Tryd.func73 (c := bodyOf Tryd.f73) (by kernel_rfl) (by kernel_rfl) (fun x => (by decide : (2:Nat) ≤ Tryd.f73.ntmps)) DOk.nil (Eq.mpr vc_rints ?_)
  rintro ⟨a, b, ⟨⟩⟩ - hla - - -
  dsimp only at hla ⊢
  by_cases h : a.length = b.length
  rotate_left 1
  · rw [bneT (by omega), cond_true, beq_eq_false_iff_ne.2 (fun e => h (by rw [e]))]
  rw [bneF (by omega), cond_false]
  intro _
  refine ⟨⟨Int.le_refl 0, by omega, h, rfl⟩, ?_⟩
  rintro ⟨i, ⟨⟩⟩ ⟨q0, q1, -, ht⟩
  dsimp only at q0 q1 ht ⊢
  by_cases hi : i < (a.length : Int)
  rotate_left 1
  · rw [decide_eq_false hi, cond_false]
    obtain rfl : i = (a.length : Int) := by omega
    rw [show ((a.length : Nat) : Int).toNat = a.length by omega, List.take_length, h, List.take_length] at ht
    rw [beq_iff_eq.2 ht]
  have wi : IntKind.i64.wrap (i + 1) = i + 1 := IntWalk.i64_in _ (by omega)
  rw [decide_eq_true hi, cond_true, wi]
  refine ⟨q0, hi, fun c hc => ⟨q0, by omega, fun d hd => ?_⟩⟩
  have ne : c ≠ d → ¬ a = b := fun e e2 => e (by rw [e2, hd] at hc; exact (Option.some.inj hc).symm)
  by_cases e : c = d
  rotate_left 1
  · rw [bneT e, cond_true, beq_eq_false_iff_ne.2 (ne e)]
  rw [bneF e, cond_false]
  subst e
  refine ⟨⟨by omega, by omega, h, ?_⟩, by omega⟩
  rw [show (i + 1).toNat = i.toNat + 1 by omega, take_snoc hc, take_snoc hd, ht]

theorem vc_rst : VC Tryd.prog Tryd.f56 (bodyOf Tryd.f56) S_ssame [(73, S_eqi)] (fun _ _ => none) = (∀ (x : (Int × Int × List Int × Unit) × (Int × Int × List Int × Unit) × Unit), True →
  List.length x.fst.snd.snd.fst ≤ (9223372036854775807 : Nat) →
  List.length x.snd.fst.snd.snd.fst ≤ (9223372036854775807 : Nat) →
  bif x.fst.fst == x.snd.fst.fst then bif x.fst.snd.fst == x.snd.fst.snd.fst then True ∧ (x.fst.snd.snd.fst == x.snd.fst.snd.snd.fst, ()) = (stSame x.fst x.snd.fst, ()) else (false, ()) = (stSame x.fst x.snd.fst, ()) else (false, ()) = (stSame x.fst x.snd.fst, ())) := by kernel_rfl
theorem en_rst (us : Array Value) (u : World) : (callFunc 56 us).run Tryd.prog u = .ok (.enter 56 us) u := by kernel_rfl
theorem sc_rst : SC Tryd.prog 56 S_ssame := by
  refine SC.of Tryd.func56 (c := bodyOf Tryd.f56) (by kernel_rfl) (by kernel_rfl) (fun x => (by decide : (2:Nat) ≤ Tryd.f56.ntmps)) (DOk.cons sc_rints en_rints DOk.nil) (Eq.mpr vc_rst ?_)
  rintro ⟨⟨a1, a2, a3, ⟨⟩⟩, ⟨b1, b2, b3, ⟨⟩⟩, ⟨⟩⟩ - - -
  dsimp only [stSame]
  cases a1 == b1
  · rfl
  cases a2 == b2
  · rfl
  exact ⟨trivial, rfl⟩

theorem vc_ritm : VC Tryd.prog Tryd.f98 (bodyOf Tryd.f98) S_ritm [(37, S_eq)] A_ritm = (∀ (x : List (Int × List Int × Int × Unit) × List (Int × List Int × Int × Unit) × Unit), bytIts x.fst ∧ bytIts x.snd.fst →
  List.length x.fst ≤ (9223372036854775807 : Nat) →
  List.length x.snd.fst ≤ (9223372036854775807 : Nat) →
  List.length x.fst ≤ (9223372036854775807 : Nat) →
  List.length x.snd.fst ≤ (9223372036854775807 : Nat) →
  bif (↑(List.length x.fst) : Int) != (↑(List.length x.snd.fst) : Int) then (false, ()) = (sIts x.fst x.snd.fst, ()) else List.length x.fst ≤ (9223372036854775807 : Nat) →
  ((0 : Int) ≤ (0 : Int) ∧ (0 : Int) ≤ (↑(List.length x.fst) : Int) ∧ List.length x.fst = List.length x.snd.fst ∧ List.take (Int.toNat (0 : Int)) x.fst = List.take (Int.toNat (0 : Int)) x.snd.fst) ∧ ∀ (v : Int × Unit), (0 : Int) ≤ v.fst ∧ v.fst ≤ (↑(List.length x.fst) : Int) ∧ List.length x.fst = List.length x.snd.fst ∧ List.take (Int.toNat v.fst) x.fst = List.take (Int.toNat v.fst) x.snd.fst →
  bif decide (v.fst < (↑(List.length x.fst) : Int)) then (0 : Int) ≤ v.fst ∧ v.fst < (↑(List.length x.fst) : Int) ∧ ∀ (c0 : Int × List Int × Int × Unit), x.fst[Int.toNat v.fst]? = some c0 →
  (0 : Int) ≤ v.fst ∧ v.fst < (↑(List.length x.snd.fst) : Int) ∧ ∀ (c0_1 : Int × List Int × Int × Unit), x.snd.fst[Int.toNat v.fst]? = some c0_1 →
  bif c0.fst != c0_1.fst then (false, ()) = (sIts x.fst x.snd.fst, ()) else (0 : Int) ≤ v.fst ∧ v.fst < (↑(List.length x.fst) : Int) ∧ ∀ (c0 : Int × List Int × Int × Unit), x.fst[Int.toNat v.fst]? = some c0 →
  (0 : Int) ≤ v.fst ∧ v.fst < (↑(List.length x.snd.fst) : Int) ∧ ∀ (c0_2 : Int × List Int × Int × Unit), x.snd.fst[Int.toNat v.fst]? = some c0_2 →
  bif c0.snd.snd.fst != c0_2.snd.snd.fst then (false, ()) = (sIts x.fst x.snd.fst, ()) else (0 : Int) ≤ v.fst ∧ v.fst < (↑(List.length x.fst) : Int) ∧ ∀ (c0 : Int × List Int × Int × Unit), x.fst[Int.toNat v.fst]? = some c0 →
  (0 : Int) ≤ v.fst ∧ v.fst < (↑(List.length x.snd.fst) : Int) ∧ ∀ (c0_3 : Int × List Int × Int × Unit), x.snd.fst[Int.toNat v.fst]? = some c0_3 →
  ((∀ (x : Int), x ∈ c0.snd.fst →
  (0 : Int) ≤ x ∧ x < (256 : Int)) ∧ ∀ (x : Int), x ∈ c0_3.snd.fst →
  (0 : Int) ≤ x ∧ x < (256 : Int)) ∧ bif !c0.snd.fst == c0_3.snd.fst then (false, ()) = (sIts x.fst x.snd.fst, ()) else ((0 : Int) ≤ IntKind.wrap IntKind.i64 (v.fst + (1 : Int)) ∧ IntKind.wrap IntKind.i64 (v.fst + (1 : Int)) ≤ (↑(List.length x.fst) : Int) ∧ List.length x.fst = List.length x.snd.fst ∧ List.take (Int.toNat (IntKind.wrap IntKind.i64 (v.fst + (1 : Int)))) x.fst = List.take (Int.toNat (IntKind.wrap IntKind.i64 (v.fst + (1 : Int)))) x.snd.fst) ∧ Int.toNat ((↑(List.length x.fst) : Int) - IntKind.wrap IntKind.i64 (v.fst + (1 : Int))) < Int.toNat ((↑(List.length x.fst) : Int) - v.fst) else (true, ()) = (sIts x.fst x.snd.fst, ())) := by kernel_rfl
theorem en_ritm (us : Array Value) (u : World) : (callFunc 98 us).run Tryd.prog u = .ok (.enter 98 us) u := by kernel_rfl
theorem sc_ritm : SC Tryd.prog 98 S_ritm := by
  refine SC.of Tryd.func98 (c := bodyOf Tryd.f98) (by kernel_rfl) (by kernel_rfl) (fun x => (by decide : (2:Nat) ≤ Tryd.f98.ntmps)) (DOk.cons sc_same1 en_same1 DOk.nil) (Eq.mpr vc_ritm ?_)
  rintro ⟨a, b, ⟨⟩⟩ ⟨ha, hb⟩ hla - - -
  dsimp only at ha hb hla ⊢
  by_cases h : a.length = b.length
  rotate_left 1
  · rw [bneT (by omega), cond_true, sIts_f (fun e => h (by rw [e]))]
  rw [bneF (by omega), cond_false]
  intro _
  refine ⟨⟨Int.le_refl 0, by omega, h, rfl⟩, ?_⟩
  rintro ⟨i, ⟨⟩⟩ ⟨q0, q1, -, ht⟩
  dsimp only at q0 q1 ht ⊢
  by_cases hi : i < (a.length : Int)
  rotate_left 1
  · rw [decide_eq_false hi, cond_false]
    obtain rfl : i = (a.length : Int) := by omega
    rw [show ((a.length : Nat) : Int).toNat = a.length by omega, List.take_length, h, List.take_length] at ht
    rw [sIts_t ht]
  have wi : IntKind.i64.wrap (i + 1) = i + 1 := IntWalk.i64_in _ (by omega)
  rw [decide_eq_true hi, cond_true, wi]
  refine ⟨q0, hi, fun c hc => ⟨q0, by omega, fun d hd => ?_⟩⟩
  have ne : c ≠ d → ¬ a = b := fun e e2 => e (by rw [e2, hd] at hc; exact (Option.some.inj hc).symm)
  by_cases e1 : c.1 = d.1
  rotate_left 1
  · rw [bneT e1, cond_true, sIts_f (ne fun e => e1 (by rw [e]))]
  rw [bneF e1, cond_false]
  refine ⟨q0, hi, fun c' hc' => ⟨q0, by omega, fun d' hd' => ?_⟩⟩
  obtain rfl := Option.some.inj (hc.symm.trans hc')
  obtain rfl := Option.some.inj (hd.symm.trans hd')
  by_cases e2 : c.2.2.1 = d.2.2.1
  rotate_left 1
  · rw [bneT e2, cond_true, sIts_f (ne fun e => e2 (by rw [e]))]
  rw [bneF e2, cond_false]
  refine ⟨q0, hi, fun c' hc' => ⟨q0, by omega, fun d' hd' => ?_⟩⟩
  obtain rfl := Option.some.inj (hc.symm.trans hc')
  obtain rfl := Option.some.inj (hd.symm.trans hd')
  refine ⟨⟨ha c (List.mem_of_getElem? hc), hb d (List.mem_of_getElem? hd)⟩, ?_⟩
  by_cases e3 : c.2.1 = d.2.1
  rotate_left 1
  · rw [beq_eq_false_iff_ne.2 e3, Bool.not_false, cond_true, sIts_f (ne fun e => e3 (by rw [e]))]
  rw [beq_iff_eq.2 e3, Bool.not_true, cond_false]
  have e : c = d := Prod.ext e1 (Prod.ext e3 (Prod.ext e2 rfl))
  subst e
  refine ⟨⟨by omega, by omega, h, ?_⟩, by omega⟩
  rw [show (i + 1).toNat = i.toNat + 1 by omega, take_snoc hc, take_snoc hd, ht]

theorem vc_rpts : VC Tryd.prog Tryd.f29 (bodyOf Tryd.f29) S_rpts [(37, S_eq)] A_rpts = (∀ (x : List (List Int) × List (List Int) × Unit), bytBs x.fst ∧ bytBs x.snd.fst →
  List.length x.fst ≤ (9223372036854775807 : Nat) →
  List.length x.snd.fst ≤ (9223372036854775807 : Nat) →
  List.length x.fst ≤ (9223372036854775807 : Nat) →
  List.length x.snd.fst ≤ (9223372036854775807 : Nat) →
  bif (↑(List.length x.fst) : Int) != (↑(List.length x.snd.fst) : Int) then (false, ()) = (sBs x.fst x.snd.fst, ()) else List.length x.fst ≤ (9223372036854775807 : Nat) →
  ((0 : Int) ≤ (0 : Int) ∧ (0 : Int) ≤ (↑(List.length x.fst) : Int) ∧ List.length x.fst = List.length x.snd.fst ∧ List.take (Int.toNat (0 : Int)) x.fst = List.take (Int.toNat (0 : Int)) x.snd.fst) ∧ ∀ (v : Int × Unit), (0 : Int) ≤ v.fst ∧ v.fst ≤ (↑(List.length x.fst) : Int) ∧ List.length x.fst = List.length x.snd.fst ∧ List.take (Int.toNat v.fst) x.fst = List.take (Int.toNat v.fst) x.snd.fst →
  bif decide (v.fst < (↑(List.length x.fst) : Int)) then (0 : Int) ≤ v.fst ∧ v.fst < (↑(List.length x.fst) : Int) ∧ ∀ (c0 : List Int), x.fst[Int.toNat v.fst]? = some c0 →
  (0 : Int) ≤ v.fst ∧ v.fst < (↑(List.length x.snd.fst) : Int) ∧ ∀ (c0_1 : List Int), x.snd.fst[Int.toNat v.fst]? = some c0_1 →
  ((∀ (x : Int), x ∈ c0 →
  (0 : Int) ≤ x ∧ x < (256 : Int)) ∧ ∀ (x : Int), x ∈ c0_1 →
  (0 : Int) ≤ x ∧ x < (256 : Int)) ∧ bif !c0 == c0_1 then (false, ()) = (sBs x.fst x.snd.fst, ()) else ((0 : Int) ≤ IntKind.wrap IntKind.i64 (v.fst + (1 : Int)) ∧ IntKind.wrap IntKind.i64 (v.fst + (1 : Int)) ≤ (↑(List.length x.fst) : Int) ∧ List.length x.fst = List.length x.snd.fst ∧ List.take (Int.toNat (IntKind.wrap IntKind.i64 (v.fst + (1 : Int)))) x.fst = List.take (Int.toNat (IntKind.wrap IntKind.i64 (v.fst + (1 : Int)))) x.snd.fst) ∧ Int.toNat ((↑(List.length x.fst) : Int) - IntKind.wrap IntKind.i64 (v.fst + (1 : Int))) < Int.toNat ((↑(List.length x.fst) : Int) - v.fst) else (true, ()) = (sBs x.fst x.snd.fst, ())) := by kernel_rfl
theorem en_rpts (us : Array Value) (u : World) : (callFunc 29 us).run Tryd.prog u = .ok (.enter 29 us) u := by kernel_rfl
theorem sc_rpts : SC Tryd.prog 29 S_rpts := by
  refine SC.of Tryd.func29 (c := bodyOf Tryd.f29) (by kernel_rfl) (by kernel_rfl) (fun x => (by decide : (2:Nat) ≤ Tryd.f29.ntmps)) (DOk.cons sc_same1 en_same1 DOk.nil) (Eq.mpr vc_rpts ?_)
  rintro ⟨a, b, ⟨⟩⟩ ⟨ha, hb⟩ hla - - -
  dsimp only at ha hb hla ⊢
  by_cases h : a.length = b.length
  rotate_left 1
  · rw [bneT (by omega), cond_true, sBs_f (fun e => h (by rw [e]))]
  rw [bneF (by omega), cond_false]
  intro _
  refine ⟨⟨Int.le_refl 0, by omega, h, rfl⟩, ?_⟩
  rintro ⟨i, ⟨⟩⟩ ⟨q0, q1, -, ht⟩
  dsimp only at q0 q1 ht ⊢
  by_cases hi : i < (a.length : Int)
  rotate_left 1
  · rw [decide_eq_false hi, cond_false]
    obtain rfl : i = (a.length : Int) := by omega
    rw [show ((a.length : Nat) : Int).toNat = a.length by omega, List.take_length, h, List.take_length] at ht
    rw [sBs_t ht]
  have wi : IntKind.i64.wrap (i + 1) = i + 1 := IntWalk.i64_in _ (by omega)
  rw [decide_eq_true hi, cond_true, wi]
  refine ⟨q0, hi, fun c hc => ⟨q0, by omega, fun d hd => ?_⟩⟩
  have ne : c ≠ d → ¬ a = b := fun e e2 => e (by rw [e2, hd] at hc; exact (Option.some.inj hc).symm)
  refine ⟨⟨ha c (List.mem_of_getElem? hc), hb d (List.mem_of_getElem? hd)⟩, ?_⟩
  by_cases e : c = d
  rotate_left 1
  · rw [beq_eq_false_iff_ne.2 e, Bool.not_false, cond_true, sBs_f (ne e)]
  rw [beq_iff_eq.2 e, Bool.not_true, cond_false]
  subst e
  refine ⟨⟨by omega, by omega, h, ?_⟩, by omega⟩
  rw [show (i + 1).toNat = i.toNat + 1 by omega, take_snoc hc, take_snoc hd, ht]

theorem vc_rout : VC Tryd.prog Tryd.f57 (bodyOf Tryd.f57) S_rout [(98, S_ritm), (29, S_rpts)] (fun _ _ => none) = (∀ (x : (Int × List (Int × List Int × Int × Unit) × List (List Int) × Unit) × (Int × List (Int × List Int × Int × Unit) × List (List Int) × Unit) × Unit), bytOut x.fst ∧ bytOut x.snd.fst →
  List.length x.fst.snd.fst ≤ (9223372036854775807 : Nat) →
  List.length x.fst.snd.snd.fst ≤ (9223372036854775807 : Nat) →
  List.length x.snd.fst.snd.fst ≤ (9223372036854775807 : Nat) →
  List.length x.snd.fst.snd.snd.fst ≤ (9223372036854775807 : Nat) →
  bif x.fst.fst == x.snd.fst.fst then (bytIts x.fst.snd.fst ∧ bytIts x.snd.fst.snd.fst) ∧ bif sIts x.fst.snd.fst x.snd.fst.snd.fst then (bytBs x.fst.snd.snd.fst ∧ bytBs x.snd.fst.snd.snd.fst) ∧ (sBs x.fst.snd.snd.fst x.snd.fst.snd.snd.fst, ()) = (sOut x.fst x.snd.fst, ()) else (false, ()) = (sOut x.fst x.snd.fst, ()) else (false, ()) = (sOut x.fst x.snd.fst, ())) := by kernel_rfl
theorem en_rout (us : Array Value) (u : World) : (callFunc 57 us).run Tryd.prog u = .ok (.enter 57 us) u := by kernel_rfl
theorem sc_rout : SC Tryd.prog 57 S_rout := by
  refine SC.of Tryd.func57 (c := bodyOf Tryd.f57) (by kernel_rfl) (by kernel_rfl) (fun x => (by decide : (2:Nat) ≤ Tryd.f57.ntmps)) (DOk.cons sc_ritm en_ritm (DOk.cons sc_rpts en_rpts DOk.nil)) (Eq.mpr vc_rout ?_)
  rintro ⟨⟨a1, a2, a3, ⟨⟩⟩, ⟨b1, b2, b3, ⟨⟩⟩, ⟨⟩⟩ ⟨ha, hb⟩ - - - -
  dsimp only at ha hb ⊢
  by_cases e1 : a1 = b1
  rotate_left 1
  · rw [beq_eq_false_iff_ne.2 e1, cond_false, sOut_f (fun e => e1 (by cases e; rfl))]
  rw [beq_iff_eq.2 e1, cond_true]
  refine ⟨⟨ha.1, hb.1⟩, ?_⟩
  by_cases e2 : a2 = b2
  rotate_left 1
  · rw [sIts_f e2, cond_false, sOut_f (fun e => e2 (by cases e; rfl))]
  rw [sIts_t e2, cond_true]
  refine ⟨⟨ha.2, hb.2⟩, ?_⟩
  by_cases e3 : a3 = b3
  rotate_left 1
  · rw [sBs_f e3, sOut_f (fun e => e3 (by cases e; rfl))]
  rw [sBs_t e3, sOut_t (by rw [e1, e2, e3])]

theorem vc_rin : VC Tryd.prog Tryd.f58 (bodyOf Tryd.f58) S_rin [(98, S_ritm)] (fun _ _ => none) = (∀ (x : (Int × List (Int × List Int × Int × Unit) × Unit) × (Int × List (Int × List Int × Int × Unit) × Unit) × Unit), bytIn x.fst ∧ bytIn x.snd.fst →
  List.length x.fst.snd.fst ≤ (9223372036854775807 : Nat) →
  List.length x.snd.fst.snd.fst ≤ (9223372036854775807 : Nat) →
  bif x.fst.fst == x.snd.fst.fst then (bytIts x.fst.snd.fst ∧ bytIts x.snd.fst.snd.fst) ∧ (sIts x.fst.snd.fst x.snd.fst.snd.fst, ()) = (sIn x.fst x.snd.fst, ()) else (false, ()) = (sIn x.fst x.snd.fst, ())) := by kernel_rfl
theorem en_rin (us : Array Value) (u : World) : (callFunc 58 us).run Tryd.prog u = .ok (.enter 58 us) u := by kernel_rfl
theorem sc_rin : SC Tryd.prog 58 S_rin := by
  refine SC.of Tryd.func58 (c := bodyOf Tryd.f58) (by kernel_rfl) (by kernel_rfl) (fun x => (by decide : (2:Nat) ≤ Tryd.f58.ntmps)) (DOk.cons sc_ritm en_ritm DOk.nil) (Eq.mpr vc_rin ?_)
  rintro ⟨⟨a1, a2, ⟨⟩⟩, ⟨b1, b2, ⟨⟩⟩, ⟨⟩⟩ ⟨ha, hb⟩ - -
  dsimp only at ha hb ⊢
  by_cases e1 : a1 = b1
  rotate_left 1
  · rw [beq_eq_false_iff_ne.2 e1, cond_false, sIn_f (fun e => e1 (by cases e; rfl))]
  rw [beq_iff_eq.2 e1, cond_true]
  refine ⟨⟨ha, hb⟩, ?_⟩
  by_cases e2 : a2 = b2
  rotate_left 1
  · rw [sIts_f e2, sIn_f (fun e => e2 (by cases e; rfl))]
  rw [sIts_t e2, sIn_t (by rw [e1, e2])]

theorem vc_rpo : VC Tryd.prog Tryd.f20 (bodyOf Tryd.f20) S_rpo [(56, S_ssame), (57, S_rout), (58, S_rin)] A_rpo = (∀ (x : (Int × (Int × Int × List Int × Unit) × List (Int × (Int × List (Int × List Int × Int × Unit) × List (List Int) × Unit) × (Int × List (Int × List Int × Int × Unit) × Unit) × Unit) × Unit) × (Int × (Int × Int × List Int × Unit) × List (Int × (Int × List (Int × List Int × Int × Unit) × List (List Int) × Unit) × (Int × List (Int × List Int × Int × Unit) × Unit) × Unit) × Unit) × Unit), bytPo x.fst ∧ bytPo x.snd.fst →
  List.length x.fst.snd.fst.snd.snd.fst ≤ (9223372036854775807 : Nat) →
  List.length x.fst.snd.snd.fst ≤ (9223372036854775807 : Nat) →
  List.length x.snd.fst.snd.fst.snd.snd.fst ≤ (9223372036854775807 : Nat) →
  List.length x.snd.fst.snd.snd.fst ≤ (9223372036854775807 : Nat) →
  bif x.fst.fst != x.snd.fst.fst then (false, ()) = (sPos x.fst x.snd.fst, ()) else True ∧ bif !stSame x.fst.snd.fst x.snd.fst.snd.fst then (false, ()) = (sPos x.fst x.snd.fst, ()) else List.length x.fst.snd.snd.fst ≤ (9223372036854775807 : Nat) →
  List.length x.snd.fst.snd.snd.fst ≤ (9223372036854775807 : Nat) →
  bif (↑(List.length x.fst.snd.snd.fst) : Int) != (↑(List.length x.snd.fst.snd.snd.fst) : Int) then (false, ()) = (sPos x.fst x.snd.fst, ()) else List.length x.fst.snd.snd.fst ≤ (9223372036854775807 : Nat) →
  ((0 : Int) ≤ (0 : Int) ∧ (0 : Int) ≤ (↑(List.length x.fst.snd.snd.fst) : Int) ∧ List.length x.fst.snd.snd.fst = List.length x.snd.fst.snd.snd.fst ∧ List.take (Int.toNat (0 : Int)) x.fst.snd.snd.fst = List.take (Int.toNat (0 : Int)) x.snd.fst.snd.snd.fst) ∧ ∀ (v : Int × Unit), (0 : Int) ≤ v.fst ∧ v.fst ≤ (↑(List.length x.fst.snd.snd.fst) : Int) ∧ List.length x.fst.snd.snd.fst = List.length x.snd.fst.snd.snd.fst ∧ List.take (Int.toNat v.fst) x.fst.snd.snd.fst = List.take (Int.toNat v.fst) x.snd.fst.snd.snd.fst →
  bif decide (v.fst < (↑(List.length x.fst.snd.snd.fst) : Int)) then (0 : Int) ≤ v.fst ∧ v.fst < (↑(List.length x.fst.snd.snd.fst) : Int) ∧ ∀ (c0 : Int × (Int × List (Int × List Int × Int × Unit) × List (List Int) × Unit) × (Int × List (Int × List Int × Int × Unit) × Unit) × Unit), x.fst.snd.snd.fst[Int.toNat v.fst]? = some c0 →
  (0 : Int) ≤ v.fst ∧ v.fst < (↑(List.length x.snd.fst.snd.snd.fst) : Int) ∧ ∀ (c0_1 : Int × (Int × List (Int × List Int × Int × Unit) × List (List Int) × Unit) × (Int × List (Int × List Int × Int × Unit) × Unit) × Unit), x.snd.fst.snd.snd.fst[Int.toNat v.fst]? = some c0_1 →
  bif c0.fst != c0_1.fst then (false, ()) = (sPos x.fst x.snd.fst, ()) else (0 : Int) ≤ v.fst ∧ v.fst < (↑(List.length x.fst.snd.snd.fst) : Int) ∧ ∀ (c0 : Int × (Int × List (Int × List Int × Int × Unit) × List (List Int) × Unit) × (Int × List (Int × List Int × Int × Unit) × Unit) × Unit), x.fst.snd.snd.fst[Int.toNat v.fst]? = some c0 →
  (0 : Int) ≤ v.fst ∧ v.fst < (↑(List.length x.snd.fst.snd.snd.fst) : Int) ∧ ∀ (c0_2 : Int × (Int × List (Int × List Int × Int × Unit) × List (List Int) × Unit) × (Int × List (Int × List Int × Int × Unit) × Unit) × Unit), x.snd.fst.snd.snd.fst[Int.toNat v.fst]? = some c0_2 →
  (bytOut c0.snd.fst ∧ bytOut c0_2.snd.fst) ∧ bif !sOut c0.snd.fst c0_2.snd.fst then (false, ()) = (sPos x.fst x.snd.fst, ()) else (0 : Int) ≤ v.fst ∧ v.fst < (↑(List.length x.fst.snd.snd.fst) : Int) ∧ ∀ (c0 : Int × (Int × List (Int × List Int × Int × Unit) × List (List Int) × Unit) × (Int × List (Int × List Int × Int × Unit) × Unit) × Unit), x.fst.snd.snd.fst[Int.toNat v.fst]? = some c0 →
  (0 : Int) ≤ v.fst ∧ v.fst < (↑(List.length x.snd.fst.snd.snd.fst) : Int) ∧ ∀ (c0_3 : Int × (Int × List (Int × List Int × Int × Unit) × List (List Int) × Unit) × (Int × List (Int × List Int × Int × Unit) × Unit) × Unit), x.snd.fst.snd.snd.fst[Int.toNat v.fst]? = some c0_3 →
  (bytIn c0.snd.snd.fst ∧ bytIn c0_3.snd.snd.fst) ∧ bif !sIn c0.snd.snd.fst c0_3.snd.snd.fst then (false, ()) = (sPos x.fst x.snd.fst, ()) else ((0 : Int) ≤ IntKind.wrap IntKind.i64 (v.fst + (1 : Int)) ∧ IntKind.wrap IntKind.i64 (v.fst + (1 : Int)) ≤ (↑(List.length x.fst.snd.snd.fst) : Int) ∧ List.length x.fst.snd.snd.fst = List.length x.snd.fst.snd.snd.fst ∧ List.take (Int.toNat (IntKind.wrap IntKind.i64 (v.fst + (1 : Int)))) x.fst.snd.snd.fst = List.take (Int.toNat (IntKind.wrap IntKind.i64 (v.fst + (1 : Int)))) x.snd.fst.snd.snd.fst) ∧ Int.toNat ((↑(List.length x.fst.snd.snd.fst) : Int) - IntKind.wrap IntKind.i64 (v.fst + (1 : Int))) < Int.toNat ((↑(List.length x.fst.snd.snd.fst) : Int) - v.fst) else (true, ()) = (sPos x.fst x.snd.fst, ())) := by kernel_rfl
theorem en_rpo (us : Array Value) (u : World) : (callFunc 20 us).run Tryd.prog u = .ok (.enter 20 us) u := by kernel_rfl
theorem sc_rpo : SC Tryd.prog 20 S_rpo := by
  refine SC.of Tryd.func20 (c := bodyOf Tryd.f20) (by kernel_rfl) (by kernel_rfl) (fun x => (by decide : (2:Nat) ≤ Tryd.f20.ntmps)) (DOk.cons sc_rst en_rst (DOk.cons sc_rout en_rout (DOk.cons sc_rin en_rin DOk.nil))) (Eq.mpr vc_rpo ?_)
  rintro ⟨⟨n, s, a, ⟨⟩⟩, ⟨m, t, b, ⟨⟩⟩, ⟨⟩⟩ ⟨ha, hb⟩ - hla - -
  dsimp only at ha hb hla ⊢
  by_cases f1 : n = m
  rotate_left 1
  · rw [bneT f1, cond_true, sPos_f (fun e => f1 (by cases e; rfl))]
  rw [bneF f1, cond_false]
  refine ⟨trivial, ?_⟩
  have f2 : stSame s t = true ↔ s = t := by
    obtain ⟨s1, s2, s3, ⟨⟩⟩ := s
    obtain ⟨t1, t2, t3, ⟨⟩⟩ := t
    constructor
    · intro h
      simp only [stSame, Bool.and_eq_true, beq_iff_eq] at h
      rw [h.1, h.2.1, h.2.2]
    · intro h
      rw [h]
      unfold stSame
      simp
  by_cases f3 : s = t
  rotate_left 1
  · have : stSame s t = false := by
      cases h : stSame s t
      · rfl
      · exact absurd (f2.1 h) f3
    rw [this, Bool.not_false, cond_true, sPos_f (fun e => f3 (by cases e; rfl))]
  rw [f2.2 f3, Bool.not_true, cond_false]
  intro _ _
  have go : ∀ {P : Prop}, (P → a = b) → (a = b → P) → True := fun _ _ => trivial
  by_cases h : a.length = b.length
  rotate_left 1
  · rw [bneT (by omega), cond_true, sPos_f (fun e => h (by cases e; rfl))]
  rw [bneF (by omega), cond_false]
  intro _
  refine ⟨⟨Int.le_refl 0, by omega, h, rfl⟩, ?_⟩
  rintro ⟨i, ⟨⟩⟩ ⟨q0, q1, -, ht⟩
  dsimp only at q0 q1 ht ⊢
  by_cases hi : i < (a.length : Int)
  rotate_left 1
  · rw [decide_eq_false hi, cond_false]
    obtain rfl : i = (a.length : Int) := by omega
    rw [show ((a.length : Nat) : Int).toNat = a.length by omega, List.take_length, h, List.take_length] at ht
    rw [sPos_t (by rw [f1, f3, ht])]
  have wi : IntKind.i64.wrap (i + 1) = i + 1 := IntWalk.i64_in _ (by omega)
  rw [decide_eq_true hi, cond_true, wi]
  refine ⟨q0, hi, fun c hc => ⟨q0, by omega, fun d hd => ?_⟩⟩
  have ne : c ≠ d → ¬ ((n, s, a, ()) : Pos) = (m, t, b, ()) := fun e e2 => e (by
    have e3 : a = b := by cases e2; rfl
    rw [e3, hd] at hc
    exact (Option.some.inj hc).symm)
  by_cases e1 : c.1 = d.1
  rotate_left 1
  · rw [bneT e1, cond_true, sPos_f (ne fun e => e1 (by rw [e]))]
  rw [bneF e1, cond_false]
  refine ⟨q0, hi, fun c' hc' => ⟨q0, by omega, fun d' hd' => ?_⟩⟩
  obtain rfl := Option.some.inj (hc.symm.trans hc')
  obtain rfl := Option.some.inj (hd.symm.trans hd')
  have kc := ha c (List.mem_of_getElem? hc)
  have kd := hb d (List.mem_of_getElem? hd)
  refine ⟨⟨kc.1, kd.1⟩, ?_⟩
  by_cases e2 : c.2.1 = d.2.1
  rotate_left 1
  · rw [sOut_f e2, Bool.not_false, cond_true, sPos_f (ne fun e => e2 (by rw [e]))]
  rw [sOut_t e2, Bool.not_true, cond_false]
  refine ⟨q0, hi, fun c' hc' => ⟨q0, by omega, fun d' hd' => ?_⟩⟩
  obtain rfl := Option.some.inj (hc.symm.trans hc')
  obtain rfl := Option.some.inj (hd.symm.trans hd')
  refine ⟨⟨kc.2, kd.2⟩, ?_⟩
  by_cases e3 : c.2.2.1 = d.2.2.1
  rotate_left 1
  · rw [sIn_f e3, Bool.not_false, cond_true, sPos_f (ne fun e => e3 (by rw [e]))]
  rw [sIn_t e3, Bool.not_true, cond_false]
  have e : c = d := Prod.ext e1 (Prod.ext e2 (Prod.ext e3 rfl))
  subst e
  refine ⟨⟨by omega, by omega, h, ?_⟩, by omega⟩
  rw [show (i + 1).toNat = i.toNat + 1 by omega, take_snoc hc, take_snoc hd, ht]

theorem vc_forg : VC Tryd.prog Tryd.f4 (bodyOf Tryd.f4) S_forg [(10, S_live), (11, S_may), (16, S_ptake), (15, S_nodes), (14, S_pair), (19, S_ftake), (20, S_rpo)] (fun _ _ => none) = (∀ (x : (List Int × Int × Int × Int × Int × Int × Int × Int × Int × Int × Int × Unit) × (Int × (Int × Int × List Int × Unit) × List (Int × (Int × List (Int × List Int × Int × Unit) × List (List Int) × Unit) × (Int × List (Int × List Int × Int × Unit) × Unit) × Unit) × Unit) × Int × List Int × Unit), (List.length x.fst.fst ≤ big ∧ okPo x.snd.fst ∧ okSt x.snd.fst.snd.fst ∧ List.length x.snd.snd.snd.fst ≤ big ∧ ∀ (x_1 : Int), x_1 ∈ x.snd.snd.snd.fst →
  (0 : Int) ≤ x_1 ∧ x_1 < (256 : Int)) →
  List.length x.fst.fst ≤ (9223372036854775807 : Nat) →
  List.length x.snd.fst.snd.fst.snd.snd.fst ≤ (9223372036854775807 : Nat) →
  List.length x.snd.fst.snd.snd.fst ≤ (9223372036854775807 : Nat) →
  List.length x.snd.snd.snd.fst ≤ (9223372036854775807 : Nat) →
  True ∧ okPo x.snd.fst ∧ bif !mayF x.fst x.snd.fst then (true, ()) = (true, ()) else List.length x.snd.snd.snd.fst ≤ (9223372036854775807 : Nat) →
  bif decide ((800 : Int) < (↑(List.length x.snd.snd.snd.fst) : Int)) then (true, ()) = (true, ()) else (List.length x.fst.fst ≤ big ∧ okPo x.snd.fst ∧ okSt x.snd.fst.snd.fst ∧ List.length x.snd.snd.snd.fst ≤ (100000000 : Nat) ∧ ∀ (x_1 : Int), x_1 ∈ x.snd.snd.snd.fst →
  (0 : Int) ≤ x_1 ∧ x_1 < (256 : Int)) ∧ bif decide (x.snd.snd.fst < (0 : Int)) then bif (ptF x.fst x.snd.fst x.snd.snd.fst x.snd.snd.snd.fst (0 : Int)).snd.snd.snd.fst == (1 : Int) then List.length (ptF x.fst x.snd.fst x.snd.snd.fst x.snd.snd.snd.fst (0 : Int)).snd.fst ≤ (9223372036854775807 : Nat) →
  List.length (ptF x.fst x.snd.fst x.snd.snd.fst x.snd.snd.snd.fst (0 : Int)).snd.snd.fst ≤ (9223372036854775807 : Nat) →
  (IntKind.wrap IntKind.i64 ((↑(List.length (ptF x.fst x.snd.fst x.snd.snd.fst x.snd.snd.snd.fst (0 : Int)).snd.fst) : Int) + (↑(List.length (ptF x.fst x.snd.fst x.snd.snd.fst x.snd.snd.snd.fst (0 : Int)).snd.snd.fst) : Int)) == (0 : Int), ()) = (true, ()) else (false, ()) = (true, ()) else True ∧ bif decide (nodesF x.fst ≤ x.snd.snd.fst) then bif (ptF x.fst x.snd.fst x.snd.snd.fst x.snd.snd.snd.fst (0 : Int)).snd.snd.snd.fst == (1 : Int) then List.length (ptF x.fst x.snd.fst x.snd.snd.fst x.snd.snd.snd.fst (0 : Int)).snd.fst ≤ (9223372036854775807 : Nat) →
  List.length (ptF x.fst x.snd.fst x.snd.snd.fst x.snd.snd.snd.fst (0 : Int)).snd.snd.fst ≤ (9223372036854775807 : Nat) →
  (IntKind.wrap IntKind.i64 ((↑(List.length (ptF x.fst x.snd.fst x.snd.snd.fst x.snd.snd.snd.fst (0 : Int)).snd.fst) : Int) + (↑(List.length (ptF x.fst x.snd.fst x.snd.snd.fst x.snd.snd.snd.fst (0 : Int)).snd.snd.fst) : Int)) == (0 : Int), ()) = (true, ()) else (false, ()) = (true, ()) else bif x.snd.snd.fst == x.snd.fst.fst then bif (ptF x.fst x.snd.fst x.snd.snd.fst x.snd.snd.snd.fst (0 : Int)).snd.snd.snd.fst == (1 : Int) then List.length (ptF x.fst x.snd.fst x.snd.snd.fst x.snd.snd.snd.fst (0 : Int)).snd.fst ≤ (9223372036854775807 : Nat) →
  List.length (ptF x.fst x.snd.fst x.snd.snd.fst x.snd.snd.snd.fst (0 : Int)).snd.snd.fst ≤ (9223372036854775807 : Nat) →
  (IntKind.wrap IntKind.i64 ((↑(List.length (ptF x.fst x.snd.fst x.snd.snd.fst x.snd.snd.snd.fst (0 : Int)).snd.fst) : Int) + (↑(List.length (ptF x.fst x.snd.fst x.snd.snd.fst x.snd.snd.snd.fst (0 : Int)).snd.snd.fst) : Int)) == (0 : Int), ()) = (true, ()) else (false, ()) = (true, ()) else List.length x.fst.fst ≤ (1000000000 : Nat) ∧ (List.length (pairF x.fst x.snd.snd.fst x.snd.fst.fst) ≤ (1000000000 : Nat) ∧ List.length x.snd.snd.snd.fst ≤ (100000000 : Nat) ∧ ∀ (x_1 : Int), x_1 ∈ x.snd.snd.snd.fst →
  (0 : Int) ≤ x_1 ∧ x_1 < (256 : Int)) ∧ bif frTkE (pairF x.fst x.snd.snd.fst x.snd.fst.fst) x.snd.snd.snd.fst != (0 : Int) then bif (ptF x.fst x.snd.fst x.snd.snd.fst x.snd.snd.snd.fst (0 : Int)).snd.snd.snd.fst == frTkE (pairF x.fst x.snd.snd.fst x.snd.fst.fst) x.snd.snd.snd.fst then List.length (ptF x.fst x.snd.fst x.snd.snd.fst x.snd.snd.snd.fst (0 : Int)).snd.fst ≤ (9223372036854775807 : Nat) →
  List.length (ptF x.fst x.snd.fst x.snd.snd.fst x.snd.snd.snd.fst (0 : Int)).snd.snd.fst ≤ (9223372036854775807 : Nat) →
  bif IntKind.wrap IntKind.i64 ((↑(List.length (ptF x.fst x.snd.fst x.snd.snd.fst x.snd.snd.snd.fst (0 : Int)).snd.fst) : Int) + (↑(List.length (ptF x.fst x.snd.fst x.snd.snd.fst x.snd.snd.snd.fst (0 : Int)).snd.snd.fst) : Int)) == (0 : Int) then (bytPo (ptF x.fst x.snd.fst x.snd.snd.fst x.snd.snd.snd.fst (0 : Int)).fst ∧ bytPo ((0 : Int), ((0 : Int), (0 : Int), [], ()), [], ())) ∧ (sPos (ptF x.fst x.snd.fst x.snd.snd.fst x.snd.snd.snd.fst (0 : Int)).fst ((0 : Int), ((0 : Int), (0 : Int), [], ()), [], ()), ()) = (true, ()) else (false, ()) = (true, ()) else (false, ()) = (true, ()) else bif (frTkF (pairF x.fst x.snd.snd.fst x.snd.fst.fst) x.snd.snd.snd.fst).fst != x.snd.snd.fst then bif (ptF x.fst x.snd.fst x.snd.snd.fst x.snd.snd.snd.fst (0 : Int)).snd.snd.snd.fst == (1 : Int) then List.length (ptF x.fst x.snd.fst x.snd.snd.fst x.snd.snd.snd.fst (0 : Int)).snd.fst ≤ (9223372036854775807 : Nat) →
  List.length (ptF x.fst x.snd.fst x.snd.snd.fst x.snd.snd.snd.fst (0 : Int)).snd.snd.fst ≤ (9223372036854775807 : Nat) →
  (IntKind.wrap IntKind.i64 ((↑(List.length (ptF x.fst x.snd.fst x.snd.snd.fst x.snd.snd.snd.fst (0 : Int)).snd.fst) : Int) + (↑(List.length (ptF x.fst x.snd.fst x.snd.snd.fst x.snd.snd.snd.fst (0 : Int)).snd.snd.fst) : Int)) == (0 : Int), ()) = (true, ()) else (false, ()) = (true, ()) else bif (frTkF (pairF x.fst x.snd.snd.fst x.snd.fst.fst) x.snd.snd.snd.fst).snd.fst != x.snd.fst.fst then bif (ptF x.fst x.snd.fst x.snd.snd.fst x.snd.snd.snd.fst (0 : Int)).snd.snd.snd.fst == (1 : Int) then List.length (ptF x.fst x.snd.fst x.snd.snd.fst x.snd.snd.snd.fst (0 : Int)).snd.fst ≤ (9223372036854775807 : Nat) →
  List.length (ptF x.fst x.snd.fst x.snd.snd.fst x.snd.snd.snd.fst (0 : Int)).snd.snd.fst ≤ (9223372036854775807 : Nat) →
  (IntKind.wrap IntKind.i64 ((↑(List.length (ptF x.fst x.snd.fst x.snd.snd.fst x.snd.snd.snd.fst (0 : Int)).snd.fst) : Int) + (↑(List.length (ptF x.fst x.snd.fst x.snd.snd.fst x.snd.snd.snd.fst (0 : Int)).snd.snd.fst) : Int)) == (0 : Int), ()) = (true, ()) else (false, ()) = (true, ()) else bif (ptF x.fst x.snd.fst x.snd.snd.fst x.snd.snd.snd.fst (0 : Int)).snd.snd.snd.fst == (0 : Int) then (true, ()) = (true, ()) else ((ptF x.fst x.snd.fst x.snd.snd.fst x.snd.snd.snd.fst (0 : Int)).snd.snd.snd.fst == (6 : Int), ()) = (true, ())) := by kernel_rfl
theorem en_forg (us : Array Value) (u : World) : (callFunc 4 us).run Tryd.prog u = .ok (.enter 4 us) u := by kernel_rfl
theorem sc_forg : SC Tryd.prog 4 S_forg := by
  refine SC.of Tryd.func4 (c := bodyOf Tryd.f4) (by kernel_rfl) (by kernel_rfl) (fun x => (by decide : (4:Nat) ≤ Tryd.f4.ntmps)) (DOk.cons sc_live en_live (DOk.cons sc_may en_may (DOk.cons sc_ptake en_ptake (DOk.cons sc_nodes en_nodes (DOk.cons sc_pair en_pair (DOk.cons sc_ftake en_ftake (DOk.cons sc_rpo en_rpo DOk.nil))))))) (Eq.mpr vc_forg ?_)
  rintro ⟨c, p, n, b, ⟨⟩⟩ ⟨h1, h2, h3, h4, h5⟩ - - - -
  dsimp only at h1 h2 h3 h4 h5 ⊢
  have e1 : c.1.length ≤ 1000000000 := h1
  have hb : byt b := h5
  refine ⟨trivial, h2, ?_⟩
  cases hm : mayF c p
  · rfl
  rw [Bool.not_true, cond_false]
  intro _
  by_cases a1 : 800 < (b.length : Int)
  · rw [decide_eq_true a1, cond_true]
  rw [decide_eq_false a1, cond_false]
  refine ⟨⟨h1, h2, h3, by omega, h5⟩, ?_⟩
  have er : (isNodeF c n = false ∨ n = p.1) → ptF c p n b 0 = (zPo, [], [], 1, ()) := fun h => by rw [ptF, if_pos h]
  by_cases b1 : n < 0
  · rw [decide_eq_true b1, cond_true, er (.inl (by unfold isNodeF; rw [decide_eq_false (by omega : ¬ 0 ≤ n)]; rfl))]
    exact fun _ _ => rfl
  rw [decide_eq_false b1, cond_false]
  refine ⟨trivial, ?_⟩
  by_cases b2 : nodesF c ≤ n
  · rw [decide_eq_true b2, cond_true, er (.inl (by unfold isNodeF; rw [decide_eq_false (by omega : ¬ n < nodesF c)]; cases decide (0 ≤ n) <;> rfl))]
    exact fun _ _ => rfl
  rw [decide_eq_false b2, cond_false]
  by_cases b3 : n = p.1
  · rw [beq_iff_eq.2 b3, cond_true, er (.inr b3)]
    exact fun _ _ => rfl
  rw [beq_eq_false_iff_ne.2 b3, cond_false]
  have hN : isNodeF c n = true := by unfold isNodeF; rw [decide_eq_true (by omega : 0 ≤ n), decide_eq_true (by omega : n < nodesF c)]; rfl
  have hno : ¬ (isNodeF c n = false ∨ n = p.1) := by
    rintro (h | h)
    · rw [hN] at h; cases h
    · exact b3 h
  refine ⟨e1, ⟨by rw [pairF_len]; omega, by omega, h5⟩, ?_⟩
  by_cases b4 : frTkE (pairF c n p.1) b = 0
  rotate_left 1
  · have e2 : ptF c p n b 0 = (zPo, [], [], frTkE (pairF c n p.1) b, ()) := by rw [ptF, if_neg hno, if_pos b4]
    rw [bneT b4, cond_true, e2]
    dsimp only
    rw [beq_self_eq_true, cond_true]
    intro _ _
    exact ⟨⟨bytPo_nil rfl, bytPo_nil rfl⟩, congrArg (fun z : Bool => (z, ())) (sPos_t (a := zPo) (b := zPo) rfl)⟩
  rw [bneF b4, cond_false]
  have hG : ptF c p n b 0 = ptG c p n (frTkF (pairF c n p.1) b) 0 := by rw [ptF, if_neg hno, if_neg (fun h => h b4)]
  generalize frTkF (pairF c n p.1) b = f at hG ⊢
  by_cases b5 : f.1 = n
  rotate_left 1
  · rw [bneT b5, cond_true, hG, ptG, if_pos (.inl b5)]
    exact fun _ _ => rfl
  rw [bneF b5, cond_false]
  by_cases b6 : f.2.1 = p.1
  rotate_left 1
  · rw [bneT b6, cond_true, hG, ptG, if_pos (.inr b6)]
    exact fun _ _ => rfl
  rw [bneF b6, cond_false]
  have k : (ptG c p n f 0).2.2.2.1 = 0 ∨ (ptG c p n f 0).2.2.2.1 = 6 := by
    rw [ptG, if_neg (by rintro (h | h); exact h b5; exact h b6)]
    split
    · exact .inr rfl
    · split <;> exact .inl rfl
  rw [hG]
  rcases k with k | k <;> rw [k] <;> rfl
end Go.Proofs.YtjkbkhjalimebaaDoor
