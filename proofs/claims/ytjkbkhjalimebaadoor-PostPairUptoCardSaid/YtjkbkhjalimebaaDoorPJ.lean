/- The words of package post: copies, links. Printed by gen.py. -/
import Derived.Test.YtjkbkhjalimebaaDoorPI
namespace Go.Proofs.YtjkbkhjalimebaaDoor
open Go.RowKit DoorU
set_option linter.unusedVariables false
set_option linter.unusedSimpArgs false
set_option maxRecDepth 100000
set_option maxHeartbeats 1000000

namespace DoorU
def okPe (q : Pee) : Prop := okOut q.2.1 ∧ okIn q.2.2.1
def okPo (p : Pos) : Prop := p.2.1.2.2.1.length ≤ big ∧ p.2.2.1.length ≤ big ∧ ∀ q ∈ p.2.2.1, okPe q
def zPo : Pos := (0, zSt, [], ())
def newPe (n : Int) : Pee := (n, (0, [], [], ()), (0, [], ()), ())
def goF (p : Pos) (s : Sta) : Pos := if stCmp s p.2.1 ≤ 0 then p else (p.1, s, [], ())
def newF (c : Cfg) (n : Int) : Pos × Int × Unit := if isNodeF c n then ((n, zSt, [], ()), 0, ()) else (zPo, 1, ())
def insF (l : List Pee) (i : Nat) (v : List Pee) : List Pee := l.take i ++ v ++ l.drop i
def eqAt (l : List Pee) (n : Int) : Nat := l.findIdx fun q => q.1 == n
def gtAt (l : List Pee) (n : Int) : Nat := l.findIdx fun q => decide (n < q.1)
def lnkI (l : List Pee) (n : Int) : Nat := if eqAt l n = l.length then gtAt l n else eqAt l n
def lnkL (l : List Pee) (n : Int) : List Pee := if eqAt l n = l.length then insF l (gtAt l n) [newPe n] else l
theorem fIdx_at {α : Type} {p : α → Bool} {c : α} : ∀ {l : List α} {k : Nat}, l[k]? = some c → p c = true → (∀ q ∈ l.take k, p q = false) → l.findIdx p = k
  | [], _, h, _, _ => by simp at h
  | x :: l, 0, h, hc, _ => by
    obtain rfl : x = c := by simpa using h
    rw [List.findIdx_cons, hc]; rfl
  | x :: l, k + 1, h, hc, hq => by
    have hx : p x = false := hq x (by simp)
    rw [List.findIdx_cons, hx, cond_false, fIdx_at (l := l) (k := k) (by simpa using h) hc (fun q hq' => hq q (by rw [List.take_succ_cons]; exact List.mem_cons_of_mem _ hq'))]
theorem fIdx_no {α : Type} {p : α → Bool} : ∀ {l : List α}, (∀ q ∈ l, p q = false) → l.findIdx p = l.length
  | [], _ => rfl
  | x :: l, h => by
    rw [List.findIdx_cons, h x (List.mem_cons_self ..), cond_false, fIdx_no (l := l) (fun q hq => h q (List.mem_cons_of_mem _ hq)), List.length_cons]
theorem fIdx_le {α : Type} (p : α → Bool) : ∀ l : List α, l.findIdx p ≤ l.length
  | [] => Nat.le_refl 0
  | x :: l => by
    have := fIdx_le p l
    rw [List.findIdx_cons, List.length_cons]
    cases p x
    · rw [cond_false]; omega
    · rw [cond_true]; omega
theorem insF_len (l v : List Pee) (i : Nat) (h : i ≤ l.length) : (insF l i v).length = l.length + v.length := by
  unfold insF
  rw [List.length_append, List.length_append, List.length_take, List.length_drop]
  omega
end DoorU
abbrev vPo : Sh := .agg (shOf false tPo)
abbrev vPas : Sh := .view false tPa
abbrev lPes : Sh := .view true tPe
abbrev oPes : Sh := .own tPe 53
abbrev fPes : Sh := .own tPe (1000 + 53)
abbrev sPo (o : Sh) : Sh := .pair nI (.pair (shOf false tSt) (.pair o .unit))
abbrev pPo (o : Sh) : Sh := .var 31 (sPo o)
def S_pcpis : Spec := ⟨.pair lIts .unit, .pair vIts .unit, fun (x : List Itm × Unit) => okIts x.1, fun (x : List Itm × Unit) => ((x.1, ()) : List Itm × Unit)⟩
def S_pcpbs : Spec := ⟨.pair lYs .unit, .pair vYs .unit, fun (x : List (List Int) × Unit) => okBs x.1, fun (x : List (List Int) × Unit) => ((x.1, ()) : List (List Int) × Unit)⟩
def S_cli : Spec := ⟨.pair lI .unit, .pair vI .unit, fun (x : List Int × Unit) => x.1.length ≤ 1000000000000, fun (x : List Int × Unit) => ((x.1, ()) : List Int × Unit)⟩
def S_cpst : Spec := ⟨.pair aSt .unit, .pair vSt .unit, fun (x : Sta × Unit) => x.1.2.2.1.length ≤ 1000000000000, fun (x : Sta × Unit) => ((x.1, ()) : Sta × Unit)⟩
def S_cpo : Spec := ⟨.pair aPo .unit, .pair (.agg (sPo fPes)) .unit, fun (x : Pos × Unit) => okPo x.1, fun (x : Pos × Unit) => ((x.1, ()) : Pos × Unit)⟩
def A_cpo (x : Pos × Unit) : Nat → Option LA
  | 0 => some ⟨[19, 3], [], .pair nI (.pair (pPo fPes) .unit), fun (v : Int × Pos × Unit) => 0 ≤ v.1 ∧ v.1 ≤ (x.1.2.2.1.length : Nat) ∧ v.2.1.1 = x.1.1 ∧ v.2.1.2.1 = x.1.2.1 ∧ v.2.1.2.2.1.length = x.1.2.2.1.length ∧ v.2.1.2.2.1.take v.1.toNat = x.1.2.2.1.take v.1.toNat, fun (v : Int × Pos × Unit) => ((x.1.2.2.1.length : Nat) - v.1).toNat⟩
  | _ => none
def S_go : Spec := ⟨.pair aPo (.pair aSt .unit), .pair (.agg (sPo fPes)) .unit, fun (x : Pos × Sta × Unit) => okPo x.1 ∧ x.2.1.2.2.1.length ≤ 1000000000000, fun (x : Pos × Sta × Unit) => ((goF x.1 x.2.1, ()) : Pos × Unit)⟩
def S_new : Spec := ⟨.pair aC (.pair nI .unit), .pair (.tup (.pair vPo (.pair nI .unit))) .unit, fun _ => True, fun (x : Cfg × Int × Unit) => ((newF x.1 x.2.1, ()) : (Pos × Int × Unit) × Unit)⟩
def S_fp2 : Spec := ⟨.pair nI (.pair (.var 3 (.pair nI .unit)) .unit), .pair .bool (.pair (.var 3 (.pair nI .unit)) .unit), fun _ => True, fun (x : Int × (Int × Unit) × Unit) => ((x.1 == x.2.1.1, x.2) : Bool × (Int × Unit) × Unit)⟩
def S_fp3 : Spec := ⟨.pair nI (.pair (.var 3 (.pair nI .unit)) .unit), .pair .bool (.pair (.var 3 (.pair nI .unit)) .unit), fun _ => True, fun (x : Int × (Int × Unit) × Unit) => ((decide (x.2.1.1 < x.1), x.2) : Bool × (Int × Unit) × Unit)⟩
abbrev cFit (f : Nat) : Sh := .fn f (.pair (.var 3 (.pair nI .unit)) .unit)
abbrev cPtr : Sh := .var 106 (.pair (pPo fPes) .unit)
abbrev vFind : Type := ((Int × Unit) × Unit) × (Pos × Unit) × Unit
def S_fd2 : Spec := ⟨.pair (cFit 85) (.pair cPtr .unit), .pair nI (.pair (.var 3 (.pair nI .unit)) (.pair cPtr .unit)), fun (x : vFind) => x.2.1.1.2.2.1.length ≤ big, fun (x : vFind) => (((eqAt x.2.1.1.2.2.1 x.1.1.1 : Nat), x.1.1, x.2) : Int × (Int × Unit) × (Pos × Unit) × Unit)⟩
def S_fd3 : Spec := ⟨.pair (cFit 86) (.pair cPtr .unit), .pair nI (.pair (.var 3 (.pair nI .unit)) (.pair cPtr .unit)), fun (x : vFind) => x.2.1.1.2.2.1.length ≤ big, fun (x : vFind) => (((gtAt x.2.1.1.2.2.1 x.1.1.1 : Nat), x.1.1, x.2) : Int × (Int × Unit) × (Pos × Unit) × Unit)⟩
def A_fd2 (x : vFind) : Nat → Option LA
  | 0 => some ⟨[11, 0], [], .pair nI (.pair (cFit 85) .unit), fun (v : Int × ((Int × Unit) × Unit) × Unit) => 0 ≤ v.1 ∧ v.1 ≤ (x.2.1.1.2.2.1.length : Nat) ∧ v.2.1.1.1 = x.1.1.1 ∧ ∀ q ∈ x.2.1.1.2.2.1.take v.1.toNat, (q.1 == x.1.1.1) = false, fun (v : Int × ((Int × Unit) × Unit) × Unit) => ((x.2.1.1.2.2.1.length : Nat) - v.1).toNat⟩
  | _ => none
def A_fd3 (x : vFind) : Nat → Option LA
  | 0 => some ⟨[11, 0], [], .pair nI (.pair (cFit 86) .unit), fun (v : Int × ((Int × Unit) × Unit) × Unit) => 0 ≤ v.1 ∧ v.1 ≤ (x.2.1.1.2.2.1.length : Nat) ∧ v.2.1.1.1 = x.1.1.1 ∧ ∀ q ∈ x.2.1.1.2.2.1.take v.1.toNat, decide (x.1.1.1 < q.1) = false, fun (v : Int × ((Int × Unit) × Unit) × Unit) => ((x.2.1.1.2.2.1.length : Nat) - v.1).toNat⟩
  | _ => none
def S_ins : Spec := ⟨.pair fPes (.pair nI (.pair (.view false tPe) .unit)), .pair oPes .unit, fun (x : List Pee × Int × List Pee × Unit) => x.1.length ≤ 2000000000 ∧ x.2.2.1.length = 1 ∧ 0 ≤ x.2.1 ∧ x.2.1 ≤ (x.1.length : Nat), fun (x : List Pee × Int × List Pee × Unit) => ((insF x.1 x.2.1.toNat x.2.2.1, ()) : List Pee × Unit)⟩
def S_lw : Spec := ⟨.pair (pPo fPes) (.pair nI .unit), .atp 0 (.pair (pPo oPes) .unit), fun (x : Pos × Int × Unit) => x.1.2.2.1.length ≤ big, fun (x : Pos × Int × Unit) => ((lnkI x.1.2.2.1 x.2.1, (x.1.1, x.1.2.1, lnkL x.1.2.2.1 x.2.1, ()), ()) : Nat × Pos × Unit)⟩

theorem vc_pcpis : VC Tryd.prog Tryd.f99 (bodyOf Tryd.f99) S_pcpis [(93, S_scl)] A_cpis = (∀ (x : List (Int × List Int × Int × Unit) × Unit), okIts x.fst →
  List.length x.fst ≤ (9223372036854775807 : Nat) →
  List.length x.fst ≤ (9223372036854775807 : Nat) →
  (0 : Int) ≤ (↑(List.length x.fst) : Int) ∧ (↑(List.length x.fst) : Int) ≤ (↑(List.length x.fst) : Int) ∧ (40 : Int) * (↑(List.length x.fst) : Int) ≤ (281474976710656 : Int) ∧ (↑(List.length x.fst) : Int) ≤ (140737488351232 : Int) ∧ (List.length x.fst ≤ (9223372036854775807 : Nat) →
  ((0 : Int) ≤ (0 : Int) ∧ (0 : Int) ≤ (↑(List.length x.fst) : Int) ∧ List.length (List.replicate (Int.toNat (↑(List.length x.fst) : Int)) (((0 : Int), [], (0 : Int), ()) : Itm)) = List.length x.fst ∧ List.take (Int.toNat (0 : Int)) (List.replicate (Int.toNat (↑(List.length x.fst) : Int)) (((0 : Int), [], (0 : Int), ()) : Itm)) = List.take (Int.toNat (0 : Int)) x.fst) ∧ ∀ (v : Int × List (Int × List Int × Int × Unit) × Unit), (0 : Int) ≤ v.fst ∧ v.fst ≤ (↑(List.length x.fst) : Int) ∧ List.length v.snd.fst = List.length x.fst ∧ List.take (Int.toNat v.fst) v.snd.fst = List.take (Int.toNat v.fst) x.fst →
  bif decide (v.fst < (↑(List.length x.fst) : Int)) then (0 : Int) ≤ v.fst ∧ v.fst < (↑(List.length x.fst) : Int) ∧ ∀ (c0 : Int × List Int × Int × Unit), x.fst[Int.toNat v.fst]? = some c0 →
  List.length c0.snd.fst ≤ (1000000000000 : Nat) ∧ (0 : Int) ≤ v.fst ∧ v.fst < (↑(List.length v.snd.fst) : Int) ∧ Int.toNat v.fst < List.length v.snd.fst ∧ ∀ (x0 : Int × List Int × Int × Unit), v.snd.fst[Int.toNat v.fst]? = some x0 →
  ((0 : Int) ≤ IntKind.wrap IntKind.i64 (v.fst + (1 : Int)) ∧ IntKind.wrap IntKind.i64 (v.fst + (1 : Int)) ≤ (↑(List.length x.fst) : Int) ∧ List.length (List.set v.snd.fst (Int.toNat v.fst) c0) = List.length x.fst ∧ List.take (Int.toNat (IntKind.wrap IntKind.i64 (v.fst + (1 : Int)))) (List.set v.snd.fst (Int.toNat v.fst) c0) = List.take (Int.toNat (IntKind.wrap IntKind.i64 (v.fst + (1 : Int)))) x.fst) ∧ Int.toNat ((↑(List.length x.fst) : Int) - IntKind.wrap IntKind.i64 (v.fst + (1 : Int))) < Int.toNat ((↑(List.length x.fst) : Int) - v.fst) else v.snd = x)) := by kernel_rfl
theorem en_pcpis (us : Array Value) (u : World) : (callFunc 99 us).run Tryd.prog u = .ok (.enter 99 us) u := by kernel_rfl
theorem sc_pcpis : SC Tryd.prog 99 S_pcpis := by
  refine SC.of Tryd.func99 (c := bodyOf Tryd.f99) (by kernel_rfl) (by kernel_rfl) (fun x => (by decide : (1:Nat) ≤ Tryd.f99.ntmps)) (DOk.cons sc_scl en_scl DOk.nil) (Eq.mpr vc_pcpis ?_)
  rintro ⟨l, ⟨⟩⟩ ⟨h1, h2⟩ - -
  dsimp only at h1 h2 ⊢
  have hb : l.length ≤ 1000000000 := h1
  refine ⟨by omega, Int.le_refl _, by omega, by omega, fun _ => ⟨⟨Int.le_refl 0, by omega, by rw [List.length_replicate]; omega, rfl⟩, ?_⟩⟩
  rintro ⟨i, r, ⟨⟩⟩ ⟨q0, q1, hl, ht⟩
  dsimp only at q0 q1 hl ht ⊢
  have wi : IntKind.i64.wrap (i + 1) = i + 1 := IntWalk.i64_in _ (by omega)
  by_cases hi : i < (l.length : Int)
  · rw [decide_eq_true hi, cond_true, wi]
    refine ⟨q0, hi, fun c hc => ⟨?_, q0, by omega, by omega, fun x0 _ => ⟨⟨by omega, by omega, by rw [List.length_set, hl], ?_⟩, by omega⟩⟩⟩
    · have hbc : c.2.1.length ≤ 1000000000 := h2 c (List.mem_of_getElem? hc)
      omega
    · rw [show (i + 1).toNat = i.toNat + 1 by omega, take_snoc hc, take_set (by omega), ht]
  · rw [decide_eq_false hi, cond_false]
    obtain rfl : i = (l.length : Int) := by omega
    rw [show ((l.length : Nat) : Int).toNat = l.length by omega, List.take_length, ← hl, List.take_length] at ht
    rw [ht]

theorem vc_pcpbs : VC Tryd.prog Tryd.f100 (bodyOf Tryd.f100) S_pcpbs [(93, S_scl)] A_cpbs = (∀ (x : List (List Int) × Unit), okBs x.fst →
  List.length x.fst ≤ (9223372036854775807 : Nat) →
  List.length x.fst ≤ (9223372036854775807 : Nat) →
  (0 : Int) ≤ (↑(List.length x.fst) : Int) ∧ (↑(List.length x.fst) : Int) ≤ (↑(List.length x.fst) : Int) ∧ (24 : Int) * (↑(List.length x.fst) : Int) ≤ (281474976710656 : Int) ∧ (↑(List.length x.fst) : Int) ≤ (140737488351232 : Int) ∧ (List.length x.fst ≤ (9223372036854775807 : Nat) →
  ((0 : Int) ≤ (0 : Int) ∧ (0 : Int) ≤ (↑(List.length x.fst) : Int) ∧ List.length (List.replicate (Int.toNat (↑(List.length x.fst) : Int)) ([] : List Int)) = List.length x.fst ∧ List.take (Int.toNat (0 : Int)) (List.replicate (Int.toNat (↑(List.length x.fst) : Int)) ([] : List Int)) = List.take (Int.toNat (0 : Int)) x.fst) ∧ ∀ (v : Int × List (List Int) × Unit), (0 : Int) ≤ v.fst ∧ v.fst ≤ (↑(List.length x.fst) : Int) ∧ List.length v.snd.fst = List.length x.fst ∧ List.take (Int.toNat v.fst) v.snd.fst = List.take (Int.toNat v.fst) x.fst →
  bif decide (v.fst < (↑(List.length x.fst) : Int)) then (0 : Int) ≤ v.fst ∧ v.fst < (↑(List.length x.fst) : Int) ∧ ∀ (c0 : List Int), x.fst[Int.toNat v.fst]? = some c0 →
  List.length c0 ≤ (1000000000000 : Nat) ∧ (0 : Int) ≤ v.fst ∧ v.fst < (↑(List.length v.snd.fst) : Int) ∧ Int.toNat v.fst < List.length v.snd.fst ∧ ∀ (x0 : List Int), v.snd.fst[Int.toNat v.fst]? = some x0 →
  ((0 : Int) ≤ IntKind.wrap IntKind.i64 (v.fst + (1 : Int)) ∧ IntKind.wrap IntKind.i64 (v.fst + (1 : Int)) ≤ (↑(List.length x.fst) : Int) ∧ List.length (List.set v.snd.fst (Int.toNat v.fst) c0) = List.length x.fst ∧ List.take (Int.toNat (IntKind.wrap IntKind.i64 (v.fst + (1 : Int)))) (List.set v.snd.fst (Int.toNat v.fst) c0) = List.take (Int.toNat (IntKind.wrap IntKind.i64 (v.fst + (1 : Int)))) x.fst) ∧ Int.toNat ((↑(List.length x.fst) : Int) - IntKind.wrap IntKind.i64 (v.fst + (1 : Int))) < Int.toNat ((↑(List.length x.fst) : Int) - v.fst) else v.snd = x)) := by kernel_rfl
theorem en_pcpbs (us : Array Value) (u : World) : (callFunc 100 us).run Tryd.prog u = .ok (.enter 100 us) u := by kernel_rfl
theorem sc_pcpbs : SC Tryd.prog 100 S_pcpbs := by
  refine SC.of Tryd.func100 (c := bodyOf Tryd.f100) (by kernel_rfl) (by kernel_rfl) (fun x => (by decide : (1:Nat) ≤ Tryd.f100.ntmps)) (DOk.cons sc_scl en_scl DOk.nil) (Eq.mpr vc_pcpbs ?_)
  rintro ⟨l, ⟨⟩⟩ ⟨h1, h2⟩ - -
  dsimp only at h1 h2 ⊢
  have hb : l.length ≤ 1000000000 := h1
  refine ⟨by omega, Int.le_refl _, by omega, by omega, fun _ => ⟨⟨Int.le_refl 0, by omega, by rw [List.length_replicate]; omega, rfl⟩, ?_⟩⟩
  rintro ⟨i, r, ⟨⟩⟩ ⟨q0, q1, hl, ht⟩
  dsimp only at q0 q1 hl ht ⊢
  have wi : IntKind.i64.wrap (i + 1) = i + 1 := IntWalk.i64_in _ (by omega)
  by_cases hi : i < (l.length : Int)
  · rw [decide_eq_true hi, cond_true, wi]
    refine ⟨q0, hi, fun c hc => ⟨?_, q0, by omega, by omega, fun x0 _ => ⟨⟨by omega, by omega, by rw [List.length_set, hl], ?_⟩, by omega⟩⟩⟩
    · have hbc : c.length ≤ 1000000000 := h2 c (List.mem_of_getElem? hc)
      omega
    · rw [show (i + 1).toNat = i.toNat + 1 by omega, take_snoc hc, take_set (by omega), ht]
  · rw [decide_eq_false hi, cond_false]
    obtain rfl : i = (l.length : Int) := by omega
    rw [show ((l.length : Nat) : Int).toNat = l.length by omega, List.take_length, ← hl, List.take_length] at ht
    rw [ht]

theorem vc_cli : VC Tryd.prog Tryd.f103 (bodyOf Tryd.f103) S_cli [] (fun _ _ => none) = (∀ (x : List Int × Unit), List.length x.fst ≤ (1000000000000 : Nat) →
  List.length x.fst ≤ (9223372036854775807 : Nat) →
  (List.length x.fst = (0 : Nat) →
  ([], ()) = x) ∧ ((0 : Nat) + List.length x.fst) * (8 : Nat) ≤ (140737488351232 : Nat) ∧ ([] ++ x.fst, ()) = x) := by kernel_rfl
theorem en_cli (us : Array Value) (u : World) : (callFunc 103 us).run Tryd.prog u = .ok (.enter 103 us) u := by kernel_rfl
theorem sc_cli : SC Tryd.prog 103 S_cli := by
  refine SC.of Tryd.func103 (c := bodyOf Tryd.f103) (by kernel_rfl) (by kernel_rfl) (fun x => (by decide : (1:Nat) ≤ Tryd.f103.ntmps)) DOk.nil (Eq.mpr vc_cli ?_)
  rintro ⟨l, ⟨⟩⟩ h -
  dsimp only at h ⊢
  refine ⟨fun h0 => ?_, by omega, by rw [List.nil_append]⟩
  rw [List.eq_nil_of_length_eq_zero h0]

theorem vc_cpst : VC Tryd.prog Tryd.f65 (bodyOf Tryd.f65) S_cpst [(103, S_cli)] (fun _ _ => none) = (∀ (x : (Int × Int × List Int × Unit) × Unit), List.length x.fst.snd.snd.fst ≤ (1000000000000 : Nat) →
  List.length x.fst.snd.snd.fst ≤ (9223372036854775807 : Nat) →
  List.length x.fst.snd.snd.fst ≤ (1000000000000 : Nat) ∧ x = x) := by kernel_rfl
theorem en_cpst (us : Array Value) (u : World) : (callFunc 65 us).run Tryd.prog u = .ok (.enter 65 us) u := by kernel_rfl
theorem sc_cpst : SC Tryd.prog 65 S_cpst := by
  refine SC.of Tryd.func65 (c := bodyOf Tryd.f65) (by kernel_rfl) (by kernel_rfl) (fun x => (by decide : (1:Nat) ≤ Tryd.f65.ntmps)) (DOk.cons sc_cli en_cli DOk.nil) (Eq.mpr vc_cpst ?_)
  rintro x h -
  exact ⟨h, rfl⟩

theorem vc_cpo : VC Tryd.prog Tryd.f59 (bodyOf Tryd.f59) S_cpo [(65, S_cpst), (99, S_pcpis), (100, S_pcpbs)] A_cpo = (∀ (x : (Int × (Int × Int × List Int × Unit) × List (Int × (Int × List (Int × List Int × Int × Unit) × List (List Int) × Unit) × (Int × List (Int × List Int × Int × Unit) × Unit) × Unit) × Unit) × Unit), okPo x.fst →
  List.length x.fst.snd.fst.snd.snd.fst ≤ (9223372036854775807 : Nat) →
  List.length x.fst.snd.snd.fst ≤ (9223372036854775807 : Nat) →
  List.length x.fst.snd.fst.snd.snd.fst ≤ (1000000000000 : Nat) ∧ (0 : Int) ≤ (↑(List.length x.fst.snd.snd.fst) : Int) ∧ (↑(List.length x.fst.snd.snd.fst) : Int) ≤ (↑(List.length x.fst.snd.snd.fst) : Int) ∧ (96 : Int) * (↑(List.length x.fst.snd.snd.fst) : Int) ≤ (281474976710656 : Int) ∧ (↑(List.length x.fst.snd.snd.fst) : Int) ≤ (140737488351232 : Int) ∧ (List.length x.fst.snd.snd.fst ≤ (9223372036854775807 : Nat) →
  ((0 : Int) ≤ (0 : Int) ∧ (0 : Int) ≤ (↑(List.length x.fst.snd.snd.fst) : Int) ∧ x.fst.fst = x.fst.fst ∧ x.fst.snd.fst = x.fst.snd.fst ∧ List.length (List.replicate (Int.toNat (↑(List.length x.fst.snd.snd.fst) : Int)) (((0 : Int), ((0 : Int), [], [], ()), ((0 : Int), [], ()), ()) : Pee)) = List.length x.fst.snd.snd.fst ∧ List.take (Int.toNat (0 : Int)) (List.replicate (Int.toNat (↑(List.length x.fst.snd.snd.fst) : Int)) (((0 : Int), ((0 : Int), [], [], ()), ((0 : Int), [], ()), ()) : Pee)) = List.take (Int.toNat (0 : Int)) x.fst.snd.snd.fst) ∧ ∀ (v : Int × (Int × (Int × Int × List Int × Unit) × List (Int × (Int × List (Int × List Int × Int × Unit) × List (List Int) × Unit) × (Int × List (Int × List Int × Int × Unit) × Unit) × Unit) × Unit) × Unit), (0 : Int) ≤ v.fst ∧ v.fst ≤ (↑(List.length x.fst.snd.snd.fst) : Int) ∧ v.snd.fst.fst = x.fst.fst ∧ v.snd.fst.snd.fst = x.fst.snd.fst ∧ List.length v.snd.fst.snd.snd.fst = List.length x.fst.snd.snd.fst ∧ List.take (Int.toNat v.fst) v.snd.fst.snd.snd.fst = List.take (Int.toNat v.fst) x.fst.snd.snd.fst →
  bif decide (v.fst < (↑(List.length x.fst.snd.snd.fst) : Int)) then (0 : Int) ≤ v.fst ∧ v.fst < (↑(List.length x.fst.snd.snd.fst) : Int) ∧ ∀ (c0 : Int × (Int × List (Int × List Int × Int × Unit) × List (List Int) × Unit) × (Int × List (Int × List Int × Int × Unit) × Unit) × Unit), x.fst.snd.snd.fst[Int.toNat v.fst]? = some c0 →
  okIts c0.snd.fst.snd.fst ∧ okBs c0.snd.fst.snd.snd.fst ∧ okIts c0.snd.snd.fst.snd.fst ∧ (0 : Int) ≤ v.fst ∧ v.fst < (↑(List.length v.snd.fst.snd.snd.fst) : Int) ∧ Int.toNat v.fst < List.length v.snd.fst.snd.snd.fst ∧ ∀ (x0 : Int × (Int × List (Int × List Int × Int × Unit) × List (List Int) × Unit) × (Int × List (Int × List Int × Int × Unit) × Unit) × Unit), v.snd.fst.snd.snd.fst[Int.toNat v.fst]? = some x0 →
  ((0 : Int) ≤ IntKind.wrap IntKind.i64 (v.fst + (1 : Int)) ∧ IntKind.wrap IntKind.i64 (v.fst + (1 : Int)) ≤ (↑(List.length x.fst.snd.snd.fst) : Int) ∧ v.snd.fst.fst = x.fst.fst ∧ v.snd.fst.snd.fst = x.fst.snd.fst ∧ List.length (List.set v.snd.fst.snd.snd.fst (Int.toNat v.fst) c0) = List.length x.fst.snd.snd.fst ∧ List.take (Int.toNat (IntKind.wrap IntKind.i64 (v.fst + (1 : Int)))) (List.set v.snd.fst.snd.snd.fst (Int.toNat v.fst) c0) = List.take (Int.toNat (IntKind.wrap IntKind.i64 (v.fst + (1 : Int)))) x.fst.snd.snd.fst) ∧ Int.toNat ((↑(List.length x.fst.snd.snd.fst) : Int) - IntKind.wrap IntKind.i64 (v.fst + (1 : Int))) < Int.toNat ((↑(List.length x.fst.snd.snd.fst) : Int) - v.fst) else v.snd = x)) := by kernel_rfl
theorem en_cpo (us : Array Value) (u : World) : (callFunc 59 us).run Tryd.prog u = .ok (.enter 59 us) u := by kernel_rfl
theorem sc_cpo : SC Tryd.prog 59 S_cpo := by
  refine SC.of Tryd.func59 (c := bodyOf Tryd.f59) (by kernel_rfl) (by kernel_rfl) (fun x => (by decide : (1:Nat) ≤ Tryd.f59.ntmps)) (DOk.cons sc_cpst en_cpst (DOk.cons sc_pcpis en_pcpis (DOk.cons sc_pcpbs en_pcpbs DOk.nil))) (Eq.mpr vc_cpo ?_)
  rintro ⟨⟨n, s, l, ⟨⟩⟩, ⟨⟩⟩ ⟨h0, h1, h2⟩ - -
  dsimp only at h0 h1 h2 ⊢
  have e0 : s.2.2.1.length ≤ 1000000000 := h0
  have e1 : l.length ≤ 1000000000 := h1
  refine ⟨by omega, by omega, Int.le_refl _, by omega, by omega, fun _ => ⟨⟨Int.le_refl 0, by omega, rfl, rfl, by rw [List.length_replicate]; omega, rfl⟩, ?_⟩⟩
  rintro ⟨i, ⟨a, b, r, ⟨⟩⟩, ⟨⟩⟩ ⟨q0, q1, ha, hb, hl, ht⟩
  dsimp only at q0 q1 ha hb hl ht ⊢
  subst ha
  subst hb
  have wi : IntKind.i64.wrap (i + 1) = i + 1 := IntWalk.i64_in _ (by omega)
  by_cases hi : i < (l.length : Int)
  · rw [decide_eq_true hi, cond_true, wi]
    refine ⟨q0, hi, fun c hc => ?_⟩
    obtain ⟨⟨k1, k2⟩, k3⟩ := h2 c (List.mem_of_getElem? hc)
    refine ⟨k1, k2, k3, q0, by omega, by omega, fun x0 _ => ⟨⟨by omega, by omega, rfl, rfl, by rw [List.length_set, hl], ?_⟩, by omega⟩⟩
    rw [show (i + 1).toNat = i.toNat + 1 by omega, take_snoc hc, take_set (by omega), ht]
  · rw [decide_eq_false hi, cond_false]
    obtain rfl : i = (l.length : Int) := by omega
    rw [show ((l.length : Nat) : Int).toNat = l.length by omega, List.take_length, ← hl, List.take_length] at ht
    rw [ht]

theorem vc_go : VC Tryd.prog Tryd.f26 (bodyOf Tryd.f26) S_go [(17, S_scmp), (59, S_cpo), (65, S_cpst)] (fun _ _ => none) = (∀ (x : (Int × (Int × Int × List Int × Unit) × List (Int × (Int × List (Int × List Int × Int × Unit) × List (List Int) × Unit) × (Int × List (Int × List Int × Int × Unit) × Unit) × Unit) × Unit) × (Int × Int × List Int × Unit) × Unit), okPo x.fst ∧ List.length x.snd.fst.snd.snd.fst ≤ (1000000000000 : Nat) →
  List.length x.fst.snd.fst.snd.snd.fst ≤ (9223372036854775807 : Nat) →
  List.length x.fst.snd.snd.fst ≤ (9223372036854775807 : Nat) →
  List.length x.snd.fst.snd.snd.fst ≤ (9223372036854775807 : Nat) →
  True ∧ bif decide (stCmp x.snd.fst x.fst.snd.fst ≤ (0 : Int)) then okPo x.fst ∧ (x.fst, ()) = (goF x.fst x.snd.fst, ()) else List.length x.snd.fst.snd.snd.fst ≤ (1000000000000 : Nat) ∧ ((x.fst.fst, x.snd.fst, [], ()), ()) = (goF x.fst x.snd.fst, ())) := by kernel_rfl
theorem en_go (us : Array Value) (u : World) : (callFunc 26 us).run Tryd.prog u = .ok (.enter 26 us) u := by kernel_rfl
theorem sc_go : SC Tryd.prog 26 S_go := by
  refine SC.of Tryd.func26 (c := bodyOf Tryd.f26) (by kernel_rfl) (by kernel_rfl) (fun x => (by decide : (2:Nat) ≤ Tryd.f26.ntmps)) (DOk.cons sc_scmp en_scmp (DOk.cons sc_cpo en_cpo (DOk.cons sc_cpst en_cpst DOk.nil))) (Eq.mpr vc_go ?_)
  rintro ⟨p, s, ⟨⟩⟩ ⟨h1, h2⟩ - - -
  dsimp only at h1 h2 ⊢
  refine ⟨trivial, ?_⟩
  by_cases h : stCmp s p.2.1 ≤ 0
  · rw [decide_eq_true h, cond_true]
    exact ⟨h1, by rw [goF, if_pos h]⟩
  · rw [decide_eq_false h, cond_false]
    exact ⟨h2, by rw [goF, if_neg h]⟩

theorem vc_new : VC Tryd.prog Tryd.f25 (bodyOf Tryd.f25) S_new [(45, S_isN)] (fun _ _ => none) = (∀ (x : (List Int × Int × Int × Int × Int × Int × Int × Int × Int × Int × Int × Unit) × Int × Unit), True →
  List.length x.fst.fst ≤ (9223372036854775807 : Nat) →
  True ∧ bif !isNodeF x.fst x.snd.fst then ((((0 : Int), ((0 : Int), (0 : Int), [], ()), [], ()), (1 : Int), ()), ()) = (newF x.fst x.snd.fst, ()) else (((x.snd.fst, ((0 : Int), (0 : Int), [], ()), [], ()), (0 : Int), ()), ()) = (newF x.fst x.snd.fst, ())) := by kernel_rfl
theorem en_new (us : Array Value) (u : World) : (callFunc 25 us).run Tryd.prog u = .ok (.enter 25 us) u := by kernel_rfl
theorem sc_new : SC Tryd.prog 25 S_new := by
  refine SC.of Tryd.func25 (c := bodyOf Tryd.f25) (by kernel_rfl) (by kernel_rfl) (fun x => (by decide : (2:Nat) ≤ Tryd.f25.ntmps)) (DOk.cons sc_isN en_isN DOk.nil) (Eq.mpr vc_new ?_)
  rintro ⟨c, n, ⟨⟩⟩ - -
  dsimp only
  refine ⟨trivial, ?_⟩
  cases h : isNodeF c n
  · rw [Bool.not_false, cond_true, newF, h]; rfl
  · rw [Bool.not_true, cond_false, newF, h]; rfl

theorem vc_fp2 : VC Tryd.prog Tryd.f85 (bodyOf Tryd.f85) S_fp2 [] (fun _ _ => none) = (∀ (x : Int × (Int × Unit) × Unit), True →
  (x.fst == x.snd.fst.fst, x.snd) = (x.fst == x.snd.fst.fst, x.snd)) := by kernel_rfl
theorem en_fp2 (us : Array Value) (u : World) : (callFunc 85 us).run Tryd.prog u = .ok (.enter 85 us) u := by kernel_rfl
theorem sc_fp2 : SC Tryd.prog 85 S_fp2 := by
  refine SC.of Tryd.func85 (c := bodyOf Tryd.f85) (by kernel_rfl) (by kernel_rfl) (fun x => (by decide : (2:Nat) ≤ Tryd.f85.ntmps)) DOk.nil (Eq.mpr vc_fp2 ?_)
  intro x _
  rfl

theorem vc_fp3 : VC Tryd.prog Tryd.f86 (bodyOf Tryd.f86) S_fp3 [] (fun _ _ => none) = (∀ (x : Int × (Int × Unit) × Unit), True →
  (decide (x.snd.fst.fst < x.fst), x.snd) = (decide (x.snd.fst.fst < x.fst), x.snd)) := by kernel_rfl
theorem en_fp3 (us : Array Value) (u : World) : (callFunc 86 us).run Tryd.prog u = .ok (.enter 86 us) u := by kernel_rfl
theorem sc_fp3 : SC Tryd.prog 86 S_fp3 := by
  refine SC.of Tryd.func86 (c := bodyOf Tryd.f86) (by kernel_rfl) (by kernel_rfl) (fun x => (by decide : (2:Nat) ≤ Tryd.f86.ntmps)) DOk.nil (Eq.mpr vc_fp3 ?_)
  intro x _
  rfl

theorem vc_fd2 : VC Tryd.prog Tryd.f84 (bodyOf Tryd.f84) S_fd2 [(85, S_fp2)] A_fd2 = (∀ (x : ((Int × Unit) × Unit) × ((Int × (Int × Int × List Int × Unit) × List (Int × (Int × List (Int × List Int × Int × Unit) × List (List Int) × Unit) × (Int × List (Int × List Int × Int × Unit) × Unit) × Unit) × Unit) × Unit) × Unit), List.length x.snd.fst.fst.snd.snd.fst ≤ big →
  List.length x.snd.fst.fst.snd.fst.snd.snd.fst ≤ (9223372036854775807 : Nat) →
  List.length x.snd.fst.fst.snd.snd.fst ≤ (9223372036854775807 : Nat) →
  ((0 : Int) ≤ (0 : Int) ∧ (0 : Int) ≤ (↑(List.length x.snd.fst.fst.snd.snd.fst) : Int) ∧ x.fst.fst.fst = x.fst.fst.fst ∧ ∀ (q : Int × (Int × List (Int × List Int × Int × Unit) × List (List Int) × Unit) × (Int × List (Int × List Int × Int × Unit) × Unit) × Unit), q ∈ List.take (Int.toNat (0 : Int)) x.snd.fst.fst.snd.snd.fst →
  (q.fst == x.fst.fst.fst) = false) ∧ ∀ (v : Int × ((Int × Unit) × Unit) × Unit), ((0 : Int) ≤ v.fst ∧ v.fst ≤ (↑(List.length x.snd.fst.fst.snd.snd.fst) : Int) ∧ v.snd.fst.fst.fst = x.fst.fst.fst ∧ ∀ (q : Int × (Int × List (Int × List Int × Int × Unit) × List (List Int) × Unit) × (Int × List (Int × List Int × Int × Unit) × Unit) × Unit), q ∈ List.take (Int.toNat v.fst) x.snd.fst.fst.snd.snd.fst →
  (q.fst == x.fst.fst.fst) = false) →
  bif decide (v.fst < (↑(List.length x.snd.fst.fst.snd.snd.fst) : Int)) then (0 : Int) ≤ v.fst ∧ v.fst < (↑(List.length x.snd.fst.fst.snd.snd.fst) : Int) ∧ Int.toNat v.fst < List.length x.snd.fst.fst.snd.snd.fst ∧ ∀ (x_1 : Int × (Int × List (Int × List Int × Int × Unit) × List (List Int) × Unit) × (Int × List (Int × List Int × Int × Unit) × Unit) × Unit), x.snd.fst.fst.snd.snd.fst[Int.toNat v.fst]? = some x_1 →
  True ∧ bif x_1.fst == v.snd.fst.fst.fst then (v.fst, v.snd.fst.fst, x.snd) = ((↑(eqAt x.snd.fst.fst.snd.snd.fst x.fst.fst.fst) : Int), x.fst.fst, x.snd) else ((0 : Int) ≤ IntKind.wrap IntKind.i64 (v.fst + (1 : Int)) ∧ IntKind.wrap IntKind.i64 (v.fst + (1 : Int)) ≤ (↑(List.length x.snd.fst.fst.snd.snd.fst) : Int) ∧ v.snd.fst.fst.fst = x.fst.fst.fst ∧ ∀ (q : Int × (Int × List (Int × List Int × Int × Unit) × List (List Int) × Unit) × (Int × List (Int × List Int × Int × Unit) × Unit) × Unit), q ∈ List.take (Int.toNat (IntKind.wrap IntKind.i64 (v.fst + (1 : Int)))) x.snd.fst.fst.snd.snd.fst →
  (q.fst == x.fst.fst.fst) = false) ∧ Int.toNat ((↑(List.length x.snd.fst.fst.snd.snd.fst) : Int) - IntKind.wrap IntKind.i64 (v.fst + (1 : Int))) < Int.toNat ((↑(List.length x.snd.fst.fst.snd.snd.fst) : Int) - v.fst) else ((↑(List.length x.snd.fst.fst.snd.snd.fst) : Int), v.snd.fst.fst, x.snd) = ((↑(eqAt x.snd.fst.fst.snd.snd.fst x.fst.fst.fst) : Int), x.fst.fst, x.snd)) := by kernel_rfl
theorem en_fd2 (us : Array Value) (u : World) : (callFunc 84 us).run Tryd.prog u = .ok (.enter 84 us) u := by kernel_rfl
theorem sc_fd2 : SC Tryd.prog 84 S_fd2 := by
  refine SC.of Tryd.func84 (c := bodyOf Tryd.f84) (by kernel_rfl) (by kernel_rfl) (fun x => (by decide : (2:Nat) ≤ Tryd.f84.ntmps)) (DOk.cons sc_fp2 en_fp2 DOk.nil) (Eq.mpr vc_fd2 ?_)
  rintro ⟨⟨⟨n, ⟨⟩⟩, ⟨⟩⟩, ⟨⟨⟨pn, ps, l, ⟨⟩⟩, ⟨⟩⟩, ⟨⟩⟩⟩ h - -
  dsimp only at h ⊢
  have e1 : l.length ≤ 1000000000 := h
  refine ⟨⟨Int.le_refl 0, by omega, rfl, fun q hq => absurd hq (by simp)⟩, ?_⟩
  rintro ⟨i, ⟨⟨m, ⟨⟩⟩, ⟨⟩⟩, ⟨⟩⟩ ⟨q0, q1, hm, hq⟩
  dsimp only at q0 q1 hm hq ⊢
  subst hm
  have wi : IntKind.i64.wrap (i + 1) = i + 1 := IntWalk.i64_in _ (by omega)
  by_cases hi : i < (l.length : Int)
  · rw [decide_eq_true hi, cond_true, wi]
    refine ⟨q0, hi, by omega, fun c hc => ⟨trivial, ?_⟩⟩
    cases hb : c.1 == m
    · rw [cond_false]
      refine ⟨⟨by omega, by omega, rfl, fun q hq' => ?_⟩, by omega⟩
      rw [show (i + 1).toNat = i.toNat + 1 by omega, take_snoc hc, List.mem_append, List.mem_singleton] at hq'
      rcases hq' with h | rfl
      · exact hq q h
      · exact hb
    · rw [cond_true, show eqAt l m = i.toNat from fIdx_at hc hb hq, Int.toNat_of_nonneg q0]
  · rw [decide_eq_false hi, cond_false]
    rw [List.take_of_length_le (by omega)] at hq
    rw [show eqAt l m = l.length from fIdx_no hq]

theorem vc_fd3 : VC Tryd.prog Tryd.f84 (bodyOf Tryd.f84) S_fd3 [(86, S_fp3)] A_fd3 = (∀ (x : ((Int × Unit) × Unit) × ((Int × (Int × Int × List Int × Unit) × List (Int × (Int × List (Int × List Int × Int × Unit) × List (List Int) × Unit) × (Int × List (Int × List Int × Int × Unit) × Unit) × Unit) × Unit) × Unit) × Unit), List.length x.snd.fst.fst.snd.snd.fst ≤ big →
  List.length x.snd.fst.fst.snd.fst.snd.snd.fst ≤ (9223372036854775807 : Nat) →
  List.length x.snd.fst.fst.snd.snd.fst ≤ (9223372036854775807 : Nat) →
  ((0 : Int) ≤ (0 : Int) ∧ (0 : Int) ≤ (↑(List.length x.snd.fst.fst.snd.snd.fst) : Int) ∧ x.fst.fst.fst = x.fst.fst.fst ∧ ∀ (q : Int × (Int × List (Int × List Int × Int × Unit) × List (List Int) × Unit) × (Int × List (Int × List Int × Int × Unit) × Unit) × Unit), q ∈ List.take (Int.toNat (0 : Int)) x.snd.fst.fst.snd.snd.fst →
  decide (x.fst.fst.fst < q.fst) = false) ∧ ∀ (v : Int × ((Int × Unit) × Unit) × Unit), ((0 : Int) ≤ v.fst ∧ v.fst ≤ (↑(List.length x.snd.fst.fst.snd.snd.fst) : Int) ∧ v.snd.fst.fst.fst = x.fst.fst.fst ∧ ∀ (q : Int × (Int × List (Int × List Int × Int × Unit) × List (List Int) × Unit) × (Int × List (Int × List Int × Int × Unit) × Unit) × Unit), q ∈ List.take (Int.toNat v.fst) x.snd.fst.fst.snd.snd.fst →
  decide (x.fst.fst.fst < q.fst) = false) →
  bif decide (v.fst < (↑(List.length x.snd.fst.fst.snd.snd.fst) : Int)) then (0 : Int) ≤ v.fst ∧ v.fst < (↑(List.length x.snd.fst.fst.snd.snd.fst) : Int) ∧ Int.toNat v.fst < List.length x.snd.fst.fst.snd.snd.fst ∧ ∀ (x_1 : Int × (Int × List (Int × List Int × Int × Unit) × List (List Int) × Unit) × (Int × List (Int × List Int × Int × Unit) × Unit) × Unit), x.snd.fst.fst.snd.snd.fst[Int.toNat v.fst]? = some x_1 →
  True ∧ bif decide (v.snd.fst.fst.fst < x_1.fst) then (v.fst, v.snd.fst.fst, x.snd) = ((↑(gtAt x.snd.fst.fst.snd.snd.fst x.fst.fst.fst) : Int), x.fst.fst, x.snd) else ((0 : Int) ≤ IntKind.wrap IntKind.i64 (v.fst + (1 : Int)) ∧ IntKind.wrap IntKind.i64 (v.fst + (1 : Int)) ≤ (↑(List.length x.snd.fst.fst.snd.snd.fst) : Int) ∧ v.snd.fst.fst.fst = x.fst.fst.fst ∧ ∀ (q : Int × (Int × List (Int × List Int × Int × Unit) × List (List Int) × Unit) × (Int × List (Int × List Int × Int × Unit) × Unit) × Unit), q ∈ List.take (Int.toNat (IntKind.wrap IntKind.i64 (v.fst + (1 : Int)))) x.snd.fst.fst.snd.snd.fst →
  decide (x.fst.fst.fst < q.fst) = false) ∧ Int.toNat ((↑(List.length x.snd.fst.fst.snd.snd.fst) : Int) - IntKind.wrap IntKind.i64 (v.fst + (1 : Int))) < Int.toNat ((↑(List.length x.snd.fst.fst.snd.snd.fst) : Int) - v.fst) else ((↑(List.length x.snd.fst.fst.snd.snd.fst) : Int), v.snd.fst.fst, x.snd) = ((↑(gtAt x.snd.fst.fst.snd.snd.fst x.fst.fst.fst) : Int), x.fst.fst, x.snd)) := by kernel_rfl
theorem en_fd3 (us : Array Value) (u : World) : (callFunc 84 us).run Tryd.prog u = .ok (.enter 84 us) u := by kernel_rfl
theorem sc_fd3 : SC Tryd.prog 84 S_fd3 := by
  refine SC.of Tryd.func84 (c := bodyOf Tryd.f84) (by kernel_rfl) (by kernel_rfl) (fun x => (by decide : (2:Nat) ≤ Tryd.f84.ntmps)) (DOk.cons sc_fp3 en_fp3 DOk.nil) (Eq.mpr vc_fd3 ?_)
  rintro ⟨⟨⟨n, ⟨⟩⟩, ⟨⟩⟩, ⟨⟨⟨pn, ps, l, ⟨⟩⟩, ⟨⟩⟩, ⟨⟩⟩⟩ h - -
  dsimp only at h ⊢
  have e1 : l.length ≤ 1000000000 := h
  refine ⟨⟨Int.le_refl 0, by omega, rfl, fun q hq => absurd hq (by simp)⟩, ?_⟩
  rintro ⟨i, ⟨⟨m, ⟨⟩⟩, ⟨⟩⟩, ⟨⟩⟩ ⟨q0, q1, hm, hq⟩
  dsimp only at q0 q1 hm hq ⊢
  subst hm
  have wi : IntKind.i64.wrap (i + 1) = i + 1 := IntWalk.i64_in _ (by omega)
  by_cases hi : i < (l.length : Int)
  · rw [decide_eq_true hi, cond_true, wi]
    refine ⟨q0, hi, by omega, fun c hc => ⟨trivial, ?_⟩⟩
    cases hb : decide (m < c.1)
    · rw [cond_false]
      refine ⟨⟨by omega, by omega, rfl, fun q hq' => ?_⟩, by omega⟩
      rw [show (i + 1).toNat = i.toNat + 1 by omega, take_snoc hc, List.mem_append, List.mem_singleton] at hq'
      rcases hq' with h | rfl
      · exact hq q h
      · exact hb
    · rw [cond_true, show gtAt l m = i.toNat from fIdx_at hc hb hq, Int.toNat_of_nonneg q0]
  · rw [decide_eq_false hi, cond_false]
    rw [List.take_of_length_le (by omega)] at hq
    rw [show gtAt l m = l.length from fIdx_no hq]

theorem vc_ins : VC Tryd.prog Tryd.f87 (bodyOf Tryd.f87) S_ins [] (fun _ _ => none) = (∀ (x : List (Int × (Int × List (Int × List Int × Int × Unit) × List (List Int) × Unit) × (Int × List (Int × List Int × Int × Unit) × Unit) × Unit) × Int × List (Int × (Int × List (Int × List Int × Int × Unit) × List (List Int) × Unit) × (Int × List (Int × List Int × Int × Unit) × Unit) × Unit) × Unit), List.length x.fst ≤ (2000000000 : Nat) ∧ List.length x.snd.snd.fst = (1 : Nat) ∧ (0 : Int) ≤ x.snd.fst ∧ x.snd.fst ≤ (↑(List.length x.fst) : Int) →
  List.length x.fst ≤ (9223372036854775807 : Nat) →
  List.length x.snd.snd.fst ≤ (9223372036854775807 : Nat) →
  (0 : Int) ≤ x.snd.fst ∧ x.snd.fst ≤ (↑(List.length x.fst) : Int) ∧ (↑(List.length x.fst) : Int) ≤ (↑(List.length x.fst) : Int) ∧ (List.length x.snd.snd.fst ≤ (9223372036854775807 : Nat) →
  bif (↑(List.length x.snd.snd.fst) : Int) == (0 : Int) then (x.fst, ()) = (insF x.fst (Int.toNat x.snd.fst) x.snd.snd.fst, ()) else bif x.snd.fst == (↑(List.length x.fst) : Int) then (List.length x.fst + List.length x.snd.snd.fst) * (96 : Nat) ≤ (140737488351232 : Nat) ∧ (x.fst ++ x.snd.snd.fst, ()) = (insF x.fst (Int.toNat x.snd.fst) x.snd.snd.fst, ()) else bif decide ((↑(List.length x.fst) : Int) < IntKind.wrap IntKind.i64 ((↑(List.length x.fst) : Int) + (↑(List.length x.snd.snd.fst) : Int))) then (0 : Int) ≤ (0 : Int) ∧ (0 : Int) ≤ x.snd.fst ∧ x.snd.fst ≤ (↑(List.length x.fst) : Int) ∧ Int.toNat x.snd.fst - (0 : Nat) ≤ List.length x.fst ∧ (0 : Int) ≤ IntKind.wrap IntKind.i64 (IntKind.wrap IntKind.i64 ((↑(List.length x.fst) : Int) + (↑(List.length x.snd.snd.fst) : Int)) - x.snd.fst) ∧ (↑(List.length x.fst) : Int) < (↑(Int.toNat x.snd.fst - (0 : Nat)) : Int) + IntKind.wrap IntKind.i64 (IntKind.wrap IntKind.i64 ((↑(List.length x.fst) : Int) + (↑(List.length x.snd.snd.fst) : Int)) - x.snd.fst) ∧ (↑(Int.toNat x.snd.fst - (0 : Nat)) : Int) + IntKind.wrap IntKind.i64 (IntKind.wrap IntKind.i64 ((↑(List.length x.fst) : Int) + (↑(List.length x.snd.snd.fst) : Int)) - x.snd.fst) ≤ (140737488351232 : Int) ∧ ((↑(Int.toNat x.snd.fst - (0 : Nat)) : Int) + IntKind.wrap IntKind.i64 (IntKind.wrap IntKind.i64 ((↑(List.length x.fst) : Int) + (↑(List.length x.snd.snd.fst) : Int)) - x.snd.fst)) * (96 : Int) ≤ (140737488351232 : Int) ∧ (0 : Int) ≤ x.snd.fst ∧ x.snd.fst ≤ (↑(List.length (List.take (Int.toNat x.snd.fst - (0 : Nat)) x.fst ++ List.replicate (Int.toNat (IntKind.wrap IntKind.i64 (IntKind.wrap IntKind.i64 ((↑(List.length x.fst) : Int) + (↑(List.length x.snd.snd.fst) : Int)) - x.snd.fst))) (((0 : Int), ((0 : Int), [], [], ()), ((0 : Int), [], ()), ()) : Pee))) : Int) ∧ (↑(List.length (List.take (Int.toNat x.snd.fst - (0 : Nat)) x.fst ++ List.replicate (Int.toNat (IntKind.wrap IntKind.i64 (IntKind.wrap IntKind.i64 ((↑(List.length x.fst) : Int) + (↑(List.length x.snd.snd.fst) : Int)) - x.snd.fst))) (((0 : Int), ((0 : Int), [], [], ()), ((0 : Int), [], ()), ()) : Pee))) : Int) ≤ (↑(List.length (List.take (Int.toNat x.snd.fst - (0 : Nat)) x.fst ++ List.replicate (Int.toNat (IntKind.wrap IntKind.i64 (IntKind.wrap IntKind.i64 ((↑(List.length x.fst) : Int) + (↑(List.length x.snd.snd.fst) : Int)) - x.snd.fst))) (((0 : Int), ((0 : Int), [], [], ()), ((0 : Int), [], ()), ()) : Pee))) : Int) ∧ (0 : Nat) + Int.toNat x.snd.fst + (Int.toNat (↑(List.length (List.take (Int.toNat x.snd.fst - (0 : Nat)) x.fst ++ List.replicate (Int.toNat (IntKind.wrap IntKind.i64 (IntKind.wrap IntKind.i64 ((↑(List.length x.fst) : Int) + (↑(List.length x.snd.snd.fst) : Int)) - x.snd.fst))) (((0 : Int), ((0 : Int), [], [], ()), ((0 : Int), [], ()), ()) : Pee))) : Int) - Int.toNat x.snd.fst) ≤ List.length (List.take (Int.toNat x.snd.fst - (0 : Nat)) x.fst ++ List.replicate (Int.toNat (IntKind.wrap IntKind.i64 (IntKind.wrap IntKind.i64 ((↑(List.length x.fst) : Int) + (↑(List.length x.snd.snd.fst) : Int)) - x.snd.fst))) (((0 : Int), ((0 : Int), [], [], ()), ((0 : Int), [], ()), ()) : Pee)) ∧ (0 : Int) ≤ IntKind.wrap IntKind.i64 (x.snd.fst + (↑(List.length x.snd.snd.fst) : Int)) ∧ IntKind.wrap IntKind.i64 (x.snd.fst + (↑(List.length x.snd.snd.fst) : Int)) ≤ (↑(List.length (List.take ((0 : Nat) + Int.toNat x.snd.fst) (List.take (Int.toNat x.snd.fst - (0 : Nat)) x.fst ++ List.replicate (Int.toNat (IntKind.wrap IntKind.i64 (IntKind.wrap IntKind.i64 ((↑(List.length x.fst) : Int) + (↑(List.length x.snd.snd.fst) : Int)) - x.snd.fst))) (((0 : Int), ((0 : Int), [], [], ()), ((0 : Int), [], ()), ()) : Pee)) ++ List.take (min (Int.toNat (↑(List.length (List.take (Int.toNat x.snd.fst - (0 : Nat)) x.fst ++ List.replicate (Int.toNat (IntKind.wrap IntKind.i64 (IntKind.wrap IntKind.i64 ((↑(List.length x.fst) : Int) + (↑(List.length x.snd.snd.fst) : Int)) - x.snd.fst))) (((0 : Int), ((0 : Int), [], [], ()), ((0 : Int), [], ()), ()) : Pee))) : Int) - Int.toNat x.snd.fst) (List.length x.snd.snd.fst)) x.snd.snd.fst ++ List.drop ((0 : Nat) + Int.toNat x.snd.fst + min (Int.toNat (↑(List.length (List.take (Int.toNat x.snd.fst - (0 : Nat)) x.fst ++ List.replicate (Int.toNat (IntKind.wrap IntKind.i64 (IntKind.wrap IntKind.i64 ((↑(List.length x.fst) : Int) + (↑(List.length x.snd.snd.fst) : Int)) - x.snd.fst))) (((0 : Int), ((0 : Int), [], [], ()), ((0 : Int), [], ()), ()) : Pee))) : Int) - Int.toNat x.snd.fst) (List.length x.snd.snd.fst)) (List.take (Int.toNat x.snd.fst - (0 : Nat)) x.fst ++ List.replicate (Int.toNat (IntKind.wrap IntKind.i64 (IntKind.wrap IntKind.i64 ((↑(List.length x.fst) : Int) + (↑(List.length x.snd.snd.fst) : Int)) - x.snd.fst))) (((0 : Int), ((0 : Int), [], [], ()), ((0 : Int), [], ()), ()) : Pee)))) : Int) ∧ (↑(List.length (List.take ((0 : Nat) + Int.toNat x.snd.fst) (List.take (Int.toNat x.snd.fst - (0 : Nat)) x.fst ++ List.replicate (Int.toNat (IntKind.wrap IntKind.i64 (IntKind.wrap IntKind.i64 ((↑(List.length x.fst) : Int) + (↑(List.length x.snd.snd.fst) : Int)) - x.snd.fst))) (((0 : Int), ((0 : Int), [], [], ()), ((0 : Int), [], ()), ()) : Pee)) ++ List.take (min (Int.toNat (↑(List.length (List.take (Int.toNat x.snd.fst - (0 : Nat)) x.fst ++ List.replicate (Int.toNat (IntKind.wrap IntKind.i64 (IntKind.wrap IntKind.i64 ((↑(List.length x.fst) : Int) + (↑(List.length x.snd.snd.fst) : Int)) - x.snd.fst))) (((0 : Int), ((0 : Int), [], [], ()), ((0 : Int), [], ()), ()) : Pee))) : Int) - Int.toNat x.snd.fst) (List.length x.snd.snd.fst)) x.snd.snd.fst ++ List.drop ((0 : Nat) + Int.toNat x.snd.fst + min (Int.toNat (↑(List.length (List.take (Int.toNat x.snd.fst - (0 : Nat)) x.fst ++ List.replicate (Int.toNat (IntKind.wrap IntKind.i64 (IntKind.wrap IntKind.i64 ((↑(List.length x.fst) : Int) + (↑(List.length x.snd.snd.fst) : Int)) - x.snd.fst))) (((0 : Int), ((0 : Int), [], [], ()), ((0 : Int), [], ()), ()) : Pee))) : Int) - Int.toNat x.snd.fst) (List.length x.snd.snd.fst)) (List.take (Int.toNat x.snd.fst - (0 : Nat)) x.fst ++ List.replicate (Int.toNat (IntKind.wrap IntKind.i64 (IntKind.wrap IntKind.i64 ((↑(List.length x.fst) : Int) + (↑(List.length x.snd.snd.fst) : Int)) - x.snd.fst))) (((0 : Int), ((0 : Int), [], [], ()), ((0 : Int), [], ()), ()) : Pee)))) : Int) ≤ (↑(List.length (List.take ((0 : Nat) + Int.toNat x.snd.fst) (List.take (Int.toNat x.snd.fst - (0 : Nat)) x.fst ++ List.replicate (Int.toNat (IntKind.wrap IntKind.i64 (IntKind.wrap IntKind.i64 ((↑(List.length x.fst) : Int) + (↑(List.length x.snd.snd.fst) : Int)) - x.snd.fst))) (((0 : Int), ((0 : Int), [], [], ()), ((0 : Int), [], ()), ()) : Pee)) ++ List.take (min (Int.toNat (↑(List.length (List.take (Int.toNat x.snd.fst - (0 : Nat)) x.fst ++ List.replicate (Int.toNat (IntKind.wrap IntKind.i64 (IntKind.wrap IntKind.i64 ((↑(List.length x.fst) : Int) + (↑(List.length x.snd.snd.fst) : Int)) - x.snd.fst))) (((0 : Int), ((0 : Int), [], [], ()), ((0 : Int), [], ()), ()) : Pee))) : Int) - Int.toNat x.snd.fst) (List.length x.snd.snd.fst)) x.snd.snd.fst ++ List.drop ((0 : Nat) + Int.toNat x.snd.fst + min (Int.toNat (↑(List.length (List.take (Int.toNat x.snd.fst - (0 : Nat)) x.fst ++ List.replicate (Int.toNat (IntKind.wrap IntKind.i64 (IntKind.wrap IntKind.i64 ((↑(List.length x.fst) : Int) + (↑(List.length x.snd.snd.fst) : Int)) - x.snd.fst))) (((0 : Int), ((0 : Int), [], [], ()), ((0 : Int), [], ()), ()) : Pee))) : Int) - Int.toNat x.snd.fst) (List.length x.snd.snd.fst)) (List.take (Int.toNat x.snd.fst - (0 : Nat)) x.fst ++ List.replicate (Int.toNat (IntKind.wrap IntKind.i64 (IntKind.wrap IntKind.i64 ((↑(List.length x.fst) : Int) + (↑(List.length x.snd.snd.fst) : Int)) - x.snd.fst))) (((0 : Int), ((0 : Int), [], [], ()), ((0 : Int), [], ()), ()) : Pee)))) : Int) ∧ (0 : Int) ≤ x.snd.fst ∧ x.snd.fst ≤ (↑(List.length x.fst) : Int) ∧ (↑(List.length x.fst) : Int) ≤ (↑(List.length x.fst) : Int) ∧ (0 : Nat) + Int.toNat (IntKind.wrap IntKind.i64 (x.snd.fst + (↑(List.length x.snd.snd.fst) : Int))) + (Int.toNat (↑(List.length (List.take ((0 : Nat) + Int.toNat x.snd.fst) (List.take (Int.toNat x.snd.fst - (0 : Nat)) x.fst ++ List.replicate (Int.toNat (IntKind.wrap IntKind.i64 (IntKind.wrap IntKind.i64 ((↑(List.length x.fst) : Int) + (↑(List.length x.snd.snd.fst) : Int)) - x.snd.fst))) (((0 : Int), ((0 : Int), [], [], ()), ((0 : Int), [], ()), ()) : Pee)) ++ List.take (min (Int.toNat (↑(List.length (List.take (Int.toNat x.snd.fst - (0 : Nat)) x.fst ++ List.replicate (Int.toNat (IntKind.wrap IntKind.i64 (IntKind.wrap IntKind.i64 ((↑(List.length x.fst) : Int) + (↑(List.length x.snd.snd.fst) : Int)) - x.snd.fst))) (((0 : Int), ((0 : Int), [], [], ()), ((0 : Int), [], ()), ()) : Pee))) : Int) - Int.toNat x.snd.fst) (List.length x.snd.snd.fst)) x.snd.snd.fst ++ List.drop ((0 : Nat) + Int.toNat x.snd.fst + min (Int.toNat (↑(List.length (List.take (Int.toNat x.snd.fst - (0 : Nat)) x.fst ++ List.replicate (Int.toNat (IntKind.wrap IntKind.i64 (IntKind.wrap IntKind.i64 ((↑(List.length x.fst) : Int) + (↑(List.length x.snd.snd.fst) : Int)) - x.snd.fst))) (((0 : Int), ((0 : Int), [], [], ()), ((0 : Int), [], ()), ()) : Pee))) : Int) - Int.toNat x.snd.fst) (List.length x.snd.snd.fst)) (List.take (Int.toNat x.snd.fst - (0 : Nat)) x.fst ++ List.replicate (Int.toNat (IntKind.wrap IntKind.i64 (IntKind.wrap IntKind.i64 ((↑(List.length x.fst) : Int) + (↑(List.length x.snd.snd.fst) : Int)) - x.snd.fst))) (((0 : Int), ((0 : Int), [], [], ()), ((0 : Int), [], ()), ()) : Pee)))) : Int) - Int.toNat (IntKind.wrap IntKind.i64 (x.snd.fst + (↑(List.length x.snd.snd.fst) : Int)))) ≤ List.length (List.take ((0 : Nat) + Int.toNat x.snd.fst) (List.take (Int.toNat x.snd.fst - (0 : Nat)) x.fst ++ List.replicate (Int.toNat (IntKind.wrap IntKind.i64 (IntKind.wrap IntKind.i64 ((↑(List.length x.fst) : Int) + (↑(List.length x.snd.snd.fst) : Int)) - x.snd.fst))) (((0 : Int), ((0 : Int), [], [], ()), ((0 : Int), [], ()), ()) : Pee)) ++ List.take (min (Int.toNat (↑(List.length (List.take (Int.toNat x.snd.fst - (0 : Nat)) x.fst ++ List.replicate (Int.toNat (IntKind.wrap IntKind.i64 (IntKind.wrap IntKind.i64 ((↑(List.length x.fst) : Int) + (↑(List.length x.snd.snd.fst) : Int)) - x.snd.fst))) (((0 : Int), ((0 : Int), [], [], ()), ((0 : Int), [], ()), ()) : Pee))) : Int) - Int.toNat x.snd.fst) (List.length x.snd.snd.fst)) x.snd.snd.fst ++ List.drop ((0 : Nat) + Int.toNat x.snd.fst + min (Int.toNat (↑(List.length (List.take (Int.toNat x.snd.fst - (0 : Nat)) x.fst ++ List.replicate (Int.toNat (IntKind.wrap IntKind.i64 (IntKind.wrap IntKind.i64 ((↑(List.length x.fst) : Int) + (↑(List.length x.snd.snd.fst) : Int)) - x.snd.fst))) (((0 : Int), ((0 : Int), [], [], ()), ((0 : Int), [], ()), ()) : Pee))) : Int) - Int.toNat x.snd.fst) (List.length x.snd.snd.fst)) (List.take (Int.toNat x.snd.fst - (0 : Nat)) x.fst ++ List.replicate (Int.toNat (IntKind.wrap IntKind.i64 (IntKind.wrap IntKind.i64 ((↑(List.length x.fst) : Int) + (↑(List.length x.snd.snd.fst) : Int)) - x.snd.fst))) (((0 : Int), ((0 : Int), [], [], ()), ((0 : Int), [], ()), ()) : Pee))) ∧ (0 : Nat) + Int.toNat x.snd.fst + (Int.toNat (↑(List.length x.fst) : Int) - Int.toNat x.snd.fst) ≤ List.length x.fst ∧ (List.take ((0 : Nat) + Int.toNat (IntKind.wrap IntKind.i64 (x.snd.fst + (↑(List.length x.snd.snd.fst) : Int)))) (List.take ((0 : Nat) + Int.toNat x.snd.fst) (List.take (Int.toNat x.snd.fst - (0 : Nat)) x.fst ++ List.replicate (Int.toNat (IntKind.wrap IntKind.i64 (IntKind.wrap IntKind.i64 ((↑(List.length x.fst) : Int) + (↑(List.length x.snd.snd.fst) : Int)) - x.snd.fst))) (((0 : Int), ((0 : Int), [], [], ()), ((0 : Int), [], ()), ()) : Pee)) ++ List.take (min (Int.toNat (↑(List.length (List.take (Int.toNat x.snd.fst - (0 : Nat)) x.fst ++ List.replicate (Int.toNat (IntKind.wrap IntKind.i64 (IntKind.wrap IntKind.i64 ((↑(List.length x.fst) : Int) + (↑(List.length x.snd.snd.fst) : Int)) - x.snd.fst))) (((0 : Int), ((0 : Int), [], [], ()), ((0 : Int), [], ()), ()) : Pee))) : Int) - Int.toNat x.snd.fst) (List.length x.snd.snd.fst)) x.snd.snd.fst ++ List.drop ((0 : Nat) + Int.toNat x.snd.fst + min (Int.toNat (↑(List.length (List.take (Int.toNat x.snd.fst - (0 : Nat)) x.fst ++ List.replicate (Int.toNat (IntKind.wrap IntKind.i64 (IntKind.wrap IntKind.i64 ((↑(List.length x.fst) : Int) + (↑(List.length x.snd.snd.fst) : Int)) - x.snd.fst))) (((0 : Int), ((0 : Int), [], [], ()), ((0 : Int), [], ()), ()) : Pee))) : Int) - Int.toNat x.snd.fst) (List.length x.snd.snd.fst)) (List.take (Int.toNat x.snd.fst - (0 : Nat)) x.fst ++ List.replicate (Int.toNat (IntKind.wrap IntKind.i64 (IntKind.wrap IntKind.i64 ((↑(List.length x.fst) : Int) + (↑(List.length x.snd.snd.fst) : Int)) - x.snd.fst))) (((0 : Int), ((0 : Int), [], [], ()), ((0 : Int), [], ()), ()) : Pee))) ++ List.take (min (Int.toNat (↑(List.length (List.take ((0 : Nat) + Int.toNat x.snd.fst) (List.take (Int.toNat x.snd.fst - (0 : Nat)) x.fst ++ List.replicate (Int.toNat (IntKind.wrap IntKind.i64 (IntKind.wrap IntKind.i64 ((↑(List.length x.fst) : Int) + (↑(List.length x.snd.snd.fst) : Int)) - x.snd.fst))) (((0 : Int), ((0 : Int), [], [], ()), ((0 : Int), [], ()), ()) : Pee)) ++ List.take (min (Int.toNat (↑(List.length (List.take (Int.toNat x.snd.fst - (0 : Nat)) x.fst ++ List.replicate (Int.toNat (IntKind.wrap IntKind.i64 (IntKind.wrap IntKind.i64 ((↑(List.length x.fst) : Int) + (↑(List.length x.snd.snd.fst) : Int)) - x.snd.fst))) (((0 : Int), ((0 : Int), [], [], ()), ((0 : Int), [], ()), ()) : Pee))) : Int) - Int.toNat x.snd.fst) (List.length x.snd.snd.fst)) x.snd.snd.fst ++ List.drop ((0 : Nat) + Int.toNat x.snd.fst + min (Int.toNat (↑(List.length (List.take (Int.toNat x.snd.fst - (0 : Nat)) x.fst ++ List.replicate (Int.toNat (IntKind.wrap IntKind.i64 (IntKind.wrap IntKind.i64 ((↑(List.length x.fst) : Int) + (↑(List.length x.snd.snd.fst) : Int)) - x.snd.fst))) (((0 : Int), ((0 : Int), [], [], ()), ((0 : Int), [], ()), ()) : Pee))) : Int) - Int.toNat x.snd.fst) (List.length x.snd.snd.fst)) (List.take (Int.toNat x.snd.fst - (0 : Nat)) x.fst ++ List.replicate (Int.toNat (IntKind.wrap IntKind.i64 (IntKind.wrap IntKind.i64 ((↑(List.length x.fst) : Int) + (↑(List.length x.snd.snd.fst) : Int)) - x.snd.fst))) (((0 : Int), ((0 : Int), [], [], ()), ((0 : Int), [], ()), ()) : Pee)))) : Int) - Int.toNat (IntKind.wrap IntKind.i64 (x.snd.fst + (↑(List.length x.snd.snd.fst) : Int)))) (List.length (List.take (Int.toNat (↑(List.length x.fst) : Int) - Int.toNat x.snd.fst) (List.drop ((0 : Nat) + Int.toNat x.snd.fst) x.fst)))) (List.take (Int.toNat (↑(List.length x.fst) : Int) - Int.toNat x.snd.fst) (List.drop ((0 : Nat) + Int.toNat x.snd.fst) x.fst)) ++ List.drop ((0 : Nat) + Int.toNat (IntKind.wrap IntKind.i64 (x.snd.fst + (↑(List.length x.snd.snd.fst) : Int))) + min (Int.toNat (↑(List.length (List.take ((0 : Nat) + Int.toNat x.snd.fst) (List.take (Int.toNat x.snd.fst - (0 : Nat)) x.fst ++ List.replicate (Int.toNat (IntKind.wrap IntKind.i64 (IntKind.wrap IntKind.i64 ((↑(List.length x.fst) : Int) + (↑(List.length x.snd.snd.fst) : Int)) - x.snd.fst))) (((0 : Int), ((0 : Int), [], [], ()), ((0 : Int), [], ()), ()) : Pee)) ++ List.take (min (Int.toNat (↑(List.length (List.take (Int.toNat x.snd.fst - (0 : Nat)) x.fst ++ List.replicate (Int.toNat (IntKind.wrap IntKind.i64 (IntKind.wrap IntKind.i64 ((↑(List.length x.fst) : Int) + (↑(List.length x.snd.snd.fst) : Int)) - x.snd.fst))) (((0 : Int), ((0 : Int), [], [], ()), ((0 : Int), [], ()), ()) : Pee))) : Int) - Int.toNat x.snd.fst) (List.length x.snd.snd.fst)) x.snd.snd.fst ++ List.drop ((0 : Nat) + Int.toNat x.snd.fst + min (Int.toNat (↑(List.length (List.take (Int.toNat x.snd.fst - (0 : Nat)) x.fst ++ List.replicate (Int.toNat (IntKind.wrap IntKind.i64 (IntKind.wrap IntKind.i64 ((↑(List.length x.fst) : Int) + (↑(List.length x.snd.snd.fst) : Int)) - x.snd.fst))) (((0 : Int), ((0 : Int), [], [], ()), ((0 : Int), [], ()), ()) : Pee))) : Int) - Int.toNat x.snd.fst) (List.length x.snd.snd.fst)) (List.take (Int.toNat x.snd.fst - (0 : Nat)) x.fst ++ List.replicate (Int.toNat (IntKind.wrap IntKind.i64 (IntKind.wrap IntKind.i64 ((↑(List.length x.fst) : Int) + (↑(List.length x.snd.snd.fst) : Int)) - x.snd.fst))) (((0 : Int), ((0 : Int), [], [], ()), ((0 : Int), [], ()), ()) : Pee)))) : Int) - Int.toNat (IntKind.wrap IntKind.i64 (x.snd.fst + (↑(List.length x.snd.snd.fst) : Int)))) (List.length (List.take (Int.toNat (↑(List.length x.fst) : Int) - Int.toNat x.snd.fst) (List.drop ((0 : Nat) + Int.toNat x.snd.fst) x.fst)))) (List.take ((0 : Nat) + Int.toNat x.snd.fst) (List.take (Int.toNat x.snd.fst - (0 : Nat)) x.fst ++ List.replicate (Int.toNat (IntKind.wrap IntKind.i64 (IntKind.wrap IntKind.i64 ((↑(List.length x.fst) : Int) + (↑(List.length x.snd.snd.fst) : Int)) - x.snd.fst))) (((0 : Int), ((0 : Int), [], [], ()), ((0 : Int), [], ()), ()) : Pee)) ++ List.take (min (Int.toNat (↑(List.length (List.take (Int.toNat x.snd.fst - (0 : Nat)) x.fst ++ List.replicate (Int.toNat (IntKind.wrap IntKind.i64 (IntKind.wrap IntKind.i64 ((↑(List.length x.fst) : Int) + (↑(List.length x.snd.snd.fst) : Int)) - x.snd.fst))) (((0 : Int), ((0 : Int), [], [], ()), ((0 : Int), [], ()), ()) : Pee))) : Int) - Int.toNat x.snd.fst) (List.length x.snd.snd.fst)) x.snd.snd.fst ++ List.drop ((0 : Nat) + Int.toNat x.snd.fst + min (Int.toNat (↑(List.length (List.take (Int.toNat x.snd.fst - (0 : Nat)) x.fst ++ List.replicate (Int.toNat (IntKind.wrap IntKind.i64 (IntKind.wrap IntKind.i64 ((↑(List.length x.fst) : Int) + (↑(List.length x.snd.snd.fst) : Int)) - x.snd.fst))) (((0 : Int), ((0 : Int), [], [], ()), ((0 : Int), [], ()), ()) : Pee))) : Int) - Int.toNat x.snd.fst) (List.length x.snd.snd.fst)) (List.take (Int.toNat x.snd.fst - (0 : Nat)) x.fst ++ List.replicate (Int.toNat (IntKind.wrap IntKind.i64 (IntKind.wrap IntKind.i64 ((↑(List.length x.fst) : Int) + (↑(List.length x.snd.snd.fst) : Int)) - x.snd.fst))) (((0 : Int), ((0 : Int), [], [], ()), ((0 : Int), [], ()), ()) : Pee))), ()) = (insF x.fst (Int.toNat x.snd.fst) x.snd.snd.fst, ()) else (0 : Int) ≤ (0 : Int) ∧ (0 : Int) ≤ IntKind.wrap IntKind.i64 ((↑(List.length x.fst) : Int) + (↑(List.length x.snd.snd.fst) : Int)) ∧ IntKind.wrap IntKind.i64 ((↑(List.length x.fst) : Int) + (↑(List.length x.snd.snd.fst) : Int)) ≤ (↑(List.length x.fst) : Int) ∧ (0 : Int) ≤ IntKind.wrap IntKind.i64 (x.snd.fst + (↑(List.length x.snd.snd.fst) : Int)) ∧ IntKind.wrap IntKind.i64 (x.snd.fst + (↑(List.length x.snd.snd.fst) : Int)) ≤ (↑(Int.toNat (IntKind.wrap IntKind.i64 ((↑(List.length x.fst) : Int) + (↑(List.length x.snd.snd.fst) : Int))) - (0 : Nat)) : Int) ∧ (↑(Int.toNat (IntKind.wrap IntKind.i64 ((↑(List.length x.fst) : Int) + (↑(List.length x.snd.snd.fst) : Int))) - (0 : Nat)) : Int) ≤ (↑(Int.toNat (IntKind.wrap IntKind.i64 ((↑(List.length x.fst) : Int) + (↑(List.length x.snd.snd.fst) : Int))) - (0 : Nat)) : Int) ∧ False)) := by kernel_rfl
theorem en_ins (us : Array Value) (u : World) : (callFunc 87 us).run Tryd.prog u = .ok (.enter 87 us) u := by kernel_rfl
theorem sc_ins : SC Tryd.prog 87 S_ins := by
  refine SC.of Tryd.func87 (c := bodyOf Tryd.f87) (by kernel_rfl) (by kernel_rfl) (fun x => (by decide : (3:Nat) ≤ Tryd.f87.ntmps)) DOk.nil (Eq.mpr vc_ins ?_)
  rintro ⟨l, i, v, ⟨⟩⟩ ⟨h1, h2, h3, h4⟩ - -
  dsimp only at h1 h2 h3 h4 ⊢
  obtain ⟨y, rfl⟩ : ∃ y, v = [y] := by
    cases v with
    | nil => cases h2
    | cons y r => cases r with
      | nil => exact ⟨y, rfl⟩
      | cons z r => simp at h2
  obtain ⟨n, rfl⟩ : ∃ n : Nat, i = n := ⟨i.toNat, by omega⟩
  have hv : ([y] : List Pee).length = 1 := rfl
  have c1 : ((1 : Nat) : Int) = 1 := rfl
  have w1 : IntKind.i64.wrap ((l.length : Int) + 1) = (l.length : Int) + 1 := IntWalk.i64_in _ (by omega)
  have w2 : IntKind.i64.wrap ((l.length : Int) + 1 - n) = (l.length : Int) + 1 - n := IntWalk.i64_in _ (by omega)
  have w3 : IntKind.i64.wrap ((n : Int) + 1) = (n : Int) + 1 := IntWalk.i64_in _ (by omega)
  have t1 : Int.toNat ((l.length : Int) + 1 - n) = l.length + 1 - n := by omega
  have t2 : Int.toNat ((n : Int) + 1) = n + 1 := by omega
  rw [hv, c1, w1]
  refine ⟨h3, h4, Int.le_refl _, fun _ => ?_⟩
  rw [show ((1 : Int) == 0) = false from rfl, cond_false]
  by_cases hn : (n : Int) = (l.length : Int)
  · rw [beq_iff_eq.2 hn, cond_true]
    refine ⟨by omega, ?_⟩
    unfold insF
    rw [Int.toNat_natCast, List.take_of_length_le (by omega), List.drop_eq_nil_of_le (by omega), List.append_nil]
  rw [beq_eq_false_iff_ne.2 hn, cond_false, decide_eq_true (by omega : (l.length : Int) < (l.length : Int) + 1), cond_true, w2, w3, t1, t2, Int.toNat_natCast]
  simp only [Nat.sub_zero, Nat.zero_add]
  generalize hS : List.take n l ++ List.replicate (l.length + 1 - n) _ = S2
  have l2 : S2.length = l.length + 1 := by rw [← hS, List.length_append, List.length_take, List.length_replicate]; omega
  have k2 : S2.take n = l.take n := by rw [← hS, List.take_append_of_le_length (by rw [List.length_take]; omega), List.take_take, Nat.min_self]
  rw [l2, Int.toNat_natCast, show min (l.length + 1 - n) 1 = 1 by omega, show List.take 1 [y] = [y] from rfl, k2]
  generalize hS3 : List.take n l ++ [y] ++ List.drop (n + 1) S2 = S3
  have l3 : S3.length = l.length + 1 := by rw [← hS3, List.length_append, List.length_append, List.length_take, List.length_drop, hv]; omega
  have k3 : S3.take (n + 1) = l.take n ++ [y] := by rw [← hS3, List.take_append_of_le_length (by rw [List.length_append, List.length_take, hv]; omega), List.take_of_length_le (by rw [List.length_append, List.length_take, hv]; omega)]
  rw [l3, Int.toNat_natCast, Int.toNat_natCast, List.take_of_length_le (by rw [List.length_drop]; omega : (l.drop n).length ≤ l.length - n), List.length_drop, show min (l.length + 1 - (n + 1)) (l.length - n) = l.length - n by omega, List.take_of_length_le (by rw [List.length_drop]; omega : (l.drop n).length ≤ l.length - n), k3, List.drop_eq_nil_of_le (by omega : S3.length ≤ n + 1 + (l.length - n)), List.append_nil]
  repeat (refine And.intro (by omega) ?_)
  rfl

theorem vc_lw : VC Tryd.prog Tryd.f46 (bodyOf Tryd.f46) S_lw [(84, S_fd2), (84, S_fd3), (87, S_ins)] (fun _ _ => none) = (∀ (x : (Int × (Int × Int × List Int × Unit) × List (Int × (Int × List (Int × List Int × Int × Unit) × List (List Int) × Unit) × (Int × List (Int × List Int × Int × Unit) × Unit) × Unit) × Unit) × Int × Unit), List.length x.fst.snd.snd.fst ≤ big →
  List.length x.fst.snd.fst.snd.snd.fst ≤ (9223372036854775807 : Nat) →
  List.length x.fst.snd.snd.fst ≤ (9223372036854775807 : Nat) →
  List.length x.fst.snd.snd.fst ≤ big ∧ bif (↑(eqAt x.fst.snd.snd.fst x.snd.fst) : Int) == (↑(List.length x.fst.snd.snd.fst) : Int) then List.length x.fst.snd.snd.fst ≤ big ∧ (List.length x.fst.snd.snd.fst ≤ (2000000000 : Nat) ∧ List.length [((x.snd.fst, ((0 : Int), [], [], ()), ((0 : Int), [], ()), ()) : Pee)] = (1 : Nat) ∧ (0 : Int) ≤ (↑(gtAt x.fst.snd.snd.fst x.snd.fst) : Int) ∧ (↑(gtAt x.fst.snd.snd.fst x.snd.fst) : Int) ≤ (↑(List.length x.fst.snd.snd.fst) : Int)) ∧ (0 : Int) ≤ (↑(gtAt x.fst.snd.snd.fst x.snd.fst) : Int) ∧ (↑(gtAt x.fst.snd.snd.fst x.snd.fst) : Int) < (↑(List.length (insF x.fst.snd.snd.fst (Int.toNat (↑(gtAt x.fst.snd.snd.fst x.snd.fst) : Int)) [((x.snd.fst, ((0 : Int), [], [], ()), ((0 : Int), [], ()), ()) : Pee)])) : Int) ∧ (Int.toNat (↑(gtAt x.fst.snd.snd.fst x.snd.fst) : Int), (x.fst.fst, x.fst.snd.fst, insF x.fst.snd.snd.fst (Int.toNat (↑(gtAt x.fst.snd.snd.fst x.snd.fst) : Int)) [((x.snd.fst, ((0 : Int), [], [], ()), ((0 : Int), [], ()), ()) : Pee)], ()), ()) = (lnkI x.fst.snd.snd.fst x.snd.fst, (x.fst.fst, x.fst.snd.fst, lnkL x.fst.snd.snd.fst x.snd.fst, ()), ()) else (0 : Int) ≤ (↑(eqAt x.fst.snd.snd.fst x.snd.fst) : Int) ∧ (↑(eqAt x.fst.snd.snd.fst x.snd.fst) : Int) < (↑(List.length x.fst.snd.snd.fst) : Int) ∧ (Int.toNat (↑(eqAt x.fst.snd.snd.fst x.snd.fst) : Int), x.fst, ()) = (lnkI x.fst.snd.snd.fst x.snd.fst, (x.fst.fst, x.fst.snd.fst, lnkL x.fst.snd.snd.fst x.snd.fst, ()), ())) := by kernel_rfl
theorem en_lw (us : Array Value) (u : World) : (callFunc 46 us).run Tryd.prog u = .ok (.enter 46 us) u := by kernel_rfl
theorem sc_lw : SC Tryd.prog 46 S_lw := by
  refine SC.of Tryd.func46 (c := bodyOf Tryd.f46) (by kernel_rfl) (by kernel_rfl) (fun x => (by decide : (2:Nat) ≤ Tryd.f46.ntmps)) (DOk.cons sc_fd2 en_fd2 (DOk.cons sc_fd3 en_fd3 (DOk.cons sc_ins en_ins DOk.nil))) (Eq.mpr vc_lw ?_)
  rintro ⟨⟨a, s, l, ⟨⟩⟩, n, ⟨⟩⟩ h - -
  dsimp only at h ⊢
  have e1 : l.length ≤ 1000000000 := h
  have g1 := fIdx_le (fun q : Pee => q.1 == n) l
  have g2 := fIdx_le (fun q : Pee => decide (n < q.1)) l
  have g1' : eqAt l n ≤ l.length := g1
  have g2' : gtAt l n ≤ l.length := g2
  refine ⟨h, ?_⟩
  by_cases e : eqAt l n = l.length
  · rw [show (((eqAt l n : Nat) : Int) == (l.length : Nat)) = true from beq_iff_eq.2 (by omega), cond_true]
    refine ⟨h, ⟨by omega, rfl, by omega, by omega⟩, by omega, ?_, ?_⟩
    · rw [insF_len _ _ _ (by omega), List.length_cons, List.length_nil]
      omega
    · rw [lnkI, if_pos e, lnkL, if_pos e, Int.toNat_natCast]
      rfl
  · rw [show (((eqAt l n : Nat) : Int) == (l.length : Nat)) = false from beq_eq_false_iff_ne.2 (by omega), cond_false]
    refine ⟨by omega, by omega, ?_⟩
    rw [lnkI, if_neg e, lnkL, if_neg e, Int.toNat_natCast]
end Go.Proofs.YtjkbkhjalimebaaDoor
