/- The words of package sha (all but Sum). Printed by gen.py. -/
import Derived.Test.YtjkbkhjalimebaaDoorPA
namespace Go.Proofs.YtjkbkhjalimebaaDoor
open Go.RowKit DoorU
set_option linter.unusedVariables false
set_option linter.unusedSimpArgs false
set_option maxRecDepth 100000
set_option maxHeartbeats 1000000

namespace DoorU
def rotl (x n : Int) : Int := orI .u32 (shlI .u32 x (andI .u64 (IntKind.u64.wrap n) 31)) (shrI .u32 x (IntKind.u64.wrap (32 - andI .u64 (IntKind.u64.wrap n) 31)))
def down (x n : Int) : Int := rotl x (IntKind.i64.wrap (0 - n))
def startL : List Int := [1779033703, 3144134277, 1013904242, 2773480762, 1359893119, 2600822924, 528734635, 1541459225]
def padN (n : Nat) : Nat := n + 9 + (64 - (n + 9) % 64) % 64
def padA (l : List Int) : Nat → List Int
  | 0 => (l ++ List.replicate (padN l.length - l.length) 0).set l.length 128
  | k + 1 => (padA l k).set (padN l.length - 1 - k) (IntKind.u8.wrap (shrI .u64 (IntKind.u64.wrap (IntKind.u64.wrap l.length * 8)) (IntKind.i64.wrap (8 * k))))
def pad (l : List Int) : List Int := padA l 8
def sch0 (l : List Int) (i : Nat) : Int := orI .u32 (orI .u32 (orI .u32 (shlI .u32 (IntKind.u32.wrap (l.getD (4 * i) 0)) 24) (shlI .u32 (IntKind.u32.wrap (l.getD (4 * i + 1) 0)) 16)) (shlI .u32 (IntKind.u32.wrap (l.getD (4 * i + 2) 0)) 8)) (IntKind.u32.wrap (l.getD (4 * i + 3) 0))
def schA (l : List Int) : Nat → List Int
  | 0 => List.replicate 64 0
  | i + 1 => (schA l i).set i (sch0 l i)
def schX (a b c d : Int) : Int := IntKind.u32.wrap (IntKind.u32.wrap (IntKind.u32.wrap (a + xorI .u32 (xorI .u32 (down b 7) (down b 18)) (shrI .u32 b 3)) + c) + xorI .u32 (xorI .u32 (down d 17) (down d 19)) (shrI .u32 d 10))
def schS (w : List Int) (i : Nat) : Int := schX (w.getD (i - 16) 0) (w.getD (i - 15) 0) (w.getD (i - 7) 0) (w.getD (i - 2) 0)
def schB (l : List Int) : Nat → List Int
  | 0 => schA l 16
  | k + 1 => (schB l k).set (16 + k) (schS (schB l k) (16 + k))
def sch (l : List Int) : List Int := schB l 48
def blkT (v7 v4 v5 v6 k w : Int) : Int := IntKind.u32.wrap (IntKind.u32.wrap (IntKind.u32.wrap (IntKind.u32.wrap (v7 + xorI .u32 (xorI .u32 (down v4 6) (down v4 11)) (down v4 25)) + xorI .u32 (andI .u32 v4 v5) (andI .u32 (notI .u32 v4) v6)) + k) + w)
def blkW (v0 v1 v2 : Int) : Int := IntKind.u32.wrap (xorI .u32 (xorI .u32 (down v0 2) (down v0 13)) (down v0 22) + xorI .u32 (xorI .u32 (andI .u32 v0 v1) (andI .u32 v0 v2)) (andI .u32 v1 v2))
def blkStep (v : List Int) (w k : Int) : List Int :=
  let t := blkT (v.getD 7 0) (v.getD 4 0) (v.getD 5 0) (v.getD 6 0) k w
  let u := v.take 1 ++ (v.take 7).take 7 ++ v.drop 8
  (u.set 4 (IntKind.u32.wrap (u.getD 4 0 + t))).set 0 (IntKind.u32.wrap (t + blkW (v.getD 0 0) (v.getD 1 0) (v.getD 2 0)))
def blkV (h w : List Int) : Nat → List Int
  | 0 => h
  | i + 1 => blkStep (blkV h w i) (w.getD i 0) (tabL.getD i 0)
def blkH (h v : List Int) : Nat → List Int
  | 0 => h
  | i + 1 => (blkH h v i).set i (IntKind.u32.wrap ((blkH h v i).getD i 0 + v.getD i 0))
def blk (h l : List Int) : List Int := blkH h (blkV h (sch l) 64) 8
theorem padN_ge (n : Nat) : n + 9 ≤ padN n := by unfold padN; omega
theorem padN_mod (n : Nat) : padN n % 64 = 0 := by unfold padN; omega
theorem padN_le (n : Nat) : padN n ≤ n + 72 := by unfold padN; omega
theorem padA_len (l : List Int) : ∀ k, (padA l k).length = padN l.length
  | 0 => by have := padN_ge l.length; simp only [padA, List.length_set, List.length_append, List.length_replicate]; omega
  | k + 1 => by simp only [padA, List.length_set, padA_len l k]
theorem schA_len (l : List Int) : ∀ k, (schA l k).length = 64
  | 0 => rfl
  | k + 1 => by simp only [schA, List.length_set, schA_len l k]
theorem schB_len (l : List Int) : ∀ k, (schB l k).length = 64
  | 0 => schA_len l 16
  | k + 1 => by simp only [schB, List.length_set, schB_len l k]
theorem blkStep_len (v : List Int) (w k : Int) (h : v.length = 8) : (blkStep v w k).length = 8 := by
  simp only [blkStep, List.length_set, List.length_append, List.length_take, List.length_drop, h]; omega
theorem blkV_len (h w : List Int) (hh : h.length = 8) : ∀ k, (blkV h w k).length = 8
  | 0 => hh
  | k + 1 => blkStep_len _ _ _ (blkV_len h w hh k)
theorem blkH_len (h v : List Int) (hh : h.length = 8) : ∀ k, (blkH h v k).length = 8
  | 0 => hh
  | k + 1 => by simp only [blkH, List.length_set, blkH_len h v hh k]
theorem blkH_0 (h v : List Int) : blkH h v 0 = h := rfl
theorem blk_len (h l : List Int) (hh : h.length = 8) : (blk h l).length = 8 := blkH_len _ _ hh 8
theorem getD_of {l : List Int} {n m : Nat} {c : Int} (h : l[n]? = some c) (e : n = m) : l.getD m 0 = c := by subst e; rw [List.getD_eq_getElem?_getD, h]; rfl
end DoorU
def S_rot : Spec := ⟨.pair nU (.pair nI .unit), .pair nU .unit, fun _ => True, fun (x : Int × Int × Unit) => ((rotl x.1 x.2.1, ()) : Int × Unit)⟩
def S_down : Spec := ⟨.pair nU (.pair nI .unit), .pair nU .unit, fun _ => True, fun (x : Int × Int × Unit) => ((down x.1 x.2.1, ()) : Int × Unit)⟩
def S_start : Spec := ⟨.unit, .pair (.arr tU) .unit, fun _ => True, fun _ => ((startL, ()) : List Int × Unit)⟩
def S_pad : Spec := ⟨.pair lY .unit, .pair vY .unit, fun (x : List Int × Unit) => x.1.length ≤ 1000000000, fun (x : List Int × Unit) => ((pad x.1, ()) : List Int × Unit)⟩
def A_pad (x : List Int × Unit) : Nat → Option LA
  | 0 => some ⟨[31, 5], [], .pair nI (.pair oY .unit), fun (v : Int × List Int × Unit) => 0 ≤ v.1 ∧ v.1 ≤ 8 ∧ v.2.1 = padA x.1 v.1.toNat, fun (v : Int × List Int × Unit) => (8 - v.1).toNat⟩
  | _ => none
def S_sch : Spec := ⟨.pair lY .unit, .pair (.arr tU) .unit, fun (x : List Int × Unit) => x.1.length = 64, fun (x : List Int × Unit) => ((sch x.1, ()) : List Int × Unit)⟩
def A_sch (x : List Int × Unit) : Nat → Option LA
  | 0 => some ⟨[10, 3], [], .pair nI (.pair (.pa tU 194) .unit), fun (v : Int × List Int × Unit) => 0 ≤ v.1 ∧ v.1 ≤ 16 ∧ v.2.1 = schA x.1 v.1.toNat, fun (v : Int × List Int × Unit) => (16 - v.1).toNat⟩
  | 1 => some ⟨[5, 3], [], .pair nI (.pair (.pa tU 194) .unit), fun (v : Int × List Int × Unit) => 16 ≤ v.1 ∧ v.1 ≤ 64 ∧ v.2.1 = schB x.1 (v.1.toNat - 16), fun (v : Int × List Int × Unit) => (64 - v.1).toNat⟩
  | _ => none
def S_blk : Spec := ⟨.pair (.arr tU) (.pair lY .unit), .pair (.tup (.pair (.arr tU) (.pair nI .unit))) .unit, fun (x : List Int × List Int × Unit) => x.1.length = 8 ∧ x.2.1.length = 64, fun (x : List Int × List Int × Unit) => (((blk x.1 x.2.1, 0, ()), ()) : (List Int × Int × Unit) × Unit)⟩
def A_blk (x : List Int × List Int × Unit) : Nat → Option LA
  | 0 => some ⟨[21, 7], [], .pair nI (.pair (.pa tU 186) .unit), fun (v : Int × List Int × Unit) => 0 ≤ v.1 ∧ v.1 ≤ 64 ∧ v.2.1 = blkV x.1 (sch x.2.1) v.1.toNat, fun (v : Int × List Int × Unit) => (64 - v.1).toNat⟩
  | 1 => some ⟨[95, 2], [], .pair nI (.pair (.pa tU 186) .unit), fun (v : Int × List Int × Unit) => 0 ≤ v.1 ∧ v.1 ≤ 8 ∧ v.2.1 = blkH x.1 (blkV x.1 (sch x.2.1) 64) v.1.toNat, fun (v : Int × List Int × Unit) => (8 - v.1).toNat⟩
  | _ => none

theorem vc_rot : VC Tryd.prog Tryd.f126 (bodyOf Tryd.f126) S_rot [] (fun _ _ => none) = (∀ (x : Int × Int × Unit), True →
  (0 : Int) ≤ andI IntKind.u64 (IntKind.wrap IntKind.u64 x.2.fst) (31 : Int) ∧ (0 : Int) ≤ IntKind.wrap IntKind.u64 ((32 : Int) - andI IntKind.u64 (IntKind.wrap IntKind.u64 x.2.fst) (31 : Int)) ∧ (orI IntKind.u32 (shlI IntKind.u32 x.fst (andI IntKind.u64 (IntKind.wrap IntKind.u64 x.2.fst) (31 : Int))) (shrI IntKind.u32 x.fst (IntKind.wrap IntKind.u64 ((32 : Int) - andI IntKind.u64 (IntKind.wrap IntKind.u64 x.2.fst) (31 : Int)))), ()) = (rotl x.fst x.2.fst, ())) := by kernel_rfl
theorem en_rot (us : Array Value) (u : World) : (callFunc 126 us).run Tryd.prog u = .ok (.enter 126 us) u := by kernel_rfl
theorem sc_rot : SC Tryd.prog 126 S_rot := by
  refine SC.of Tryd.func126 (c := bodyOf Tryd.f126) (by kernel_rfl) (by kernel_rfl) (fun x => (by decide : (2:Nat) ≤ Tryd.f126.ntmps)) DOk.nil (Eq.mpr vc_rot ?_)
  rintro ⟨a, b, ⟨⟩⟩ -
  have un : ∀ n : Int, 0 ≤ IntKind.u64.wrap n := fun n => by rw [IntKind.wrap_u64]; omega
  dsimp only [rotl]
  simp only [ne_eq, true_and, and_true]
  first | exact ⟨un _, un _⟩ | (refine ⟨?_, ?_⟩ <;> first | exact un _ | trivial | decide | simp)

theorem vc_down : VC Tryd.prog Tryd.f124 (bodyOf Tryd.f124) S_down [(126, S_rot)] (fun _ _ => none) = (∀ (x : Int × Int × Unit), True →
  True ∧ (rotl x.fst (IntKind.wrap IntKind.i64 ((0 : Int) - x.2.fst)), ()) = (down x.fst x.2.fst, ())) := by kernel_rfl
theorem en_down (us : Array Value) (u : World) : (callFunc 124 us).run Tryd.prog u = .ok (.enter 124 us) u := by kernel_rfl
theorem sc_down : SC Tryd.prog 124 S_down := by
  refine SC.of Tryd.func124 (c := bodyOf Tryd.f124) (by kernel_rfl) (by kernel_rfl) (fun x => (by decide : (2:Nat) ≤ Tryd.f124.ntmps)) (DOk.cons sc_rot en_rot DOk.nil) (Eq.mpr vc_down ?_)
  rintro ⟨a, b, ⟨⟩⟩ -
  exact ⟨trivial, rfl⟩

theorem vc_start : VC Tryd.prog Tryd.f117 (bodyOf Tryd.f117) S_start [] (fun _ _ => none) = (∀ (x : Unit), True →
  nat_lit 8 = nat_lit 8 ∧ nat_lit 8 = nat_lit 8 ∧ nat_lit 8 = nat_lit 8 ∧ ([(1779033703 : Int), (3144134277 : Int), (1013904242 : Int), (2773480762 : Int), (1359893119 : Int), (2600822924 : Int), (528734635 : Int), (1541459225 : Int)], ()) = (startL, ())) := by kernel_rfl
theorem en_start (us : Array Value) (u : World) : (callFunc 117 us).run Tryd.prog u = .ok (.enter 117 us) u := by kernel_rfl
theorem sc_start : SC Tryd.prog 117 S_start := by
  refine SC.of Tryd.func117 (c := bodyOf Tryd.f117) (by kernel_rfl) (by kernel_rfl) (fun x => (by decide : (0:Nat) ≤ Tryd.f117.ntmps)) DOk.nil (Eq.mpr vc_start ?_)
  intro _ _
  simp [startL]

theorem vc_pad : VC Tryd.prog Tryd.f119 (bodyOf Tryd.f119) S_pad [] A_pad = (∀ (x : List Int × Unit), List.length x.fst ≤ (1000000000 : Nat) →
  List.length x.fst ≤ (9223372036854775807 : Nat) →
  List.length x.fst ≤ (9223372036854775807 : Nat) →
  (64 : Int) ≠ (0 : Int) ∧ (64 : Int) ≠ (0 : Int) ∧ (0 : Int) ≤ IntKind.wrap IntKind.i64 (IntKind.wrap IntKind.i64 (IntKind.wrap IntKind.i64 ((↑(List.length x.fst) : Int) + (1 : Int)) + (8 : Int)) + Int.tmod (IntKind.wrap IntKind.i64 ((64 : Int) - Int.tmod (IntKind.wrap IntKind.i64 (IntKind.wrap IntKind.i64 ((↑(List.length x.fst) : Int) + (1 : Int)) + (8 : Int))) (64 : Int))) (64 : Int)) ∧ IntKind.wrap IntKind.i64 (IntKind.wrap IntKind.i64 (IntKind.wrap IntKind.i64 ((↑(List.length x.fst) : Int) + (1 : Int)) + (8 : Int)) + Int.tmod (IntKind.wrap IntKind.i64 ((64 : Int) - Int.tmod (IntKind.wrap IntKind.i64 (IntKind.wrap IntKind.i64 ((↑(List.length x.fst) : Int) + (1 : Int)) + (8 : Int))) (64 : Int))) (64 : Int)) ≤ IntKind.wrap IntKind.i64 (IntKind.wrap IntKind.i64 (IntKind.wrap IntKind.i64 ((↑(List.length x.fst) : Int) + (1 : Int)) + (8 : Int)) + Int.tmod (IntKind.wrap IntKind.i64 ((64 : Int) - Int.tmod (IntKind.wrap IntKind.i64 (IntKind.wrap IntKind.i64 ((↑(List.length x.fst) : Int) + (1 : Int)) + (8 : Int))) (64 : Int))) (64 : Int)) ∧ Int.ofNat (nat_lit 1) * IntKind.wrap IntKind.i64 (IntKind.wrap IntKind.i64 (IntKind.wrap IntKind.i64 ((↑(List.length x.fst) : Int) + (1 : Int)) + (8 : Int)) + Int.tmod (IntKind.wrap IntKind.i64 ((64 : Int) - Int.tmod (IntKind.wrap IntKind.i64 (IntKind.wrap IntKind.i64 ((↑(List.length x.fst) : Int) + (1 : Int)) + (8 : Int))) (64 : Int))) (64 : Int)) ≤ (281474976710656 : Int) ∧ IntKind.wrap IntKind.i64 (IntKind.wrap IntKind.i64 (IntKind.wrap IntKind.i64 ((↑(List.length x.fst) : Int) + (1 : Int)) + (8 : Int)) + Int.tmod (IntKind.wrap IntKind.i64 ((64 : Int) - Int.tmod (IntKind.wrap IntKind.i64 (IntKind.wrap IntKind.i64 ((↑(List.length x.fst) : Int) + (1 : Int)) + (8 : Int))) (64 : Int))) (64 : Int)) ≤ (140737488351232 : Int) ∧ (0 : Nat) + List.length (List.replicate (Int.toNat (IntKind.wrap IntKind.i64 (IntKind.wrap IntKind.i64 (IntKind.wrap IntKind.i64 ((↑(List.length x.fst) : Int) + (1 : Int)) + (8 : Int)) + Int.tmod (IntKind.wrap IntKind.i64 ((64 : Int) - Int.tmod (IntKind.wrap IntKind.i64 (IntKind.wrap IntKind.i64 ((↑(List.length x.fst) : Int) + (1 : Int)) + (8 : Int))) (64 : Int))) (64 : Int)))) (0 : Int)) ≤ List.length (List.replicate (Int.toNat (IntKind.wrap IntKind.i64 (IntKind.wrap IntKind.i64 (IntKind.wrap IntKind.i64 ((↑(List.length x.fst) : Int) + (1 : Int)) + (8 : Int)) + Int.tmod (IntKind.wrap IntKind.i64 ((64 : Int) - Int.tmod (IntKind.wrap IntKind.i64 (IntKind.wrap IntKind.i64 ((↑(List.length x.fst) : Int) + (1 : Int)) + (8 : Int))) (64 : Int))) (64 : Int)))) (0 : Int)) ∧ (List.length x.fst ≤ (9223372036854775807 : Nat) →
  (0 : Int) ≤ (↑(List.length x.fst) : Int) ∧ (↑(List.length x.fst) : Int) < (↑(List.length (List.take (0 : Nat) (List.replicate (Int.toNat (IntKind.wrap IntKind.i64 (IntKind.wrap IntKind.i64 (IntKind.wrap IntKind.i64 ((↑(List.length x.fst) : Int) + (1 : Int)) + (8 : Int)) + Int.tmod (IntKind.wrap IntKind.i64 ((64 : Int) - Int.tmod (IntKind.wrap IntKind.i64 (IntKind.wrap IntKind.i64 ((↑(List.length x.fst) : Int) + (1 : Int)) + (8 : Int))) (64 : Int))) (64 : Int)))) (0 : Int)) ++ List.take (min (List.length (List.replicate (Int.toNat (IntKind.wrap IntKind.i64 (IntKind.wrap IntKind.i64 (IntKind.wrap IntKind.i64 ((↑(List.length x.fst) : Int) + (1 : Int)) + (8 : Int)) + Int.tmod (IntKind.wrap IntKind.i64 ((64 : Int) - Int.tmod (IntKind.wrap IntKind.i64 (IntKind.wrap IntKind.i64 ((↑(List.length x.fst) : Int) + (1 : Int)) + (8 : Int))) (64 : Int))) (64 : Int)))) (0 : Int))) (List.length x.fst)) x.fst ++ List.drop ((0 : Nat) + min (List.length (List.replicate (Int.toNat (IntKind.wrap IntKind.i64 (IntKind.wrap IntKind.i64 (IntKind.wrap IntKind.i64 ((↑(List.length x.fst) : Int) + (1 : Int)) + (8 : Int)) + Int.tmod (IntKind.wrap IntKind.i64 ((64 : Int) - Int.tmod (IntKind.wrap IntKind.i64 (IntKind.wrap IntKind.i64 ((↑(List.length x.fst) : Int) + (1 : Int)) + (8 : Int))) (64 : Int))) (64 : Int)))) (0 : Int))) (List.length x.fst)) (List.replicate (Int.toNat (IntKind.wrap IntKind.i64 (IntKind.wrap IntKind.i64 (IntKind.wrap IntKind.i64 ((↑(List.length x.fst) : Int) + (1 : Int)) + (8 : Int)) + Int.tmod (IntKind.wrap IntKind.i64 ((64 : Int) - Int.tmod (IntKind.wrap IntKind.i64 (IntKind.wrap IntKind.i64 ((↑(List.length x.fst) : Int) + (1 : Int)) + (8 : Int))) (64 : Int))) (64 : Int)))) (0 : Int)))) : Int) ∧ Int.toNat (↑(List.length x.fst) : Int) < List.length (List.take (0 : Nat) (List.replicate (Int.toNat (IntKind.wrap IntKind.i64 (IntKind.wrap IntKind.i64 (IntKind.wrap IntKind.i64 ((↑(List.length x.fst) : Int) + (1 : Int)) + (8 : Int)) + Int.tmod (IntKind.wrap IntKind.i64 ((64 : Int) - Int.tmod (IntKind.wrap IntKind.i64 (IntKind.wrap IntKind.i64 ((↑(List.length x.fst) : Int) + (1 : Int)) + (8 : Int))) (64 : Int))) (64 : Int)))) (0 : Int)) ++ List.take (min (List.length (List.replicate (Int.toNat (IntKind.wrap IntKind.i64 (IntKind.wrap IntKind.i64 (IntKind.wrap IntKind.i64 ((↑(List.length x.fst) : Int) + (1 : Int)) + (8 : Int)) + Int.tmod (IntKind.wrap IntKind.i64 ((64 : Int) - Int.tmod (IntKind.wrap IntKind.i64 (IntKind.wrap IntKind.i64 ((↑(List.length x.fst) : Int) + (1 : Int)) + (8 : Int))) (64 : Int))) (64 : Int)))) (0 : Int))) (List.length x.fst)) x.fst ++ List.drop ((0 : Nat) + min (List.length (List.replicate (Int.toNat (IntKind.wrap IntKind.i64 (IntKind.wrap IntKind.i64 (IntKind.wrap IntKind.i64 ((↑(List.length x.fst) : Int) + (1 : Int)) + (8 : Int)) + Int.tmod (IntKind.wrap IntKind.i64 ((64 : Int) - Int.tmod (IntKind.wrap IntKind.i64 (IntKind.wrap IntKind.i64 ((↑(List.length x.fst) : Int) + (1 : Int)) + (8 : Int))) (64 : Int))) (64 : Int)))) (0 : Int))) (List.length x.fst)) (List.replicate (Int.toNat (IntKind.wrap IntKind.i64 (IntKind.wrap IntKind.i64 (IntKind.wrap IntKind.i64 ((↑(List.length x.fst) : Int) + (1 : Int)) + (8 : Int)) + Int.tmod (IntKind.wrap IntKind.i64 ((64 : Int) - Int.tmod (IntKind.wrap IntKind.i64 (IntKind.wrap IntKind.i64 ((↑(List.length x.fst) : Int) + (1 : Int)) + (8 : Int))) (64 : Int))) (64 : Int)))) (0 : Int))) ∧ ∀ (x0 : Int), (List.take (0 : Nat) (List.replicate (Int.toNat (IntKind.wrap IntKind.i64 (IntKind.wrap IntKind.i64 (IntKind.wrap IntKind.i64 ((↑(List.length x.fst) : Int) + (1 : Int)) + (8 : Int)) + Int.tmod (IntKind.wrap IntKind.i64 ((64 : Int) - Int.tmod (IntKind.wrap IntKind.i64 (IntKind.wrap IntKind.i64 ((↑(List.length x.fst) : Int) + (1 : Int)) + (8 : Int))) (64 : Int))) (64 : Int)))) (0 : Int)) ++ List.take (min (List.length (List.replicate (Int.toNat (IntKind.wrap IntKind.i64 (IntKind.wrap IntKind.i64 (IntKind.wrap IntKind.i64 ((↑(List.length x.fst) : Int) + (1 : Int)) + (8 : Int)) + Int.tmod (IntKind.wrap IntKind.i64 ((64 : Int) - Int.tmod (IntKind.wrap IntKind.i64 (IntKind.wrap IntKind.i64 ((↑(List.length x.fst) : Int) + (1 : Int)) + (8 : Int))) (64 : Int))) (64 : Int)))) (0 : Int))) (List.length x.fst)) x.fst ++ List.drop ((0 : Nat) + min (List.length (List.replicate (Int.toNat (IntKind.wrap IntKind.i64 (IntKind.wrap IntKind.i64 (IntKind.wrap IntKind.i64 ((↑(List.length x.fst) : Int) + (1 : Int)) + (8 : Int)) + Int.tmod (IntKind.wrap IntKind.i64 ((64 : Int) - Int.tmod (IntKind.wrap IntKind.i64 (IntKind.wrap IntKind.i64 ((↑(List.length x.fst) : Int) + (1 : Int)) + (8 : Int))) (64 : Int))) (64 : Int)))) (0 : Int))) (List.length x.fst)) (List.replicate (Int.toNat (IntKind.wrap IntKind.i64 (IntKind.wrap IntKind.i64 (IntKind.wrap IntKind.i64 ((↑(List.length x.fst) : Int) + (1 : Int)) + (8 : Int)) + Int.tmod (IntKind.wrap IntKind.i64 ((64 : Int) - Int.tmod (IntKind.wrap IntKind.i64 (IntKind.wrap IntKind.i64 ((↑(List.length x.fst) : Int) + (1 : Int)) + (8 : Int))) (64 : Int))) (64 : Int)))) (0 : Int)))[Int.toNat (↑(List.length x.fst) : Int)]? = some x0 →
  List.length x.fst ≤ (9223372036854775807 : Nat) →
  ((0 : Int) ≤ (0 : Int) ∧ (0 : Int) ≤ (8 : Int) ∧ List.set (List.take (0 : Nat) (List.replicate (Int.toNat (IntKind.wrap IntKind.i64 (IntKind.wrap IntKind.i64 (IntKind.wrap IntKind.i64 ((↑(List.length x.fst) : Int) + (1 : Int)) + (8 : Int)) + Int.tmod (IntKind.wrap IntKind.i64 ((64 : Int) - Int.tmod (IntKind.wrap IntKind.i64 (IntKind.wrap IntKind.i64 ((↑(List.length x.fst) : Int) + (1 : Int)) + (8 : Int))) (64 : Int))) (64 : Int)))) (0 : Int)) ++ List.take (min (List.length (List.replicate (Int.toNat (IntKind.wrap IntKind.i64 (IntKind.wrap IntKind.i64 (IntKind.wrap IntKind.i64 ((↑(List.length x.fst) : Int) + (1 : Int)) + (8 : Int)) + Int.tmod (IntKind.wrap IntKind.i64 ((64 : Int) - Int.tmod (IntKind.wrap IntKind.i64 (IntKind.wrap IntKind.i64 ((↑(List.length x.fst) : Int) + (1 : Int)) + (8 : Int))) (64 : Int))) (64 : Int)))) (0 : Int))) (List.length x.fst)) x.fst ++ List.drop ((0 : Nat) + min (List.length (List.replicate (Int.toNat (IntKind.wrap IntKind.i64 (IntKind.wrap IntKind.i64 (IntKind.wrap IntKind.i64 ((↑(List.length x.fst) : Int) + (1 : Int)) + (8 : Int)) + Int.tmod (IntKind.wrap IntKind.i64 ((64 : Int) - Int.tmod (IntKind.wrap IntKind.i64 (IntKind.wrap IntKind.i64 ((↑(List.length x.fst) : Int) + (1 : Int)) + (8 : Int))) (64 : Int))) (64 : Int)))) (0 : Int))) (List.length x.fst)) (List.replicate (Int.toNat (IntKind.wrap IntKind.i64 (IntKind.wrap IntKind.i64 (IntKind.wrap IntKind.i64 ((↑(List.length x.fst) : Int) + (1 : Int)) + (8 : Int)) + Int.tmod (IntKind.wrap IntKind.i64 ((64 : Int) - Int.tmod (IntKind.wrap IntKind.i64 (IntKind.wrap IntKind.i64 ((↑(List.length x.fst) : Int) + (1 : Int)) + (8 : Int))) (64 : Int))) (64 : Int)))) (0 : Int))) (Int.toNat (↑(List.length x.fst) : Int)) (128 : Int) = padA x.fst (Int.toNat (0 : Int))) ∧ ∀ (v : Int × List Int × Unit), (0 : Int) ≤ v.fst ∧ v.fst ≤ (8 : Int) ∧ v.2.fst = padA x.fst (Int.toNat v.fst) →
  bif decide (v.fst < (8 : Int)) then (0 : Int) ≤ IntKind.wrap IntKind.i64 ((8 : Int) * v.fst) ∧ (0 : Int) ≤ IntKind.wrap IntKind.i64 (IntKind.wrap IntKind.i64 ((↑(List.length v.2.fst) : Int) - (1 : Int)) - v.fst) ∧ IntKind.wrap IntKind.i64 (IntKind.wrap IntKind.i64 ((↑(List.length v.2.fst) : Int) - (1 : Int)) - v.fst) < (↑(List.length v.2.fst) : Int) ∧ Int.toNat (IntKind.wrap IntKind.i64 (IntKind.wrap IntKind.i64 ((↑(List.length v.2.fst) : Int) - (1 : Int)) - v.fst)) < List.length v.2.fst ∧ ∀ (x0 : Int), v.2.fst[Int.toNat (IntKind.wrap IntKind.i64 (IntKind.wrap IntKind.i64 ((↑(List.length v.2.fst) : Int) - (1 : Int)) - v.fst))]? = some x0 →
  ((0 : Int) ≤ IntKind.wrap IntKind.i64 (v.fst + (1 : Int)) ∧ IntKind.wrap IntKind.i64 (v.fst + (1 : Int)) ≤ (8 : Int) ∧ List.set v.2.fst (Int.toNat (IntKind.wrap IntKind.i64 (IntKind.wrap IntKind.i64 ((↑(List.length v.2.fst) : Int) - (1 : Int)) - v.fst))) (IntKind.wrap IntKind.u8 (shrI IntKind.u64 (IntKind.wrap IntKind.u64 (IntKind.wrap IntKind.u64 (↑(List.length x.fst) : Int) * (8 : Int))) (IntKind.wrap IntKind.i64 ((8 : Int) * v.fst)))) = padA x.fst (Int.toNat (IntKind.wrap IntKind.i64 (v.fst + (1 : Int))))) ∧ Int.toNat ((8 : Int) - IntKind.wrap IntKind.i64 (v.fst + (1 : Int))) < Int.toNat ((8 : Int) - v.fst) else v.2 = (pad x.fst, ()))) := by kernel_rfl
theorem en_pad (us : Array Value) (u : World) : (callFunc 119 us).run Tryd.prog u = .ok (.enter 119 us) u := by kernel_rfl
theorem sc_pad : SC Tryd.prog 119 S_pad := by
  refine SC.of Tryd.func119 (c := bodyOf Tryd.f119) (by kernel_rfl) (by kernel_rfl) (fun x => (by decide : (1:Nat) ≤ Tryd.f119.ntmps)) DOk.nil (Eq.mpr vc_pad ?_)
  rintro ⟨l, ⟨⟩⟩ hl - -
  dsimp only at hl ⊢
  have w1 : IntKind.i64.wrap ((l.length : Int) + 1) = (l.length : Int) + 1 := IntWalk.i64_in _ (by omega)
  have w2 : IntKind.i64.wrap ((l.length : Int) + 1 + 8) = (l.length : Int) + 9 := by rw [IntWalk.i64_in _ (by omega)]; omega
  have t1 : Int.tmod ((l.length : Int) + 9) 64 = ((l.length : Int) + 9) % 64 := Int.tmod_eq_emod_of_nonneg (by omega)
  have w3 : IntKind.i64.wrap (64 - ((l.length : Int) + 9) % 64) = 64 - ((l.length : Int) + 9) % 64 := IntWalk.i64_in _ (by omega)
  have t2 : Int.tmod (64 - ((l.length : Int) + 9) % 64) 64 = (64 - ((l.length : Int) + 9) % 64) % 64 := Int.tmod_eq_emod_of_nonneg (by omega)
  have w4 : IntKind.i64.wrap ((l.length : Int) + 9 + (64 - ((l.length : Int) + 9) % 64) % 64) = ((padN l.length : Nat) : Int) := by
    rw [IntWalk.i64_in _ (by omega)]; unfold padN; omega
  have hp1 := padN_ge l.length
  have hp2 := padN_le l.length
  have hU : List.take 0 (List.replicate (padN l.length) (0 : Int)) ++ List.take (min (padN l.length) l.length) l ++ List.drop (0 + min (padN l.length) l.length) (List.replicate (padN l.length) (0 : Int)) = l ++ List.replicate (padN l.length - l.length) 0 := by
    rw [Nat.min_eq_right (by omega), List.take_zero, List.nil_append, List.take_length, Nat.zero_add, List.drop_replicate]
  have hUl : (l ++ List.replicate (padN l.length - l.length) (0 : Int)).length = padN l.length := by rw [List.length_append, List.length_replicate]; omega
  simp only [w1, w2, t1, w3, t2, w4, Int.toNat_natCast, List.length_replicate, hU, hUl]
  refine ⟨by decide, by decide, by omega, by omega, by show (1 : Int) * _ ≤ _; omega, by omega, by omega, fun _ => ⟨by omega, by omega, by omega, fun x0 _ _ => ⟨⟨by omega, by omega, rfl⟩, ?_⟩⟩⟩
  rintro ⟨i, w, ⟨⟩⟩ ⟨h0, h1, hw⟩
  dsimp only at h0 h1 hw ⊢
  have wl : w.length = padN l.length := by rw [hw]; exact padA_len _ _
  have wi : IntKind.i64.wrap (i + 1) = i + 1 := IntWalk.i64_in _ (by omega)
  by_cases hi : i < 8
  · rw [decide_eq_true hi, cond_true]
    have v1 : IntKind.i64.wrap (8 * i) = 8 * i := IntWalk.i64_in _ (by omega)
    have v2 : IntKind.i64.wrap ((padN l.length : Int) - 1) = (padN l.length : Int) - 1 := IntWalk.i64_in _ (by omega)
    have v3 : IntKind.i64.wrap ((padN l.length : Int) - 1 - i) = (padN l.length : Int) - 1 - i := IntWalk.i64_in _ (by omega)
    simp only [wl, v2, v3, wi]
    refine ⟨by rw [v1]; omega, by omega, by omega, by omega, fun x0 _ => ⟨⟨by omega, by omega, ?_⟩, by omega⟩⟩
    rw [show (i + 1).toNat = i.toNat + 1 by omega]
    show _ = (padA l i.toNat).set (padN l.length - 1 - i.toNat) (IntKind.u8.wrap (shrI .u64 (IntKind.u64.wrap (IntKind.u64.wrap l.length * 8)) (IntKind.i64.wrap (8 * (i.toNat : Nat)))))
    rw [← hw, show ((padN l.length : Int) - 1 - i).toNat = padN l.length - 1 - i.toNat by omega, show ((i.toNat : Nat) : Int) = i by omega]
  · rw [decide_eq_false hi, cond_false]
    obtain rfl : i = 8 := by omega
    rw [hw]
    rfl

theorem vc_sch : VC Tryd.prog Tryd.f123 (bodyOf Tryd.f123) S_sch [(124, S_down)] A_sch = (∀ (x : List Int × Unit), List.length x.fst = (64 : Nat) →
  List.length x.fst ≤ (9223372036854775807 : Nat) →
  ((0 : Int) ≤ (0 : Int) ∧ (0 : Int) ≤ (16 : Int) ∧ [(0 : Int), (0 : Int), (0 : Int), (0 : Int), (0 : Int), (0 : Int), (0 : Int), (0 : Int), (0 : Int), (0 : Int), (0 : Int), (0 : Int), (0 : Int), (0 : Int), (0 : Int), (0 : Int), (0 : Int), (0 : Int), (0 : Int), (0 : Int), (0 : Int), (0 : Int), (0 : Int), (0 : Int), (0 : Int), (0 : Int), (0 : Int), (0 : Int), (0 : Int), (0 : Int), (0 : Int), (0 : Int), (0 : Int), (0 : Int), (0 : Int), (0 : Int), (0 : Int), (0 : Int), (0 : Int), (0 : Int), (0 : Int), (0 : Int), (0 : Int), (0 : Int), (0 : Int), (0 : Int), (0 : Int), (0 : Int), (0 : Int), (0 : Int), (0 : Int), (0 : Int), (0 : Int), (0 : Int), (0 : Int), (0 : Int), (0 : Int), (0 : Int), (0 : Int), (0 : Int), (0 : Int), (0 : Int), (0 : Int), (0 : Int)] = schA x.fst (Int.toNat (0 : Int))) ∧ ∀ (v : Int × List Int × Unit), (0 : Int) ≤ v.fst ∧ v.fst ≤ (16 : Int) ∧ v.2.fst = schA x.fst (Int.toNat v.fst) →
  bif decide (v.fst < (16 : Int)) then (0 : Int) ≤ IntKind.wrap IntKind.i64 ((4 : Int) * v.fst) ∧ IntKind.wrap IntKind.i64 ((4 : Int) * v.fst) < (↑(List.length x.fst) : Int) ∧ ∀ (c0 : Int), x.fst[Int.toNat (IntKind.wrap IntKind.i64 ((4 : Int) * v.fst))]? = some c0 →
  (0 : Int) ≤ (24 : Int) ∧ (0 : Int) ≤ IntKind.wrap IntKind.i64 (IntKind.wrap IntKind.i64 ((4 : Int) * v.fst) + (1 : Int)) ∧ IntKind.wrap IntKind.i64 (IntKind.wrap IntKind.i64 ((4 : Int) * v.fst) + (1 : Int)) < (↑(List.length x.fst) : Int) ∧ ∀ (c0_1 : Int), x.fst[Int.toNat (IntKind.wrap IntKind.i64 (IntKind.wrap IntKind.i64 ((4 : Int) * v.fst) + (1 : Int)))]? = some c0_1 →
  (0 : Int) ≤ (16 : Int) ∧ (0 : Int) ≤ IntKind.wrap IntKind.i64 (IntKind.wrap IntKind.i64 ((4 : Int) * v.fst) + (2 : Int)) ∧ IntKind.wrap IntKind.i64 (IntKind.wrap IntKind.i64 ((4 : Int) * v.fst) + (2 : Int)) < (↑(List.length x.fst) : Int) ∧ ∀ (c0_2 : Int), x.fst[Int.toNat (IntKind.wrap IntKind.i64 (IntKind.wrap IntKind.i64 ((4 : Int) * v.fst) + (2 : Int)))]? = some c0_2 →
  (0 : Int) ≤ (8 : Int) ∧ (0 : Int) ≤ IntKind.wrap IntKind.i64 (IntKind.wrap IntKind.i64 ((4 : Int) * v.fst) + (3 : Int)) ∧ IntKind.wrap IntKind.i64 (IntKind.wrap IntKind.i64 ((4 : Int) * v.fst) + (3 : Int)) < (↑(List.length x.fst) : Int) ∧ ∀ (c0_3 : Int), x.fst[Int.toNat (IntKind.wrap IntKind.i64 (IntKind.wrap IntKind.i64 ((4 : Int) * v.fst) + (3 : Int)))]? = some c0_3 →
  (0 : Int) ≤ v.fst ∧ v.fst < Int.ofNat (64 : Nat) ∧ Int.toNat v.fst < List.length v.2.fst ∧ ∀ (x0 : Int), v.2.fst[Int.toNat v.fst]? = some x0 →
  ((0 : Int) ≤ IntKind.wrap IntKind.i64 (v.fst + (1 : Int)) ∧ IntKind.wrap IntKind.i64 (v.fst + (1 : Int)) ≤ (16 : Int) ∧ List.set v.2.fst (Int.toNat v.fst) (orI IntKind.u32 (orI IntKind.u32 (orI IntKind.u32 (shlI IntKind.u32 (IntKind.wrap IntKind.u32 c0) (24 : Int)) (shlI IntKind.u32 (IntKind.wrap IntKind.u32 c0_1) (16 : Int))) (shlI IntKind.u32 (IntKind.wrap IntKind.u32 c0_2) (8 : Int))) (IntKind.wrap IntKind.u32 c0_3)) = schA x.fst (Int.toNat (IntKind.wrap IntKind.i64 (v.fst + (1 : Int))))) ∧ Int.toNat ((16 : Int) - IntKind.wrap IntKind.i64 (v.fst + (1 : Int))) < Int.toNat ((16 : Int) - v.fst) else ((16 : Int) ≤ (16 : Int) ∧ (16 : Int) ≤ (64 : Int) ∧ v.2.fst = schB x.fst (Int.toNat (16 : Int) - (16 : Nat))) ∧ ∀ (v : Int × List Int × Unit), (16 : Int) ≤ v.fst ∧ v.fst ≤ (64 : Int) ∧ v.2.fst = schB x.fst (Int.toNat v.fst - (16 : Nat)) →
  bif decide (v.fst < (64 : Int)) then (0 : Int) ≤ IntKind.wrap IntKind.i64 (v.fst - (15 : Int)) ∧ IntKind.wrap IntKind.i64 (v.fst - (15 : Int)) < Int.ofNat (64 : Nat) ∧ Int.toNat (IntKind.wrap IntKind.i64 (v.fst - (15 : Int))) < List.length v.2.fst ∧ ∀ (x_1 : Int), v.2.fst[Int.toNat (IntKind.wrap IntKind.i64 (v.fst - (15 : Int)))]? = some x_1 →
  (0 : Int) ≤ IntKind.wrap IntKind.i64 (v.fst - (2 : Int)) ∧ IntKind.wrap IntKind.i64 (v.fst - (2 : Int)) < Int.ofNat (64 : Nat) ∧ Int.toNat (IntKind.wrap IntKind.i64 (v.fst - (2 : Int))) < List.length v.2.fst ∧ ∀ (x_2 : Int), v.2.fst[Int.toNat (IntKind.wrap IntKind.i64 (v.fst - (2 : Int)))]? = some x_2 →
  True ∧ True ∧ (0 : Int) ≤ (3 : Int) ∧ True ∧ True ∧ (0 : Int) ≤ (10 : Int) ∧ (0 : Int) ≤ IntKind.wrap IntKind.i64 (v.fst - (16 : Int)) ∧ IntKind.wrap IntKind.i64 (v.fst - (16 : Int)) < Int.ofNat (64 : Nat) ∧ Int.toNat (IntKind.wrap IntKind.i64 (v.fst - (16 : Int))) < List.length v.2.fst ∧ ∀ (x_3 : Int), v.2.fst[Int.toNat (IntKind.wrap IntKind.i64 (v.fst - (16 : Int)))]? = some x_3 →
  (0 : Int) ≤ IntKind.wrap IntKind.i64 (v.fst - (7 : Int)) ∧ IntKind.wrap IntKind.i64 (v.fst - (7 : Int)) < Int.ofNat (64 : Nat) ∧ Int.toNat (IntKind.wrap IntKind.i64 (v.fst - (7 : Int))) < List.length v.2.fst ∧ ∀ (x_4 : Int), v.2.fst[Int.toNat (IntKind.wrap IntKind.i64 (v.fst - (7 : Int)))]? = some x_4 →
  (0 : Int) ≤ v.fst ∧ v.fst < Int.ofNat (64 : Nat) ∧ Int.toNat v.fst < List.length v.2.fst ∧ ∀ (x0 : Int), v.2.fst[Int.toNat v.fst]? = some x0 →
  ((16 : Int) ≤ IntKind.wrap IntKind.i64 (v.fst + (1 : Int)) ∧ IntKind.wrap IntKind.i64 (v.fst + (1 : Int)) ≤ (64 : Int) ∧ List.set v.2.fst (Int.toNat v.fst) (IntKind.wrap IntKind.u32 (IntKind.wrap IntKind.u32 (IntKind.wrap IntKind.u32 (x_3 + xorI IntKind.u32 (xorI IntKind.u32 (down x_1 (7 : Int)) (down x_1 (18 : Int))) (shrI IntKind.u32 x_1 (3 : Int))) + x_4) + xorI IntKind.u32 (xorI IntKind.u32 (down x_2 (17 : Int)) (down x_2 (19 : Int))) (shrI IntKind.u32 x_2 (10 : Int)))) = schB x.fst (Int.toNat (IntKind.wrap IntKind.i64 (v.fst + (1 : Int))) - (16 : Nat))) ∧ Int.toNat ((64 : Int) - IntKind.wrap IntKind.i64 (v.fst + (1 : Int))) < Int.toNat ((64 : Int) - v.fst) else List.length v.2.fst = nat_lit 64 ∧ nat_lit 64 = nat_lit 64 ∧ List.length v.2.fst = nat_lit 64 ∧ List.length v.2.fst = nat_lit 64 ∧ v.2 = (sch x.fst, ())) := by kernel_rfl
theorem en_sch (us : Array Value) (u : World) : (callFunc 123 us).run Tryd.prog u = .ok (.enter 123 us) u := by kernel_rfl
theorem sc_sch : SC Tryd.prog 123 S_sch := by
  refine SC.of Tryd.func123 (c := bodyOf Tryd.f123) (by kernel_rfl) (by kernel_rfl) (fun x => (by decide : (1:Nat) ≤ Tryd.f123.ntmps)) (DOk.cons sc_down en_down DOk.nil) (Eq.mpr vc_sch ?_)
  rintro ⟨l, ⟨⟩⟩ hl -
  dsimp only at hl ⊢
  refine ⟨⟨Int.le_refl 0, by decide, rfl⟩, ?_⟩
  rintro ⟨i, w, ⟨⟩⟩ ⟨h0, h1, hw⟩
  dsimp only at h0 h1 hw ⊢
  have wl : w.length = 64 := by rw [hw]; exact schA_len _ _
  have wi : IntKind.i64.wrap (i + 1) = i + 1 := IntWalk.i64_in _ (by omega)
  by_cases hi : i < 16
  · rw [decide_eq_true hi, cond_true]
    have w4 : IntKind.i64.wrap (4 * i) = 4 * i := IntWalk.i64_in _ (by omega)
    have w5 : IntKind.i64.wrap (4 * i + 1) = 4 * i + 1 := IntWalk.i64_in _ (by omega)
    have w6 : IntKind.i64.wrap (4 * i + 2) = 4 * i + 2 := IntWalk.i64_in _ (by omega)
    have w7 : IntKind.i64.wrap (4 * i + 3) = 4 * i + 3 := IntWalk.i64_in _ (by omega)
    simp only [w4, w5, w6, w7, wi, hl]
    refine ⟨by omega, by omega, fun c0 hc0 => ⟨by omega, by omega, by omega, fun c1 hc1 => ⟨by omega, by omega, by omega, fun c2 hc2 => ⟨by omega, by omega, by omega, fun c3 hc3 => ⟨by omega, by simp; omega, by omega, fun x0 _ => ⟨⟨by omega, by omega, ?_⟩, by omega⟩⟩⟩⟩⟩⟩
    rw [show (i + 1).toNat = i.toNat + 1 by omega]
    show _ = (schA l i.toNat).set i.toNat (sch0 l i.toNat)
    rw [← hw]
    unfold sch0
    rw [getD_of (m := 4 * i.toNat) hc0 (by omega), getD_of (m := 4 * i.toNat + 1) hc1 (by omega), getD_of (m := 4 * i.toNat + 2) hc2 (by omega), getD_of (m := 4 * i.toNat + 3) hc3 (by omega)]
  · rw [decide_eq_false hi, cond_false]
    obtain rfl : i = 16 := by omega
    refine ⟨⟨by omega, by omega, hw⟩, ?_⟩
    clear hw wl wi
    clear w
    rintro ⟨i, w, ⟨⟩⟩ ⟨h0, h1, hw⟩
    dsimp only at h0 h1 hw ⊢
    have wl : w.length = 64 := by rw [hw]; exact schB_len _ _
    have wi : IntKind.i64.wrap (i + 1) = i + 1 := IntWalk.i64_in _ (by omega)
    by_cases hi : i < 64
    · rw [decide_eq_true hi, cond_true]
      have w4 : IntKind.i64.wrap (i - 15) = i - 15 := IntWalk.i64_in _ (by omega)
      have w5 : IntKind.i64.wrap (i - 2) = i - 2 := IntWalk.i64_in _ (by omega)
      have w6 : IntKind.i64.wrap (i - 16) = i - 16 := IntWalk.i64_in _ (by omega)
      have w7 : IntKind.i64.wrap (i - 7) = i - 7 := IntWalk.i64_in _ (by omega)
      simp only [w4, w5, w6, w7, wi, wl, true_and]
      refine ⟨by omega, by simp; omega, by omega, fun c1 hc1 => ⟨by omega, by simp; omega, by omega, fun c2 hc2 => ⟨by omega, by omega, by omega, by simp; omega, by omega, fun c3 hc3 => ⟨by omega, by simp; omega, by omega, fun c4 hc4 => ⟨by omega, by simp; omega, by omega, fun x0 _ => ⟨⟨by omega, by omega, ?_⟩, by omega⟩⟩⟩⟩⟩⟩
      rw [show (i + 1).toNat - 16 = (i.toNat - 16) + 1 by omega]
      show _ = (schB l (i.toNat - 16)).set (16 + (i.toNat - 16)) (schS (schB l (i.toNat - 16)) (16 + (i.toNat - 16)))
      rw [← hw, show 16 + (i.toNat - 16) = i.toNat by omega]
      unfold schS
      rw [getD_of (m := i.toNat - 15) hc1 (by omega), getD_of (m := i.toNat - 2) hc2 (by omega), getD_of (m := i.toNat - 16) hc3 (by omega), getD_of (m := i.toNat - 7) hc4 (by omega)]
      rfl
    · rw [decide_eq_false hi, cond_false]
      obtain rfl : i = 64 := by omega
      exact ⟨wl, rfl, wl, wl, by rw [hw]; rfl⟩

theorem vc_blk : VC Tryd.prog Tryd.f120 (bodyOf Tryd.f120) S_blk [(124, S_down), (123, S_sch)] A_blk = (∀ (x : List Int × List Int × Unit), List.length x.fst = (8 : Nat) ∧ List.length x.2.fst = (64 : Nat) →
  List.length x.2.fst ≤ (9223372036854775807 : Nat) →
  List.length x.fst ≤ (9223372036854775807 : Nat) ∧ (List.length x.2.fst ≤ (9223372036854775807 : Nat) →
  bif (↑(List.length x.2.fst) : Int) != (64 : Int) then nat_lit 8 = nat_lit 8 ∧ nat_lit 8 = nat_lit 8 ∧ nat_lit 8 = nat_lit 8 ∧ (([(0 : Int), (0 : Int), (0 : Int), (0 : Int), (0 : Int), (0 : Int), (0 : Int), (0 : Int)], (1 : Int), ()), ()) = ((blk x.fst x.2.fst, (0 : Int), ()), ()) else List.length x.2.fst = (64 : Nat) ∧ nat_lit 64 = nat_lit 64 ∧ List.length (sch x.2.fst) = nat_lit 64 ∧ List.length x.fst = nat_lit 8 ∧ nat_lit 8 = nat_lit 8 ∧ List.length x.fst = nat_lit 8 ∧ ((0 : Int) ≤ (0 : Int) ∧ (0 : Int) ≤ (64 : Int) ∧ x.fst = blkV x.fst (sch x.2.fst) (Int.toNat (0 : Int))) ∧ ∀ (v : Int × List Int × Unit), (0 : Int) ≤ v.fst ∧ v.fst ≤ (64 : Int) ∧ v.2.fst = blkV x.fst (sch x.2.fst) (Int.toNat v.fst) →
  bif decide (v.fst < (64 : Int)) then (0 : Int) ≤ (0 : Int) ∧ (0 : Int) < Int.ofNat (8 : Nat) ∧ nat_lit 0 < List.length v.2.fst ∧ ∀ (x_1 : Int), v.2.fst[nat_lit 0]? = some x_1 →
  (0 : Int) ≤ (4 : Int) ∧ (4 : Int) < Int.ofNat (8 : Nat) ∧ nat_lit 4 < List.length v.2.fst ∧ ∀ (x_2 : Int), v.2.fst[nat_lit 4]? = some x_2 →
  (0 : Int) ≤ (7 : Int) ∧ (7 : Int) < Int.ofNat (8 : Nat) ∧ nat_lit 7 < List.length v.2.fst ∧ ∀ (x_3 : Int), v.2.fst[nat_lit 7]? = some x_3 →
  True ∧ True ∧ True ∧ (0 : Int) ≤ (5 : Int) ∧ (5 : Int) < Int.ofNat (8 : Nat) ∧ nat_lit 5 < List.length v.2.fst ∧ ∀ (x_4 : Int), v.2.fst[nat_lit 5]? = some x_4 →
  (0 : Int) ≤ (6 : Int) ∧ (6 : Int) < Int.ofNat (8 : Nat) ∧ nat_lit 6 < List.length v.2.fst ∧ ∀ (x_5 : Int), v.2.fst[nat_lit 6]? = some x_5 →
  (0 : Int) ≤ v.fst ∧ v.fst < Int.ofNat (64 : Nat) ∧ v.fst < Int.ofNat (nat_lit 64) ∧ ∀ (c0 : Int), tabL[Int.toNat v.fst]? = some c0 →
  (0 : Int) ≤ v.fst ∧ v.fst < Int.ofNat (64 : Nat) ∧ Int.toNat v.fst < List.length (sch x.2.fst) ∧ ∀ (x_6 : Int), (sch x.2.fst)[Int.toNat v.fst]? = some x_6 →
  True ∧ True ∧ True ∧ (0 : Int) ≤ (1 : Int) ∧ (1 : Int) < Int.ofNat (8 : Nat) ∧ nat_lit 1 < List.length v.2.fst ∧ ∀ (x_7 : Int), v.2.fst[nat_lit 1]? = some x_7 →
  (0 : Int) ≤ (2 : Int) ∧ (2 : Int) < Int.ofNat (8 : Nat) ∧ nat_lit 2 < List.length v.2.fst ∧ ∀ (x_8 : Int), v.2.fst[nat_lit 2]? = some x_8 →
  (0 : Int) ≤ (1 : Int) ∧ (1 : Int) < Int.ofNat (8 : Nat) ∧ nat_lit 1 < List.length v.2.fst ∧ ∀ (x_9 : Int), v.2.fst[nat_lit 1]? = some x_9 →
  (0 : Int) ≤ (2 : Int) ∧ (2 : Int) < Int.ofNat (8 : Nat) ∧ nat_lit 2 < List.length v.2.fst ∧ ∀ (x_10 : Int), v.2.fst[nat_lit 2]? = some x_10 →
  (8 : Nat) ≤ List.length v.2.fst ∧ (0 : Int) ≤ (1 : Int) ∧ (1 : Int) ≤ Int.ofNat (8 : Nat) ∧ Int.ofNat (8 : Nat) ≤ Int.ofNat (8 : Nat) ∧ (1 : Int) < Int.ofNat (8 : Nat) ∧ (8 : Nat) ≤ List.length v.2.fst ∧ (0 : Int) ≤ (0 : Int) ∧ (0 : Int) ≤ (7 : Int) ∧ (7 : Int) ≤ Int.ofNat (8 : Nat) ∧ (0 : Int) < Int.ofNat (8 : Nat) ∧ nat_lit 8 ≤ List.length v.2.fst ∧ nat_lit 7 ≤ List.length v.2.fst ∧ (0 : Int) ≤ (4 : Int) ∧ (4 : Int) < Int.ofNat (8 : Nat) ∧ nat_lit 4 < List.length (List.take (nat_lit 1) v.2.fst ++ List.take (min (nat_lit 7) (List.length (List.take (nat_lit 7) (List.drop (nat_lit 0) v.2.fst)))) (List.take (nat_lit 7) (List.drop (nat_lit 0) v.2.fst)) ++ List.drop (nat_lit 1 + min (nat_lit 7) (List.length (List.take (nat_lit 7) (List.drop (nat_lit 0) v.2.fst)))) v.2.fst) ∧ ∀ (x_11 : Int), (List.take (nat_lit 1) v.2.fst ++ List.take (min (nat_lit 7) (List.length (List.take (nat_lit 7) (List.drop (nat_lit 0) v.2.fst)))) (List.take (nat_lit 7) (List.drop (nat_lit 0) v.2.fst)) ++ List.drop (nat_lit 1 + min (nat_lit 7) (List.length (List.take (nat_lit 7) (List.drop (nat_lit 0) v.2.fst)))) v.2.fst)[nat_lit 4]? = some x_11 →
  (0 : Int) ≤ (4 : Int) ∧ (4 : Int) < Int.ofNat (8 : Nat) ∧ nat_lit 4 < List.length (List.take (nat_lit 1) v.2.fst ++ List.take (min (nat_lit 7) (List.length (List.take (nat_lit 7) (List.drop (nat_lit 0) v.2.fst)))) (List.take (nat_lit 7) (List.drop (nat_lit 0) v.2.fst)) ++ List.drop (nat_lit 1 + min (nat_lit 7) (List.length (List.take (nat_lit 7) (List.drop (nat_lit 0) v.2.fst)))) v.2.fst) ∧ ∀ (x0 : Int), (List.take (nat_lit 1) v.2.fst ++ List.take (min (nat_lit 7) (List.length (List.take (nat_lit 7) (List.drop (nat_lit 0) v.2.fst)))) (List.take (nat_lit 7) (List.drop (nat_lit 0) v.2.fst)) ++ List.drop (nat_lit 1 + min (nat_lit 7) (List.length (List.take (nat_lit 7) (List.drop (nat_lit 0) v.2.fst)))) v.2.fst)[nat_lit 4]? = some x0 →
  (0 : Int) ≤ (0 : Int) ∧ (0 : Int) < Int.ofNat (8 : Nat) ∧ nat_lit 0 < List.length (List.set (List.take (nat_lit 1) v.2.fst ++ List.take (min (nat_lit 7) (List.length (List.take (nat_lit 7) (List.drop (nat_lit 0) v.2.fst)))) (List.take (nat_lit 7) (List.drop (nat_lit 0) v.2.fst)) ++ List.drop (nat_lit 1 + min (nat_lit 7) (List.length (List.take (nat_lit 7) (List.drop (nat_lit 0) v.2.fst)))) v.2.fst) (nat_lit 4) (IntKind.wrap IntKind.u32 (x_11 + IntKind.wrap IntKind.u32 (IntKind.wrap IntKind.u32 (IntKind.wrap IntKind.u32 (IntKind.wrap IntKind.u32 (x_3 + xorI IntKind.u32 (xorI IntKind.u32 (down x_2 (6 : Int)) (down x_2 (11 : Int))) (down x_2 (25 : Int))) + xorI IntKind.u32 (andI IntKind.u32 x_2 x_4) (andI IntKind.u32 (notI IntKind.u32 x_2) x_5)) + c0) + x_6)))) ∧ ∀ (x0 : Int), (List.set (List.take (nat_lit 1) v.2.fst ++ List.take (min (nat_lit 7) (List.length (List.take (nat_lit 7) (List.drop (nat_lit 0) v.2.fst)))) (List.take (nat_lit 7) (List.drop (nat_lit 0) v.2.fst)) ++ List.drop (nat_lit 1 + min (nat_lit 7) (List.length (List.take (nat_lit 7) (List.drop (nat_lit 0) v.2.fst)))) v.2.fst) (nat_lit 4) (IntKind.wrap IntKind.u32 (x_11 + IntKind.wrap IntKind.u32 (IntKind.wrap IntKind.u32 (IntKind.wrap IntKind.u32 (IntKind.wrap IntKind.u32 (x_3 + xorI IntKind.u32 (xorI IntKind.u32 (down x_2 (6 : Int)) (down x_2 (11 : Int))) (down x_2 (25 : Int))) + xorI IntKind.u32 (andI IntKind.u32 x_2 x_4) (andI IntKind.u32 (notI IntKind.u32 x_2) x_5)) + c0) + x_6))))[nat_lit 0]? = some x0 →
  ((0 : Int) ≤ IntKind.wrap IntKind.i64 (v.fst + (1 : Int)) ∧ IntKind.wrap IntKind.i64 (v.fst + (1 : Int)) ≤ (64 : Int) ∧ List.set (List.set (List.take (nat_lit 1) v.2.fst ++ List.take (min (nat_lit 7) (List.length (List.take (nat_lit 7) (List.drop (nat_lit 0) v.2.fst)))) (List.take (nat_lit 7) (List.drop (nat_lit 0) v.2.fst)) ++ List.drop (nat_lit 1 + min (nat_lit 7) (List.length (List.take (nat_lit 7) (List.drop (nat_lit 0) v.2.fst)))) v.2.fst) (nat_lit 4) (IntKind.wrap IntKind.u32 (x_11 + IntKind.wrap IntKind.u32 (IntKind.wrap IntKind.u32 (IntKind.wrap IntKind.u32 (IntKind.wrap IntKind.u32 (x_3 + xorI IntKind.u32 (xorI IntKind.u32 (down x_2 (6 : Int)) (down x_2 (11 : Int))) (down x_2 (25 : Int))) + xorI IntKind.u32 (andI IntKind.u32 x_2 x_4) (andI IntKind.u32 (notI IntKind.u32 x_2) x_5)) + c0) + x_6)))) (nat_lit 0) (IntKind.wrap IntKind.u32 (IntKind.wrap IntKind.u32 (IntKind.wrap IntKind.u32 (IntKind.wrap IntKind.u32 (IntKind.wrap IntKind.u32 (x_3 + xorI IntKind.u32 (xorI IntKind.u32 (down x_2 (6 : Int)) (down x_2 (11 : Int))) (down x_2 (25 : Int))) + xorI IntKind.u32 (andI IntKind.u32 x_2 x_4) (andI IntKind.u32 (notI IntKind.u32 x_2) x_5)) + c0) + x_6) + IntKind.wrap IntKind.u32 (xorI IntKind.u32 (xorI IntKind.u32 (down x_1 (2 : Int)) (down x_1 (13 : Int))) (down x_1 (22 : Int)) + xorI IntKind.u32 (xorI IntKind.u32 (andI IntKind.u32 x_1 x_7) (andI IntKind.u32 x_1 x_8)) (andI IntKind.u32 x_9 x_10)))) = blkV x.fst (sch x.2.fst) (Int.toNat (IntKind.wrap IntKind.i64 (v.fst + (1 : Int))))) ∧ Int.toNat ((64 : Int) - IntKind.wrap IntKind.i64 (v.fst + (1 : Int))) < Int.toNat ((64 : Int) - v.fst) else ((0 : Int) ≤ (0 : Int) ∧ (0 : Int) ≤ (8 : Int) ∧ x.fst = blkH x.fst (blkV x.fst (sch x.2.fst) (64 : Nat)) (Int.toNat (0 : Int))) ∧ ∀ (v_1 : Int × List Int × Unit), (0 : Int) ≤ v_1.fst ∧ v_1.fst ≤ (8 : Int) ∧ v_1.2.fst = blkH x.fst (blkV x.fst (sch x.2.fst) (64 : Nat)) (Int.toNat v_1.fst) →
  bif decide (v_1.fst < (8 : Int)) then (0 : Int) ≤ v_1.fst ∧ v_1.fst < Int.ofNat (8 : Nat) ∧ Int.toNat v_1.fst < List.length v_1.2.fst ∧ ∀ (x_1 : Int), v_1.2.fst[Int.toNat v_1.fst]? = some x_1 →
  (0 : Int) ≤ v_1.fst ∧ v_1.fst < Int.ofNat (8 : Nat) ∧ Int.toNat v_1.fst < List.length v.2.fst ∧ ∀ (x_2 : Int), v.2.fst[Int.toNat v_1.fst]? = some x_2 →
  (0 : Int) ≤ v_1.fst ∧ v_1.fst < Int.ofNat (8 : Nat) ∧ Int.toNat v_1.fst < List.length v_1.2.fst ∧ ∀ (x0 : Int), v_1.2.fst[Int.toNat v_1.fst]? = some x0 →
  ((0 : Int) ≤ IntKind.wrap IntKind.i64 (v_1.fst + (1 : Int)) ∧ IntKind.wrap IntKind.i64 (v_1.fst + (1 : Int)) ≤ (8 : Int) ∧ List.set v_1.2.fst (Int.toNat v_1.fst) (IntKind.wrap IntKind.u32 (x_1 + x_2)) = blkH x.fst (blkV x.fst (sch x.2.fst) (64 : Nat)) (Int.toNat (IntKind.wrap IntKind.i64 (v_1.fst + (1 : Int))))) ∧ Int.toNat ((8 : Int) - IntKind.wrap IntKind.i64 (v_1.fst + (1 : Int))) < Int.toNat ((8 : Int) - v_1.fst) else List.length v_1.2.fst = nat_lit 8 ∧ nat_lit 8 = nat_lit 8 ∧ List.length v_1.2.fst = nat_lit 8 ∧ List.length v_1.2.fst = nat_lit 8 ∧ ((v_1.2.fst, (0 : Int), ()), ()) = ((blk x.fst x.2.fst, (0 : Int), ()), ()))) := by kernel_rfl
theorem en_blk (us : Array Value) (u : World) : (callFunc 120 us).run Tryd.prog u = .ok (.enter 120 us) u := by kernel_rfl
theorem sc_blk : SC Tryd.prog 120 S_blk := by
  refine SC.of Tryd.func120 (c := bodyOf Tryd.f120) (by kernel_rfl) (by kernel_rfl) (fun x => (by decide : (2:Nat) ≤ Tryd.f120.ntmps)) (DOk.cons sc_down en_down (DOk.cons sc_sch en_sch DOk.nil)) (Eq.mpr vc_blk ?_)
  rintro ⟨h, l, ⟨⟩⟩ ⟨hh, hl⟩ -
  dsimp only at hh hl ⊢
  have sl : (sch l).length = 64 := schB_len l 48
  refine ⟨by omega, fun _ => ?_⟩
  rw [show (((l.length : Nat) : Int) != 64) = false by rw [hl]; rfl, cond_false]
  refine ⟨hl, rfl, sl, hh, rfl, hh, ⟨by omega, by omega, rfl⟩, ?_⟩
  rintro ⟨i, v, ⟨⟩⟩ ⟨h0, h1, hv⟩
  dsimp only at h0 h1 hv ⊢
  have vl : v.length = 8 := by rw [hv]; exact blkV_len _ _ hh _
  have wi : IntKind.i64.wrap (i + 1) = i + 1 := IntWalk.i64_in _ (by omega)
  by_cases hi : i < 64
  · rw [decide_eq_true hi, cond_true]
    have hu : List.take 1 v ++ List.take (min 7 (List.length (List.take 7 (List.drop 0 v)))) (List.take 7 (List.drop 0 v)) ++ List.drop (1 + min 7 (List.length (List.take 7 (List.drop 0 v)))) v = v.take 1 ++ (v.take 7).take 7 ++ v.drop 8 := by
      rw [List.drop_zero, List.length_take, vl]; rfl
    have hul : (v.take 1 ++ (v.take 7).take 7 ++ v.drop 8).length = 8 := by simp only [List.length_append, List.length_take, List.length_drop, vl]; omega
    simp only [hu, vl, hul, List.length_set, wi, sl, true_and]
    refine ⟨by omega, by decide, by decide, fun v0 e0 => ⟨by omega, by decide, by decide, fun v4 e4 => ⟨by omega, by decide, by decide, fun v7 e7 => ⟨by omega, by decide, by decide, fun v5 e5 => ⟨by omega, by decide, by decide, fun v6 e6 => ⟨by omega, by simp; omega, by simp; omega, fun c0 ec => ⟨by omega, by simp; omega, by omega, fun x6 e6' => ?_⟩⟩⟩⟩⟩⟩⟩
    refine ⟨by omega, by decide, by decide, fun v1 e1 => ⟨by omega, by decide, by decide, fun v2 e2 => ⟨by omega, by decide, by decide, fun v1' e1' => ⟨by omega, by decide, by decide, fun v2' e2' => ?_⟩⟩⟩⟩
    obtain rfl := Option.some.inj (e1.symm.trans e1')
    obtain rfl := Option.some.inj (e2.symm.trans e2')
    refine ⟨by decide, by decide, by decide, by decide, by decide, by decide, by decide, by decide, by decide, by decide, by decide, by decide, by decide, by decide, by decide, fun x11 e11 => ⟨by decide, by decide, by decide, fun y0 _ => ⟨by decide, by decide, by decide, fun y1 _ => ⟨⟨by omega, by omega, ?_⟩, by omega⟩⟩⟩⟩
    rw [show (i + 1).toNat = i.toNat + 1 by omega]
    show _ = blkStep (blkV h (sch l) i.toNat) ((sch l).getD i.toNat 0) (tabL.getD i.toNat 0)
    rw [← hv, getD_of ec rfl, getD_of e6' rfl]
    simp only [blkStep, getD_of e0 rfl, getD_of e1 rfl, getD_of e2 rfl, getD_of e4 rfl, getD_of e5 rfl, getD_of e6 rfl, getD_of e7 rfl, getD_of e11 rfl]
    rfl
  · rw [decide_eq_false hi, cond_false]
    obtain rfl : i = 64 := by omega
    have hv' : v = blkV h (sch l) 64 := hv
    clear hv
    refine ⟨⟨Int.le_refl 0, by decide, (blkH_0 _ _).symm⟩, ?_⟩
    rintro ⟨i, u, ⟨⟩⟩ ⟨h0, h1, hu⟩
    dsimp only at h0 h1 hu ⊢
    have ul : u.length = 8 := by rw [hu]; exact blkH_len _ _ hh _
    have wi : IntKind.i64.wrap (i + 1) = i + 1 := IntWalk.i64_in _ (by omega)
    by_cases hi : i < 8
    · rw [decide_eq_true hi, cond_true]
      simp only [ul, vl, wi]
      refine ⟨by omega, by simp; omega, by omega, fun x1 e1 => ⟨by omega, by simp; omega, by omega, fun x2 e2 => ⟨by omega, by simp; omega, by omega, fun x0 _ => ⟨⟨by omega, by omega, ?_⟩, by omega⟩⟩⟩⟩
      rw [show (i + 1).toNat = i.toNat + 1 by omega]
      show _ = (blkH h (blkV h (sch l) 64) i.toNat).set i.toNat (IntKind.u32.wrap ((blkH h (blkV h (sch l) 64) i.toNat).getD i.toNat 0 + (blkV h (sch l) 64).getD i.toNat 0))
      rw [← hu, ← hv', getD_of e1 rfl, getD_of e2 rfl]
    · rw [decide_eq_false hi, cond_false]
      obtain rfl : i = 8 := by omega
      exact ⟨ul, rfl, ul, ul, by rw [hu]; rfl⟩
end Go.Proofs.YtjkbkhjalimebaaDoor
