/- The words of the reference's model. Printed by gen.py. -/
import Derived.Test.YtmkfpfnjimmmaaaEE
import Derived.Test.YtmkfpfnjimmmaaaDD
namespace Go.Proofs.Ytmkfpfnjimmmaaa
open Go.RowKit DoorU
set_option linter.unusedVariables false
set_option linter.unusedSimpArgs false
set_option maxRecDepth 100000
set_option maxHeartbeats 1000000

namespace DoorU
def bytL (l : List Let) : Prop := ∀ x ∈ l, byt x.2.2.2.2.1
def bytM (m : Mod) : Prop := (∀ q ∈ m.1, bytL q.2.1) ∧ ∀ b ∈ m.2.2.1, bytL b
def fewL (l : List Let) : Int := l.foldl (fun s x => IntKind.i64.wrap (s + IntKind.i64.wrap (1 + IntKind.i64.wrap (Int.tdiv (x.2.2.2.2.1.length : Nat) 64)))) 0
def fewQ (q : Que) : Bool := decide (fewL q.2.1 ≤ 150)
def txtS (s : Int) (l : List Let) : Int := l.foldl (fun s x => IntKind.i64.wrap (s + IntKind.i64.wrap (Int.tdiv (x.2.2.2.2.1.length : Nat) 64))) s
def boxS (s : Int) (b : List (List Let)) : Int := b.foldl (fun s x => txtS (IntKind.i64.wrap (s + (x.length : Nat))) x) s
def fewS (m : Mod) : Int := boxS (IntKind.i64.wrap (IntKind.i64.wrap ((m.1.length : Nat) + (m.2.1.length : Nat) : Int) + (m.2.2.1.length : Nat))) m.2.2.1
def fewM (m : Mod) : Bool := m.1.all fewQ && decide (fewS m ≤ 200)
end DoorU
open DoorU
abbrev oM : Sh := .agg (.pair (.own tQ 77) (.pair (.own tI 3) (.pair (.own (.sl tL) 74) .unit)))
abbrev uM : Sh := .pair (.own tQ 77) (.pair (.own tI 3) (.pair (.own (.sl tL) 74) .unit))
def S_rown : Spec := ⟨.pair aM .unit, .pair oM .unit, fun (x : Mod × Unit) => smM x.1, fun (x : Mod × Unit) => ((x.1, ()) : Mod × Unit)⟩
def A_rown (x : Mod × Unit) : Nat → Option LA
  | 0 => some ⟨[16, 3], [(3003, .sl tL, 74)], .pair nI (.pair (.var 60 uM) .unit), fun (v : Int × Mod × Unit) => 0 ≤ v.1 ∧ v.1 ≤ (x.1.2.2.1.length : Nat) ∧ v.2.1.1 = x.1.1 ∧ v.2.1.2.1 = x.1.2.1 ∧ v.2.1.2.2.1 = x.1.2.2.1.take v.1.toNat, fun (v : Int × Mod × Unit) => ((x.1.2.2.1.length : Nat) - v.1).toNat⟩
  | _ => none
def A_rNew (x : Cfg × Unit) : Nat → Option LA
  | 0 => some ⟨[12, 4], [(1004, tQ, 77), (2004, tI, 3), (3004, .sl tL, 74)], .pair nI (.pair (.var 60 uM) .unit), fun (v : Int × Mod × Unit) => 0 ≤ v.1 ∧ v.1 ≤ x.1.2.2.2.1 ∧ v.2.1.1 = List.replicate v.1.toNat (x.1.2.2.2.2.2.2.2.2.2.2.1, [], ()) ∧ v.2.1.2.1 = List.replicate v.1.toNat 0 ∧ v.2.1.2.2.1 = List.replicate v.1.toNat [], fun (v : Int × Mod × Unit) => (x.1.2.2.2.1 - v.1).toNat⟩
  | _ => none
def S_qFew : Spec := ⟨.pair aQ .unit, .pair .bool .unit, fun _ => True, fun (x : Que × Unit) => ((fewQ x.1, ()) : Bool × Unit)⟩
def A_qFew (x : Que × Unit) : Nat → Option LA
  | 0 => some ⟨[9, 3], [], .pair nI (.pair nI .unit), fun (v : Int × Int × Unit) => 0 ≤ v.1 ∧ v.1 ≤ (x.1.2.1.length : Nat) ∧ v.2.1 = fewL (x.1.2.1.take v.1.toNat), fun (v : Int × Int × Unit) => ((x.1.2.1.length : Nat) - v.1).toNat⟩
  | _ => none
def S_lSame : Spec := ⟨.pair aL (.pair aL .unit), .pair .bool .unit, fun (x : Let × Let × Unit) => x.1 = x.2.1 ∧ byt x.1.2.2.2.2.1, fun _ => ((true, ()) : Bool × Unit)⟩
def S_lsSame : Spec := ⟨.pair (.view false tL) (.pair (.view false tL) .unit), .pair .bool .unit, fun (x : List Let × List Let × Unit) => x.1 = x.2.1 ∧ bytL x.1, fun _ => ((true, ()) : Bool × Unit)⟩
def A_lsSame (x : List Let × List Let × Unit) : Nat → Option LA
  | 0 => some ⟨[13], [], .pair nI .unit, fun (v : Int × Unit) => 0 ≤ v.1 ∧ v.1 ≤ (x.1.length : Nat), fun (v : Int × Unit) => ((x.1.length : Nat) - v.1).toNat⟩
  | _ => none
def S_qSame : Spec := ⟨.pair aQ (.pair aQ .unit), .pair .bool .unit, fun (x : Que × Que × Unit) => x.1 = x.2.1 ∧ bytL x.1.2.1, fun _ => ((true, ()) : Bool × Unit)⟩
def S_iSame : Spec := ⟨.pair (.view false tI) (.pair (.view false tI) .unit), .pair .bool .unit, fun (x : List Int × List Int × Unit) => x.1 = x.2.1, fun _ => ((true, ()) : Bool × Unit)⟩
def A_iSame (x : List Int × List Int × Unit) : Nat → Option LA
  | 0 => some ⟨[13], [], .pair nI .unit, fun (v : Int × Unit) => 0 ≤ v.1 ∧ v.1 ≤ (x.1.length : Nat), fun (v : Int × Unit) => ((x.1.length : Nat) - v.1).toNat⟩
  | _ => none
def S_mSame : Spec := ⟨.pair aM (.pair aM .unit), .pair .bool .unit, fun (x : Mod × Mod × Unit) => x.1 = x.2.1 ∧ bytM x.1, fun _ => ((true, ()) : Bool × Unit)⟩
def A_mSame (x : Mod × Mod × Unit) : Nat → Option LA
  | 0 => some ⟨[34], [], .pair nI .unit, fun (v : Int × Unit) => 0 ≤ v.1 ∧ v.1 ≤ (x.1.1.length : Nat), fun (v : Int × Unit) => ((x.1.1.length : Nat) - v.1).toNat⟩
  | 1 => some ⟨[53], [], .pair nI .unit, fun (v : Int × Unit) => 0 ≤ v.1 ∧ v.1 ≤ (x.1.2.2.1.length : Nat), fun (v : Int × Unit) => ((x.1.2.2.1.length : Nat) - v.1).toNat⟩
  | _ => none

theorem vc_rchk : VC Try.prog Try.f63 (bodyOf Try.f63) S_chk [(99, S_wit)] (fun _ _ => none) = (∀ (x : (List Int × Int × Int × Int × Int × Int × Int × Int × Int × Int × Int × Unit) × Unit), True →
  List.length x.fst.fst ≤ (9223372036854775807 : Nat) →
  List.length x.fst.fst ≤ (9223372036854775807 : Nat) →
  bif decide ((↑(List.length x.fst.fst) : Int) ≤ (64 : Int)) then True ∧ bif wit x.fst.snd.fst (1 : Int) (8 : Int) then True ∧ bif wit x.fst.snd.snd.fst (0 : Int) (8 : Int) then True ∧ bif wit x.fst.snd.snd.snd.fst (1 : Int) (8 : Int) then True ∧ bif wit x.fst.snd.snd.snd.snd.fst (1 : Int) (64 : Int) then True ∧ bif wit x.fst.snd.snd.snd.snd.snd.fst (1 : Int) (10000 : Int) then bif decide (x.fst.snd.snd.snd.snd.snd.fst < x.fst.snd.snd.snd.snd.snd.snd.fst) then bif decide (x.fst.snd.snd.snd.snd.snd.snd.fst ≤ (10000 : Int)) then True ∧ bif wit x.fst.snd.snd.snd.snd.snd.snd.snd.fst (1 : Int) (10000 : Int) then True ∧ bif !wit x.fst.snd.snd.snd.snd.snd.snd.snd.snd.fst (1 : Int) (64 : Int) then ((1 : Int), ()) = (chk x.fst, ()) else bif decide (x.fst.snd.snd.snd.snd.snd.snd.snd.snd.snd.fst < (1 : Int)) then ((1 : Int), ()) = (chk x.fst, ()) else bif decide (x.fst.snd.snd.snd.snd.snd.snd.snd.snd.snd.snd.fst < (1 : Int)) then ((1 : Int), ()) = (chk x.fst, ()) else ((0 : Int), ()) = (chk x.fst, ()) else ((1 : Int), ()) = (chk x.fst, ()) else ((1 : Int), ()) = (chk x.fst, ()) else ((1 : Int), ()) = (chk x.fst, ()) else ((1 : Int), ()) = (chk x.fst, ()) else ((1 : Int), ()) = (chk x.fst, ()) else ((1 : Int), ()) = (chk x.fst, ()) else ((1 : Int), ()) = (chk x.fst, ()) else ((1 : Int), ()) = (chk x.fst, ()) else ((1 : Int), ()) = (chk x.fst, ())) := by kernel_rfl
theorem en_rchk (us : Array Value) (u : World) : (callFunc 63 us).run Try.prog u = .ok (.enter 63 us) u := by kernel_rfl
theorem sc_rchk : SC Try.prog 63 S_chk := by
  refine SC.of Try.func63 (c := bodyOf Try.f63) (by kernel_rfl) (by kernel_rfl) (fun x => (by decide : (1:Nat) ≤ Try.f63.ntmps)) (DOk.cons sc_rwit en_rwit DOk.nil) (Eq.mpr vc_rchk ?_)
  rintro ⟨⟨a, b, c, d, e, f, g, h, i, j, k, ⟨⟩⟩, ⟨⟩⟩ - h1 h2
  dsimp only [chk, okC]
  have nl : ∀ a b : Int, decide (a < b) = !decide (b ≤ a) := fun a b => by rw [Bool.eq_iff_iff]; simp
  have e1 : decide (a.length ≤ 64) = decide ((a.length : Int) ≤ (64 : Int)) := by rw [Bool.eq_iff_iff]; simp; omega
  simp only [e1, nl, true_and]
  cases decide ((a.length : Int) ≤ (64 : Int)) <;> (try simp only [Bool.not_true, Bool.not_false, Bool.true_and, Bool.false_and, Bool.and_false, cond_true, cond_false, true_and])
  cases wit b 1 8 <;> (try simp only [Bool.not_true, Bool.not_false, Bool.true_and, Bool.false_and, Bool.and_false, cond_true, cond_false, true_and])
  cases wit c 0 8 <;> (try simp only [Bool.not_true, Bool.not_false, Bool.true_and, Bool.false_and, Bool.and_false, cond_true, cond_false, true_and])
  cases wit d 1 8 <;> (try simp only [Bool.not_true, Bool.not_false, Bool.true_and, Bool.false_and, Bool.and_false, cond_true, cond_false, true_and])
  cases wit e 1 64 <;> (try simp only [Bool.not_true, Bool.not_false, Bool.true_and, Bool.false_and, Bool.and_false, cond_true, cond_false, true_and])
  cases wit f 1 10000 <;> (try simp only [Bool.not_true, Bool.not_false, Bool.true_and, Bool.false_and, Bool.and_false, cond_true, cond_false, true_and])
  cases decide (g ≤ f) <;> (try simp only [Bool.not_true, Bool.not_false, Bool.true_and, Bool.false_and, Bool.and_false, cond_true, cond_false, true_and])
  cases decide (g ≤ 10000) <;> (try simp only [Bool.not_true, Bool.not_false, Bool.true_and, Bool.false_and, Bool.and_false, cond_true, cond_false, true_and])
  cases wit h 1 10000 <;> (try simp only [Bool.not_true, Bool.not_false, Bool.true_and, Bool.false_and, Bool.and_false, cond_true, cond_false, true_and])
  cases wit i 1 64 <;> (try simp only [Bool.not_true, Bool.not_false, Bool.true_and, Bool.false_and, Bool.and_false, cond_true, cond_false, true_and])
  cases decide (1 ≤ j) <;> (try simp only [Bool.not_true, Bool.not_false, Bool.true_and, Bool.false_and, Bool.and_false, cond_true, cond_false, true_and])
  cases decide (1 ≤ k) <;> rfl

theorem vc_live : VC Try.prog Try.f47 (bodyOf Try.f47) S_live [(80, S_plain), (49, S_mNew), (51, S_mSay), (56, S_mCome), (58, S_mGone), (60, S_mTake), (54, S_mWait), (26, S_same)] (fun _ _ => none) = (∀ (x : Unit), True →
  True ∧ True ∧ True ∧ (0 : Nat) < (2 : Nat) ∧ (smM (List.replicate (Int.toNat (2 : Int)) ((1 : Int), nilT (Bool × Int × Int × Int × List Int × Unit), ()), List.replicate (Int.toNat (2 : Int)) (0 : Int), List.replicate (Int.toNat (2 : Int)) (nilT (Bool × Int × Int × Int × List Int × Unit)), ()) ∧ List.length ((104 : Int) :: (105 : Int) :: nilT Int) ≤ (1000 : Nat)) ∧ smM (List.set (List.replicate (Int.toNat (2 : Int)) ((1 : Int), nilT (Bool × Int × Int × Int × List Int × Unit), ())) (Int.toNat (0 : Int)) (IntKind.wrap IntKind.u64 ((1 : Int) + (1 : Int)), nilT (Bool × Int × Int × Int × List Int × Unit) ++ (false, (0 : Int), (1 : Int), (1 : Int), (104 : Int) :: (105 : Int) :: nilT Int, ()) :: nilT (Bool × Int × Int × Int × List Int × Unit), ()), List.replicate (Int.toNat (2 : Int)) (0 : Int), List.replicate (Int.toNat (2 : Int)) (nilT (Bool × Int × Int × Int × List Int × Unit)), ()) ∧ smM (List.set (List.replicate (Int.toNat (2 : Int)) ((1 : Int), nilT (Bool × Int × Int × Int × List Int × Unit), ())) (Int.toNat (0 : Int)) (IntKind.wrap IntKind.u64 ((1 : Int) + (1 : Int)), nilT (Bool × Int × Int × Int × List Int × Unit) ++ (false, (0 : Int), (1 : Int), (1 : Int), (104 : Int) :: (105 : Int) :: nilT Int, ()) :: nilT (Bool × Int × Int × Int × List Int × Unit), ()), List.set (List.replicate (Int.toNat (2 : Int)) (0 : Int)) (Int.toNat (0 : Int)) ((1 : Int)), List.set (List.replicate (Int.toNat (2 : Int)) (nilT (Bool × Int × Int × Int × List Int × Unit))) (Int.toNat (1 : Int)) (nilT (Bool × Int × Int × Int × List Int × Unit) ++ (false, (0 : Int), (1 : Int), (1 : Int), (104 : Int) :: (105 : Int) :: nilT Int, ()) :: nilT (Bool × Int × Int × Int × List Int × Unit)), ()) ∧ smM (List.set (List.set (List.replicate (Int.toNat (2 : Int)) ((1 : Int), nilT (Bool × Int × Int × Int × List Int × Unit), ())) (Int.toNat (0 : Int)) (IntKind.wrap IntKind.u64 ((1 : Int) + (1 : Int)), nilT (Bool × Int × Int × Int × List Int × Unit) ++ (false, (0 : Int), (1 : Int), (1 : Int), (104 : Int) :: (105 : Int) :: nilT Int, ()) :: nilT (Bool × Int × Int × Int × List Int × Unit), ())) (Int.toNat (0 : Int)) (IntKind.wrap IntKind.u64 ((1 : Int) + (1 : Int)), nilT (Bool × Int × Int × Int × List Int × Unit), ()), List.set (List.set (List.replicate (Int.toNat (2 : Int)) (0 : Int)) (Int.toNat (0 : Int)) ((1 : Int))) (Int.toNat (0 : Int)) ((0 : Int)), List.set (List.replicate (Int.toNat (2 : Int)) (nilT (Bool × Int × Int × Int × List Int × Unit))) (Int.toNat (1 : Int)) (nilT (Bool × Int × Int × Int × List Int × Unit) ++ (false, (0 : Int), (1 : Int), (1 : Int), (104 : Int) :: (105 : Int) :: nilT Int, ()) :: nilT (Bool × Int × Int × Int × List Int × Unit)), ()) ∧ bif (mNew (nilT Int, (2 : Int), (1 : Int), (2 : Int), (3 : Int), (4 : Int), (20 : Int), (5 : Int), (4 : Int), (1 : Int), (1 : Int), ())).snd == (0 : Int) then bif (mSay (nilT Int, (2 : Int), (1 : Int), (2 : Int), (3 : Int), (4 : Int), (20 : Int), (5 : Int), (4 : Int), (1 : Int), (1 : Int), ()) (List.replicate (Int.toNat (2 : Int)) ((1 : Int), nilT (Bool × Int × Int × Int × List Int × Unit), ()), List.replicate (Int.toNat (2 : Int)) (0 : Int), List.replicate (Int.toNat (2 : Int)) (nilT (Bool × Int × Int × Int × List Int × Unit)), ()) (0 : Int) (1 : Int) ((104 : Int) :: (105 : Int) :: nilT Int)).snd == (1 : Int) then True ∧ bif mWait (List.set (List.replicate (Int.toNat (2 : Int)) ((1 : Int), nilT (Bool × Int × Int × Int × List Int × Unit), ())) (Int.toNat (0 : Int)) (IntKind.wrap IntKind.u64 ((1 : Int) + (1 : Int)), nilT (Bool × Int × Int × Int × List Int × Unit) ++ (false, (0 : Int), (1 : Int), (1 : Int), (104 : Int) :: (105 : Int) :: nilT Int, ()) :: nilT (Bool × Int × Int × Int × List Int × Unit), ()), List.set (List.replicate (Int.toNat (2 : Int)) (0 : Int)) (Int.toNat (0 : Int)) ((1 : Int)), List.set (List.replicate (Int.toNat (2 : Int)) (nilT (Bool × Int × Int × Int × List Int × Unit))) (Int.toNat (1 : Int)) (nilT (Bool × Int × Int × Int × List Int × Unit) ++ (false, (0 : Int), (1 : Int), (1 : Int), (104 : Int) :: (105 : Int) :: nilT Int, ()) :: nilT (Bool × Int × Int × Int × List Int × Unit)), ()) (0 : Int) == (1 : Int) then True ∧ bif mWait (List.set (List.set (List.replicate (Int.toNat (2 : Int)) ((1 : Int), nilT (Bool × Int × Int × Int × List Int × Unit), ())) (Int.toNat (0 : Int)) (IntKind.wrap IntKind.u64 ((1 : Int) + (1 : Int)), nilT (Bool × Int × Int × Int × List Int × Unit) ++ (false, (0 : Int), (1 : Int), (1 : Int), (104 : Int) :: (105 : Int) :: nilT Int, ()) :: nilT (Bool × Int × Int × Int × List Int × Unit), ())) (Int.toNat (0 : Int)) (IntKind.wrap IntKind.u64 ((1 : Int) + (1 : Int)), nilT (Bool × Int × Int × Int × List Int × Unit), ()), List.set (List.set (List.replicate (Int.toNat (2 : Int)) (0 : Int)) (Int.toNat (0 : Int)) ((1 : Int))) (Int.toNat (0 : Int)) ((0 : Int)), List.set (List.replicate (Int.toNat (2 : Int)) (nilT (Bool × Int × Int × Int × List Int × Unit))) (Int.toNat (1 : Int)) (nilT (Bool × Int × Int × Int × List Int × Unit) ++ (false, (0 : Int), (1 : Int), (1 : Int), (104 : Int) :: (105 : Int) :: nilT Int, ()) :: nilT (Bool × Int × Int × Int × List Int × Unit)), ()) (0 : Int) == (0 : Int) then (0 : Nat) < (2 : Nat) ∧ (byt ((104 : Int) :: (105 : Int) :: nilT Int) ∧ byt ((104 : Int) :: (105 : Int) :: nilT Int)) ∧ (true, ()) = (true, ()) else (false, ()) = (true, ()) else (false, ()) = (true, ()) else (false, ()) = (true, ()) else (false, ()) = (true, ())) := by kernel_rfl
theorem en_live (us : Array Value) (u : World) : (callFunc 47 us).run Try.prog u = .ok (.enter 47 us) u := by kernel_rfl
theorem sc_live : SC Try.prog 47 S_live := by
  refine SC.of Try.func47 (c := bodyOf Try.f47) (by kernel_rfl) (by kernel_rfl) (fun x => (by decide : (0:Nat) ≤ Try.f47.ntmps)) (DOk.cons sc_plain en_plain (DOk.cons sc_mNew en_mNew (DOk.cons sc_mSay en_mSay (DOk.cons sc_mCome en_mCome (DOk.cons sc_mGone en_mGone (DOk.cons sc_mTake en_mTake (DOk.cons sc_mWait en_mWait (DOk.cons sc_same en_same DOk.nil)))))))) (Eq.mpr vc_live ?_)
  intro _ _
  simp [smM, smQ, byt, nilT]
  exact ⟨fun a b c l _ _ _ h => by subst h; simp, rfl, rfl, rfl, rfl⟩

theorem vc_rcli : VC Try.prog Try.f88 (bodyOf Try.f88) S_mCl [] (fun _ _ => none) = (∀ (x : (List (Int × List (Bool × Int × Int × Int × List Int × Unit) × Unit) × List Int × List (List (Bool × Int × Int × Int × List Int × Unit)) × Unit) × Int × Unit), True →
  List.length x.fst.fst ≤ (9223372036854775807 : Nat) →
  List.length x.fst.snd.fst ≤ (9223372036854775807 : Nat) →
  List.length x.fst.snd.snd.fst ≤ (9223372036854775807 : Nat) →
  bif decide ((0 : Int) ≤ x.snd.fst) then List.length x.fst.fst ≤ (9223372036854775807 : Nat) →
  bif decide (x.snd.fst < (↑(List.length x.fst.fst) : Int)) then List.length x.fst.snd.fst ≤ (9223372036854775807 : Nat) →
  bif decide (x.snd.fst < (↑(List.length x.fst.snd.fst) : Int)) then List.length x.fst.snd.snd.fst ≤ (9223372036854775807 : Nat) →
  (decide (x.snd.fst < (↑(List.length x.fst.snd.snd.fst) : Int)), ()) = (mCl x.fst x.snd.fst, ()) else (false, ()) = (mCl x.fst x.snd.fst, ()) else (false, ()) = (mCl x.fst x.snd.fst, ()) else (false, ()) = (mCl x.fst x.snd.fst, ())) := by kernel_rfl
theorem en_rcli (us : Array Value) (u : World) : (callFunc 88 us).run Try.prog u = .ok (.enter 88 us) u := by kernel_rfl
theorem sc_rcli : SC Try.prog 88 S_mCl := by
  refine SC.of Try.func88 (c := bodyOf Try.f88) (by kernel_rfl) (by kernel_rfl) (fun x => (by decide : (2:Nat) ≤ Try.f88.ntmps)) DOk.nil (Eq.mpr vc_rcli ?_)
  rintro ⟨⟨q, c, b, ⟨⟩⟩, n, ⟨⟩⟩ - _ _ _
  dsimp only [mCl]
  cases decide ((0 : Int) ≤ n)
  · rfl
  intro _
  cases decide (n < (q.length : Int))
  · rfl
  intro _
  cases decide (n < (c.length : Int))
  · rfl
  intro _
  rfl

theorem vc_rown : VC Try.prog Try.f89 (bodyOf Try.f89) S_rown [] A_rown = (∀ (x : (List (Int × List (Bool × Int × Int × Int × List Int × Unit) × Unit) × List Int × List (List (Bool × Int × Int × Int × List Int × Unit)) × Unit) × Unit), smM x.fst →
  List.length x.fst.fst ≤ (9223372036854775807 : Nat) →
  List.length x.fst.snd.fst ≤ (9223372036854775807 : Nat) →
  List.length x.fst.snd.snd.fst ≤ (9223372036854775807 : Nat) →
  List.length x.fst.fst * (32 : Nat) ≤ (140737488355328 : Nat) ∧ List.length x.fst.snd.fst * (8 : Nat) ≤ (140737488355328 : Nat) ∧ (List.length x.fst.snd.snd.fst ≤ (9223372036854775807 : Nat) →
  ((0 : Int) ≤ (0 : Int) ∧ (0 : Int) ≤ (↑(List.length x.fst.snd.snd.fst) : Int) ∧ x.fst.fst = x.fst.fst ∧ x.fst.snd.fst = x.fst.snd.fst ∧ nilT (List (Bool × Int × Int × Int × List Int × Unit)) = List.take (Int.toNat (0 : Int)) x.fst.snd.snd.fst) ∧ ∀ (v : Int × (List (Int × List (Bool × Int × Int × Int × List Int × Unit) × Unit) × List Int × List (List (Bool × Int × Int × Int × List Int × Unit)) × Unit) × Unit), (0 : Int) ≤ v.fst ∧ v.fst ≤ (↑(List.length x.fst.snd.snd.fst) : Int) ∧ v.snd.fst.fst = x.fst.fst ∧ v.snd.fst.snd.fst = x.fst.snd.fst ∧ v.snd.fst.snd.snd.fst = List.take (Int.toNat v.fst) x.fst.snd.snd.fst →
  bif decide (v.fst < (↑(List.length x.fst.snd.snd.fst) : Int)) then (0 : Int) ≤ v.fst ∧ v.fst < (↑(List.length x.fst.snd.snd.fst) : Int) ∧ ∀ (c0 : List (Bool × Int × Int × Int × List Int × Unit)), x.fst.snd.snd.fst[Int.toNat v.fst]? = some c0 →
  List.length c0 * (56 : Nat) ≤ (140737488355328 : Nat) ∧ (List.length v.snd.fst.snd.snd.fst + List.length (c0 :: nilT (List (Bool × Int × Int × Int × List Int × Unit)))) * (24 : Nat) ≤ (140737488355328 : Nat) ∧ ((0 : Int) ≤ IntKind.wrap IntKind.i64 (v.fst + (1 : Int)) ∧ IntKind.wrap IntKind.i64 (v.fst + (1 : Int)) ≤ (↑(List.length x.fst.snd.snd.fst) : Int) ∧ v.snd.fst.fst = x.fst.fst ∧ v.snd.fst.snd.fst = x.fst.snd.fst ∧ v.snd.fst.snd.snd.fst ++ c0 :: nilT (List (Bool × Int × Int × Int × List Int × Unit)) = List.take (Int.toNat (IntKind.wrap IntKind.i64 (v.fst + (1 : Int)))) x.fst.snd.snd.fst) ∧ Int.toNat ((↑(List.length x.fst.snd.snd.fst) : Int) - IntKind.wrap IntKind.i64 (v.fst + (1 : Int))) < Int.toNat ((↑(List.length x.fst.snd.snd.fst) : Int) - v.fst) else v.snd = x)) := by kernel_rfl
theorem en_rown (us : Array Value) (u : World) : (callFunc 89 us).run Try.prog u = .ok (.enter 89 us) u := by kernel_rfl
theorem sc_rown : SC Try.prog 89 S_rown := by
  refine SC.of Try.func89 (c := bodyOf Try.f89) (by kernel_rfl) (by kernel_rfl) (fun x => (by decide : (1:Nat) ≤ Try.f89.ntmps)) DOk.nil (Eq.mpr vc_rown ?_)
  rintro ⟨⟨Q, C, B, ⟨⟩⟩, ⟨⟩⟩ ⟨w1, w2, w3, w4, w5⟩ _ _ _
  dsimp only [nilT] at w1 w2 w3 w4 w5 ⊢
  refine ⟨by omega, by omega, fun _ => ⟨⟨Int.le_refl 0, by omega, rfl, rfl, rfl⟩, ?_⟩⟩
  rintro ⟨i, ⟨q, c, b, ⟨⟩⟩, ⟨⟩⟩ ⟨h0, h1, h2, h3, h4⟩
  dsimp only at h0 h1 h2 h3 h4 ⊢
  subst h2 h3 h4
  by_cases hc : i < (B.length : Int)
  · rw [decide_eq_true hc, cond_true]
    refine ⟨h0, hc, fun c0 hc0 => ?_⟩
    have e2 : IntKind.i64.wrap (i + 1) = i + 1 := IntWalk.i64_in _ (by omega)
    have e3 : (i + 1).toNat = i.toNat + 1 := by omega
    rw [e2, e3]
    have h6 := (w5 c0 (List.mem_of_getElem? hc0)).1
    refine ⟨by omega, by simp only [List.length_take, List.length_cons, List.length_nil]; omega, ⟨by omega, by omega, rfl, rfl, ?_⟩, by omega⟩
    rw [List.take_add_one, hc0]
    rfl
  · rw [decide_eq_false hc, cond_false]
    have : i.toNat = B.length := by omega
    rw [this, List.take_length]
theorem en_rqNew (us : Array Value) (u : World) : (callFunc 84 us).run Try.prog u = .ok (.enter 84 us) u := by kernel_rfl
theorem sc_rqNew : SC Try.prog 84 S_qNew := by
  refine SC.of Try.func84 (c := bodyOf Try.f84) (ann := fun _ _ => none) (by kernel_rfl) (by kernel_rfl) (fun x => (by decide : (1:Nat) ≤ Try.f84.ntmps)) DOk.nil ?_
  intro x _
  rfl

theorem vc_rNew : VC Try.prog Try.f50 (bodyOf Try.f50) S_mNew [(63, S_chk), (84, S_qNew)] A_rNew = (∀ (x : (List Int × Int × Int × Int × Int × Int × Int × Int × Int × Int × Int × Unit) × Unit), True →
  List.length x.fst.fst ≤ (9223372036854775807 : Nat) →
  True ∧ bif chk x.fst != (0 : Int) then (((nilT (Int × List (Bool × Int × Int × Int × List Int × Unit) × Unit), nilT Int, nilT (List (Bool × Int × Int × Int × List Int × Unit)), ()), (1 : Int), ()), ()) = (((mNew x.fst).fst, (mNew x.fst).snd, ()), ()) else ((0 : Int) ≤ (0 : Int) ∧ (0 : Int) ≤ x.fst.snd.snd.snd.fst ∧ nilT (Int × List (Bool × Int × Int × Int × List Int × Unit) × Unit) = List.replicate (Int.toNat (0 : Int)) (x.fst.snd.snd.snd.snd.snd.snd.snd.snd.snd.snd.fst, nilT (Bool × Int × Int × Int × List Int × Unit), ()) ∧ nilT Int = List.replicate (Int.toNat (0 : Int)) (0 : Int) ∧ nilT (List (Bool × Int × Int × Int × List Int × Unit)) = List.replicate (Int.toNat (0 : Int)) (nilT (Bool × Int × Int × Int × List Int × Unit))) ∧ ∀ (v : Int × (List (Int × List (Bool × Int × Int × Int × List Int × Unit) × Unit) × List Int × List (List (Bool × Int × Int × Int × List Int × Unit)) × Unit) × Unit), (0 : Int) ≤ v.fst ∧ v.fst ≤ x.fst.snd.snd.snd.fst ∧ v.snd.fst.fst = List.replicate (Int.toNat v.fst) (x.fst.snd.snd.snd.snd.snd.snd.snd.snd.snd.snd.fst, nilT (Bool × Int × Int × Int × List Int × Unit), ()) ∧ v.snd.fst.snd.fst = List.replicate (Int.toNat v.fst) (0 : Int) ∧ v.snd.fst.snd.snd.fst = List.replicate (Int.toNat v.fst) (nilT (Bool × Int × Int × Int × List Int × Unit)) →
  bif decide (v.fst < x.fst.snd.snd.snd.fst) then True ∧ (List.length v.snd.fst.fst + List.length ((x.fst.snd.snd.snd.snd.snd.snd.snd.snd.snd.snd.fst, nilT (Bool × Int × Int × Int × List Int × Unit), ()) :: nilT (Int × List (Bool × Int × Int × Int × List Int × Unit) × Unit))) * (32 : Nat) ≤ (140737488355328 : Nat) ∧ (List.length v.snd.fst.snd.fst + (1 : Nat)) * (8 : Nat) ≤ (140737488355328 : Nat) ∧ (List.length v.snd.fst.snd.snd.fst + (1 : Nat)) * (24 : Nat) ≤ (140737488355328 : Nat) ∧ ((0 : Int) ≤ IntKind.wrap IntKind.i64 (v.fst + (1 : Int)) ∧ IntKind.wrap IntKind.i64 (v.fst + (1 : Int)) ≤ x.fst.snd.snd.snd.fst ∧ v.snd.fst.fst ++ (x.fst.snd.snd.snd.snd.snd.snd.snd.snd.snd.snd.fst, nilT (Bool × Int × Int × Int × List Int × Unit), ()) :: nilT (Int × List (Bool × Int × Int × Int × List Int × Unit) × Unit) = List.replicate (Int.toNat (IntKind.wrap IntKind.i64 (v.fst + (1 : Int)))) (x.fst.snd.snd.snd.snd.snd.snd.snd.snd.snd.snd.fst, nilT (Bool × Int × Int × Int × List Int × Unit), ()) ∧ v.snd.fst.snd.fst ++ (0 : Int) :: nilT Int = List.replicate (Int.toNat (IntKind.wrap IntKind.i64 (v.fst + (1 : Int)))) (0 : Int) ∧ v.snd.fst.snd.snd.fst ++ nilT (Bool × Int × Int × Int × List Int × Unit) :: nilT (List (Bool × Int × Int × Int × List Int × Unit)) = List.replicate (Int.toNat (IntKind.wrap IntKind.i64 (v.fst + (1 : Int)))) (nilT (Bool × Int × Int × Int × List Int × Unit))) ∧ Int.toNat (x.fst.snd.snd.snd.fst - IntKind.wrap IntKind.i64 (v.fst + (1 : Int))) < Int.toNat (x.fst.snd.snd.snd.fst - v.fst) else ((v.snd.fst, (0 : Int), ()), ()) = (((mNew x.fst).fst, (mNew x.fst).snd, ()), ())) := by kernel_rfl
theorem en_rNew (us : Array Value) (u : World) : (callFunc 50 us).run Try.prog u = .ok (.enter 50 us) u := by kernel_rfl
theorem sc_rNew : SC Try.prog 50 S_mNew := by
  refine SC.of Try.func50 (c := bodyOf Try.f50) (by kernel_rfl) (by kernel_rfl) (fun x => (by decide : (1:Nat) ≤ Try.f50.ntmps)) (DOk.cons sc_rchk en_rchk (DOk.cons sc_rqNew en_rqNew DOk.nil)) (Eq.mpr vc_rNew ?_)
  rintro ⟨⟨a, b, c, d, e, f, g, h, i, j, k, ⟨⟩⟩, ⟨⟩⟩ - _
  refine ⟨trivial, ?_⟩
  dsimp only [nilT]
  have e1 : (chk (a, b, c, d, e, f, g, h, i, j, k, ()) != 0) = !okC (a, b, c, d, e, f, g, h, i, j, k, ()) := by unfold chk; cases okC (a, b, c, d, e, f, g, h, i, j, k, ()) <;> rfl
  rw [e1]
  cases hk : okC (a, b, c, d, e, f, g, h, i, j, k, ())
  · simp only [Bool.not_false, cond_true, mNew, hk, cond_false]
  have hd : 1 ≤ d ∧ d ≤ 8 := okC_cl hk
  obtain ⟨hd1, hd2⟩ := hd
  simp only [Bool.not_true, cond_false]
  refine ⟨⟨Int.le_refl 0, by omega, rfl, rfl, rfl⟩, ?_⟩
  rintro ⟨n, ⟨Q, C, B, ⟨⟩⟩, ⟨⟩⟩ ⟨h1, h2, h3, h4, h5⟩
  dsimp only at h1 h2 h3 h4 h5 ⊢
  subst h3 h4 h5
  by_cases hn : n < d
  · rw [decide_eq_true hn, cond_true]
    have e2 : IntKind.i64.wrap (n + 1) = n + 1 := IntWalk.i64_in _ (by omega)
    have e3 : (n + 1).toNat = n.toNat + 1 := by omega
    rw [e2, e3]
    refine ⟨trivial, by simp only [List.length_replicate, List.length_cons, List.length_nil]; omega, by simp only [List.length_replicate]; omega, by simp only [List.length_replicate]; omega, ⟨by omega, by omega, ?_, ?_, ?_⟩, by omega⟩ <;> exact List.replicate_succ'.symm
  · rw [decide_eq_false hn, cond_false]
    obtain rfl : n = d := by omega
    simp only [mNew, hk, cond_true]

theorem vc_rqPut : VC Try.prog Try.f90 (bodyOf Try.f90) S_qPut [] (fun _ _ => none) = (∀ (x : (List Int × Int × Int × Int × Int × Int × Int × Int × Int × Int × Int × Unit) × (Int × List (Bool × Int × Int × Int × List Int × Unit) × Unit) × Int × Int × List Int × Unit), smQ x.snd.fst ∧ List.length x.snd.snd.snd.snd.fst ≤ (1000 : Nat) →
  List.length x.fst.fst ≤ (9223372036854775807 : Nat) →
  List.length x.snd.fst.snd.fst ≤ (9223372036854775807 : Nat) →
  List.length x.snd.snd.snd.snd.fst ≤ (9223372036854775807 : Nat) →
  bif decide (x.snd.snd.fst < (0 : Int)) then ((x.snd.fst, (3 : Int), ()), ()) = (((qPut x.fst x.snd.fst x.snd.snd.fst x.snd.snd.snd.fst x.snd.snd.snd.snd.fst).fst, (qPut x.fst x.snd.fst x.snd.snd.fst x.snd.snd.snd.fst x.snd.snd.snd.snd.fst).snd, ()), ()) else bif decide (x.fst.snd.snd.snd.fst ≤ x.snd.snd.fst) then ((x.snd.fst, (3 : Int), ()), ()) = (((qPut x.fst x.snd.fst x.snd.snd.fst x.snd.snd.snd.fst x.snd.snd.snd.snd.fst).fst, (qPut x.fst x.snd.fst x.snd.snd.fst x.snd.snd.snd.fst x.snd.snd.snd.snd.fst).snd, ()), ()) else bif decide (x.snd.snd.snd.fst < (0 : Int)) then ((x.snd.fst, (3 : Int), ()), ()) = (((qPut x.fst x.snd.fst x.snd.snd.fst x.snd.snd.snd.fst x.snd.snd.snd.snd.fst).fst, (qPut x.fst x.snd.fst x.snd.snd.fst x.snd.snd.snd.fst x.snd.snd.snd.snd.fst).snd, ()), ()) else bif decide (x.fst.snd.snd.snd.fst ≤ x.snd.snd.snd.fst) then ((x.snd.fst, (3 : Int), ()), ()) = (((qPut x.fst x.snd.fst x.snd.snd.fst x.snd.snd.snd.fst x.snd.snd.snd.snd.fst).fst, (qPut x.fst x.snd.fst x.snd.snd.fst x.snd.snd.snd.fst x.snd.snd.snd.snd.fst).snd, ()), ()) else List.length x.snd.snd.snd.snd.fst ≤ (9223372036854775807 : Nat) →
  bif decide ((64 : Int) < (↑(List.length x.snd.snd.snd.snd.fst) : Int)) then ((x.snd.fst, (3 : Int), ()), ()) = (((qPut x.fst x.snd.fst x.snd.snd.fst x.snd.snd.snd.fst x.snd.snd.snd.snd.fst).fst, (qPut x.fst x.snd.fst x.snd.snd.fst x.snd.snd.snd.fst x.snd.snd.snd.snd.fst).snd, ()), ()) else bif x.snd.fst.fst == (18446744073709551615 : Int) then ((x.snd.fst, (4 : Int), ()), ()) = (((qPut x.fst x.snd.fst x.snd.snd.fst x.snd.snd.snd.fst x.snd.snd.snd.snd.fst).fst, (qPut x.fst x.snd.fst x.snd.snd.fst x.snd.snd.snd.fst x.snd.snd.snd.snd.fst).snd, ()), ()) else List.length x.snd.fst.snd.fst ≤ (9223372036854775807 : Nat) →
  bif decide (x.fst.snd.snd.snd.snd.fst ≤ (↑(List.length x.snd.fst.snd.fst) : Int)) then ((x.snd.fst, (2 : Int), ()), ()) = (((qPut x.fst x.snd.fst x.snd.snd.fst x.snd.snd.snd.fst x.snd.snd.snd.snd.fst).fst, (qPut x.fst x.snd.fst x.snd.snd.fst x.snd.snd.snd.fst x.snd.snd.snd.snd.fst).snd, ()), ()) else List.length x.snd.snd.snd.snd.fst * (1 : Nat) ≤ (140737488355328 : Nat) ∧ List.length x.snd.fst.snd.fst * (56 : Nat) ≤ (140737488355328 : Nat) ∧ (List.length x.snd.fst.snd.fst + List.length ((false, x.snd.snd.fst, x.snd.snd.snd.fst, x.snd.fst.fst, x.snd.snd.snd.snd) :: nilT (Bool × Int × Int × Int × List Int × Unit))) * (56 : Nat) ≤ (140737488355328 : Nat) ∧ (((IntKind.wrap IntKind.u64 (x.snd.fst.fst + (1 : Int)), x.snd.fst.snd.fst ++ (false, x.snd.snd.fst, x.snd.snd.snd.fst, x.snd.fst.fst, x.snd.snd.snd.snd) :: nilT (Bool × Int × Int × Int × List Int × Unit), ()), (1 : Int), ()), ()) = (((qPut x.fst x.snd.fst x.snd.snd.fst x.snd.snd.snd.fst x.snd.snd.snd.snd.fst).fst, (qPut x.fst x.snd.fst x.snd.snd.fst x.snd.snd.snd.fst x.snd.snd.snd.snd.fst).snd, ()), ())) := by kernel_rfl
theorem en_rqPut (us : Array Value) (u : World) : (callFunc 90 us).run Try.prog u = .ok (.enter 90 us) u := by kernel_rfl
theorem sc_rqPut : SC Try.prog 90 S_qPut := by
  refine SC.of Try.func90 (c := bodyOf Try.f90) (by kernel_rfl) (by kernel_rfl) (fun x => (by decide : (5:Nat) ≤ Try.f90.ntmps)) DOk.nil (Eq.mpr vc_rqPut ?_)
  rintro ⟨⟨a, b, c, d, e, f, g, h, i, j, k, ⟨⟩⟩, ⟨nx, l, ⟨⟩⟩, fr, dst, text, ⟨⟩⟩ ⟨⟨h1, _⟩, h2⟩ _ _ _
  dsimp only [qPut, cli, nilT] at h1 h2 ⊢
  have nl : ∀ a b : Int, decide (a < b) = !decide (b ≤ a) := fun a b => by rw [Bool.eq_iff_iff]; simp
  have e1 : decide ((64 : Int) < (text.length : Int)) = decide (64 < text.length) := by rw [Bool.eq_iff_iff]; simp; omega
  have e2 : (nx == 18446744073709551615) = decide (nx = 18446744073709551615) := by rw [Bool.eq_iff_iff]; simp
  rw [e1, e2]
  simp only [nl]
  cases decide ((0 : Int) ≤ fr)
  · rfl
  cases decide (d ≤ fr)
  case true => rfl
  cases decide ((0 : Int) ≤ dst)
  · rfl
  cases decide (d ≤ dst)
  case true => rfl
  intro _
  cases q3 : decide (64 < text.length)
  case true => rfl
  cases q4 : decide (nx = 18446744073709551615)
  case true => rfl
  intro _
  cases q5 : decide (e ≤ (l.length : Int))
  case true => rfl
  exact ⟨by omega, by omega, by simp only [List.length_cons, List.length_nil]; omega, rfl⟩

theorem vc_rSay : VC Try.prog Try.f52 (bodyOf Try.f52) S_mSay [(88, S_mCl), (89, S_rown), (90, S_qPut)] (fun _ _ => none) = (∀ (x : (List Int × Int × Int × Int × Int × Int × Int × Int × Int × Int × Int × Unit) × (List (Int × List (Bool × Int × Int × Int × List Int × Unit) × Unit) × List Int × List (List (Bool × Int × Int × Int × List Int × Unit)) × Unit) × Int × Int × List Int × Unit), smM x.snd.fst ∧ List.length x.snd.snd.snd.snd.fst ≤ (1000 : Nat) →
  List.length x.fst.fst ≤ (9223372036854775807 : Nat) →
  List.length x.snd.fst.fst ≤ (9223372036854775807 : Nat) →
  List.length x.snd.fst.snd.fst ≤ (9223372036854775807 : Nat) →
  List.length x.snd.fst.snd.snd.fst ≤ (9223372036854775807 : Nat) →
  List.length x.snd.snd.snd.snd.fst ≤ (9223372036854775807 : Nat) →
  True ∧ bif !mCl x.snd.fst x.snd.snd.fst then ((x.snd.fst, (3 : Int), ()), ()) = (((mSay x.fst x.snd.fst x.snd.snd.fst x.snd.snd.snd.fst x.snd.snd.snd.snd.fst).fst, (mSay x.fst x.snd.fst x.snd.snd.fst x.snd.snd.snd.fst x.snd.snd.snd.snd.fst).snd, ()), ()) else smM x.snd.fst ∧ (0 : Int) ≤ x.snd.snd.fst ∧ x.snd.snd.fst < (↑(List.length x.snd.fst.fst) : Int) ∧ ∀ (c0 : Int × List (Bool × Int × Int × Int × List Int × Unit) × Unit), x.snd.fst.fst[Int.toNat x.snd.snd.fst]? = some c0 →
  (smQ c0 ∧ List.length x.snd.snd.snd.snd.fst ≤ (1000 : Nat)) ∧ (0 : Int) ≤ x.snd.snd.fst ∧ x.snd.snd.fst < (↑(List.length x.snd.fst.fst) : Int) ∧ Int.toNat x.snd.snd.fst < List.length x.snd.fst.fst ∧ ∀ (x0 : Int × List (Bool × Int × Int × Int × List Int × Unit) × Unit), x.snd.fst.fst[Int.toNat x.snd.snd.fst]? = some x0 →
  (((List.set x.snd.fst.fst (Int.toNat x.snd.snd.fst) (qPut x.fst c0 x.snd.snd.fst x.snd.snd.snd.fst x.snd.snd.snd.snd.fst).fst, x.snd.fst.snd), (qPut x.fst c0 x.snd.snd.fst x.snd.snd.snd.fst x.snd.snd.snd.snd.fst).snd, ()), ()) = (((mSay x.fst x.snd.fst x.snd.snd.fst x.snd.snd.snd.fst x.snd.snd.snd.snd.fst).fst, (mSay x.fst x.snd.fst x.snd.snd.fst x.snd.snd.snd.fst x.snd.snd.snd.snd.fst).snd, ()), ())) := by kernel_rfl
theorem en_rSay (us : Array Value) (u : World) : (callFunc 52 us).run Try.prog u = .ok (.enter 52 us) u := by kernel_rfl
theorem sc_rSay : SC Try.prog 52 S_mSay := by
  refine SC.of Try.func52 (c := bodyOf Try.f52) (by kernel_rfl) (by kernel_rfl) (fun x => (by decide : (5:Nat) ≤ Try.f52.ntmps)) (DOk.cons sc_rcli en_rcli (DOk.cons sc_rown en_rown (DOk.cons sc_rqPut en_rqPut DOk.nil))) (Eq.mpr vc_rSay ?_)
  rintro ⟨⟨a, b, c, d, e, f, g, h, i, j, k, ⟨⟩⟩, ⟨Q, C, B, ⟨⟩⟩, who, dst, text, ⟨⟩⟩ ⟨⟨w1, w2, w3, w4, w5⟩, h2⟩ _ _ _ _ _
  refine ⟨trivial, ?_⟩
  dsimp only at w1 w2 w3 w4 w5 h2 ⊢
  cases hc : mCl (Q, C, B, ()) who
  · simp only [mSay, hc, cond_false, cond_true, Bool.not_false]
  obtain ⟨q1, q2, q3, q4⟩ := mCl_of hc
  dsimp only at q1 q2 q3 q4
  simp only [Bool.not_true, cond_false]
  refine ⟨⟨w1, w2, w3, w4, w5⟩, q1, q2, fun c0 h0 => ?_⟩
  refine ⟨⟨w4 c0 (List.mem_of_getElem? h0), h2⟩, q1, q2, by omega, fun x0 _ => ?_⟩
  simp only [mSay, hc, h0, cond_true]

theorem vc_rWait : VC Try.prog Try.f55 (bodyOf Try.f55) S_mWait [(88, S_mCl)] (fun _ _ => none) = (∀ (x : (List (Int × List (Bool × Int × Int × Int × List Int × Unit) × Unit) × List Int × List (List (Bool × Int × Int × Int × List Int × Unit)) × Unit) × Int × Unit), True →
  List.length x.fst.fst ≤ (9223372036854775807 : Nat) →
  List.length x.fst.snd.fst ≤ (9223372036854775807 : Nat) →
  List.length x.fst.snd.snd.fst ≤ (9223372036854775807 : Nat) →
  True ∧ bif !mCl x.fst x.snd.fst then ((0 : Int), ()) = (mWait x.fst x.snd.fst, ()) else (0 : Int) ≤ x.snd.fst ∧ x.snd.fst < (↑(List.length x.fst.fst) : Int) ∧ ∀ (c0 : Int × List (Bool × Int × Int × Int × List Int × Unit) × Unit), x.fst.fst[Int.toNat x.snd.fst]? = some c0 →
  List.length c0.snd.fst ≤ (9223372036854775807 : Nat) →
  ((↑(List.length c0.snd.fst) : Int), ()) = (mWait x.fst x.snd.fst, ())) := by kernel_rfl
theorem en_rWait (us : Array Value) (u : World) : (callFunc 55 us).run Try.prog u = .ok (.enter 55 us) u := by kernel_rfl
theorem sc_rWait : SC Try.prog 55 S_mWait := by
  refine SC.of Try.func55 (c := bodyOf Try.f55) (by kernel_rfl) (by kernel_rfl) (fun x => (by decide : (2:Nat) ≤ Try.f55.ntmps)) (DOk.cons sc_rcli en_rcli DOk.nil) (Eq.mpr vc_rWait ?_)
  rintro ⟨⟨Q, C, B, ⟨⟩⟩, who, ⟨⟩⟩ - _ _ _
  refine ⟨trivial, ?_⟩
  dsimp only
  cases hc : mCl (Q, C, B, ()) who
  · simp only [mWait, hc, cond_false, cond_true, Bool.not_false]
  obtain ⟨q1, q2, q3, q4⟩ := mCl_of hc
  dsimp only at q1 q2 q3 q4
  simp only [Bool.not_true, cond_false]
  refine ⟨q1, q2, fun q hq _ => ?_⟩
  simp only [mWait, hc, hq, cond_true]

theorem vc_rGone : VC Try.prog Try.f59 (bodyOf Try.f59) S_mGone [(88, S_mCl), (89, S_rown)] (fun _ _ => none) = (∀ (x : (List (Int × List (Bool × Int × Int × Int × List Int × Unit) × Unit) × List Int × List (List (Bool × Int × Int × Int × List Int × Unit)) × Unit) × Int × Unit), smM x.fst →
  List.length x.fst.fst ≤ (9223372036854775807 : Nat) →
  List.length x.fst.snd.fst ≤ (9223372036854775807 : Nat) →
  List.length x.fst.snd.snd.fst ≤ (9223372036854775807 : Nat) →
  True ∧ bif !mCl x.fst x.snd.fst then ((x.fst, false, ()), ()) = (((mGone x.fst x.snd.fst).fst, (mGone x.fst x.snd.fst).snd, ()), ()) else (0 : Int) ≤ x.snd.fst ∧ x.snd.fst < (↑(List.length x.fst.snd.fst) : Int) ∧ ∀ (c0 : Int), x.fst.snd.fst[Int.toNat x.snd.fst]? = some c0 →
  bif decide (c0 ≤ (0 : Int)) then ((x.fst, false, ()), ()) = (((mGone x.fst x.snd.fst).fst, (mGone x.fst x.snd.fst).snd, ()), ()) else (0 : Int) ≤ x.snd.fst ∧ x.snd.fst < (↑(List.length x.fst.fst) : Int) ∧ ∀ (c0 : Int × List (Bool × Int × Int × Int × List Int × Unit) × Unit), x.fst.fst[Int.toNat x.snd.fst]? = some c0 →
  List.length c0.snd.fst ≤ (9223372036854775807 : Nat) →
  bif (↑(List.length c0.snd.fst) : Int) == (0 : Int) then ((x.fst, false, ()), ()) = (((mGone x.fst x.snd.fst).fst, (mGone x.fst x.snd.fst).snd, ()), ()) else smM x.fst ∧ (0 : Int) ≤ x.snd.fst ∧ x.snd.fst < (↑(List.length x.fst.fst) : Int) ∧ ∀ (c0 : Int × List (Bool × Int × Int × Int × List Int × Unit) × Unit), x.fst.fst[Int.toNat x.snd.fst]? = some c0 →
  (0 : Int) ≤ (1 : Int) ∧ (1 : Int) ≤ (↑(List.length c0.snd.fst) : Int) ∧ (↑(List.length c0.snd.fst) : Int) ≤ (↑(List.length c0.snd.fst) : Int) ∧ List.length (List.take (Int.toNat (↑(List.length c0.snd.fst) : Int) - (1 : Nat)) (List.drop ((1 : Nat)) c0.snd.fst)) * (56 : Nat) ≤ (140737488355328 : Nat) ∧ (0 : Int) ≤ x.snd.fst ∧ x.snd.fst < (↑(List.length x.fst.fst) : Int) ∧ Int.toNat x.snd.fst < List.length x.fst.fst ∧ ∀ (x0 : Int × List (Bool × Int × Int × Int × List Int × Unit) × Unit), x.fst.fst[Int.toNat x.snd.fst]? = some x0 →
  (0 : Int) ≤ x.snd.fst ∧ x.snd.fst < (↑(List.length x.fst.snd.fst) : Int) ∧ Int.toNat x.snd.fst < List.length x.fst.snd.fst ∧ ∀ (x_1 : Int), x.fst.snd.fst[Int.toNat x.snd.fst]? = some x_1 →
  (0 : Int) ≤ x.snd.fst ∧ x.snd.fst < (↑(List.length x.fst.snd.fst) : Int) ∧ Int.toNat x.snd.fst < List.length x.fst.snd.fst ∧ ∀ (x0_1 : Int), x.fst.snd.fst[Int.toNat x.snd.fst]? = some x0_1 →
  (((List.set x.fst.fst (Int.toNat x.snd.fst) (x0.fst, List.take (Int.toNat (↑(List.length c0.snd.fst) : Int) - (1 : Nat)) (List.drop ((1 : Nat)) c0.snd.fst), ()), List.set x.fst.snd.fst (Int.toNat x.snd.fst) (IntKind.wrap IntKind.i64 (x_1 - (1 : Int))), x.fst.snd.snd), true, ()), ()) = (((mGone x.fst x.snd.fst).fst, (mGone x.fst x.snd.fst).snd, ()), ())) := by kernel_rfl
theorem en_rGone (us : Array Value) (u : World) : (callFunc 59 us).run Try.prog u = .ok (.enter 59 us) u := by kernel_rfl
theorem sc_rGone : SC Try.prog 59 S_mGone := by
  refine SC.of Try.func59 (c := bodyOf Try.f59) (by kernel_rfl) (by kernel_rfl) (fun x => (by decide : (2:Nat) ≤ Try.f59.ntmps)) (DOk.cons sc_rcli en_rcli (DOk.cons sc_rown en_rown DOk.nil)) (Eq.mpr vc_rGone ?_)
  rintro ⟨⟨Q, C, B, ⟨⟩⟩, who, ⟨⟩⟩ ⟨w1, w2, w3, w4, w5⟩ _ _ _
  refine ⟨trivial, ?_⟩
  dsimp only [nilT] at w1 w2 w3 w4 w5 ⊢
  cases hc : mCl (Q, C, B, ()) who
  · simp only [mGone, hc, cond_false, cond_true, Bool.not_false]
  obtain ⟨q1, q2, q3, q4⟩ := mCl_of hc
  dsimp only at q1 q2 q3 q4
  simp only [Bool.not_true, cond_false]
  refine ⟨q1, q3, fun p hp => ?_⟩
  obtain ⟨q0, hq0⟩ : ∃ q, Q[who.toNat]? = some q := ⟨_, List.getElem?_eq_getElem (by omega)⟩
  cases hp0 : decide (p ≤ 0)
  case true => simp only [mGone, hc, hp, hq0, hp0, cond_true]
  simp only [cond_false]
  refine ⟨q1, q2, fun q hq _ => ?_⟩
  obtain ⟨nx, it, ⟨⟩⟩ := q
  cases it with
  | nil =>
    have e : ((([] : List Let).length : Int) == 0) = true := rfl
    rw [e]
    simp only [mGone, hc, hp, hq, hp0, cond_true, cond_false]
  | cons l r =>
    have e : (((l :: r).length : Int) == 0) = false := by simp; omega
    rw [e]
    simp only [cond_false]
    refine ⟨⟨w1, w2, w3, w4, w5⟩, q1, q2, fun q' hq' => ?_⟩
    obtain rfl := Option.some.inj (hq.symm.trans hq')
    have h7 := (w4 _ (List.mem_of_getElem? hq)).1
    have e3 : List.take (((l :: r).length : Int).toNat - 1) (List.drop 1 (l :: r)) = r := by simp
    dsimp only at h7 ⊢
    rw [e3]
    refine ⟨by decide, by simp; omega, Int.le_refl _, by simp at h7; omega, q1, q2, by omega, fun x0 hx0 => ⟨q1, q3, by omega, fun x1 hx1 => ⟨q1, q3, by omega, fun x2 hx2 => ?_⟩⟩⟩
    obtain rfl := Option.some.inj (hq.symm.trans hx0)
    obtain rfl := Option.some.inj (hp.symm.trans hx1)
    simp only [mGone, hc, hp, hq, hp0, cond_true, cond_false]

theorem vc_rTake : VC Try.prog Try.f61 (bodyOf Try.f61) S_mTake [(88, S_mCl), (89, S_rown)] (fun _ _ => none) = (∀ (x : (List (Int × List (Bool × Int × Int × Int × List Int × Unit) × Unit) × List Int × List (List (Bool × Int × Int × Int × List Int × Unit)) × Unit) × Int × Unit), smM x.fst →
  List.length x.fst.fst ≤ (9223372036854775807 : Nat) →
  List.length x.fst.snd.fst ≤ (9223372036854775807 : Nat) →
  List.length x.fst.snd.snd.fst ≤ (9223372036854775807 : Nat) →
  True ∧ bif !mCl x.fst x.snd.fst then ((x.fst, (false, (0 : Int), (0 : Int), (0 : Int), nilT Int, ()), false, ()), ()) = (((mTake x.fst x.snd.fst).fst, (mTake x.fst x.snd.fst).snd.fst, (mTake x.fst x.snd.fst).snd.snd, ()), ()) else (0 : Int) ≤ x.snd.fst ∧ x.snd.fst < (↑(List.length x.fst.snd.snd.fst) : Int) ∧ ∀ (c0 : List (Bool × Int × Int × Int × List Int × Unit)), x.fst.snd.snd.fst[Int.toNat x.snd.fst]? = some c0 →
  List.length c0 ≤ (9223372036854775807 : Nat) →
  bif (↑(List.length c0) : Int) == (0 : Int) then ((x.fst, (false, (0 : Int), (0 : Int), (0 : Int), nilT Int, ()), false, ()), ()) = (((mTake x.fst x.snd.fst).fst, (mTake x.fst x.snd.fst).snd.fst, (mTake x.fst x.snd.fst).snd.snd, ()), ()) else smM x.fst ∧ (0 : Int) ≤ x.snd.fst ∧ x.snd.fst < (↑(List.length x.fst.snd.snd.fst) : Int) ∧ Int.toNat x.snd.fst < List.length x.fst.snd.snd.fst ∧ ∀ (x_1 : List (Bool × Int × Int × Int × List Int × Unit)), x.fst.snd.snd.fst[Int.toNat x.snd.fst]? = some x_1 →
  (0 : Int) ≤ (1 : Int) ∧ (1 : Int) ≤ (↑(List.length x_1) : Int) ∧ (↑(List.length x_1) : Int) ≤ (↑(List.length x_1) : Int) ∧ (0 : Int) ≤ x.snd.fst ∧ x.snd.fst < (↑(List.length x.fst.snd.snd.fst) : Int) ∧ Int.toNat x.snd.fst < List.length x.fst.snd.snd.fst ∧ ∀ (x0 : List (Bool × Int × Int × Int × List Int × Unit)), x.fst.snd.snd.fst[Int.toNat x.snd.fst]? = some x0 →
  (0 : Int) ≤ x.snd.fst ∧ x.snd.fst < (↑(List.length x.fst.snd.snd.fst) : Int) ∧ ∀ (c0 : List (Bool × Int × Int × Int × List Int × Unit)), x.fst.snd.snd.fst[Int.toNat x.snd.fst]? = some c0 →
  (0 : Int) ≤ (0 : Int) ∧ (0 : Int) < (↑(List.length c0) : Int) ∧ ∀ (c0_1 : Bool × Int × Int × Int × List Int × Unit), c0[(0 : Nat)]? = some c0_1 →
  (((x.fst.fst, x.fst.snd.fst, List.set x.fst.snd.snd.fst (Int.toNat x.snd.fst) (List.take (Int.toNat (↑(List.length x_1) : Int) - (1 : Nat)) (List.drop ((1 : Nat)) x_1)), ()), c0_1, true, ()), ()) = (((mTake x.fst x.snd.fst).fst, (mTake x.fst x.snd.fst).snd.fst, (mTake x.fst x.snd.fst).snd.snd, ()), ())) := by kernel_rfl
theorem en_rTake (us : Array Value) (u : World) : (callFunc 61 us).run Try.prog u = .ok (.enter 61 us) u := by kernel_rfl
theorem sc_rTake : SC Try.prog 61 S_mTake := by
  refine SC.of Try.func61 (c := bodyOf Try.f61) (by kernel_rfl) (by kernel_rfl) (fun x => (by decide : (2:Nat) ≤ Try.f61.ntmps)) (DOk.cons sc_rcli en_rcli (DOk.cons sc_rown en_rown DOk.nil)) (Eq.mpr vc_rTake ?_)
  rintro ⟨⟨Q, C, B, ⟨⟩⟩, who, ⟨⟩⟩ ⟨w1, w2, w3, w4, w5⟩ _ _ _
  refine ⟨trivial, ?_⟩
  dsimp only [nilT] at w1 w2 w3 w4 w5 ⊢
  cases hc : mCl (Q, C, B, ()) who
  · simp only [mTake, hc, cond_false, cond_true, Bool.not_false]
  obtain ⟨q1, q2, q3, q4⟩ := mCl_of hc
  dsimp only at q1 q2 q3 q4
  simp only [Bool.not_true, cond_false]
  refine ⟨q1, q4, fun b hb _ => ?_⟩
  cases b with
  | nil =>
    have e : ((([] : List Let).length : Int) == 0) = true := rfl
    rw [e]
    simp only [cond_true, mTake, hc, hb]
  | cons l r =>
    have e : (((l :: r).length : Int) == 0) = false := by simp; omega
    rw [e]
    simp only [cond_false]
    refine ⟨⟨w1, w2, w3, w4, w5⟩, q1, q4, by omega, fun b' hb' => ?_⟩
    obtain rfl := Option.some.inj (hb.symm.trans hb')
    have e3 : List.take (((l :: r).length : Int).toNat - 1) (List.drop 1 (l :: r)) = r := by simp
    rw [e3]
    refine ⟨by decide, by simp; omega, Int.le_refl _, q1, q4, by omega, fun x0 _ => ⟨q1, q4, fun b' hb' => ?_⟩⟩
    obtain rfl := Option.some.inj (hb.symm.trans hb')
    refine ⟨by decide, by simp, fun l' hl' => ?_⟩
    obtain rfl : l = l' := by simpa using hl'
    simp only [mTake, hc, hb, cond_true]

theorem vc_qFew : VC Try.prog Try.f81 (bodyOf Try.f81) S_qFew [] A_qFew = (∀ (x : (Int × List (Bool × Int × Int × Int × List Int × Unit) × Unit) × Unit), True →
  List.length x.fst.snd.fst ≤ (9223372036854775807 : Nat) →
  List.length x.fst.snd.fst ≤ (9223372036854775807 : Nat) →
  ((0 : Int) ≤ (0 : Int) ∧ (0 : Int) ≤ (↑(List.length x.fst.snd.fst) : Int) ∧ (0 : Int) = fewL (List.take (Int.toNat (0 : Int)) x.fst.snd.fst)) ∧ ∀ (v : Int × Int × Unit), (0 : Int) ≤ v.fst ∧ v.fst ≤ (↑(List.length x.fst.snd.fst) : Int) ∧ v.snd.fst = fewL (List.take (Int.toNat v.fst) x.fst.snd.fst) →
  bif decide (v.fst < (↑(List.length x.fst.snd.fst) : Int)) then (0 : Int) ≤ v.fst ∧ v.fst < (↑(List.length x.fst.snd.fst) : Int) ∧ ∀ (c0 : Bool × Int × Int × Int × List Int × Unit), x.fst.snd.fst[Int.toNat v.fst]? = some c0 →
  List.length c0.snd.snd.snd.snd.fst ≤ (9223372036854775807 : Nat) →
  (64 : Int) ≠ (0 : Int) ∧ ((0 : Int) ≤ IntKind.wrap IntKind.i64 (v.fst + (1 : Int)) ∧ IntKind.wrap IntKind.i64 (v.fst + (1 : Int)) ≤ (↑(List.length x.fst.snd.fst) : Int) ∧ IntKind.wrap IntKind.i64 (v.snd.fst + IntKind.wrap IntKind.i64 ((1 : Int) + IntKind.wrap IntKind.i64 (Int.tdiv (↑(List.length c0.snd.snd.snd.snd.fst) : Int) (64 : Int)))) = fewL (List.take (Int.toNat (IntKind.wrap IntKind.i64 (v.fst + (1 : Int)))) x.fst.snd.fst)) ∧ Int.toNat ((↑(List.length x.fst.snd.fst) : Int) - IntKind.wrap IntKind.i64 (v.fst + (1 : Int))) < Int.toNat ((↑(List.length x.fst.snd.fst) : Int) - v.fst) else (decide (v.snd.fst ≤ (150 : Int)), ()) = (fewQ x.fst, ())) := by kernel_rfl
theorem en_qFew (us : Array Value) (u : World) : (callFunc 81 us).run Try.prog u = .ok (.enter 81 us) u := by kernel_rfl
theorem sc_qFew : SC Try.prog 81 S_qFew := by
  refine SC.of Try.func81 (c := bodyOf Try.f81) (by kernel_rfl) (by kernel_rfl) (fun x => (by decide : (1:Nat) ≤ Try.f81.ntmps)) DOk.nil (Eq.mpr vc_qFew ?_)
  rintro ⟨⟨nx, l, ⟨⟩⟩, ⟨⟩⟩ - hl _
  dsimp only at hl ⊢
  refine ⟨⟨Int.le_refl 0, by omega, rfl⟩, ?_⟩
  rintro ⟨i, s, ⟨⟩⟩ ⟨h1, h2, h3⟩
  dsimp only at h1 h2 h3 ⊢
  subst h3
  by_cases hi : i < (l.length : Int)
  · rw [decide_eq_true hi, cond_true]
    refine ⟨h1, hi, fun c0 hc _ => ?_⟩
    have e2 : IntKind.i64.wrap (i + 1) = i + 1 := IntWalk.i64_in _ (by omega)
    have e3 : (i + 1).toNat = i.toNat + 1 := by omega
    rw [e2, e3]
    refine ⟨by decide, ⟨by omega, by omega, ?_⟩, by omega⟩
    rw [List.take_add_one, hc]
    unfold fewL
    rw [List.foldl_append]
    rfl
  · rw [decide_eq_false hi, cond_false]
    have e : i.toNat = l.length := by omega
    rw [e, List.take_length]
    rfl

theorem vc_lSame : VC Try.prog Try.f62 (bodyOf Try.f62) S_lSame [(26, S_same)] (fun _ _ => none) = (∀ (x : (Bool × Int × Int × Int × List Int × Unit) × (Bool × Int × Int × Int × List Int × Unit) × Unit), x.fst = x.snd.fst ∧ byt x.fst.snd.snd.snd.snd.fst →
  List.length x.fst.snd.snd.snd.snd.fst ≤ (9223372036854775807 : Nat) →
  List.length x.snd.fst.snd.snd.snd.snd.fst ≤ (9223372036854775807 : Nat) →
  bif x.fst.fst == x.snd.fst.fst then bif x.fst.snd.fst == x.snd.fst.snd.fst then bif x.fst.snd.snd.fst == x.snd.fst.snd.snd.fst then bif x.fst.snd.snd.snd.fst == x.snd.fst.snd.snd.snd.fst then (byt x.fst.snd.snd.snd.snd.fst ∧ byt x.snd.fst.snd.snd.snd.snd.fst) ∧ (x.fst.snd.snd.snd.snd.fst == x.snd.fst.snd.snd.snd.snd.fst, ()) = (true, ()) else (false, ()) = (true, ()) else (false, ()) = (true, ()) else (false, ()) = (true, ()) else (false, ()) = (true, ())) := by kernel_rfl
theorem en_lSame (us : Array Value) (u : World) : (callFunc 62 us).run Try.prog u = .ok (.enter 62 us) u := by kernel_rfl
theorem sc_lSame : SC Try.prog 62 S_lSame := by
  refine SC.of Try.func62 (c := bodyOf Try.f62) (by kernel_rfl) (by kernel_rfl) (fun x => (by decide : (2:Nat) ≤ Try.f62.ntmps)) (DOk.cons sc_same en_same DOk.nil) (Eq.mpr vc_lSame ?_)
  rintro ⟨l, l', ⟨⟩⟩ ⟨h, hb⟩ _ _
  dsimp only at h hb ⊢
  subst h
  simp only [beq_self_eq_true, cond_true]
  exact ⟨⟨hb, hb⟩, trivial⟩

theorem vc_lsSame : VC Try.prog Try.f65 (bodyOf Try.f65) S_lsSame [(62, S_lSame)] A_lsSame = (∀ (x : List (Bool × Int × Int × Int × List Int × Unit) × List (Bool × Int × Int × Int × List Int × Unit) × Unit), x.fst = x.snd.fst ∧ bytL x.fst →
  List.length x.fst ≤ (9223372036854775807 : Nat) →
  List.length x.snd.fst ≤ (9223372036854775807 : Nat) →
  List.length x.fst ≤ (9223372036854775807 : Nat) →
  List.length x.snd.fst ≤ (9223372036854775807 : Nat) →
  bif (↑(List.length x.fst) : Int) != (↑(List.length x.snd.fst) : Int) then (false, ()) = (true, ()) else List.length x.fst ≤ (9223372036854775807 : Nat) →
  ((0 : Int) ≤ (0 : Int) ∧ (0 : Int) ≤ (↑(List.length x.fst) : Int)) ∧ ∀ (v : Int × Unit), (0 : Int) ≤ v.fst ∧ v.fst ≤ (↑(List.length x.fst) : Int) →
  bif decide (v.fst < (↑(List.length x.fst) : Int)) then (0 : Int) ≤ v.fst ∧ v.fst < (↑(List.length x.fst) : Int) ∧ ∀ (c0 : Bool × Int × Int × Int × List Int × Unit), x.fst[Int.toNat v.fst]? = some c0 →
  (0 : Int) ≤ v.fst ∧ v.fst < (↑(List.length x.snd.fst) : Int) ∧ ∀ (c0_1 : Bool × Int × Int × Int × List Int × Unit), x.snd.fst[Int.toNat v.fst]? = some c0_1 →
  (c0 = c0_1 ∧ byt c0.snd.snd.snd.snd.fst) ∧ ((0 : Int) ≤ IntKind.wrap IntKind.i64 (v.fst + (1 : Int)) ∧ IntKind.wrap IntKind.i64 (v.fst + (1 : Int)) ≤ (↑(List.length x.fst) : Int)) ∧ Int.toNat ((↑(List.length x.fst) : Int) - IntKind.wrap IntKind.i64 (v.fst + (1 : Int))) < Int.toNat ((↑(List.length x.fst) : Int) - v.fst) else (true, ()) = (true, ())) := by kernel_rfl
theorem en_lsSame (us : Array Value) (u : World) : (callFunc 65 us).run Try.prog u = .ok (.enter 65 us) u := by kernel_rfl
theorem sc_lsSame : SC Try.prog 65 S_lsSame := by
  refine SC.of Try.func65 (c := bodyOf Try.f65) (by kernel_rfl) (by kernel_rfl) (fun x => (by decide : (2:Nat) ≤ Try.f65.ntmps)) (DOk.cons sc_lSame en_lSame DOk.nil) (Eq.mpr vc_lsSame ?_)
  rintro ⟨l, l', ⟨⟩⟩ ⟨h, hb⟩ _ _ _ _
  dsimp only at h hb ⊢
  subst h
  rw [bne_self_eq_false, cond_false]
  intro _
  refine ⟨⟨Int.le_refl 0, by omega⟩, ?_⟩
  rintro ⟨i, ⟨⟩⟩ ⟨h1, h2⟩
  dsimp only at h1 h2 ⊢
  by_cases hi : i < (l.length : Int)
  · rw [decide_eq_true hi, cond_true]
    refine ⟨h1, hi, fun c0 hc => ⟨h1, hi, fun c1 hc1 => ?_⟩⟩
    obtain rfl := Option.some.inj (hc.symm.trans hc1)
    have e2 : IntKind.i64.wrap (i + 1) = i + 1 := IntWalk.i64_in _ (by omega)
    rw [e2]
    exact ⟨⟨rfl, hb _ (List.mem_of_getElem? hc)⟩, ⟨by omega, by omega⟩, by omega⟩
  · rw [decide_eq_false hi, cond_false]

theorem vc_qSame : VC Try.prog Try.f92 (bodyOf Try.f92) S_qSame [(65, S_lsSame)] (fun _ _ => none) = (∀ (x : (Int × List (Bool × Int × Int × Int × List Int × Unit) × Unit) × (Int × List (Bool × Int × Int × Int × List Int × Unit) × Unit) × Unit), x.fst = x.snd.fst ∧ bytL x.fst.snd.fst →
  List.length x.fst.snd.fst ≤ (9223372036854775807 : Nat) →
  List.length x.snd.fst.snd.fst ≤ (9223372036854775807 : Nat) →
  bif x.fst.fst == x.snd.fst.fst then (x.fst.snd.fst = x.snd.fst.snd.fst ∧ bytL x.fst.snd.fst) ∧ (true, ()) = (true, ()) else (false, ()) = (true, ())) := by kernel_rfl
theorem en_qSame (us : Array Value) (u : World) : (callFunc 92 us).run Try.prog u = .ok (.enter 92 us) u := by kernel_rfl
theorem sc_qSame : SC Try.prog 92 S_qSame := by
  refine SC.of Try.func92 (c := bodyOf Try.f92) (by kernel_rfl) (by kernel_rfl) (fun x => (by decide : (2:Nat) ≤ Try.f92.ntmps)) (DOk.cons sc_lsSame en_lsSame DOk.nil) (Eq.mpr vc_qSame ?_)
  rintro ⟨l, l', ⟨⟩⟩ ⟨h, hb⟩ _ _
  dsimp only at h hb ⊢
  subst h
  simp only [beq_self_eq_true, cond_true]
  exact ⟨⟨trivial, hb⟩, trivial⟩

theorem vc_iSame : VC Try.prog Try.f91 (bodyOf Try.f91) S_iSame [] A_iSame = (∀ (x : List Int × List Int × Unit), x.fst = x.snd.fst →
  List.length x.fst ≤ (9223372036854775807 : Nat) →
  List.length x.snd.fst ≤ (9223372036854775807 : Nat) →
  List.length x.fst ≤ (9223372036854775807 : Nat) →
  List.length x.snd.fst ≤ (9223372036854775807 : Nat) →
  bif (↑(List.length x.fst) : Int) != (↑(List.length x.snd.fst) : Int) then (false, ()) = (true, ()) else List.length x.fst ≤ (9223372036854775807 : Nat) →
  ((0 : Int) ≤ (0 : Int) ∧ (0 : Int) ≤ (↑(List.length x.fst) : Int)) ∧ ∀ (v : Int × Unit), (0 : Int) ≤ v.fst ∧ v.fst ≤ (↑(List.length x.fst) : Int) →
  bif decide (v.fst < (↑(List.length x.fst) : Int)) then (0 : Int) ≤ v.fst ∧ v.fst < (↑(List.length x.fst) : Int) ∧ ∀ (c0 : Int), x.fst[Int.toNat v.fst]? = some c0 →
  (0 : Int) ≤ v.fst ∧ v.fst < (↑(List.length x.snd.fst) : Int) ∧ ∀ (c0_1 : Int), x.snd.fst[Int.toNat v.fst]? = some c0_1 →
  bif c0 != c0_1 then (false, ()) = (true, ()) else ((0 : Int) ≤ IntKind.wrap IntKind.i64 (v.fst + (1 : Int)) ∧ IntKind.wrap IntKind.i64 (v.fst + (1 : Int)) ≤ (↑(List.length x.fst) : Int)) ∧ Int.toNat ((↑(List.length x.fst) : Int) - IntKind.wrap IntKind.i64 (v.fst + (1 : Int))) < Int.toNat ((↑(List.length x.fst) : Int) - v.fst) else (true, ()) = (true, ())) := by kernel_rfl
theorem en_iSame (us : Array Value) (u : World) : (callFunc 91 us).run Try.prog u = .ok (.enter 91 us) u := by kernel_rfl
theorem sc_iSame : SC Try.prog 91 S_iSame := by
  refine SC.of Try.func91 (c := bodyOf Try.f91) (by kernel_rfl) (by kernel_rfl) (fun x => (by decide : (2:Nat) ≤ Try.f91.ntmps)) DOk.nil (Eq.mpr vc_iSame ?_)
  rintro ⟨l, l', ⟨⟩⟩ h _ _ _ _
  dsimp only at h ⊢
  subst h
  rw [bne_self_eq_false, cond_false]
  intro _
  refine ⟨⟨Int.le_refl 0, by omega⟩, ?_⟩
  rintro ⟨i, ⟨⟩⟩ ⟨h1, h2⟩
  dsimp only at h1 h2 ⊢
  by_cases hi : i < (l.length : Int)
  · rw [decide_eq_true hi, cond_true]
    refine ⟨h1, hi, fun c0 hc => ⟨h1, hi, fun c1 hc1 => ?_⟩⟩
    obtain rfl := Option.some.inj (hc.symm.trans hc1)
    have e2 : IntKind.i64.wrap (i + 1) = i + 1 := IntWalk.i64_in _ (by omega)
    rw [e2, bne_self_eq_false, cond_false]
    exact ⟨⟨by omega, by omega⟩, by omega⟩
  · rw [decide_eq_false hi, cond_false]

theorem vc_mSame : VC Try.prog Try.f53 (bodyOf Try.f53) S_mSame [(92, S_qSame), (91, S_iSame), (65, S_lsSame)] A_mSame = (∀ (x : (List (Int × List (Bool × Int × Int × Int × List Int × Unit) × Unit) × List Int × List (List (Bool × Int × Int × Int × List Int × Unit)) × Unit) × (List (Int × List (Bool × Int × Int × Int × List Int × Unit) × Unit) × List Int × List (List (Bool × Int × Int × Int × List Int × Unit)) × Unit) × Unit), x.fst = x.snd.fst ∧ bytM x.fst →
  List.length x.fst.fst ≤ (9223372036854775807 : Nat) →
  List.length x.fst.snd.fst ≤ (9223372036854775807 : Nat) →
  List.length x.fst.snd.snd.fst ≤ (9223372036854775807 : Nat) →
  List.length x.snd.fst.fst ≤ (9223372036854775807 : Nat) →
  List.length x.snd.fst.snd.fst ≤ (9223372036854775807 : Nat) →
  List.length x.snd.fst.snd.snd.fst ≤ (9223372036854775807 : Nat) →
  List.length x.fst.fst ≤ (9223372036854775807 : Nat) →
  List.length x.snd.fst.fst ≤ (9223372036854775807 : Nat) →
  bif (↑(List.length x.fst.fst) : Int) != (↑(List.length x.snd.fst.fst) : Int) then (false, ()) = (true, ()) else x.fst.snd.fst = x.snd.fst.snd.fst ∧ (List.length x.fst.snd.snd.fst ≤ (9223372036854775807 : Nat) →
  List.length x.snd.fst.snd.snd.fst ≤ (9223372036854775807 : Nat) →
  bif (↑(List.length x.fst.snd.snd.fst) : Int) != (↑(List.length x.snd.fst.snd.snd.fst) : Int) then (false, ()) = (true, ()) else List.length x.fst.fst ≤ (9223372036854775807 : Nat) →
  ((0 : Int) ≤ (0 : Int) ∧ (0 : Int) ≤ (↑(List.length x.fst.fst) : Int)) ∧ ∀ (v : Int × Unit), (0 : Int) ≤ v.fst ∧ v.fst ≤ (↑(List.length x.fst.fst) : Int) →
  bif decide (v.fst < (↑(List.length x.fst.fst) : Int)) then (0 : Int) ≤ v.fst ∧ v.fst < (↑(List.length x.fst.fst) : Int) ∧ ∀ (c0 : Int × List (Bool × Int × Int × Int × List Int × Unit) × Unit), x.fst.fst[Int.toNat v.fst]? = some c0 →
  (0 : Int) ≤ v.fst ∧ v.fst < (↑(List.length x.snd.fst.fst) : Int) ∧ ∀ (c0_1 : Int × List (Bool × Int × Int × Int × List Int × Unit) × Unit), x.snd.fst.fst[Int.toNat v.fst]? = some c0_1 →
  (c0 = c0_1 ∧ bytL c0.snd.fst) ∧ ((0 : Int) ≤ IntKind.wrap IntKind.i64 (v.fst + (1 : Int)) ∧ IntKind.wrap IntKind.i64 (v.fst + (1 : Int)) ≤ (↑(List.length x.fst.fst) : Int)) ∧ Int.toNat ((↑(List.length x.fst.fst) : Int) - IntKind.wrap IntKind.i64 (v.fst + (1 : Int))) < Int.toNat ((↑(List.length x.fst.fst) : Int) - v.fst) else List.length x.fst.snd.snd.fst ≤ (9223372036854775807 : Nat) →
  ((0 : Int) ≤ (0 : Int) ∧ (0 : Int) ≤ (↑(List.length x.fst.snd.snd.fst) : Int)) ∧ ∀ (v : Int × Unit), (0 : Int) ≤ v.fst ∧ v.fst ≤ (↑(List.length x.fst.snd.snd.fst) : Int) →
  bif decide (v.fst < (↑(List.length x.fst.snd.snd.fst) : Int)) then (0 : Int) ≤ v.fst ∧ v.fst < (↑(List.length x.fst.snd.snd.fst) : Int) ∧ ∀ (c0 : List (Bool × Int × Int × Int × List Int × Unit)), x.fst.snd.snd.fst[Int.toNat v.fst]? = some c0 →
  (0 : Int) ≤ v.fst ∧ v.fst < (↑(List.length x.snd.fst.snd.snd.fst) : Int) ∧ ∀ (c0_1 : List (Bool × Int × Int × Int × List Int × Unit)), x.snd.fst.snd.snd.fst[Int.toNat v.fst]? = some c0_1 →
  (c0 = c0_1 ∧ bytL c0) ∧ ((0 : Int) ≤ IntKind.wrap IntKind.i64 (v.fst + (1 : Int)) ∧ IntKind.wrap IntKind.i64 (v.fst + (1 : Int)) ≤ (↑(List.length x.fst.snd.snd.fst) : Int)) ∧ Int.toNat ((↑(List.length x.fst.snd.snd.fst) : Int) - IntKind.wrap IntKind.i64 (v.fst + (1 : Int))) < Int.toNat ((↑(List.length x.fst.snd.snd.fst) : Int) - v.fst) else (true, ()) = (true, ()))) := by kernel_rfl
theorem en_mSame (us : Array Value) (u : World) : (callFunc 53 us).run Try.prog u = .ok (.enter 53 us) u := by kernel_rfl
theorem sc_mSame : SC Try.prog 53 S_mSame := by
  refine SC.of Try.func53 (c := bodyOf Try.f53) (by kernel_rfl) (by kernel_rfl) (fun x => (by decide : (2:Nat) ≤ Try.f53.ntmps)) (DOk.cons sc_qSame en_qSame (DOk.cons sc_iSame en_iSame (DOk.cons sc_lsSame en_lsSame DOk.nil))) (Eq.mpr vc_mSame ?_)
  rintro ⟨⟨Q, C, B, ⟨⟩⟩, l', ⟨⟩⟩ ⟨h, hq, hb⟩ _ _ _ _ _ _ _ _
  dsimp only at h hq hb ⊢
  subst h
  rw [bne_self_eq_false, cond_false]
  refine ⟨rfl, fun _ _ => ?_⟩
  rw [bne_self_eq_false, cond_false]
  intro _
  refine ⟨⟨Int.le_refl 0, by omega⟩, ?_⟩
  rintro ⟨i, ⟨⟩⟩ ⟨h1, h2⟩
  dsimp only at h1 h2 ⊢
  by_cases hi : i < (Q.length : Int)
  · rw [decide_eq_true hi, cond_true]
    refine ⟨h1, hi, fun c0 hc => ⟨h1, hi, fun c1 hc1 => ?_⟩⟩
    obtain rfl := Option.some.inj (hc.symm.trans hc1)
    have e2 : IntKind.i64.wrap (i + 1) = i + 1 := IntWalk.i64_in _ (by omega)
    rw [e2]
    exact ⟨⟨rfl, hq _ (List.mem_of_getElem? hc)⟩, ⟨by omega, by omega⟩, by omega⟩
  rw [decide_eq_false hi, cond_false]
  intro _
  refine ⟨⟨Int.le_refl 0, by omega⟩, ?_⟩
  rintro ⟨i, ⟨⟩⟩ ⟨h1, h2⟩
  dsimp only at h1 h2 ⊢
  by_cases hi : i < (B.length : Int)
  · rw [decide_eq_true hi, cond_true]
    refine ⟨h1, hi, fun c0 hc => ⟨h1, hi, fun c1 hc1 => ?_⟩⟩
    obtain rfl := Option.some.inj (hc.symm.trans hc1)
    have e2 : IntKind.i64.wrap (i + 1) = i + 1 := IntWalk.i64_in _ (by omega)
    rw [e2]
    exact ⟨⟨rfl, hb _ (List.mem_of_getElem? hc)⟩, ⟨by omega, by omega⟩, by omega⟩
  · rw [decide_eq_false hi, cond_false]
end Go.Proofs.Ytmkfpfnjimmmaaa
