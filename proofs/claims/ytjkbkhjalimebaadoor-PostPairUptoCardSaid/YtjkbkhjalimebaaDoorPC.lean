/- sha.blocks: the iterator over whole blocks of bytes keeps its word. -/
import Derived.Test.YtjkbkhjalimebaaDoorPB
import Derived.RangeFuncNested
import Derived.RangeFuncBound
import Derived.RangeFuncCalls
import Derived.RangeFuncLeaves
import Derived.Shelf.Abstract
import Derived.Shelf.RegionOpen
import Derived.WalkKit
import Derived.OwnWalkIn
import Derived.TacticsInMore
import Derived.LoopNIn
import Derived.LoopIn
namespace Go.Proofs.YtjkbkhjalimebaaDoor
open Go.RowKit Go.Shelf
attribute [local go_sem] Oper.semAt_some
set_option linter.unusedVariables false
set_option linter.unusedSimpArgs false

/-- What has come when k rounds are over. -/
def upto (N : Nat) : (k : Nat) → k ≤ N → List (Fin N)
  | 0, _ => []
  | k + 1, h => upto N k (Nat.le_of_succ_le h) ++ [⟨k, h⟩]
theorem upto_len {N : Nat} : ∀ {k : Nat} (h : k ≤ N), (upto N k h).length = k
  | 0, _ => rfl
  | k + 1, h => by simp [upto, upto_len (Nat.le_of_succ_le h)]
theorem upto_val {N : Nat} : ∀ {k : Nat} (h : k ≤ N), (upto N k h).map (·.val) = List.range k
  | 0, _ => rfl
  | k + 1, h => by simp [upto, upto_val (Nat.le_of_succ_le h), List.range_succ]
theorem upto_succ {N k : Nat} (h : k + 1 ≤ N) : upto N (k + 1) h = upto N k (Nat.le_of_succ_le h) ++ [⟨k, h⟩] := rfl

/-- These blocks lie as they lay. -/
def KpB (b1 b2 : Nat) (W W' : World) : Prop := W'.heap[b1]? = W.heap[b1]? ∧ W'.heap[b2]? = W.heap[b2]?
theorem KpB.t {b1 b2 : Nat} {A B C : World} (h : KpB b1 b2 A B) (k : KpB b1 b2 B C) : KpB b1 b2 A C := ⟨k.1.trans h.1, k.2.trans h.2⟩

set_option maxRecDepth 100000 in
set_option maxHeartbeats 2000000 in
theorem blocks1_in (l Bs b2 bp off cap N : Nat) (hcap : 64 * N ≤ cap) (hcm : 64 * N ≤ 1000000000000) (J Jx : List (Fin N) → World → Prop)
    (hY : ∀ pre (x : Fin N) W, J pre W → pre.length < N → YieldAt Fence.wide 4 Tryd.prog l #[.slice (some ⟨bp, off + 64 * x.val, none⟩) 64 (cap - 64 * x.val)] W fun e W' =>
      (e = .returned (.bool true) ∧ J (pre ++ [x]) W' ∧ KpB Bs b2 W W') ∨ (e = .returned (.bool false) ∧ Jx (pre ++ [x]) W'))
    (W : World) (hBs : W.heap[Bs]? = some (.cells #[.slice (some ⟨bp, off, none⟩) (64 * N) cap] 22 (0, 0))) (h0 : J [] W) :
    CallsIn Fence.wide 5 Tryd.prog 122 #[.func (.yield l) #[] #[], .pointer (some ⟨Bs, 0, none⟩)] W fun e W' => (∃ v, e = .returned v) ∧
      ((∃ ys, ys = upto N N (Nat.le_refl _) ∧ J ys W') ∨ (∃ pre, True ∧ Jx pre W')) := by
  refine callsIn_of_wp Tryd.func122 rfl trivial ?_ rfl
  simp only [Tryd.ntmps122, List.size_toArray, List.length_cons, List.length_nil, Nat.reduceAdd, Nat.reduceSub, Array.replicate_succ, Array.replicate_zero, List.push_toArray, List.append_toArray, List.nil_append, List.cons_append]
  gi_wp2
  gi_loopw [3] (fun i wr => ∃ (k : Nat) (hk : k ≤ N), i = .int .i64 (64 * (k : Int)) ∧ J (upto N k hk) wr ∧ KpB Bs b2 W wr)
    (fun i _ => 64 * N - (intOf i).toNat)
  case atStart => exact ⟨0, Nat.zero_le _, rfl, h0, rfl, rfl⟩
  case round =>
    obtain ⟨k, hk, rfl, hJs, hnx⟩ := hrel
    have hc : wr.cell? ⟨Bs, 0, none⟩ = some (.slice (some ⟨bp, off, none⟩) (64 * N) cap) := by
      unfold World.cell?
      rw [hnx.1, hBs]
      rfl
    have w1 : wrap64 (64 * (k : Int) + 64) = 64 * (k : Int) + 64 := by unfold wrap64; omega
    by_cases hlt : k < N
    · obtain ⟨fn, tmps, assign, body, hy, hR⟩ := hY _ ⟨k, hlt⟩ wr hJs (by rw [upto_len]; exact hlt)
      dsimp only at hy
      gi_wp2
      refine hR.mono ?_
      rintro e W3 (⟨rfl, hJ3, hk3⟩ | ⟨rfl, hJx3⟩)
      · gi_wp2
        go_roundw
        case rel => exact ⟨k + 1, hlt, by congr 1, hJ3, hnx.t hk3⟩
        case measure => simp [intOf]; omega
      · gi_wp2
        refine bodyPost_ret (results_none rfl _ _ _) rfl ?_
        exact ⟨⟨_, rfl⟩, .inr ⟨_, trivial, hJx3⟩⟩
    · obtain rfl : k = N := by omega
      gi_wp2
      go_end0
      exact ⟨⟨_, rfl⟩, .inl ⟨_, rfl, hJs⟩⟩

set_option maxHeartbeats 1000000 in
theorem blocks_in (a : Option Addr) (len cap : Nat) (w : World) :
    Calls Tryd.prog 118 #[.slice a len cap] w fun e w' => e = .returned (.func (.func 122) #[] #[.pointer (some ⟨w.heap.size, 0, none⟩)]) ∧ w' = w.alloc (.cells #[.slice a len cap] 22) := by
  refine (callsIn_wide (n := 3)).1 ?_
  refine callsIn_of_wp Tryd.func118 rfl trivial ?_ rfl
  simp only [Tryd.ntmps118, List.size_toArray, List.length_cons, List.length_nil, Nat.reduceAdd, Nat.reduceSub, Array.replicate_succ, Array.replicate_zero, List.push_toArray, List.append_toArray, List.nil_append, List.cons_append]
  gi_wp2
  go_ret
  exact ⟨rfl, rfl⟩

/-- The iterator's word. -/
theorem blocks_stops (Bs b2 bp off cap N : Nat) (hcap : 64 * N ≤ cap) (hcm : 64 * N ≤ 1000000000000) (w : World) (hlt : Bs < w.heap.size) (hBs : w.heap[Bs]? = some (.cells #[.slice (some ⟨bp, off, none⟩) (64 * N) cap] 22 (0, 0))) :
    SeqStopsK Fence.wide 5 Tryd.prog 122 #[.pointer (some ⟨Bs, 0, none⟩)] (fun x : Fin N => #[.slice (some ⟨bp, off + 64 * x.val, none⟩) 64 (cap - 64 * x.val)]) (KpB Bs b2) (fun ys => ys = upto N N (Nat.le_refl _)) (fun _ => True) N w := fun l J Jx W hW _ _ hY h0 =>
  blocks1_in l Bs b2 bp off cap N hcap hcm J Jx hY W ((hW.block Bs hlt).trans hBs) h0
end Go.Proofs.YtjkbkhjalimebaaDoor
