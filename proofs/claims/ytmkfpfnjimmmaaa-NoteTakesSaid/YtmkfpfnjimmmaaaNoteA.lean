/- The walks of package note: kinds, Check. -/
import Derived.Test.YtmkfpfnjimmmaaaMapL
import Derived.Test.YtmkfpfnjimmmaaaWordG
import Derived.Deep.RegionWith
namespace Go.Proofs.Ytmkfpfnjimmmaaa
open Go.RowKit

/-- A kind's entry. -/
def kindE (k a b : Int) (c : Nat) : MapEntry := { key := .int .i64 k, val := .agg #[.int .i64 a, .int .i64 b], born := c }
def kindEs : Array MapEntry := #[kindE 1 0 0 0, kindE 2 0 0 1, kindE 3 1 1 2, kindE 4 0 64 3, kindE 5 0 64 4, kindE 6 1 1 5, kindE 7 0 0 6]

theorem ins (w : World) (k a b : Int) (es : Array MapEntry) (c : Nat) (hf : Instr.findNow (.int .i64) (.int .i64 k) es.toList 0 = some none) :
    (Instr.mapUpdate 95 (.map (some w.heap.size)) (.int .i64 k) (.agg #[.int .i64 a, .int .i64 b])).run Try.prog (w.alloc (.map es c)) = .ok () (w.alloc (.map (es.push (kindE k a b c)) (c + 1))) :=
  run_insert_last w _ _ _ _ k _ es c Try.underlying95 Try.underlying3 hf

set_option maxRecDepth 100000 in
set_option maxHeartbeats 400000 in
theorem kinds_any (w : World) : Calls Try.prog 71 #[] w fun e w' => e = .returned (.map (some w.heap.size)) ∧ w' = w.alloc (.map kindEs 7) := by
  have hmm := @run_makeMap Try.prog
  have h1 := ins w 1 0 0 #[] 0 rfl
  have h2 := ins w 2 0 0 #[kindE 1 0 0 0] 1 rfl
  have h3 := ins w 3 1 1 #[kindE 1 0 0 0, kindE 2 0 0 1] 2 rfl
  have h4 := ins w 4 0 64 #[kindE 1 0 0 0, kindE 2 0 0 1, kindE 3 1 1 2] 3 rfl
  have h5 := ins w 5 0 64 #[kindE 1 0 0 0, kindE 2 0 0 1, kindE 3 1 1 2, kindE 4 0 64 3] 4 rfl
  have h6 := ins w 6 1 1 #[kindE 1 0 0 0, kindE 2 0 0 1, kindE 3 1 1 2, kindE 4 0 64 3, kindE 5 0 64 4] 5 rfl
  have h7 := ins w 7 0 0 #[kindE 1 0 0 0, kindE 2 0 0 1, kindE 3 1 1 2, kindE 4 0 64 3, kindE 5 0 64 4, kindE 6 1 1 5] 6 rfl
  go_enter Try.func71, Try.ntmps71
  go_wp2
  go_ret
  exact ⟨rfl, rfl⟩
end Go.Proofs.Ytmkfpfnjimmmaaa
