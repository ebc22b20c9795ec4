/- The tables that the program has: which blocks hold which numbers, for good. This program's walks read none. -/
import Derived.Test.YtmkfpfnjimmmaaaOwn
namespace Go.Proofs.Ytmkfpfnjimmmaaa
/-- A table: the block's kind of numbers, and they. -/
def tabAt : Nat → Option (IntKind × List Int) := fun _ => none
end Go.Proofs.Ytmkfpfnjimmmaaa
