/- The closed facts of the rows that speak of the program alone: each reckoned once. -/
import Derived.Test.YtmkfpfnjimmmaaaRows
import Derived.Test.YtmkfpfnjimmmaaaFacts
namespace Go.Proofs.Ytmkfpfnjimmmaaa

theorem cl_laidOut : laidOutB Try.prog = true := by kernel_rfl
theorem cl_mapsRowed : mapsRowed Try.prog = true := by kernel_rfl
theorem cl_plainKeys : (Rows.wordOrderRow.plainKeys == Try.prog.plainKeys) = true := by kernel_rfl
theorem cl_stopsHeard : Try.prog.stopsHeard = true := by kernel_rfl
theorem cl_mayEnter : Try.prog.mayEnter = true := by kernel_rfl
theorem cl_liftsFinal : (Rows.wordOrderRow.lifted == Try.prog.liftsFinal) = true := by kernel_rfl
theorem cl_make : (Try.prog.make == some Rows.wordOrderRow.make) = true := by kernel_rfl
end Go.Proofs.Ytmkfpfnjimmmaaa
