/- A model that comes in may be copied. Printed by sep.py. -/
import Derived.Test.YtmkfpfnjimmmaaaSepO
import Derived.Test.YtmkfpfnjimmmaaaSepV
namespace Go.Proofs.Ytmkfpfnjimmmaaa
open Go.RowKit
set_option linter.unusedVariables false
set_option linter.unusedSimpArgs false

theorem okL_of {l : List LetterV} (h : okLst okLetter 56 l) : okL l := ⟨by have := h.1; omega, fun x hx => Nat.le_trans (h.2 x hx).2.2.2.2 (by decide)⟩
theorem okM_of {m : ModelV} (h : okModel m) : okM m := by
  obtain ⟨h1, h2, h3⟩ := h
  exact ⟨Nat.le_trans h1.1 (by decide), Nat.le_trans h2.1 (by decide), Nat.le_trans h3.1 (by decide), fun q hq => ⟨okL_of (h1.2 q hq).2, (h1.2 q hq).1⟩, fun b hb => okL_of (h3.2 b hb), fun a ha => h2.2 a ha⟩
end Go.Proofs.Ytmkfpfnjimmmaaa
