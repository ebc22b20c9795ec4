/- What comes in to ModelDoes is as its word asks. -/
import Derived.Test.YtmkfpfnjimmmaaaEG
import Derived.Test.YtmkfpfnjimmmaaaDV
namespace Go.Proofs.Ytmkfpfnjimmmaaa
open Go.RowKit
open DoorU
set_option linter.unusedVariables false

theorem byt_of {t : List (Val tY)} (h : allP (okB tY) t) : byt t := fun x hx => by
  have h1 : (Lit.int .u8 x).wf = true := h x hx
  simp [Lit.wf, IntKind.min, IntKind.max, IntKind.signed, IntKind.bits] at h1
  omega
theorem let_of {l : Val tL} (h : okB tL l) : List.length (α := Int) l.2.2.2.2.1 ≤ 140737488351232 ∧ byt l.2.2.2.2.1 := by
  obtain ⟨_, _, _, _, ⟨h1, h2⟩, _⟩ := h
  have e : by8 tY = 1 := rfl
  rw [e, Nat.mul_one] at h1
  exact ⟨h1, byt_of h2⟩
theorem lets_of {l : List (Val tL)} (h : okB (.sl tL) l) : List.length (α := Let) l * 56 ≤ 140737488351232 ∧ (∀ x : Let, x ∈ (l : List Let) → x.2.2.2.2.1.length ≤ 140737488351232) ∧ bytL l := by
  obtain ⟨h1, h2⟩ := h
  exact ⟨h1, fun x hx => (let_of (h2 x hx)).1, fun x hx => (let_of (h2 x hx)).2⟩
theorem does_pre {m : Val tM} {t : List (Val tY)} (g : okB tM m) (h : okB (.sl tY) t) : smM (shV false tM m) ∧ bytM (shV false tM m) ∧ List.length (α := Int) t ≤ 140737488351232 ∧ byt t := by
  obtain ⟨⟨q1, q2⟩, ⟨c1, c2⟩, ⟨b1, b2⟩, _⟩ := g
  obtain ⟨t1, t2⟩ := h
  have e : by8 tY = 1 := rfl
  rw [e, Nat.mul_one] at t1
  refine ⟨⟨q1, c1, b1, fun q hq => ?_, fun b hb => ?_⟩, ⟨fun q hq => ?_, fun b hb => ?_⟩, t1, byt_of t2⟩
  · obtain ⟨_, hl, _⟩ := q2 q hq
    exact ⟨(lets_of hl).1, (lets_of hl).2.1⟩
  · exact ⟨(lets_of (b2 b hb)).1, (lets_of (b2 b hb)).2.1⟩
  · obtain ⟨_, hl, _⟩ := q2 q hq
    exact (lets_of hl).2.2
  · exact (lets_of (b2 b hb)).2.2
end Go.Proofs.Ytmkfpfnjimmmaaa
