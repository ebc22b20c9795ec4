/- What holds of a model, of what was sent and taken, after each step. -/
import Derived.Test.YtmkfpfnjimmmaaaWE
namespace Go.Proofs.Ytmkfpfnjimmmaaa
open Go.RowKit DoorU
set_option linter.unusedVariables false
set_option linter.unusedSimpArgs false
namespace DoorU
def okL (l : Let) : Prop := byt l.2.2.2.2.1 ∧ l.2.2.2.2.1.length ≤ 64
def tx (l : List Let) (fr to : Int) : List (List Int) := (btw l fr to).map fun x => x.2.2.2.2.1
structure MI (c : Cfg) (i : Int) (m : Mod) (sent taken : List Let) : Prop where
  n : 1 ≤ c.2.2.2.1 ∧ c.2.2.2.1 ≤ 8
  hi : 0 ≤ i ∧ i ≤ 80
  lq : (m.1.length : Int) = c.2.2.2.1
  lc : (m.2.1.length : Int) = c.2.2.2.1
  lb : (m.2.2.1.length : Int) = c.2.2.2.1
  q : ∀ (f : Nat) (q : Que), m.1[f]? = some q → (q.2.1.length : Int) ≤ i ∧ ∀ l ∈ q.2.1, okL l ∧ l.2.1 = f
  b : ∀ (t : Nat) (b : List Let), m.2.2.1[t]? = some b → (b.length : Int) ≤ i ∧ ∀ l ∈ b, okL l ∧ l.2.2.1 = t
  hc : ∀ (f : Nat) (p : Int) (q : Que), m.2.1[f]? = some p → m.1[f]? = some q → 0 ≤ p ∧ p ≤ q.2.1.length
  ls : (sent.length : Int) ≤ i
  lt : (taken.length : Int) ≤ i
  os : ∀ l ∈ sent, okL l
  ot : ∀ l ∈ taken, okL l
  h : ∀ (f t : Nat) (q : Que) (p : Int) (b : List Let), m.1[f]? = some q → m.2.1[f]? = some p → m.2.2.1[t]? = some b → tx taken f t ++ tx b f t ++ tx (q.2.1.drop p.toNat) f t = tx sent f t
def le (n : Nat) (i : Int) : Prop := i ≤ n
def nn (i : Int) : Prop := 0 ≤ i
end DoorU
def S_order : Spec := ⟨.pair aC (.pair (.view true tI) .unit), .pair .bool .unit, fun _ => True, fun _ => ((true, ()) : Bool × Unit)⟩
def A_order (x : Cfg × List Int × Unit) : Nat → Option LA
  | 0 => some ⟨[65, 5, 7, 8], [(7, tL, 46), (8, tL, 46)], .pair nI (.pair (.var 60 (shOf false tM)) (.pair (.own tL 46) (.pair (.own tL 46) .unit))),
      fun (v : Int × Mod × List Let × List Let × Unit) => MI x.1 v.1 v.2.1 v.2.2.1 v.2.2.2.1 ∧ DoorU.le x.2.1.length v.1, fun (v : Int × Mod × List Let × List Let × Unit) => (x.2.1.length - v.1).toNat⟩
  | 1 => some ⟨[165], [], .pair nI .unit, fun (v : Int × Unit) => DoorU.nn v.1, fun (v : Int × Unit) => (x.1.2.2.2.1 - v.1).toNat⟩
  | 2 => some ⟨[172], [], .pair nI .unit, fun (v : Int × Unit) => DoorU.nn v.1, fun (v : Int × Unit) => (x.1.2.2.2.1 - v.1).toNat⟩
  | 3 => some ⟨[195], [], .pair nI .unit, fun (v : Int × Unit) => DoorU.nn v.1, fun (v : Int × Unit) => ((1000000 : Int) - v.1).toNat⟩
  | _ => none
end Go.Proofs.Ytmkfpfnjimmmaaa
