/- The words of what package model calls: their data, what each asks and gives. -/
import Derived.Test.YtmkfpfnjimmmaaaVZ
import Derived.Test.YtmkfpfnjimmmaaaProg
import Derived.KernelRfl
namespace Go.Proofs.Ytmkfpfnjimmmaaa
open Go.RowKit
set_option linter.unusedVariables false
set_option linter.unusedSimpArgs false
abbrev tI : Ty := .int .i64
abbrev tW : Ty := .int .u64
abbrev tY : Ty := .int .u8
abbrev tYs : Ty := .sl tY
abbrev tL : Ty := .pair .bool (.pair tI (.pair tI (.pair tW (.pair tYs .unit))))
abbrev tQ : Ty := .pair tW (.pair (.sl tL) .unit)
abbrev tM : Ty := .pair (.sl tQ) (.pair (.sl tI) (.pair (.sl (.sl tL)) .unit))
abbrev tC : Ty := .pair tYs (.pair tI (.pair tI (.pair tI (.pair tI (.pair tI (.pair tI (.pair tI (.pair tI (.pair tW (.pair tW .unit))))))))))
abbrev Let : Type := Bool × Int × Int × Int × List Int × Unit
abbrev Que : Type := Int × List Let × Unit
abbrev Mod : Type := List Que × List Int × List (List Let) × Unit
abbrev Cfg : Type := List Int × Int × Int × Int × Int × Int × Int × Int × Int × Int × Int × Unit
def S_clY : Spec := ⟨.pair (.view true tY) .unit, .pair (.own tY 5) .unit, fun (x : List Int × Unit) => x.1.length ≤ 140737488351232, fun (x : List Int × Unit) => (x.1, ())⟩
def S_clL : Spec := ⟨.pair (.view true tL) .unit, .pair (.own tL 46) .unit, fun (x : List Let × Unit) => x.1.length * 56 ≤ 140737488351232, fun (x : List Let × Unit) => (x.1, ())⟩
def S_clQ : Spec := ⟨.pair (.view true tQ) .unit, .pair (.own tQ 77) .unit, fun (x : List Que × Unit) => x.1.length * 32 ≤ 140737488351232, fun (x : List Que × Unit) => (x.1, ())⟩
def S_clI : Spec := ⟨.pair (.view true tI) .unit, .pair (.own tI 3) .unit, fun (x : List Int × Unit) => x.1.length * 8 ≤ 140737488351232, fun (x : List Int × Unit) => (x.1, ())⟩
def S_clB : Spec := ⟨.pair (.view true (.sl tL)) .unit, .pair (.own (.sl tL) 74) .unit, fun (x : List (List Let) × Unit) => x.1.length * 24 ≤ 140737488351232, fun (x : List (List Let) × Unit) => (x.1, ())⟩
/-- A place of a slice is set. -/
def S_puQ : Spec := ⟨.pair (.view true tQ) (.pair (.int .i64) (.pair (.agg (shOf false tQ)) .unit)), .pair (.own tQ 77) .unit, fun (x : List Que × Int × Que × Unit) => x.1.length * 32 ≤ 140737488351232 ∧ 0 ≤ x.2.1 ∧ x.2.1 < x.1.length, fun (x : List Que × Int × Que × Unit) => (x.1.set x.2.1.toNat x.2.2.1, ())⟩
def S_puI : Spec := ⟨.pair (.view true tI) (.pair (.int .i64) (.pair (.int .i64) .unit)), .pair (.own tI 3) .unit, fun (x : List Int × Int × Int × Unit) => x.1.length * 8 ≤ 140737488351232 ∧ 0 ≤ x.2.1 ∧ x.2.1 < x.1.length, fun (x : List Int × Int × Int × Unit) => (x.1.set x.2.1.toNat x.2.2.1, ())⟩
def S_puB : Spec := ⟨.pair (.view true (.sl tL)) (.pair (.int .i64) (.pair (.view false tL) .unit)), .pair (.own (.sl tL) 74) .unit, fun (x : List (List Let) × Int × List Let × Unit) => x.1.length * 24 ≤ 140737488351232 ∧ 0 ≤ x.2.1 ∧ x.2.1 < x.1.length, fun (x : List (List Let) × Int × List Let × Unit) => (x.1.set x.2.1.toNat x.2.2.1, ())⟩
/-- What a queue may hold. -/
def DoorU.smQ (q : Que) : Prop := q.2.1.length * 56 ≤ 140737488351232 ∧ ∀ l ∈ q.2.1, l.2.2.2.2.1.length ≤ 140737488351232
def S_cop : Spec := ⟨.pair (.agg (shOf false tQ)) .unit, .pair (.agg (.pair (.int .u64) (.pair (.own tL 46) .unit))) .unit, fun (x : Que × Unit) => DoorU.smQ x.1, fun (x : Que × Unit) => (x.1, ())⟩
def DoorU.inv1 (l : List Let) (i : Int) (b : List Let) : Prop := 0 ≤ i ∧ i ≤ l.length ∧ b = l.take i.toNat
def A_cop (x : Que × Unit) : Nat → Option LA
  | 0 => some ⟨[14, 3], [], .pair (.int .i64) (.pair (.own tL 46) .unit), fun (v : Int × List Let × Unit) => DoorU.inv1 x.1.2.1 v.1 v.2.1, fun (v : Int × List Let × Unit) => (x.1.2.1.length - v.1).toNat⟩
  | _ => none
end Go.Proofs.Ytmkfpfnjimmmaaa
