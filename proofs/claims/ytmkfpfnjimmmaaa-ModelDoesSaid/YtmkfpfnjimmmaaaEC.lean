/- What package model's functions give, in data; the words of each. -/
import Derived.Test.YtmkfpfnjimmmaaaEB
namespace Go.Proofs.Ytmkfpfnjimmmaaa
open Go.RowKit
set_option linter.unusedVariables false
set_option linter.unusedSimpArgs false

namespace DoorU
def wit (n a b : Int) : Bool := decide (a ≤ n) && decide (n ≤ b)
def okC (c : Cfg) : Bool := decide (c.1.length ≤ 64) && wit c.2.1 1 8 && wit c.2.2.1 0 8 && wit c.2.2.2.1 1 8 && wit c.2.2.2.2.1 1 64 && wit c.2.2.2.2.2.1 1 10000 && (decide (c.2.2.2.2.2.1 < c.2.2.2.2.2.2.1) && decide (c.2.2.2.2.2.2.1 ≤ 10000)) && wit c.2.2.2.2.2.2.2.1 1 10000 && wit c.2.2.2.2.2.2.2.2.1 1 64 && (decide (1 ≤ c.2.2.2.2.2.2.2.2.2.1) && decide (1 ≤ c.2.2.2.2.2.2.2.2.2.2.1))
def chk (c : Cfg) : Int := bif okC c then 0 else 1
def cli (c : Cfg) (n : Int) : Bool := decide (0 ≤ n) && decide (n < c.2.2.2.1)
def qPut (c : Cfg) (q : Que) (fr to : Int) (text : List Int) : Que × Int :=
  bif !(cli c fr && cli c to) || decide (64 < text.length) then (q, 3) else bif decide (q.1 = 18446744073709551615) then (q, 4) else bif decide (c.2.2.2.2.1 ≤ q.2.1.length) then (q, 2)
    else ((IntKind.u64.wrap (q.1 + 1), q.2.1 ++ [(false, fr, to, q.1, text, ())], ()), 1)
def qHead (q : Que) : Let × Bool := match q.2.1 with | l :: _ => (l, true) | [] => ((false, 0, 0, 0, [], ()), false)
def qPop (q : Que) (seq : Int) : Que × Bool := match q.2.1 with | l :: r => bif decide (l.2.2.2.1 = seq) then ((q.1, r, ()), true) else (q, false) | [] => (q, false)
def mCl (m : Mod) (who : Int) : Bool := decide (0 ≤ who) && decide (who < m.1.length) && decide (who < m.2.1.length) && decide (who < m.2.2.1.length)
def smM (m : Mod) : Prop := m.1.length * 32 ≤ 140737488351232 ∧ m.2.1.length * 8 ≤ 140737488351232 ∧ m.2.2.1.length * 24 ≤ 140737488351232 ∧ (∀ q ∈ m.1, smQ q) ∧ ∀ b ∈ m.2.2.1, b.length * 56 ≤ 140737488351232 ∧ ∀ l ∈ b, l.2.2.2.2.1.length ≤ 140737488351232
def mNew (c : Cfg) : Mod × Int := bif okC c then ((List.replicate c.2.2.2.1.toNat (c.2.2.2.2.2.2.2.2.2.2.1, [], ()), List.replicate c.2.2.2.1.toNat 0, List.replicate c.2.2.2.1.toNat [], ()), 0) else (([], [], [], ()), 1)
def mSay (c : Cfg) (m : Mod) (who to : Int) (text : List Int) : Mod × Int :=
  bif mCl m who then (match m.1[who.toNat]? with
    | some q => ((m.1.set who.toNat (qPut c q who to text).1, m.2.1, m.2.2.1, ()), (qPut c q who to text).2)
    | none => (m, 3)) else (m, 3)
def mCome (m : Mod) (who : Int) : Mod × Bool :=
  bif mCl m who then (match m.2.1[who.toNat]?, m.1[who.toNat]? with
    | some p, some q => bif decide (p < 0) || decide ((q.2.1.length : Int) ≤ p) then (m, false) else (match q.2.1[p.toNat]? with
      | some l => bif mCl m l.2.2.1 then (match m.2.2.1[l.2.2.1.toNat]? with
        | some b => ((m.1, m.2.1.set who.toNat (p + 1), m.2.2.1.set l.2.2.1.toNat (b ++ [l]), ()), true)
        | none => (m, false)) else (m, false)
      | none => (m, false))
    | _, _ => (m, false)) else (m, false)
def mGone (m : Mod) (who : Int) : Mod × Bool :=
  bif mCl m who then (match m.2.1[who.toNat]?, m.1[who.toNat]? with
    | some p, some q => bif decide (p ≤ 0) then (m, false) else (match q.2.1 with
      | _ :: r => ((m.1.set who.toNat (q.1, r, ()), m.2.1.set who.toNat (IntKind.i64.wrap (p - 1)), m.2.2.1, ()), true)
      | [] => (m, false))
    | _, _ => (m, false)) else (m, false)
def mTake (m : Mod) (who : Int) : Mod × Let × Bool :=
  bif mCl m who then (match m.2.2.1[who.toNat]? with
    | some (l :: r) => ((m.1, m.2.1, m.2.2.1.set who.toNat r, ()), l, true)
    | _ => (m, (false, 0, 0, 0, [], ()), false)) else (m, (false, 0, 0, 0, [], ()), false)
def mWait (m : Mod) (who : Int) : Int := bif mCl m who then (match m.1[who.toNat]? with | some q => (q.2.1.length : Int) | none => 0) else 0
def btw (l : List Let) (fr to : Int) : List Let := l.filter fun x => decide (x.2.1 = fr) && decide (x.2.2.1 = to)
end DoorU
open DoorU

abbrev aC : Sh := .agg (shOf true tC)
abbrev aM : Sh := .agg (shOf false tM)
abbrev aQ : Sh := .agg (shOf false tQ)
abbrev aL : Sh := .agg (shOf false tL)
abbrev nI : Sh := .int .i64
def S_wit : Spec := ⟨.pair nI (.pair nI (.pair nI .unit)), .pair .bool .unit, fun _ => True, fun (x : Int × Int × Int × Unit) => ((wit x.1 x.2.1 x.2.2.1, ()) : Bool × Unit)⟩
def S_chk : Spec := ⟨.pair aC .unit, .pair nI .unit, fun _ => True, fun (x : Cfg × Unit) => ((chk x.1, ()) : Int × Unit)⟩
def S_plain : Spec := ⟨.unit, .pair (.agg (shOf false tC)) .unit, fun _ => True, fun _ => ((([], 2, 1, 2, 3, 4, 20, 5, 4, 1, 1, ()), ()) : Cfg × Unit)⟩
def S_qNew : Spec := ⟨.pair (.int .u64) .unit, .pair aQ .unit, fun _ => True, fun (x : Int × Unit) => (((x.1, [], ()), ()) : Que × Unit)⟩
def S_cli : Spec := ⟨.pair aC (.pair nI .unit), .pair .bool .unit, fun _ => True, fun (x : Cfg × Int × Unit) => ((cli x.1 x.2.1, ()) : Bool × Unit)⟩
def S_qPut : Spec := ⟨.pair aC (.pair aQ (.pair nI (.pair nI (.pair (.view true tY) .unit)))), .pair (.tup (.pair aQ (.pair nI .unit))) .unit, fun (x : Cfg × Que × Int × Int × List Int × Unit) => smQ x.2.1 ∧ x.2.2.2.2.1.length ≤ 1000,
  fun (x : Cfg × Que × Int × Int × List Int × Unit) => ((((qPut x.1 x.2.1 x.2.2.1 x.2.2.2.1 x.2.2.2.2.1).1, (qPut x.1 x.2.1 x.2.2.1 x.2.2.2.1 x.2.2.2.2.1).2, ()), ()) : (Que × Int × Unit) × Unit)⟩
def S_qHead : Spec := ⟨.pair aQ .unit, .pair (.tup (.pair aL (.pair .bool .unit))) .unit, fun (x : Que × Unit) => smQ x.1, fun (x : Que × Unit) => ((((qHead x.1).1, (qHead x.1).2, ()), ()) : (Let × Bool × Unit) × Unit)⟩
def S_qPop : Spec := ⟨.pair aQ (.pair (.int .u64) .unit), .pair (.tup (.pair aQ (.pair .bool .unit))) .unit, fun (x : Que × Int × Unit) => smQ x.1, fun (x : Que × Int × Unit) => ((((qPop x.1 x.2.1).1, (qPop x.1 x.2.1).2, ()), ()) : (Que × Bool × Unit) × Unit)⟩
def S_mCl : Spec := ⟨.pair aM (.pair nI .unit), .pair .bool .unit, fun _ => True, fun (x : Mod × Int × Unit) => ((mCl x.1 x.2.1, ()) : Bool × Unit)⟩
def S_mNew : Spec := ⟨.pair aC .unit, .pair (.tup (.pair aM (.pair nI .unit))) .unit, fun _ => True, fun (x : Cfg × Unit) => ((((mNew x.1).1, (mNew x.1).2, ()), ()) : (Mod × Int × Unit) × Unit)⟩
def S_mSay : Spec := ⟨.pair aC (.pair aM (.pair nI (.pair nI (.pair (.view true tY) .unit)))), .pair (.tup (.pair aM (.pair nI .unit))) .unit, fun (x : Cfg × Mod × Int × Int × List Int × Unit) => smM x.2.1 ∧ x.2.2.2.2.1.length ≤ 1000,
  fun (x : Cfg × Mod × Int × Int × List Int × Unit) => ((((mSay x.1 x.2.1 x.2.2.1 x.2.2.2.1 x.2.2.2.2.1).1, (mSay x.1 x.2.1 x.2.2.1 x.2.2.2.1 x.2.2.2.2.1).2, ()), ()) : (Mod × Int × Unit) × Unit)⟩
def S_mCome : Spec := ⟨.pair aM (.pair nI .unit), .pair (.tup (.pair aM (.pair .bool .unit))) .unit, fun (x : Mod × Int × Unit) => smM x.1, fun (x : Mod × Int × Unit) => ((((mCome x.1 x.2.1).1, (mCome x.1 x.2.1).2, ()), ()) : (Mod × Bool × Unit) × Unit)⟩
def S_mGone : Spec := ⟨.pair aM (.pair nI .unit), .pair (.tup (.pair aM (.pair .bool .unit))) .unit, fun (x : Mod × Int × Unit) => smM x.1, fun (x : Mod × Int × Unit) => ((((mGone x.1 x.2.1).1, (mGone x.1 x.2.1).2, ()), ()) : (Mod × Bool × Unit) × Unit)⟩
def S_mTake : Spec := ⟨.pair aM (.pair nI .unit), .pair (.tup (.pair aM (.pair aL (.pair .bool .unit)))) .unit, fun (x : Mod × Int × Unit) => smM x.1, fun (x : Mod × Int × Unit) => ((((mTake x.1 x.2.1).1, (mTake x.1 x.2.1).2.1, (mTake x.1 x.2.1).2.2, ()), ()) : (Mod × Let × Bool × Unit) × Unit)⟩
def S_mWait : Spec := ⟨.pair aM (.pair nI .unit), .pair nI .unit, fun _ => True, fun (x : Mod × Int × Unit) => ((mWait x.1 x.2.1, ()) : Int × Unit)⟩
def S_btw : Spec := ⟨.pair (.view true tL) (.pair nI (.pair nI .unit)), .pair (.own tL 46) .unit, fun (x : List Let × Int × Int × Unit) => x.1.length ≤ 100000, fun (x : List Let × Int × Int × Unit) => ((btw x.1 x.2.1 x.2.2.1, ()) : List Let × Unit)⟩
def S_live : Spec := ⟨.unit, .pair .bool .unit, fun _ => True, fun _ => ((true, ()) : Bool × Unit)⟩
def inv2 (l : List Let) (fr to : Int) (i : Int) (b : List Let) : Prop := 0 ≤ i ∧ i ≤ l.length ∧ b = btw (l.take i.toNat) fr to
def A_btw (x : List Let × Int × Int × Unit) : Nat → Option LA
  | 0 => some ⟨[12, 7], [(7, tL, 46)], .pair nI (.pair (.own tL 46) .unit), fun (v : Int × List Let × Unit) => inv2 x.1 x.2.1 x.2.2.1 v.1 v.2.1, fun (v : Int × List Let × Unit) => (x.1.length - v.1).toNat⟩
  | _ => none
end Go.Proofs.Ytmkfpfnjimmmaaa
