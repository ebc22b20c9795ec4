/- The walk of the reference of note.Take. -/
import Derived.Test.YtmkfpfnjimmmaaaNtF
import Derived.Test.YtmkfpfnjimmmaaaNoteC
import Derived.Deep.RegionLaw
import Derived.Deep.DrawnRows
namespace Go.Proofs.Ytmkfpfnjimmmaaa
open Go.RowKit
attribute [local go_sem ↓] Go.wp_at_zero Go.wp_at_succ

theorem step_own_push {α : Type} {r : Rep α} {P : Program} {w : World} {ops : Array Oper} {o : Oper} {a : Act} {K : Act → World → Prop} {Q : Exit → Act → World → Prop} {E : Prop} (hgd : o.guard = none) (s x : Operand) (t : TypeId)
    (ho : o.op = .call { callee := .builtin .append, args := #[s, x], argTypes := #[t, t] })
    (base : Nat) (e : TypeId) (i : TypeInfo) (z : Value) (ht : P.underlying t = some (.slice e)) (hi : P.info? e = some i) (hz : i.zero = some z)
    (hsize : i.size = r.sz) (hby : i.bytes = r.bytes) (hzs : z.cells.size = r.sz) {U : Nat → Prop}
    (sa : Option Addr) (n scap : Nat) (xs : List α) (hs : a.eval s = .slice sa n scap) (hown : Own r base e U w sa n scap xs)
    (ao : Option Addr) (m c : Nat) (news : List Value) (ys : List α) (hx : a.eval x = .slice ao m c) (hc : Cells w ao m c r.sz news) (hm : ys.length = m) (h1 : ∀ u ∈ news, u.oneCell' = true)
    (hy : ∀ i y, ys[i]? = some y → r.R (fun b => U b ∧ (Value.slice sa n scap).ownBlock ≠ some b) w ((news.drop (i * r.sz)).take r.sz) y)
    (h63 : n + m ≤ maxLen) (hbytes : (n + m) * r.bytes ≤ 140737488355328) (w0 : World) (hbase : Below base w0 w) (hbs : base ≤ w.heap.size)
    (h : ∀ a' cap' w', Own r base e U w' a' (n + m) cap' (xs ++ ys) → Below base w0 w' → w.grownBy w' (Value.slice sa n scap).ownBlock → K (a.put o.dst (.slice a' (n + m) cap')) w') :
    if Region.wanted o (yielded ops a.tmps) = true then Oper.wp P o a w K Q else E := by
  have hw : Region.wanted o (yielded ops a.tmps) = true := by simp [Region.wanted, hgd]
  rw [if_pos hw]
  exact wp_own_push s x t ho base e i z ht hi hz hsize hby hzs sa n scap xs hs hown ao m c news ys hx hc hm h1 hy h63 hbytes w0 hbase hbs h

/-- A store below the row, and apart from what is read behind it. -/
theorem Own.setCell {α : Type} {r : Rep α} {base : Nat} {e : TypeId} {U : Nat → Prop} {w : World} {a : Option Addr} {n cap : Nat} {xs : List α} (h : Own r base e U w a n cap xs) (p : Addr) (v : Value) (hp : p.block < base) (hu : ∀ b, U b → base ≤ b) : Own r base e U (w.setCell p v) a n cap xs := by
  obtain ⟨vs, h1, h2, h3, h4⟩ := h
  refine ⟨vs, ⟨h1.1, ?_⟩, h2, h3, fun i x hx => r.keep (Same.setCell w v (fun hb => by have := hu _ hb.1; omega)) (h4 i x hx)⟩
  rcases h1.2 with h5 | ⟨g, cp, cur, hv, hg, hh, q⟩
  · exact .inl h5
  · exact .inr ⟨g, cp, cur, hv, hg, by rw [Below.heap_setCell _ _ _ _ (by omega)]; exact hh, q⟩

theorem Parts.of_slY {U : Nat → Prop} {w : World} {a : Option Addr} {n cap : Nat} {pp : List (List UInt8)} (h : Sl rY U w a n cap pp) : Parts w a n cap pp := by
  refine ⟨h.len, h.le, h.max, h.zero, fun i l hl => ?_⟩
  obtain ⟨b, off, ha, es, ⟨a', n', c', rfl, hy, _⟩, hc⟩ := h.part i l hl
  have hn := hy.len
  subst hn
  exact ⟨b, off, ha, a', c', by have := hc 0 _ rfl; rwa [show off + (i * rY.sz + 0) = off + i by show off + (i * 1 + 0) = _; omega] at this, hy⟩

/-- What is behind the parts. -/
def tailN (kd : Nat) (pp : List (List UInt8)) (r : List UInt8) : Option NoteD :=
  if kd = 7 then (if r.length = 2 ∧ (r.getD 1 0).toNat ≤ 1 then mayN ⟨7, pp, (r.getD 0 0).toNat, (r.getD 1 0).toNat == 1⟩ else none)
  else if r.length = 0 then mayN ⟨kd, pp, 0, false⟩ else none

theorem mayN_no {x : NoteD} (h : 64 < x.parts.length ∨ ∃ l ∈ x.parts, 1024 < l.length) : mayN x = none := by
  unfold mayN
  rw [if_neg]
  intro h0
  obtain ⟨_, _, h64, hl, _, _⟩ := noteE_zero h0
  rcases h with h | ⟨l, hm, h⟩
  · omega
  · have := hl l hm; omega

theorem tailN_no {kd : Nat} {pp : List (List UInt8)} {r : List UInt8} (h : 64 < pp.length ∨ ∃ l ∈ pp, 1024 < l.length) : tailN kd pp r = none := by
  unfold tailN
  rw [mayN_no h, mayN_no h]
  split <;> (try split) <;> rfl

theorem ptake_more : ∀ (k : Nat) (l : List UInt8) (q : List (List UInt8) × List UInt8), ptake 1024 k l = some q → ptake 65535 k l = some q := by
  intro k l q h
  obtain ⟨ps, r⟩ := q
  obtain ⟨rfl, rfl, hl⟩ := ptake_inv k l ps r h
  exact ptake_put (by decide) ps r fun x hx => Nat.le_trans (hl x hx) (by decide)

/-- The reference takes the same. -/
theorem takeN_ref {u x y : UInt8} {r0 : List UInt8} : takeN (u :: x :: y :: r0) = match ptake 65535 (x.toNat * 256 + y.toNat) r0 with
    | none => none
    | some (pp, r) => tailN u.toNat pp r := by
  have hv : val [x, y] = x.toNat * 256 + y.toNat := by simp [val]
  have hn : numL (x :: y :: r0) = some (x.toNat * 256 + y.toNat, r0) := by
    rw [numL, if_pos (by simp)]
    simp only [List.take_succ_cons, List.take_zero, List.drop_succ_cons, List.drop_zero, hv]
  have e : takeN (u :: x :: y :: r0) = match tpL (x :: y :: r0) with
    | none => none
    | some (pp, r) => tailN u.toNat pp r := rfl
  rw [e, tpL, hn]
  simp only
  generalize x.toNat * 256 + y.toNat = c
  by_cases h64 : 64 < c
  · rw [if_pos h64]
    cases hq : ptake 65535 c r0 with
    | none => rfl
    | some q =>
      obtain ⟨ps, r⟩ := q
      obtain ⟨_, hl, _⟩ := ptake_inv c r0 ps r hq
      simp only
      rw [tailN_no (.inl (by omega))]
  · rw [if_neg h64]
    cases hq : ptake 1024 c r0 with
    | some q => rw [ptake_more c r0 q hq]
    | none =>
      cases hq2 : ptake 65535 c r0 with
      | none => rfl
      | some q =>
        obtain ⟨ps, r⟩ := q
        obtain ⟨h1, h2, _⟩ := ptake_inv c r0 ps r hq2
        simp only
        by_cases ha : ∀ z ∈ ps, z.length ≤ 1024
        · have := ptake_put (lim := 1024) (by decide) ps r ha
          rw [h2, ← h1, hq] at this
          cases this
        · rw [tailN_no (.inr ?_)]
          refine Classical.byContradiction fun hc => ha fun z hz => ?_
          rcases Nat.lt_or_ge 1024 z.length with h | h
          · exact absurd ⟨z, hz, h⟩ hc
          · exact h

/-- What the reference tells. -/
def TookS (w : World) (q : Option NoteD) (e : Ending) (w' : World) : Prop :=
  match q with
  | none => e = .returned (.tuple #[.agg #[.int .i64 0, .slice none 0 0, .int .i64 0, .bool false], .int .i64 3]) ∧ Below w.heap.size w w'
  | some x => ∃ a n cap, e = .returned (.tuple #[.agg #[.int .i64 x.kind, .slice a n cap, .int .i64 x.hop, .bool x.back], .int .i64 0]) ∧ Parts w' a n cap x.parts ∧ Below w.heap.size w w'

theorem tookS_none {w : World} {q : Option NoteD} (h : q = none) {e : Ending} {w' : World} (h' : e = .returned (.tuple #[.agg #[.int .i64 0, .slice none 0 0, .int .i64 0, .bool false], .int .i64 3]) ∧ Below w.heap.size w w') : TookS w q e w' := by
  subst h; exact h'

set_option maxRecDepth 100000 in
set_option maxHeartbeats 800000 in
theorem rtake_short {a : Option Addr} {n cap : Nat} (w : World) (h : n < 3) : Calls Try.prog 46 #[.slice a n cap] w (TookS w none) := by
  go_enter Try.func46, Try.ntmps46
  go_wp2
  refine bodyPost_ret (v := .tuple #[.agg #[.int .i64 0, .slice none 0 0, .int .i64 0, .bool false], .int .i64 3]) (by simp [results, Try.results46, go_sem]) rfl ⟨rfl, ?_⟩
  exact (Below.refl _ _).alloc (Nat.le_refl _) _
end Go.Proofs.Ytmkfpfnjimmmaaa
