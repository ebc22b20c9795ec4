/- A note by value: how it is read; Few. -/
import Derived.Test.YtmkfpfnjimmmaaaFrame
import Derived.Test.YtmkfpfnjimmmaaaNoteC
namespace Go.Proofs.Ytmkfpfnjimmmaaa
open Go.ChangeShapes Go.WideShapes Go.ChangeAt Go.RowKit

theorem reach_le {k : Nat} (h : k ≤ reachBytes) : k ≤ 140737488351232 := by
  unfold reachBytes at h
  omega

structure NoteD where
  kind : Int
  parts : List (List UInt8)
  hop : Int
  back : Bool

/-- A value reads as a note. -/
structure NoteV (w : World) (v : Value) (x : NoteD) : Prop where
  shape : ∃ pa pn pc, v = .agg #[.int .i64 x.kind, .slice pa pn pc, .int .i64 x.hop, .bool x.back] ∧ Parts w pa pn pc x.parts
  small : ∀ l ∈ x.parts, l.length ≤ 140737488351232
  many : x.parts.length ≤ 140737488351232

section
variable {H : Type} {enc : TypeId × Value → H} {w : World} {base : Nat} {spare : Nat → Bool} {held : Bool}

theorem note_fields : ∃ f0 f1 f2 f3 : Field, Try.prog.underlying 39 = some (.struct #[f0, f1, f2, f3]) ∧ Go.Deep.oneCellFields Try.prog #[f0, f1, f2, f3] = true ∧ f0.type = 3 ∧ f1.type = 37 ∧ f2.type = 3 ∧ f3.type = 4 :=
  ⟨_, _, _, _, Try.underlying39, by kernel_rfl, rfl, rfl, rfl, rfl⟩

theorem cells_note : Try.prog.cellsOf 39 = 4 := by kernel_rfl

set_option maxRecDepth 100000 in
theorem open_note {r : Reach} {b0 : Nat} {v : Value} {d : DataW H} {p : List MemPlace} (hv : Value.okWide Try.prog w r b0 39 v) (h : DataW.Trod enc Try.prog w base spare held 39 v d p)
    (hz : ∀ k ∈ d.weights Try.prog 39, k ≤ reachBytes) : ∃ x, NoteV w v x := by
  obtain ⟨f0, f1, f2, f3, hu, hone, t0, t1, t2, t3⟩ := note_fields
  obtain ⟨v0, v1, v2, v3, y0, y1, y2, y3, n, rfl, hd, _, h0, h1, h2, h3⟩ := Go.Joins.open_agg4 hu hone cells_note hv h
  rw [t0] at h0
  rw [t1] at h1
  rw [t2] at h2
  rw [t3] at h3
  obtain ⟨k0, e0, _, _⟩ := DataW.trod_int Try.underlying3 h0
  obtain ⟨k2, e2, _, _⟩ := DataW.trod_int Try.underlying3 h2
  obtain ⟨k3, e3, _⟩ := DataW.trod_bool Try.underlying4 h3
  obtain ⟨a, m, cap, pp, rfl, hp, hw⟩ := open_parts_cell Try.underlying37 Try.underlying24 Try.underlying5 (by kernel_rfl) (by kernel_rfl) (by kernel_rfl) h1
  simp at e0 e2 e3
  subst e0 e2 e3
  have hM := hw 140737488351232 fun k hk => reach_le (hz k (by
    rw [hd, DataW.weights, hu]
    simp only [List.map_cons, List.map_nil, t0, t1, t2, t3]
    exact DataW.weights_mem_each (j := 1) rfl rfl k hk))
  have hby : Try.prog.bytesOf 24 = 24 := by kernel_rfl
  refine ⟨⟨k0, pp, k2, k3⟩, ⟨⟨a, m, cap, rfl, hp⟩, fun l hl => hM.2 l hl, ?_⟩⟩
  have := hM.1
  rw [hby] at this
  rw [hp.len]
  omega
end
end Go.Proofs.Ytmkfpfnjimmmaaa
