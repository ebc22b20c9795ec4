/- A letter, as cells and by value. -/
import Derived.Test.YtmkfpfnjimmmaaaRep
import Derived.Test.YtmkfpfnjimmmaaaLetC
namespace Go.Proofs.Ytmkfpfnjimmmaaa
open Go.ChangeShapes Go.WideShapes Go.ChangeAt Go.RowKit

structure LetD where
  cover : Bool
  frm : Int
  dst : Int
  seq : Nat
  text : List UInt8
  deriving Inhabited

def rLet : Rep LetD where
  sz := 5
  bytes := 56
  R := fun U w cs x => ∃ a n cap, cs = [.bool x.cover, .int .i64 x.frm, .int .i64 x.dst, .int .u64 x.seq, .slice a n cap] ∧ Bytes w a n cap x.text ∧ n ≤ 140737488351232 ∧ In U a n ∧ x.seq < 18446744073709551616 ∧
    (-9223372036854775808 ≤ x.frm ∧ x.frm ≤ 9223372036854775807) ∧ -9223372036854775808 ≤ x.dst ∧ x.dst ≤ 9223372036854775807
  pos := by decide
  pos' := by decide
  len := fun ⟨_, _, _, h, _⟩ => by rw [h]; rfl
  one := fun ⟨_, _, _, h, _⟩ v hv => by
    rw [h] at hv
    simp only [List.mem_cons, List.not_mem_nil, or_false] at hv
    rcases hv with rfl | rfl | rfl | rfl | rfl <;> rfl
  mono := fun hu ⟨a, n, cap, h, hy, hn, hi, hr⟩ => ⟨a, n, cap, h, hy, hn, fun k x hx => hu _ (hi k x hx), hr⟩
  keep := fun hs ⟨a, n, cap, h, hy, hn, hi, hr⟩ => ⟨a, n, cap, h, hy.same hi hs, hn, hi, hr⟩
  lt := fun ⟨a, n, cap, h, hy, hn, hi, hr⟩ => ⟨a, n, cap, h, hy, hn, hy.in_lt hi, hr⟩

theorem let_fields : ∃ f0 f1 f2 f3 f4 : Field, Try.prog.underlying 46 = some (.struct #[f0, f1, f2, f3, f4]) ∧ (f0.type = 4 ∧ f0.offset = 0) ∧ (f1.type = 3 ∧ f1.offset = 1) ∧ (f2.type = 3 ∧ f2.offset = 2) ∧ (f3.type = 22 ∧ f3.offset = 3) ∧ (f4.type = 24 ∧ f4.offset = 4) :=
  ⟨_, _, _, _, _, Try.underlying46, ⟨rfl, rfl⟩, ⟨rfl, rfl⟩, ⟨rfl, rfl⟩, ⟨rfl, rfl⟩, ⟨rfl, rfl⟩⟩

theorem op_int : Opens Try.prog 3 rI := opens_int Try.underlying3 (by kernel_rfl) (by kernel_rfl)
theorem op_u64 : Opens Try.prog 22 rU := opens_u64 Try.underlying22 (by kernel_rfl) (by kernel_rfl)
theorem op_bool : Opens Try.prog 4 rB := opens_bool Try.underlying4 (by kernel_rfl) (by kernel_rfl)
theorem op_bytes : Opens Try.prog 24 rY := opens_bytes Try.underlying24 Try.underlying5 (by kernel_rfl) (by kernel_rfl) (by kernel_rfl) (by kernel_rfl)

set_option maxRecDepth 100000 in
theorem op_let : Opens Try.prog 46 rLet := by
  refine ⟨by kernel_rfl, by kernel_rfl, fun H enc w base spare held n cs y h hz => ?_⟩
  obtain ⟨f0, f1, f2, f3, f4, hu, ⟨t0, o0⟩, ⟨t1, o1⟩, ⟨t2, o2⟩, ⟨t3, o3⟩, ⟨t4, o4⟩⟩ := let_fields
  obtain ⟨hl, hf⟩ := opens_fields hu h hz
  have hcl : Try.prog.cellsOf 46 = 5 := by kernel_rfl
  rw [hcl] at hl
  match cs, hl with
  | [c0, c1, c2, c3, c4], _ =>
    obtain ⟨x0, h0⟩ := hf 0 f0 Bool rB rfl (by rw [t0]; exact op_bool)
    obtain ⟨x1, h1⟩ := hf 1 f1 Int rI rfl (by rw [t1]; exact op_int)
    obtain ⟨x2, h2⟩ := hf 2 f2 Int rI rfl (by rw [t2]; exact op_int)
    obtain ⟨x3, h3⟩ := hf 3 f3 Nat rU rfl (by rw [t3]; exact op_u64)
    obtain ⟨x4, h4⟩ := hf 4 f4 (List UInt8) rY rfl (by rw [t4]; exact op_bytes)
    rw [o0] at h0
    rw [o1] at h1
    rw [o2] at h2
    rw [o3] at h3
    rw [o4] at h4
    have e0 : c0 = .bool x0 := by simpa [rB] using h0
    obtain ⟨e1, r1⟩ : c1 = .int .i64 x1 ∧ _ := by simpa [rI] using h1
    obtain ⟨e2, r2⟩ : c2 = .int .i64 x2 ∧ _ := by simpa [rI] using h2
    obtain ⟨e3, r3⟩ : c3 = .int .u64 x3 ∧ _ := by simpa [rU] using h3
    obtain ⟨a, m, cap, e4, hy, hm⟩ : ∃ a m cap, [c4] = [.slice a m cap] ∧ Bytes w a m cap x4 ∧ m ≤ 140737488351232 ∧ In Any a m := h4
    simp only [List.cons.injEq, and_true] at e4
    subst e0 e1 e2 e3 e4
    exact ⟨⟨x0, x1, x2, x3, x4⟩, a, m, cap, rfl, hy, hm.1, hm.2, r3, r1, r2⟩

set_option maxRecDepth 100000 in
theorem open_letter {H : Type} {enc : TypeId × Value → H} {w : World} {base : Nat} {spare : Nat → Bool} {held : Bool} {r : Reach} {b0 : Nat} {v : Value} {d : DataW H} {p : List MemPlace} (hv : Value.okWide Try.prog w r b0 46 v) (h : DataW.Trod enc Try.prog w base spare held 46 v d p)
    (hz : ∀ k ∈ d.weights Try.prog 46, k ≤ reachBytes) : ∃ x, AsAgg rLet w v x := by
  obtain ⟨f0, f1, f2, f3, f4, hu, _⟩ := let_fields
  exact open_agg hu op_let hv h hz
end Go.Proofs.Ytmkfpfnjimmmaaa
