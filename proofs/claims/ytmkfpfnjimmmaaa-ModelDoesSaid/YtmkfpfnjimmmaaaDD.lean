/- The word of the reference's Come, out of its walk. -/
import Derived.Test.YtmkfpfnjimmmaaaDC
namespace Go.Proofs.Ytmkfpfnjimmmaaa
open Go.RowKit
open DoorU
set_option linter.unusedVariables false

theorem sc_rCome : SC Try.prog 57 S_mCome :=
  SC.pure rfl (fun _ => rfl) (fun _ => rfl) fun x hx w U E vs hT hl hv => by
    obtain ⟨m, k, ⟨⟩⟩ := x
    obtain ⟨v, v2, rfl⟩ : ∃ v v2, vs = [v, v2] := by
      match vs, hl with
      | [v, v2], _ => exact ⟨v, v2, rfl⟩
    have h0 : VA E w NoF U w.heap.size (.agg [.d (.view 2 (denS (T := tQ) m.1)), .d (.view 1 (denS (T := tI) m.2.1)), .d (.view 1 (denS (T := .sl tL) m.2.2.1))]) v := hv 0 _ v rfl rfl
    have h1 : VA E w NoF U w.heap.size (.d (.int .i64 k)) v2 := hv 1 _ v2 rfl rfl
    obtain rfl : v2 = .int .i64 k := by
      cases h1 with
      | d h => cases h; rfl
    obtain ⟨s1, s2, s3, rfl, hm⟩ : ∃ s1 s2 s3, v = .agg #[s1, s2, s3] ∧ VM w U m s1 s2 s3 := by
      cases h0 with
      | @agg _ us hl h =>
        match us, hl, h with
        | [u0, u1, u2], _, h =>
          have a0 := h 0 _ _ rfl rfl
          have a1 := h 1 _ _ rfl rfl
          have a2 := h 2 _ _ rfl rfl
          refine ⟨u0, u1, u2, rfl, ?_, ?_, ?_⟩
          · cases a0 with
            | d a0 => exact a0
          · cases a1 with
            | d a1 => exact a1
          · cases a2 with
            | d a2 => exact a2
    refine (rcome_any hm hx.1 hx.2.1 hx.2.2.1 (fun b hb => (hx.2.2.2.2 b hb).1) (fun q hq => (hx.2.2.2.1 q hq).1) k).mono ?_
    rintro e w' ⟨r1, r2, r3, rfl, hb, q1, q2, q3⟩
    refine ⟨_, rfl, hb, ?_⟩
    have tr : ∀ {d : D} {v : Value}, VD w' NoF (fun b => U b ∨ w.heap.size ≤ b) w'.heap.size d v → VD w' NoF U w.heap.size d v := fun h => h.chg (fun _ _ h => h) fun b hb h => h.elim id (fun h => .inr (by omega))
    refine VA.tup (vs := [.agg [.d (.view 2 (denS (T := tQ) (mCome m k).1.1)), .d (.view 1 (denS (T := tI) (mCome m k).1.2.1)), .d (.view 1 (denS (T := .sl tL) (mCome m k).1.2.2.1))], .d (.bool (mCome m k).2)]) (us := [.agg #[r1, r2, r3], .bool (mCome m k).2]) rfl fun i x u hx hu => ?_
    match i, hx, hu with
    | 0, hx, hu =>
      cases hx; cases hu
      refine VA.agg (us := [r1, r2, r3]) rfl fun i x u hx hu => ?_
      match i, hx, hu with
      | 0, hx, hu => cases hx; cases hu; exact .d (tr q1)
      | 1, hx, hu => cases hx; cases hu; exact .d (tr q2)
      | 2, hx, hu => cases hx; cases hu; exact .d (tr q3)
    | 1, hx, hu => cases hx; cases hu; exact .d (.bool _)
theorem en_rCome (us : Array Value) (u : World) : (callFunc 57 us).run Try.prog u = .ok (.enter 57 us) u := by kernel_rfl
end Go.Proofs.Ytmkfpfnjimmmaaa
