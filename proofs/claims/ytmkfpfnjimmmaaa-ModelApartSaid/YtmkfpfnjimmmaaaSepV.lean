/- What comes in: letters, queues, models, configurations, bytes, numbers. Printed by sep.py. -/
import Derived.Test.YtmkfpfnjimmmaaaSepU
import Derived.Test.YtmkfpfnjimmmaaaRows
namespace Go.Proofs.Ytmkfpfnjimmmaaa
open Go.RowKit
set_option linter.unusedVariables false
set_option linter.unusedSimpArgs false

open Go.ChangeShapes Go.WideShapes Go.ChangeAt
theorem opt_uint64 : OpV Try.prog 22 eU64 okU 1 8 := opv_u64 Try.underlying22 (by kernel_rfl) (by kernel_rfl)
theorem opt_bool : OpV Try.prog 4 eBool (fun _ => True) 1 1 := opv_bool Try.underlying4 (by kernel_rfl) (by kernel_rfl)
theorem opt_int : OpV Try.prog 3 eInt okI 1 8 := opv_int Try.underlying3 (by kernel_rfl) (by kernel_rfl)
theorem opt_Luint8 : OpV Try.prog 24 eBytes (fun l => l.length ≤ 140737488351232) 1 24 := opv_bytes Try.underlying24 Try.underlying5 (by kernel_rfl) (by kernel_rfl) (by kernel_rfl) (by kernel_rfl)
def okLetter (x : LetterV) : Prop := (fun _ => True) x.Cover ∧ okI x.From ∧ okI x.To ∧ okU x.Seq ∧ (fun l => l.length ≤ 140737488351232) x.Text
theorem fields_Letter : ∃ f0 f1 f2 f3 f4 : Field, Try.prog.underlying 46 = some (.struct #[f0, f1, f2, f3, f4]) ∧ (f0.type = 4 ∧ f0.offset = 0) ∧ (f1.type = 3 ∧ f1.offset = 1) ∧ (f2.type = 3 ∧ f2.offset = 2) ∧ (f3.type = 22 ∧ f3.offset = 3) ∧ (f4.type = 24 ∧ f4.offset = 4) :=
  ⟨_, _, _, _, _, Try.underlying46, ⟨rfl, rfl⟩, ⟨rfl, rfl⟩, ⟨rfl, rfl⟩, ⟨rfl, rfl⟩, ⟨rfl, rfl⟩⟩
set_option maxRecDepth 100000 in
theorem opt_api_Letter : OpV Try.prog 46 eLetter okLetter 5 56 := by
  refine ⟨by kernel_rfl, by kernel_rfl, by decide, fun _ => rfl, fun H enc w base spare held n cs y h hz => ?_⟩
  obtain ⟨f0, f1, f2, f3, f4, hu, ⟨t0, o0⟩, ⟨t1, o1⟩, ⟨t2, o2⟩, ⟨t3, o3⟩, ⟨t4, o4⟩⟩ := fields_Letter
  obtain ⟨hl, hf⟩ := opv_fields hu h hz
  have hcl : Try.prog.cellsOf 46 = 5 := by kernel_rfl
  rw [hcl] at hl
  match cs, hl with
  | [c0, c1, c2, c3, c4], _ =>
    obtain ⟨x0, k0, h0⟩ := hf 0 f0 _ _ _ _ _ rfl (by rw [t0]; exact opt_bool)
    rw [o0] at h0
    obtain ⟨x1, k1, h1⟩ := hf 1 f1 _ _ _ _ _ rfl (by rw [t1]; exact opt_int)
    rw [o1] at h1
    obtain ⟨x2, k2, h2⟩ := hf 2 f2 _ _ _ _ _ rfl (by rw [t2]; exact opt_int)
    rw [o2] at h2
    obtain ⟨x3, k3, h3⟩ := hf 3 f3 _ _ _ _ _ rfl (by rw [t3]; exact opt_uint64)
    rw [o3] at h3
    obtain ⟨x4, k4, h4⟩ := hf 4 f4 _ _ _ _ _ rfl (by rw [t4]; exact opt_Luint8)
    rw [o4] at h4
    exact ⟨⟨x0, x1, x2, x3, x4⟩, ⟨k0, k1, k2, k3, k4⟩, (CellsV.app h0 (CellsV.app h1 (CellsV.app h2 (CellsV.app h3 h4))))⟩
theorem opt_Lapi_Letter : OpV Try.prog 74 eL_Letter (okLst okLetter 56) 1 24 := opv_slice Try.underlying74 opt_api_Letter (by kernel_rfl) (by kernel_rfl)
def okQueue (x : QueueV) : Prop := okU x.Next ∧ (okLst okLetter 56) x.Items
theorem fields_Queue : ∃ f0 f1 : Field, Try.prog.underlying 77 = some (.struct #[f0, f1]) ∧ (f0.type = 22 ∧ f0.offset = 0) ∧ (f1.type = 74 ∧ f1.offset = 1) :=
  ⟨_, _, Try.underlying77, ⟨rfl, rfl⟩, ⟨rfl, rfl⟩⟩
set_option maxRecDepth 100000 in
theorem opt_api_Queue : OpV Try.prog 77 eQueue okQueue 2 32 := by
  refine ⟨by kernel_rfl, by kernel_rfl, by decide, fun _ => rfl, fun H enc w base spare held n cs y h hz => ?_⟩
  obtain ⟨f0, f1, hu, ⟨t0, o0⟩, ⟨t1, o1⟩⟩ := fields_Queue
  obtain ⟨hl, hf⟩ := opv_fields hu h hz
  have hcl : Try.prog.cellsOf 77 = 2 := by kernel_rfl
  rw [hcl] at hl
  match cs, hl with
  | [c0, c1], _ =>
    obtain ⟨x0, k0, h0⟩ := hf 0 f0 _ _ _ _ _ rfl (by rw [t0]; exact opt_uint64)
    rw [o0] at h0
    obtain ⟨x1, k1, h1⟩ := hf 1 f1 _ _ _ _ _ rfl (by rw [t1]; exact opt_Lapi_Letter)
    rw [o1] at h1
    exact ⟨⟨x0, x1⟩, ⟨k0, k1⟩, (CellsV.app h0 h1)⟩
theorem opt_Lapi_Queue : OpV Try.prog 56 eL_Queue (okLst okQueue 32) 1 24 := opv_slice Try.underlying56 opt_api_Queue (by kernel_rfl) (by kernel_rfl)
theorem opt_Lint : OpV Try.prog 57 eInts (okLst okI 8) 1 24 := opv_slice Try.underlying57 opt_int (by kernel_rfl) (by kernel_rfl)
theorem opt_LLapi_Letter : OpV Try.prog 58 eL_LLetter (okLst (okLst okLetter 56) 24) 1 24 := opv_slice Try.underlying58 opt_Lapi_Letter (by kernel_rfl) (by kernel_rfl)
def okModel (x : ModelV) : Prop := (okLst okQueue 32) x.Queues ∧ (okLst okI 8) x.Come ∧ (okLst (okLst okLetter 56) 24) x.Boxes
theorem fields_Model : ∃ f0 f1 f2 : Field, Try.prog.underlying 60 = some (.struct #[f0, f1, f2]) ∧ (f0.type = 56 ∧ f0.offset = 0) ∧ (f1.type = 57 ∧ f1.offset = 1) ∧ (f2.type = 58 ∧ f2.offset = 2) :=
  ⟨_, _, _, Try.underlying60, ⟨rfl, rfl⟩, ⟨rfl, rfl⟩, ⟨rfl, rfl⟩⟩
set_option maxRecDepth 100000 in
theorem opt_api_Model : OpV Try.prog 60 eModel okModel 3 72 := by
  refine ⟨by kernel_rfl, by kernel_rfl, by decide, fun _ => rfl, fun H enc w base spare held n cs y h hz => ?_⟩
  obtain ⟨f0, f1, f2, hu, ⟨t0, o0⟩, ⟨t1, o1⟩, ⟨t2, o2⟩⟩ := fields_Model
  obtain ⟨hl, hf⟩ := opv_fields hu h hz
  have hcl : Try.prog.cellsOf 60 = 3 := by kernel_rfl
  rw [hcl] at hl
  match cs, hl with
  | [c0, c1, c2], _ =>
    obtain ⟨x0, k0, h0⟩ := hf 0 f0 _ _ _ _ _ rfl (by rw [t0]; exact opt_Lapi_Queue)
    rw [o0] at h0
    obtain ⟨x1, k1, h1⟩ := hf 1 f1 _ _ _ _ _ rfl (by rw [t1]; exact opt_Lint)
    rw [o1] at h1
    obtain ⟨x2, k2, h2⟩ := hf 2 f2 _ _ _ _ _ rfl (by rw [t2]; exact opt_LLapi_Letter)
    rw [o2] at h2
    exact ⟨⟨x0, x1, x2⟩, ⟨k0, k1, k2⟩, (CellsV.app h0 (CellsV.app h1 h2))⟩
set_option maxRecDepth 100000 in
theorem arg_model {H : Type} {enc : TypeId × Value → H} {w : World} {base : Nat} {spare : Nat → Bool} {held : Bool} {r : Reach} {b0 : Nat} {v : Value} {d : DataW H} {p : List MemPlace} (hv : Value.okWide Try.prog w r b0 60 v) (h : DataW.Trod enc Try.prog w base spare held 60 v d p) (hz : ∀ k ∈ d.weights Try.prog 60, k ≤ reachBytes) : ∃ x : ModelV, okModel x ∧ ∀ b1, VA E0 w (fun _ => False) (fun _ => True) b1 (aModel x) v := by
  obtain ⟨f0, f1, f2, hu, _⟩ := fields_Model
  exact opv_agg hu opt_api_Model hv h hz
def okCfg (x : CfgV) : Prop := (fun l => l.length ≤ 140737488351232) x.Seed ∧ okI x.Chain ∧ okI x.Standby ∧ okI x.Clients ∧ okI x.Queue ∧ okI x.Close ∧ okI x.Long ∧ okI x.Again ∧ okI x.Window ∧ okU x.Round ∧ okU x.Seq
theorem fields_Cfg : ∃ f0 f1 f2 f3 f4 f5 f6 f7 f8 f9 f10 : Field, Try.prog.underlying 55 = some (.struct #[f0, f1, f2, f3, f4, f5, f6, f7, f8, f9, f10]) ∧ (f0.type = 24 ∧ f0.offset = 0) ∧ (f1.type = 3 ∧ f1.offset = 1) ∧ (f2.type = 3 ∧ f2.offset = 2) ∧ (f3.type = 3 ∧ f3.offset = 3) ∧ (f4.type = 3 ∧ f4.offset = 4) ∧ (f5.type = 3 ∧ f5.offset = 5) ∧ (f6.type = 3 ∧ f6.offset = 6) ∧ (f7.type = 3 ∧ f7.offset = 7) ∧ (f8.type = 3 ∧ f8.offset = 8) ∧ (f9.type = 22 ∧ f9.offset = 9) ∧ (f10.type = 22 ∧ f10.offset = 10) :=
  ⟨_, _, _, _, _, _, _, _, _, _, _, Try.underlying55, ⟨rfl, rfl⟩, ⟨rfl, rfl⟩, ⟨rfl, rfl⟩, ⟨rfl, rfl⟩, ⟨rfl, rfl⟩, ⟨rfl, rfl⟩, ⟨rfl, rfl⟩, ⟨rfl, rfl⟩, ⟨rfl, rfl⟩, ⟨rfl, rfl⟩, ⟨rfl, rfl⟩⟩
set_option maxRecDepth 100000 in
theorem opt_api_Cfg : OpV Try.prog 55 eCfg okCfg 11 104 := by
  refine ⟨by kernel_rfl, by kernel_rfl, by decide, fun _ => rfl, fun H enc w base spare held n cs y h hz => ?_⟩
  obtain ⟨f0, f1, f2, f3, f4, f5, f6, f7, f8, f9, f10, hu, ⟨t0, o0⟩, ⟨t1, o1⟩, ⟨t2, o2⟩, ⟨t3, o3⟩, ⟨t4, o4⟩, ⟨t5, o5⟩, ⟨t6, o6⟩, ⟨t7, o7⟩, ⟨t8, o8⟩, ⟨t9, o9⟩, ⟨t10, o10⟩⟩ := fields_Cfg
  obtain ⟨hl, hf⟩ := opv_fields hu h hz
  have hcl : Try.prog.cellsOf 55 = 11 := by kernel_rfl
  rw [hcl] at hl
  match cs, hl with
  | [c0, c1, c2, c3, c4, c5, c6, c7, c8, c9, c10], _ =>
    obtain ⟨x0, k0, h0⟩ := hf 0 f0 _ _ _ _ _ rfl (by rw [t0]; exact opt_Luint8)
    rw [o0] at h0
    obtain ⟨x1, k1, h1⟩ := hf 1 f1 _ _ _ _ _ rfl (by rw [t1]; exact opt_int)
    rw [o1] at h1
    obtain ⟨x2, k2, h2⟩ := hf 2 f2 _ _ _ _ _ rfl (by rw [t2]; exact opt_int)
    rw [o2] at h2
    obtain ⟨x3, k3, h3⟩ := hf 3 f3 _ _ _ _ _ rfl (by rw [t3]; exact opt_int)
    rw [o3] at h3
    obtain ⟨x4, k4, h4⟩ := hf 4 f4 _ _ _ _ _ rfl (by rw [t4]; exact opt_int)
    rw [o4] at h4
    obtain ⟨x5, k5, h5⟩ := hf 5 f5 _ _ _ _ _ rfl (by rw [t5]; exact opt_int)
    rw [o5] at h5
    obtain ⟨x6, k6, h6⟩ := hf 6 f6 _ _ _ _ _ rfl (by rw [t6]; exact opt_int)
    rw [o6] at h6
    obtain ⟨x7, k7, h7⟩ := hf 7 f7 _ _ _ _ _ rfl (by rw [t7]; exact opt_int)
    rw [o7] at h7
    obtain ⟨x8, k8, h8⟩ := hf 8 f8 _ _ _ _ _ rfl (by rw [t8]; exact opt_int)
    rw [o8] at h8
    obtain ⟨x9, k9, h9⟩ := hf 9 f9 _ _ _ _ _ rfl (by rw [t9]; exact opt_uint64)
    rw [o9] at h9
    obtain ⟨x10, k10, h10⟩ := hf 10 f10 _ _ _ _ _ rfl (by rw [t10]; exact opt_uint64)
    rw [o10] at h10
    exact ⟨⟨x0, x1, x2, x3, x4, x5, x6, x7, x8, x9, x10⟩, ⟨k0, k1, k2, k3, k4, k5, k6, k7, k8, k9, k10⟩, (CellsV.app h0 (CellsV.app h1 (CellsV.app h2 (CellsV.app h3 (CellsV.app h4 (CellsV.app h5 (CellsV.app h6 (CellsV.app h7 (CellsV.app h8 (CellsV.app h9 h10))))))))))⟩
set_option maxRecDepth 100000 in
theorem arg_cfg {H : Type} {enc : TypeId × Value → H} {w : World} {base : Nat} {spare : Nat → Bool} {held : Bool} {r : Reach} {b0 : Nat} {v : Value} {d : DataW H} {p : List MemPlace} (hv : Value.okWide Try.prog w r b0 55 v) (h : DataW.Trod enc Try.prog w base spare held 55 v d p) (hz : ∀ k ∈ d.weights Try.prog 55, k ≤ reachBytes) : ∃ x : CfgV, okCfg x ∧ ∀ b1, VA E0 w (fun _ => False) (fun _ => True) b1 (aCfg x) v := by
  obtain ⟨f0, f1, f2, f3, f4, f5, f6, f7, f8, f9, f10, hu, _⟩ := fields_Cfg
  exact opv_agg hu opt_api_Cfg hv h hz
set_option maxRecDepth 100000 in
theorem arg_letter {H : Type} {enc : TypeId × Value → H} {w : World} {base : Nat} {spare : Nat → Bool} {held : Bool} {r : Reach} {b0 : Nat} {v : Value} {d : DataW H} {p : List MemPlace} (hv : Value.okWide Try.prog w r b0 46 v) (h : DataW.Trod enc Try.prog w base spare held 46 v d p) (hz : ∀ k ∈ d.weights Try.prog 46, k ≤ reachBytes) : ∃ x : LetterV, okLetter x ∧ ∀ b1, VA E0 w (fun _ => False) (fun _ => True) b1 (aLetter x) v := by
  obtain ⟨f0, f1, f2, f3, f4, hu, _⟩ := fields_Letter
  exact opv_agg hu opt_api_Letter hv h hz
set_option maxRecDepth 100000 in
theorem arg_bytes {H : Type} {enc : TypeId × Value → H} {w : World} {base : Nat} {spare : Nat → Bool} {held : Bool} {r : Reach} {b0 : Nat} {v : Value} {d : DataW H} {p : List MemPlace} (hv : Value.okWide Try.prog w r b0 24 v) (h : DataW.Trod enc Try.prog w base spare held 24 v d p) (hz : ∀ k ∈ d.weights Try.prog 24, k ≤ reachBytes) : ∃ x : List UInt8, (fun l => l.length ≤ 140737488351232) x ∧ ∀ b1, VA E0 w (fun _ => False) (fun _ => True) b1 (.d (.view 1 (x.map eByte))) v :=
  opv_sl (g := fun x : List UInt8 => .view 1 (x.map eByte)) Try.underlying24 opt_Luint8 hv h hz
set_option maxRecDepth 100000 in
theorem arg_ints {H : Type} {enc : TypeId × Value → H} {w : World} {base : Nat} {spare : Nat → Bool} {held : Bool} {r : Reach} {b0 : Nat} {v : Value} {d : DataW H} {p : List MemPlace} (hv : Value.okWide Try.prog w r b0 57 v) (h : DataW.Trod enc Try.prog w base spare held 57 v d p) (hz : ∀ k ∈ d.weights Try.prog 57, k ≤ reachBytes) : ∃ x : List Int, (okLst okI 8) x ∧ ∀ b1, VA E0 w (fun _ => False) (fun _ => True) b1 (.d (.view 1 (x.map eInt))) v :=
  opv_sl (g := fun x : List Int => .view 1 (x.map eInt)) Try.underlying57 opt_Lint hv h hz
end Go.Proofs.Ytmkfpfnjimmmaaa
