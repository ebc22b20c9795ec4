/- shallotlaw23.ModelDoes: whatever the input, the call returns true, and each argument reads as it did. No condition. -/
import Derived.Test.YtmkfpfnjimmmaaaRows
import Derived.Test.YtmkfpfnjimmmaaaEH
import Derived.Test.YtmkfpfnjimmmaaaClosed
namespace Go.Proofs.Ytmkfpfnjimmmaaa.modelDoes
open Go.ChangeShapes Go.WideShapes Go.ChangeAt Go.RowKit
set_option linter.unusedVariables false

theorem own : ownKnob Try.prog.godebug = none := by kernel_rfl
theorem laidOut : laidOutB Try.prog = true := by kernel_rfl

set_option maxRecDepth 100000 in
theorem lifted (os : Os) (started : os.Started) (H : Type) (enc : TypeId × Value → H) :
    ReturnsInHanded {} Try.checked os 16 .any (Rows.modelDoesSpec.pre6 enc Try.prog Try.f16 Rows.modelDoesRow.domain false) (Rows.modelDoesSpec.post enc Try.prog Try.f16 false true false false) := by
  refine returnsInHanded_of_change_sized (C := Try.checked) own started (by kernel_rfl) Try.func16
    (ChangeSpec.witness6 (enc := enc) (C := Try.checked) false ⟨#[], #[.agg #[.slice none 0 0, .int .i64 0, .int .i64 0, .int .i64 0, .int .i64 0, .int .i64 0, .int .i64 0, .int .i64 0, .int .i64 0, .int .u64 0, .int .u64 0], .agg #[.slice none 0 0, .slice none 0 0, .slice none 0 0], .int .i64 0, .int .i64 0, .slice none 0 0], []⟩ 8 (by kernel_rfl) (by kernel_rfl) (by kernel_rfl) (by kernel_rfl)) ?_
  intro W base args ds gs before hval0 hW hcnd hsz0 _
  have hval : ∀ (j : Nat) t v, Try.f16.params[j]? = some t → args[j]? = some v → Value.okWide Try.prog W .any base t v := hval0
  have hW' := hW
  obtain ⟨p, q, hA0, hV, rfl, hfz, hnd⟩ := hW
  have hA : DataW.TrodAll enc Try.prog W 0 (fun _ => true) true Try.f16.params.toList args.toList ds p := hA0
  have hsz : (DataW.weightsEach Try.prog (Try.f16.params.toList ++ Rows.modelDoesSpec.plain.varTypes Try.prog) (ds ++ gs)).all (· ≤ reachBytes) = true := hsz0
  rw [Try.params16] at hA hval hsz
  obtain ⟨v0, vs0, d0, ds0, p0, q0, hargs, rfl, rfl, h0, r0⟩ := trodAll_cons hA
  obtain ⟨v1, vs1, d1, ds1, p1, q1, rfl, rfl, rfl, h1, r1⟩ := trodAll_cons r0
  obtain ⟨v2, vs2, d2, ds2, p2, q2, rfl, rfl, rfl, h2, r2⟩ := trodAll_cons r1
  obtain ⟨v3, vs3, d3, ds3, p3, q3, rfl, rfl, rfl, h3, r3⟩ := trodAll_cons r2
  obtain ⟨v4, vs4, d4, ds4, p4, q4, rfl, rfl, rfl, h4, r4⟩ := trodAll_cons r3
  obtain ⟨rfl, rfl, rfl⟩ := trodAll_nil r4
  obtain rfl : args = #[v0, v1, v2, v3, v4] := by cases args; simp_all
  obtain ⟨rfl, rfl⟩ := trodVars_none hV
  have lt0 : ∀ x ∈ p0, x.block < W.heap.size := by obtain ⟨m, hm⟩ := h0; exact DataW.trod_lt m _ _ _ hm
  have lt1 : ∀ x ∈ p1, x.block < W.heap.size := by obtain ⟨m, hm⟩ := h1; exact DataW.trod_lt m _ _ _ hm
  have lt2 : ∀ x ∈ p2, x.block < W.heap.size := by obtain ⟨m, hm⟩ := h2; exact DataW.trod_lt m _ _ _ hm
  have lt3 : ∀ x ∈ p3, x.block < W.heap.size := by obtain ⟨m, hm⟩ := h3; exact DataW.trod_lt m _ _ _ hm
  have lt4 : ∀ x ∈ p4, x.block < W.heap.size := by obtain ⟨m, hm⟩ := h4; exact DataW.trod_lt m _ _ _ hm
  have k0 := h0
  have z0 : ∀ k ∈ d0.weights Try.prog 55, k ≤ reachBytes := fun k hk => by simpa using List.all_eq_true.1 hsz k (DataW.weights_mem_each (j := 0) rfl rfl k hk)
  obtain ⟨x0, g0, b0⟩ := argT_agg (n := 24) (T := tC) Try.underlying55 (by kernel_rfl) (hval 0 55 v0 rfl rfl) h0 z0
  have k1 := h1
  have z1 : ∀ k ∈ d1.weights Try.prog 60, k ≤ reachBytes := fun k hk => by simpa using List.all_eq_true.1 hsz k (DataW.weights_mem_each (j := 1) rfl rfl k hk)
  obtain ⟨x1, g1, b1⟩ := argB_agg (n := 24) (T := tM) Try.underlying60 (by kernel_rfl) (hval 1 60 v1 rfl rfl) h1 z1
  have k2 := h2
  obtain ⟨a2, rfl, rfl, rfl, w2⟩ := open_int Try.underlying3 (hval 2 3 v2 rfl rfl) h2
  have k3 := h3
  obtain ⟨a3, rfl, rfl, rfl, w3⟩ := open_int Try.underlying3 (hval 3 3 v3 rfl rfl) h3
  have k4 := h4
  have z4 : ∀ k ∈ d4.weights Try.prog 24, k ≤ reachBytes := fun k hk => by simpa using List.all_eq_true.1 hsz k (DataW.weights_mem_each (j := 4) rfl rfl k hk)
  obtain ⟨x4, g4, b4⟩ := argB_sl (n := 24) (T := tY) Try.underlying24 (by kernel_rfl) (hval 4 24 v4 rfl rfl) h4 z4
  clear hA0 hval0 hsz0
  refine (SC.law (vs := [v0, v1, .int .i64 a2, .int .i64 a3, v4]) sc_does rfl rfl (shV true tC x0, shV false tM x1, a2, a3, x4, ()) (does_pre g1 g4) rfl (tabIn_any _) rfl rfl rfl (atT_cons (b0 true _ _ _ _ _ _) (atT_cons (b1 false _ _ _ _ _ _) (atT_cons (.d (.int _ _)) (atT_cons (.d (.int _ _)) (atT_cons (b4 true _ _ _) atT_nil)))))).mono fun e W' ⟨he, bel⟩ => ?_
  subst he
  exact ⟨_, rfl, _, _, _, [], _, [], hW', trodAll_mk1 (shut_bool Try.underlying4 _), (trodAll_cons_mk (Below.trod laidOut (by kernel_rfl) (of_decide_eq_true (by kernel_rfl)) k0 bel lt0) (trodAll_cons_mk (Below.trod laidOut (by kernel_rfl) (of_decide_eq_true (by kernel_rfl)) k1 bel lt1) (trodAll_cons_mk (Below.trod laidOut (by kernel_rfl) (of_decide_eq_true (by kernel_rfl)) k2 bel lt2) (trodAll_cons_mk (Below.trod laidOut (by kernel_rfl) (of_decide_eq_true (by kernel_rfl)) k3 bel lt3) (trodAll_cons_mk (Below.trod laidOut (by kernel_rfl) (of_decide_eq_true (by kernel_rfl)) k4 bel lt4) trodAll_mk0))))), rfl, bel.frame _, fun h => by cases h⟩

theorem closed : joinedFacts Try.prog 16 Try.f16 Rows.modelDoesSpec Rows.modelDoesRow = true :=
  facts_mk (by as_aux_lemma => kernel_rfl) cl_laidOut cl_mapsRowed (by as_aux_lemma => kernel_rfl) (by as_aux_lemma => kernel_rfl) (by as_aux_lemma => kernel_rfl) (by as_aux_lemma => kernel_rfl) (by as_aux_lemma => kernel_rfl) (by as_aux_lemma => kernel_rfl) (by as_aux_lemma => kernel_rfl) (by as_aux_lemma => kernel_rfl) (by as_aux_lemma => kernel_rfl) (by as_aux_lemma => kernel_rfl) (by as_aux_lemma => kernel_rfl) (by as_aux_lemma => kernel_rfl) (by as_aux_lemma => kernel_rfl) (by as_aux_lemma => kernel_rfl) (by as_aux_lemma => kernel_rfl) (by as_aux_lemma => kernel_rfl) (by as_aux_lemma => kernel_rfl) (by as_aux_lemma => kernel_rfl) (by as_aux_lemma => kernel_rfl) cl_plainKeys (by as_aux_lemma => kernel_rfl) cl_stopsHeard cl_mayEnter cl_liftsFinal cl_make (by as_aux_lemma => kernel_rfl) (by as_aux_lemma => kernel_rfl) (by as_aux_lemma => kernel_rfl) (by as_aux_lemma => kernel_rfl)
theorem wrap : Try.f16.isWrapper Try.prog Rows.modelDoesRow.wrapper Rows.modelDoesRow.mainSum := by
  unfold Func.isWrapper; rw [if_neg (of_decide_eq_false (by kernel_rfl))]; exact ⟨rfl, rfl⟩

theorem over : Rows.modelDoesRow.holds Try.pinned (OpenSpec.ofChange Rows.modelDoesSpec) :=
  OpenClaim.holds_of_wide 16 Try.f16 rfl rfl rfl rfl rfl rfl rfl ⟨rfl, rfl, rfl, rfl, rfl⟩ rfl rfl rfl rfl rfl (by kernel_rfl) Try.func16 closed
    (of_decide_eq_true (by kernel_rfl)) wrap
    (fun os started H enc _ => lifted os started H enc)

theorem proved : Rows.ModelDoesSaid := over
#print axioms proved
end Go.Proofs.Ytmkfpfnjimmmaaa.modelDoes
