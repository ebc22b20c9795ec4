/- A function's word, out of its walk computed. Nothing of the dump stands here. -/
import Derived.Test.YtmkfpfnjimmmaaaVN
namespace Go.Proofs.Ytmkfpfnjimmmaaa
open Go.RowKit
set_option linter.unusedVariables false
set_option linter.unusedSimpArgs false

/-- What lists are long at the most. -/
def Sh.sz : (s : Sh) → s.V → Prop → Prop
  | .view _ T, l, K => List.length (α := Val T) l ≤ 9223372036854775807 → K
  | .own T _, l, K => List.length (α := Val T) l ≤ 9223372036854775807 → K
  | .pa T _, l, K => List.length (α := Val T) l ≤ 9223372036854775807 → K
  | .arr _, _, K => K
  | .mpp _ _, _, K => K
  | .atp _ s, x, K => s.sz x.2 K
  | .var _ s, x, K => s.sz x K
  | .pair a b, x, K => a.sz x.1 (b.sz x.2 K)
  | .agg s, x, K => s.sz x K
  | .tup s, x, K => s.sz x K
  | .fn _ s, x, K => s.sz x K
  | .int _, _, K => K
  | .bool, _, K => K
  | .unit, _, K => K
  | .any, _, K => K

theorem bif_so {α : Type} {b : Bool} {q p : α} (h : (bif b then some q else none) = some p) : b = true ∧ q = p := by
  cases b with
  | false => cases h
  | true => exact ⟨rfl, by cases h; rfl⟩
/-- A result that is an array. -/
def resArr (P : Program) (σ : TS) (t : Nat) (ty : TypeId) : Option ((T : Ty) × List (Val T) × Nat) := match arrT P ty, σ.tmp t with
  | some _, .ptr g 0 0 => match σ.blk g, tyOf P ty with
    | .row T _ l, some (true, n) => bif plainT T && Nat.ble 1 n then some ⟨T, l, n⟩ else none
    | _, _ => none
  | _, _ => none
def resL (P : Program) (σ : TS) : List ResultVar → (List TV → Prop) → Prop
  | [], K => K []
  | .tmp t :: r, K => resL P σ r fun vs => K (σ.tmp t :: vs)
  | .cell t ty :: r, K => match resArr P σ t ty with
    | some ⟨T, l, n⟩ => l.length = n ∧ resL P σ r fun vs => K (.arr T l :: vs)
    | none => match tyOf P ty with
        | some (b, n) => readC σ (σ.tmp t) fun cs _ => bif b then (match takeO n cs with
            | some ws => resL P σ r fun vs => K (.agg ws :: vs)
            | none => False) else (match cs with
            | v :: _ => resL P σ r fun vs => K (v :: vs)
            | [] => False)
        | none => False
def resV (vs : List TV) : TV := match vs with | [x] => x | _ => .tup vs

/-- The variables that stand at the top of a shape. -/
def topV : Sh → Nat → List TV
  | .pair a b, v => topV a v ++ topV b (v + a.nv)
  | .atp _ s, v => topV s v
  | .var _ _, v => [.ptr v 0 0]
  | _, _ => []
def finK (P : Program) (fn : Func) (S : Spec) (x : S.sig.V) (σ : TS) : Prop :=
  resL P σ fn.results.toList fun vs => match parse σ.blk false S.fin (resV vs :: topV S.fin 0) with
    | some p => bif p.okB && decide (p.vs = List.range S.sig.nv) then conj p.ps (p.x = S.fn x) else False
    | none => False
/-- The rows of a shape, and which cells they are. -/
def ownAt : Sh → Nat → List (Nat × Ty × TypeId) × Nat
  | .pair a b, j => ((ownAt a j).1 ++ (ownAt b (ownAt a j).2).1, (ownAt b (ownAt a j).2).2)
  | .own T e, j => ([(j, T, e)], j + 1)
  | .unit, j => ([], j)
  | _, j => ([], j + 1)
def adOne (r : ResultVar) (s : Sh) : List (Nat × Ty × TypeId) := match r, s with
  | .tmp t, .own T e => [(t, T, e)]
  | .cell t _, .agg s => (ownAt s 0).1.map fun x => (t + 1000 * (x.1 + 1), x.2.1, x.2.2)
  | _, _ => []
def adTup : List ResultVar → Sh → List (Nat × Ty × TypeId)
  | r :: rs, .pair a b => adOne r a ++ adTup rs b
  | _, _ => []
/-- A slot, or a variable's cell, whose nil is given back as a row. -/
def adOf (fn : Func) (S : Spec) : List (Nat × Ty × TypeId) := match fn.results.toList, S.fin with
  | [r], .pair s _ => adOne r s
  | rs, .pair (.tup s) _ => adTup rs s
  | _, _ => []
def endK (P : Program) (fn : Func) (S : Spec) (x : S.sig.V) : Exit → TS → Nat → Prop
  | .normal, σ, k => adoptK fn.ntmps (adOf fn S) (fun _ => false) σ k fun σ _ => finK P fn S x σ
  | .ret, σ, k => adoptK fn.ntmps (adOf fn S) (fun _ => false) σ k fun σ _ => finK P fn S x σ
  | _, _, _ => False

def startS (S : Spec) (x : S.sig.V) : TS := ⟨fun t => (S.inU x).cs.getD t .und, bsOf (S.inU x).bs⟩
/-- What is to be shown of a function. -/
def VC (P : Program) (fn : Func) (c : Code) (S : Spec) (Δ : List (FuncId × Spec)) (ann : (x : S.sig.V) → Nat → Option LA) : Prop :=
  ∀ x, S.pre x → S.sig.sz x (evC P Δ fn.ntmps (ann x) c (fun _ => false) 0 (endK P fn S x) (startS S x) 64)
def specOk (fn : Func) (S : Spec) : Bool := Nat.ble (S.sig.nv + S.sig.nr) 64 && S.sig.ok && S.fin.ok && S.fin.noLent && Nat.beq S.fin.nv S.sig.nv

section
variable {P : Program}

theorem Rel.len_le {U : Nat → Prop} {E : Env} {w : World} {B : Nat → TB} {F : Nat → Prop} {base : Nat} {T : Ty} {o : Bool} {l : List (Val T)} {v : Value} (h : VA E w F U base (denV B (.view o T l)) v) : l.length ≤ 9223372036854775807 := by
  have : l.length ≤ maxLen := by
    cases o with
    | false => cases h with | d h1 => cases h1 with | view u q1 q2 q3 _ _ _ _ => rw [denS, List.length_map] at q1; omega
    | true => cases h with | lent u q1 q2 q3 _ _ _ _ => rw [denS, List.length_map] at q1; omega
  unfold maxLen at this
  exact this

theorem denS_length {T : Ty} (l : List (Val T)) : (denS l).length = l.length := by unfold denS; rw [List.length_map]

theorem sz_of {c : Cx} {U : Nat → Prop} {E : Env} {w : World} {B : Nat → TB} (hm : Mem c U (fun g => denB B (B g)) E w) {vs : List Nat} : ∀ (s : Sh) (x : s.V) (v k : Nat) (K : Prop), (∀ q ∈ (unparse vs s x v k).bs, B q.1 = q.2) →
    (∀ y ∈ (unparse vs s x v k).cs, ∃ u, VA E w (Fof E (fun g => denB B (B g))) U c.heap.size (denV B y) u) → s.sz x K → K
  | .view o T, l, v, k, K, hb, hc, h => h (by obtain ⟨u, hu⟩ := hc _ (List.mem_singleton.2 rfl); exact Rel.len_le hu)
  | .own T e, l, v, k, K, hb, hc, h => h (by
    have hbl := hm.blk k
    rw [show B k = .row T e l from hb (k, .row T e l) (by simp [unparse])] at hbl
    obtain ⟨_, _, _, h1, h2, _⟩ := hbl
    unfold maxLen at h1
    exact Nat.le_trans (Nat.le_trans (Nat.le_of_eq (denS_length (T := T) l).symm) h2.1) h1)
  | .pa T e, l, v, k, K, hb, hc, h => h (by
    have hbl := hm.blk k
    rw [show B k = .row T e l from hb (k, .row T e l) (by simp [unparse])] at hbl
    obtain ⟨_, _, _, h1, h2, _⟩ := hbl
    unfold maxLen at h1
    exact Nat.le_trans (Nat.le_trans (Nat.le_of_eq (denS_length (T := T) l).symm) h2.1) h1)
  | .arr T, l, v, k, K, hb, hc, h => h
  | .mpp _ _, l, v, k, K, hb, hc, h => h
  | .atp d s, x, v, k, K, hb, hc, h => sz_of hm s x.2 v k K hb (fun y hy => hc y (List.mem_cons_of_mem _ hy)) h
  | .var e s, x, v, k, K, hb, hc, h => by
    refine sz_of hm s x (v + 1) k K (fun q hq => hb q (by simp only [unparse, List.mem_cons]; exact .inr hq)) (fun y hy => ?_) h
    have hbl := hm.blk (vs.getD v 0)
    rw [show B (vs.getD v 0) = _ from hb (vs.getD v 0, .var e (unparse vs s x (v + 1) k).cs) (by simp [unparse])] at hbl
    obtain ⟨_, _, cur, _, _, h9⟩ := hbl
    obtain ⟨i, hi⟩ := List.getElem?_of_mem hy
    obtain ⟨_, u, _, hu⟩ := h9 i (denV B y) (by rw [denVs_map, List.getElem?_map, hi]; rfl)
    exact ⟨u, hu⟩
  | .pair a b, x, v, k, K, hb, hc, h => by
    simp only [unparse, List.mem_append] at hb hc
    refine sz_of hm b x.2 _ _ K (fun q hq => hb q (.inr hq)) (fun y hy => hc y (.inr hy)) ?_
    exact sz_of hm a x.1 v k _ (fun q hq => hb q (.inl hq)) (fun y hy => hc y (.inl hy)) h
  | .agg s, x, v, k, K, hb, hc, h => by
    obtain ⟨u, hu⟩ := hc _ (List.mem_singleton.2 rfl)
    refine sz_of hm s x v k K hb (fun y hy => ?_) h
    simp only [denV] at hu
    cases hu with
    | agg hl h' =>
      obtain ⟨i, hi⟩ := List.getElem?_of_mem hy
      have hil := (List.getElem?_eq_some_iff.1 hi).1
      have e1 : (denVs B (unparse vs s x v k).cs)[i]? = some (denV B y) := by rw [denVs_map, List.getElem?_map, hi]; rfl
      rw [denVs_map, List.length_map] at hl
      exact ⟨_, h' i _ _ e1 (List.getElem?_eq_getElem (by omega))⟩
  | .tup s, x, v, k, K, hb, hc, h => by
    obtain ⟨u, hu⟩ := hc _ (List.mem_singleton.2 rfl)
    refine sz_of hm s x v k K hb (fun y hy => ?_) h
    simp only [denV] at hu
    cases hu with
    | tup hl h' =>
      obtain ⟨i, hi⟩ := List.getElem?_of_mem hy
      have hil := (List.getElem?_eq_some_iff.1 hi).1
      have e1 : (denVs B (unparse vs s x v k).cs)[i]? = some (denV B y) := by rw [denVs_map, List.getElem?_map, hi]; rfl
      rw [denVs_map, List.length_map] at hl
      exact ⟨_, h' i _ _ e1 (List.getElem?_eq_getElem (by omega))⟩
  | .fn f s, x, v, k, K, hb, hc, h => by
    obtain ⟨u, hu⟩ := hc _ (List.mem_singleton.2 rfl)
    refine sz_of hm s x v k K hb (fun y hy => ?_) h
    simp only [denV] at hu
    cases hu with
    | fn hl h' =>
      obtain ⟨i, hi⟩ := List.getElem?_of_mem hy
      have hil := (List.getElem?_eq_some_iff.1 hi).1
      have e1 : (denVs B (unparse vs s x v k).cs)[i]? = some (denV B y) := by rw [denVs_map, List.getElem?_map, hi]; rfl
      rw [denVs_map, List.length_map] at hl
      exact ⟨_, h' i _ _ e1 (List.getElem?_eq_getElem (by omega))⟩
  | .int _, _, v, k, K, hb, hc, h => h
  | .bool, _, v, k, K, hb, hc, h => h
  | .unit, _, v, k, K, hb, hc, h => h
  | .any, _, v, k, K, hb, hc, h => h

def resRun (tmps : Array Value) : ResultVar → Sem Value
  | .tmp t => pure (tmps.getD t undef)
  | .cell p ty => do loadVar ty (← asAddr (tmps.getD p undef))
theorem results_eq (fn : Func) (tmps : Array Value) : results fn tmps = (do let vs ← fn.results.mapM (resRun tmps); pure (if h : vs.size = 1 then vs[0] else .tuple vs)) := by
  have e : (fun x => match x with | ResultVar.tmp t => (pure (tmps.getD t undef) : Sem Value) | .cell a t => do loadVar t (← asAddr (tmps.getD a undef))) = resRun tmps := by
    funext x
    cases x <;> rfl
  unfold results
  rw [← e]
  rfl

theorem resL_ok {nt : Nat} {c : Cx} {U : Nat → Prop} {σ : TS} {E : Env} {a : Act} {w : World} (hr : TRel c U nt σ E a w) : ∀ (rs : List ResultVar) (K : List TV → Prop), resL P σ rs K →
    ∃ (vs : List TV) (us : List Value), K vs ∧ us.length = vs.length ∧ (rs.mapM (resRun a.tmps)).run P w = .ok us w ∧ ∀ (i : Nat) (y : TV) (u : Value), vs[i]? = some y → us[i]? = some u → VA E w (Fof E σ.den.blk) U c.heap.size (denV σ.blk y) u
  | [], K, h => ⟨[], [], h, rfl, by simp, fun i y u h => by simp at h⟩
  | x :: rs, K, h => by
    have fin : ∀ (y : TV) (u : Value), (resRun a.tmps x).run P w = .ok u w → VA E w (Fof E σ.den.blk) U c.heap.size (denV σ.blk y) u → resL P σ rs (fun vs => K (y :: vs)) →
        ∃ (vs : List TV) (us : List Value), K vs ∧ us.length = vs.length ∧ ((x :: rs).mapM (resRun a.tmps)).run P w = .ok us w ∧ ∀ (i : Nat) (y : TV) (u : Value), vs[i]? = some y → us[i]? = some u → VA E w (Fof E σ.den.blk) U c.heap.size (denV σ.blk y) u := fun y u h1 h2 h3 => by
      obtain ⟨vs, us, q1, q2, q3, q4⟩ := resL_ok hr rs _ h3
      refine ⟨y :: vs, u :: us, q1, by simp [q2], ?_, fun i y' u' hy hu => ?_⟩
      · rw [List.mapM_cons]
        simp only [Sem.run_bind, h1, Result.andThen_ok, q3, Sem.run_pure]
      · cases i with
        | zero =>
          obtain rfl : y = y' := by simpa using hy
          obtain rfl : u = u' := by simpa using hu
          exact h2
        | succ i => exact q4 i y' u' (by simpa using hy) (by simpa using hu)
    cases x with
    | tmp t => exact fin (σ.tmp t) (a.tmps.getD t undef) (by simp only [resRun, Sem.run_pure]) (hr.tmp t) h
    | cell t ty =>
      simp only [resL] at h
      split at h
      · rename_i TT l n hra
        unfold resArr at hra
        split at hra
        · rename_i g ht hx
          split at hra
          · rename_i T' e l' n' hb hty
            obtain ⟨h1, h2⟩ := bif_so hra
            cases h2
            simp only [Bool.and_eq_true] at h1
            have hps := plain_size h1.1
            have hn1 := Nat.le_of_ble_eq_true h1.2
            obtain ⟨us, _, hl, hva⟩ := load_arr (P := P) (n := n) (e := e) (es := denS l) hr (by show denB _ (σ.blk g) = _; rw [hb]; rfl) (denS_ne (by rintro rfl; have := h.1; simp at this; omega)) (by rw [denS_flen, hps, Nat.mul_one]; exact h.1)
            have hpt := hr.tmp t
            rw [show σ.den.tmp t = .ptr g 0 0 by show denV _ (σ.tmp t) = _; rw [hx]; rfl] at hpt
            obtain ⟨hpv, _⟩ := ptr_of hpt
            refine fin (.arr TT l) (.agg us.toArray) ?_ hva h.2
            simp only [resRun, hpv]
            simp [asAddr, loadVar, Sem.run_bind, (tyOf_run hty w).1, (tyOf_run hty w).2, hl]
          · cases hra
        · cases hra
      split at h
      · rename_i b n ht
        obtain ⟨cs, rb, h1, h2⟩ := readC_ok h
        obtain ⟨bl, off, q1, q2⟩ := (h2 σ (fun _ _ => rfl)).cells hr (hr.tmp t)
        cases b with
        | false =>
          simp only [cond_false] at h1
          split at h1
          · rename_i v rest
            obtain ⟨_, u, q3, q4⟩ := q2 0 (denV σ.blk v) rfl
            have hl : w.cell? ⟨bl, off, none⟩ = some u := q3
            refine fin v u ?_ q4 h1
            simp only [resRun, q1]
            simp [asAddr, loadVar, Sem.run_bind, (tyOf_run ht w).1, hl]
          · exact h1.elim
        | true =>
          simp only [cond_true] at h1
          split at h1
          · rename_i ws hw
            have hw' := takeO_map (denV σ.blk) hw
            obtain ⟨hn, hv'⟩ := takeO_eq hw'
            rw [List.length_map] at hn
            rw [denVs_map] at q2
            obtain ⟨f, hf⟩ := Go.Deep.choose_lt (n := n) (p := fun i u => w.cell? ⟨bl, off + i, none⟩ = some u ∧ ∀ y, (cs.map (denV σ.blk))[i]? = some y → VA E w (Fof E σ.den.blk) U c.heap.size y u) fun i hi => by
              obtain ⟨y, hy⟩ : ∃ y, (cs.map (denV σ.blk))[i]? = some y := ⟨_, List.getElem?_eq_getElem (by simpa using Nat.lt_of_lt_of_le hi hn)⟩
              obtain ⟨_, u, h4, h5⟩ := q2 i y hy
              exact ⟨u, h4, fun y' hy' => by rw [hy] at hy'; cases hy'; exact h5⟩
            have hl : (loadCells ⟨bl, off, none⟩ n).run P w = .ok ((List.range n).map f).toArray w := by
              have := run_loadCells_list (P := P) (w := w) ⟨bl, off, none⟩ ((List.range n).map f) fun j u hu => by
                have hj : j < n := by have := (List.getElem?_eq_some_iff.1 hu).1; simpa using this
                rw [List.getElem?_map, List.getElem?_range hj] at hu
                obtain rfl : f j = u := by simpa using hu
                rw [addr_add]
                exact (hf j hj).1
              simpa using this
            refine fin (.agg ws) (.agg ((List.range n).map f).toArray) ?_ ?_ h1
            · simp only [resRun, q1]
              simp [asAddr, loadVar, Sem.run_bind, (tyOf_run ht w).1, (tyOf_run ht w).2, hl]
            · simp only [denV]
              rw [denVs_map, ← hv']
              refine .agg (by simp; omega) fun i y u hy hu => ?_
              have hj : i < n := by have := (List.getElem?_eq_some_iff.1 hu).1; simpa using this
              rw [List.getElem?_map, List.getElem?_range hj] at hu
              obtain rfl : f i = u := by simpa using hu
              rw [List.getElem?_take_of_lt hj] at hy
              exact (hf i hj).2 y hy
          · exact h1.elim
      · exact h.elim

theorem resV_ok {E : Env} {w : World} {F U : Nat → Prop} {base : Nat} {B : Nat → TB} : ∀ {vs : List TV} {us : List Value}, us.length = vs.length → (∀ (i : Nat) (y : TV) (u : Value), vs[i]? = some y → us[i]? = some u → VA E w F U base (denV B y) u) → VA E w F U base (denV B (resV vs)) (if h : us.length = 1 then us[0] else .tuple us.toArray)
  | [x], [u], h, hv => hv 0 x u rfl rfl
  | [], [], h, hv => .tup (vs := []) (us := []) rfl fun i x u h => by simp at h
  | x :: y :: vs, [], h, _ => by simp at h
  | x :: y :: vs, [u], h, _ => by simp at h
  | x :: y :: vs, u :: u' :: us, h, hv => by
    simp only [resV, denV]
    refine .tup (by rw [denVs_map, List.length_map]; exact h.symm) fun i a b ha hb => ?_
    rw [denVs_map, List.getElem?_map] at ha
    obtain ⟨z, hz, rfl⟩ := Option.map_eq_some_iff.1 ha
    exact hv i z b hz hb
  | [], _ :: _, h, _ => by simp at h
  | [_], [], h, _ => by simp at h
  | [_], _ :: _ :: _, h, _ => by simp at h

theorem hot_den {B B' : Nat → TB} {E : Env} {k : Nat} {b : TB} : Hot E k (denB B b) ↔ Hot E k (denB B' b) := by cases b <;> exact Iff.rfl

theorem VA.frz {nt : Nat} {c : Cx} {U : Nat → Prop} {σ : TS} {E : Env} {a : Act} {w : World} (hr : TRel c U nt σ E a w) {g : Nat} {T : Ty} {e : TypeId} {l : List (Val T)} (hb : σ.blk g = .row T e l) {y : TV} {u : Value} (h : VA E w (Fof E σ.den.blk) U c.heap.size (denV σ.blk y) u) :
    VA E w (Fof E (fun k => denB (upd σ.blk g (.frz T l)) (upd σ.blk g (.frz T l) k))) U c.heap.size (denV (upd σ.blk g (.frz T l)) y) u := by
  have h1 := VA.weak hr (gs := [g]) (denV_frz hb y) h
  have e1 : Fof E (killed σ.den.blk [g]) = Fof E (fun k => denB (upd σ.blk g (.frz T l)) (upd σ.blk g (.frz T l) k)) := by
    funext b
    have key : ∀ k, Hot E k (killed σ.den.blk [g] k) ↔ Hot E k (denB (upd σ.blk g (.frz T l)) (upd σ.blk g (.frz T l) k)) := fun k => by
      by_cases hk : k = g
      · subst hk; rw [killed_in (by simp), upd_same]; exact Iff.rfl
      · rw [killed_out (by simpa using hk), upd_other _ _ _ hk]; exact hot_den
    exact propext ⟨fun ⟨k, q1, q2⟩ => ⟨k, (key k).1 q1, q2⟩, fun ⟨k, q1, q2⟩ => ⟨k, (key k).2 q1, q2⟩⟩
  rw [e1] at h1
  exact h1
theorem VA.frzs {nt : Nat} {c : Cx} {U : Nat → Prop} {E : Env} {a : Act} {w : World} {y : TV} {u : Value} : ∀ (fz : List (Nat × TB)) (σ : TS), (∀ p ∈ fz, ∃ (T : Ty) (l : List (Val T)), p.2 = .frz T l ∧ ((∃ e, σ.blk p.1 = .row T e l) ∨ σ.blk p.1 = .frz T l)) → TRel c U nt σ E a w → VA E w (Fof E σ.den.blk) U c.heap.size (denV σ.blk y) u →
    VA E w (Fof E (fun k => denB (tupsOf σ.blk fz) (tupsOf σ.blk fz k))) U c.heap.size (denV (tupsOf σ.blk fz) y) u
  | [], σ, _, hr, h => h
  | p :: fz, σ, hp, hr, h => by
    obtain ⟨T, l, h1, h2⟩ := hp p (by simp)
    have hr' : TRel c U nt ⟨σ.tmp, upd σ.blk p.1 p.2⟩ E a w ∧ VA E w (Fof E (TS.mk σ.tmp (upd σ.blk p.1 p.2)).den.blk) U c.heap.size (denV (upd σ.blk p.1 p.2) y) u := by
      rcases h2 with ⟨e, h2⟩ | h2
      · rw [h1]; exact ⟨hr.frz h2, VA.frz hr h2 h⟩
      · have : upd σ.blk p.1 p.2 = σ.blk := by
          funext g
          by_cases hg : g = p.1
          · subst hg; rw [upd_same, h1, h2]
          · rw [upd_other _ _ _ hg]
        rw [this]; exact ⟨hr, h⟩
    refine VA.frzs fz ⟨σ.tmp, upd σ.blk p.1 p.2⟩ (fun q hq => ?_) hr'.1 hr'.2
    obtain ⟨T', l', h3, h4⟩ := hp q (List.mem_cons_of_mem _ hq)
    refine ⟨T', l', h3, ?_⟩
    show (∃ e, upd σ.blk p.1 p.2 q.1 = _) ∨ upd σ.blk p.1 p.2 q.1 = _
    by_cases hg : q.1 = p.1
    · rw [hg, upd_same, h1]
      rw [hg] at h4
      rcases h2 with ⟨e, h2⟩ | h2 <;> rcases h4 with ⟨e', h4⟩ | h4 <;> (rw [h2] at h4; cases h4) <;> exact .inr rfl
    · rw [upd_other _ _ _ hg]; exact h4

/-- The state in which a function begins. -/
theorem SC.start {fn : Func} {S : Spec} (hs : specOk fn S = true) {x : S.sig.V} (hn : (S.inU x).cs.length ≤ fn.ntmps) {w : World} {U : Nat → Prop} {E : Env} {vs : List Value} (hm : Mem (Cx.call w (Fof E fun g => denB (bsOf (S.inU x).bs) (bsOf (S.inU x).bs g)) (· < S.sig.nv) E) U (fun g => denB (bsOf (S.inU x).bs) (bsOf (S.inU x).bs g)) E w) (hl : vs.length = (S.inU x).cs.length)
    (hv : ∀ (i : Nat) (y : AV) (v : Value), ((S.inU x).cs.map (denV (bsOf (S.inU x).bs)))[i]? = some y → vs[i]? = some v → VA E w (Fof E fun g => denB (bsOf (S.inU x).bs) (bsOf (S.inU x).bs g)) U w.heap.size y v) :
    Fresh (startS S x) (S.sig.nv + S.sig.nr) ∧ TRel (Cx.call w (Fof E fun g => denB (bsOf (S.inU x).bs) (bsOf (S.inU x).bs g)) (· < S.sig.nv) E) U fn.ntmps (startS S x) E { tmps := vs.toArray ++ Array.replicate (fn.ntmps - vs.toArray.size) undef, defers := [] } w ∧ ∀ K, S.sig.sz x K → K := by
  simp only [specOk, Bool.and_eq_true] at hs
  obtain ⟨⟨⟨⟨s1, s2⟩, s3⟩, s4⟩, s5⟩ := hs
  have h64 := Nat.le_of_ble_eq_true s1
  have hnames := fun g => unparse_names (List.range S.sig.nv) g S.sig x 0 S.sig.nv
  have hinN : ((S.inU x).bs.map (·.1)).Nodup := unparse_nodup _ S.sig x 0 S.sig.nv S.sig.nv 0 ⟨fun i j hi hj h => by rwa [range_getD hi, range_getD hj] at h, fun i hi => by rw [range_getD hi]; omega⟩ (Nat.zero_le _) (by omega)
  refine ⟨fun g hg => bsOf_out fun hm => ?_, ⟨hm, by simp; omega, ⟨rfl, fun D hD => by cases hD⟩, fun t => ?_⟩, fun K => sz_of (B := bsOf (S.inU x).bs) hm S.sig x 0 S.sig.nv K (fun q hq => tups_in _ _ hinN q hq) (fun y hy => ?_)⟩
  · rcases (hnames g).1 hm with ⟨i, h1, h2⟩ | h1
    · rw [Nat.zero_add, range_getD h1] at h2; omega
    · omega
  · show VA _ _ _ _ _ (denV _ ((S.inU x).cs.getD t .und)) _
    by_cases ht : t < (S.inU x).cs.length
    · have e1 : (S.inU x).cs[t]? = some (S.inU x).cs[t] := List.getElem?_eq_getElem ht
      have e2 : vs[t]? = some (vs[t]'(by omega)) := List.getElem?_eq_getElem (by omega)
      have e3 : (vs.toArray ++ Array.replicate (fn.ntmps - vs.toArray.size) undef).getD t undef = vs[t]'(by omega) := by
        rw [Array.getD_eq_getD_getElem?, Array.getElem?_append_left (by simp; omega)]
        simp [e2]
      rw [e3, List.getD_eq_getElem?_getD, e1]
      exact hv t _ _ (by rw [List.getElem?_map, e1]; rfl) e2
    · rw [List.getD_eq_getElem?_getD, List.getElem?_eq_none (by omega)]
      exact .und _
  · obtain ⟨i, hi⟩ := List.getElem?_of_mem hy
    have hil := (List.getElem?_eq_some_iff.1 hi).1
    exact ⟨_, hv i (denV (bsOf (S.inU x).bs) y) vs[i]! (by rw [List.getElem?_map, show (S.inU x).cs[i]? = some y from hi]; rfl) (by
      have : i < vs.length := by rw [hl]; exact hil
      simp [this])⟩
theorem Fresh.up {σ : TS} {k k' : Nat} (h : Fresh σ k) (hk : k ≤ k') : Fresh σ k' := fun g hg => h g (Nat.le_trans hk hg)
/-- The state in which it ends. -/
theorem SC.fin0 {fn : Func} {S : Spec} (hs : specOk fn S = true) {x : S.sig.V} {w w' : World} {U : Nat → Prop} {E E1 : Env} {σ : TS} {a : Act} (h1 : TRel (Cx.call w (Fof E fun g => denB (bsOf (S.inU x).bs) (bsOf (S.inU x).bs g)) (· < S.sig.nv) E) U fn.ntmps σ E1 a w') (hfin : finK P fn S x σ) :
    a.defers = [] ∧ ∃ v, (results fn a.tmps).run P w' = .ok v w' ∧ ∃ r B' v' E', (r = denV (bsOf (S.outU (S.fn x)).bs) ((S.outU (S.fn x)).cs.headD .und) ∧ B' = fun g => denB (bsOf (S.outU (S.fn x)).bs) (bsOf (S.outU (S.fn x)).bs g)) ∧ Ending.returned v = .returned v' ∧
      Mem (Cx.call w (Fof E fun g => denB (bsOf (S.inU x).bs) (bsOf (S.inU x).bs g)) (· < S.sig.nv) E) U B' E' w' ∧ VA E' w' (Fof E' B') U w.heap.size r v' := by
  simp only [specOk, Bool.and_eq_true] at hs
  obtain ⟨⟨⟨⟨s1, s2⟩, s3⟩, s4⟩, s5⟩ := hs
  have h64 := Nat.le_of_ble_eq_true s1
  have hnv : S.fin.nv = S.sig.nv := Nat.eq_of_beq_eq_true s5
  unfold finK at hfin
  obtain ⟨tvs, us, hK, hul, hrun, hva⟩ := resL_ok h1 _ _ hfin
  split at hK
  · rename_i p hp
    obtain ⟨h2, h3⟩ := bif_t hK
    simp only [Bool.and_eq_true] at h2
    obtain ⟨hps, hx⟩ := conj_of h3
    have hvs : p.vs = List.range S.sig.nv := of_decide_eq_true h2.2
    have hok' := h2.1
    simp only [PR.okB, Bool.and_eq_true] at hok'
    have hnd := nodupB_ok hok'.1.1.2
    have pk := parse_pk hp hps
    obtain ⟨hf', hmid⟩ := mid_of h2.1 pk.pk (B' := σ.blk) fun _ _ => rfl
    generalize hB1 : tupsOf σ.blk p.fz = B1 at hmid
    have hr1 : TRel (Cx.call w (Fof E fun g => denB (bsOf (S.inU x).bs) (bsOf (S.inU x).bs g)) (· < S.sig.nv) E) U fn.ntmps ⟨σ.tmp, B1⟩ E1 a w' := by rw [← hB1]; exact h1.frzs hf'
    have hm1 : Mem (Cx.call w (Fof E fun g => denB (bsOf (S.inU x).bs) (bsOf (S.inU x).bs g)) (· < S.sig.nv) E) U (fun g => denB B1 (B1 g)) E1 w' := hr1.mem
    have hva1 : ∀ (i : Nat) (y : TV) (u : Value), tvs[i]? = some y → us[i]? = some u → VA E1 w' (Fof E1 (fun g => denB B1 (B1 g))) U w.heap.size (denV B1 y) u := fun i y u hy hu => by
      have := VA.frzs p.fz σ (fun q hq => by obtain ⟨T, e, l, q1, q2⟩ := hf' q hq; exact ⟨T, l, q2, .inl ⟨e, q1⟩⟩) h1 (hva i y u hy hu)
      rw [hB1] at this
      exact this
    have hvr := resV_ok hul hva1
    have hrun' : (results fn a.tmps).run P w' = .ok (if h : us.length = 1 then us[0] else .tuple us.toArray) w' := by
      rw [results_eq, Sem.run_bind]
      have hm' : (fn.results.mapM (resRun a.tmps)).run P w' = .ok us.toArray w' := by
        rw [Array.mapM_eq_mapM_toList]
        simp [hrun]
      simp only [hm', Result.andThen_ok]
      simp
    have hRv : ∀ (i g : Nat), p.vs[i]? = some g → (((List.range S.sig.nv).getD (0 + i) 0) < S.sig.nv + p.rs.length ∧ rhoOf S.sig.nv p.vs p.rs ((List.range S.sig.nv).getD (0 + i) 0) = g) := fun i g hi => by
      have hlt : i < S.sig.nv := by have := (List.getElem?_eq_some_iff.1 hi).1; rw [hvs, List.length_range] at this; exact this
      rw [Nat.zero_add, range_getD hlt]
      refine ⟨by omega, ?_⟩
      unfold rhoOf
      rw [if_pos hlt, List.getD_eq_getElem?_getD, hi]; rfl
    have hRr : ∀ (j g : Nat), p.rs[j]? = some g → (S.sig.nv + j < S.sig.nv + p.rs.length ∧ rhoOf S.sig.nv p.vs p.rs (S.sig.nv + j) = g) := fun j g hj => by
      have hlt := (List.getElem?_eq_some_iff.1 hj).1
      refine ⟨by omega, ?_⟩
      unfold rhoOf
      rw [if_neg (by omega), Nat.add_sub_cancel_left, List.getD_eq_getElem?_getD, hj]; rfl
    have hoN : ((S.outU p.x).bs.map (·.1)).Nodup := unparse_nodup _ S.fin _ 0 S.sig.nv S.fin.nv 0 ⟨fun i j hi hj h => by rwa [range_getD (by omega), range_getD (by omega)] at h, fun i hi => by rw [range_getD (by omega)]; omega⟩ (Nat.zero_le _) (by omega)
    obtain ⟨_, _, _, pre, hxs, hcv, hbs⟩ := parse_ok (B := σ.blk) (B1 := B1) (B2 := bsOf (S.outU p.x).bs) (ld := false) (R := fun g g' => g' < S.sig.nv + p.rs.length ∧ rhoOf S.sig.nv p.vs p.rs g' = g) (al := fun _ => True) (fz := fun _ => False) (ln := fun _ => False) trivial (fun _ => trivial)
      (vs := List.range S.sig.nv) (v := 0) (k := S.sig.nv) hp hps hmid hRv hRr (fun g hg => absurd hg (by rw [parse_ln hp]; simp)) (fun q hq => tups_in _ _ hoN q hq)
    rw [isEmpty_nil hok'.1.1.1, List.append_nil] at hxs
    subst hxs
    have hpvl : p.vs.length = S.sig.nv := by rw [hvs, List.length_range]
    have rc : Recast (Cx.call w (Fof E fun g => denB (bsOf (S.inU x).bs) (bsOf (S.inU x).bs g)) (· < S.sig.nv) E) U (fun g => denB B1 (B1 g)) E1 w' (rhoOf S.sig.nv p.vs p.rs) (fun g => g < S.sig.nv + p.rs.length) (fun g => denB (bsOf (S.outU p.x).bs) (bsOf (S.outU p.x).bs g)) (Cx.call w (Fof E fun g => denB (bsOf (S.inU x).bs) (bsOf (S.inU x).bs g)) (· < S.sig.nv) E) U (fun _ => True) (fun _ => False) (fun _ => False) := by
      refine Recast.here trivial hm1 (fun g hg => ?_) (fun g hg => ?_) (fun g g' hg hg' _ _ _ h => rho_inj hpvl hnd hg hg' h) (fun g hg => hg.elim)
      · have hmem : g ∈ (S.outU p.x).bs.map (·.1) := (unparse_names _ g S.fin p.x 0 S.sig.nv).2 (by
          by_cases h : g < S.sig.nv
          · exact .inl ⟨g, by omega, by rw [Nat.zero_add, range_getD h]⟩
          · exact .inr ⟨by omega, by rw [← pk.nr]; exact hg⟩)
        obtain ⟨q, hq, rfl⟩ := List.mem_map.1 hmem
        obtain ⟨g0, ⟨r1, r2⟩, r3, r4⟩ := hbs q hq
        have r5 := tups_in _ (fun _ => .free) hoN q hq
        show BCv _ _ _ _ _ (denB B1 (B1 (rhoOf S.sig.nv p.vs p.rs q.1))) (denB _ (bsOf (S.outU p.x).bs q.1))
        rw [r2, show bsOf (S.outU p.x).bs q.1 = q.2 from r5]
        rcases r4 with ⟨r6, r7⟩ | ⟨e, cs1, cs2, r6, r7, r8, r9, r10⟩
        · rw [hmid.keep g0 (List.mem_append.2 (.inr r6))]
          exact r7.bcv _ _
        · rw [(hmid.keep g0 (List.mem_append.2 (.inl r6))).trans r7, r8]
          exact .var r10.1 (by rw [leaves_den]; exact unparse_varleaf _ S.fin p.x 0 S.sig.nv s3 q hq e cs2 r8) r10.2
      · rw [bsOf_out (fun hm => by
          rcases (unparse_names _ g S.fin p.x 0 S.sig.nv).1 hm with ⟨i, r1, r2⟩ | r1
          · rw [Nat.zero_add, range_getD (by omega)] at r2; omega
          · have := pk.nr; omega)]
        rfl
    have hm2 := rc.mem_ hm1.below ⟨hm1.pins.1, fun g b hp' => by
      have hg : g < S.sig.nv := hp'.1
      have hk := hm1.pins.2 g b hp'
      have hρ : rhoOf S.sig.nv p.vs p.rs g = g := by unfold rhoOf; rw [if_pos hg, hvs, range_getD hg]
      refine ⟨⟨by omega, by rw [hρ]; exact hk.1⟩, ?_⟩
      show (E1.β (rhoOf S.sig.nv p.vs p.rs g), E1.sz (rhoOf S.sig.nv p.vs p.rs g), E1.cap (rhoOf S.sig.nv p.vs p.rs g), E1.vr (rhoOf S.sig.nv p.vs p.rs g)) = b
      rw [hρ]; exact hk.2⟩
    refine ⟨h1.defers.1, _, hrun', _, _, _, _, ⟨rfl, rfl⟩, rfl, by rw [← hx]; exact hm2, ?_⟩
    rw [← hx]
    have hl := hcv.1
    rw [denVs_map, denVs_map, List.length_map, List.length_map, List.length_cons] at hl
    cases ho : (S.outU p.x).cs with
    | nil => rw [show (unparse (List.range S.sig.nv) S.fin p.x 0 S.sig.nv).cs = [] from ho] at hl; simp at hl
    | cons q qs =>
      refine rc.tr.va (hcv.2 0 _ _ rfl ?_) hvr
      rw [show (unparse (List.range S.sig.nv) S.fin p.x 0 S.sig.nv).cs = q :: qs from ho]
      rfl
  · exact hK.elim
theorem SC.fin {fn : Func} {S : Spec} (hs : specOk fn S = true) {x : S.sig.V} {w w' : World} {U : Nat → Prop} {E E1 : Env} {σ : TS} {k' : Nat} {a : Act} (hfk : Fresh σ k') (h1 : TRel (Cx.call w (Fof E fun g => denB (bsOf (S.inU x).bs) (bsOf (S.inU x).bs g)) (· < S.sig.nv) E) U fn.ntmps σ E1 a w') (hend : adoptK fn.ntmps (adOf fn S) (fun _ => false) σ k' (fun σ _ => finK P fn S x σ)) :
    a.defers = [] ∧ ∃ v, (results fn a.tmps).run P w' = .ok v w' ∧ ∃ r B' v' E', (r = denV (bsOf (S.outU (S.fn x)).bs) ((S.outU (S.fn x)).cs.headD .und) ∧ B' = fun g => denB (bsOf (S.outU (S.fn x)).bs) (bsOf (S.outU (S.fn x)).bs g)) ∧ Ending.returned v = .returned v' ∧
      Mem (Cx.call w (Fof E fun g => denB (bsOf (S.inU x).bs) (bsOf (S.inU x).bs g)) (· < S.sig.nv) E) U B' E' w' ∧ VA E' w' (Fof E' B') U w.heap.size r v' := by
  obtain ⟨σ1, k1, r1, r2, r3, r4, r5⟩ := adoptK_ok _ σ k' _ hfk hend
  obtain ⟨E2, r6⟩ := r1 _ _ _ _ _ h1
  exact SC.fin0 hs r6 r5

/-- A function keeps its word if what is to be shown of it holds. -/
theorem SC.of {f : FuncId} {fn : Func} {c : Code} {S : Spec} {Δ : List (FuncId × Spec)} {ann : (x : S.sig.V) → Nat → Option LA} (hf : P.funcs[f]? = some fn) (hb : fn.body = some c) (hs : specOk fn S = true) (hn : ∀ x, (S.inU x).cs.length ≤ fn.ntmps) (hΔ : DOk P Δ) (h : VC P fn c S Δ ann) : SC P f S := fun hnv x hpre w U E vs hm hkn hl hv => by
  rw [List.length_map] at hl
  obtain ⟨hfresh, hr, hsz⟩ := SC.start hs (hn x) hm hl hv
  have h64 : S.sig.nv + S.sig.nr ≤ 64 := by
    simp only [specOk, Bool.and_eq_true] at hs
    exact Nat.le_of_ble_eq_true hs.1.1.1.1
  refine calls_of_wp hf hb ?_
  refine wp_mono (wpIn_wide.1 (evC_ok hΔ c _ 0 _ (startS S x) 64 (hfresh.up h64) (hsz _ (h x hpre)) none 0 _ U E _ w hr)) fun e a w' ⟨σ, E1, h1, ⟨k', hk', hfk, _, hend⟩⟩ => ?_
  cases e with
  | normal => exact SC.fin hs hfk h1 hend
  | ret => exact SC.fin hs hfk h1 hend
  | _ => exact hend.elim
end
end Go.Proofs.Ytmkfpfnjimmmaaa
