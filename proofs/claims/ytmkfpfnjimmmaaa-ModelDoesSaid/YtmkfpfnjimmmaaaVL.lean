/- The walk, computed, is a walk: regions. Nothing of the dump stands here. -/
import Derived.Test.YtmkfpfnjimmmaaaVU
namespace Go.Proofs.Ytmkfpfnjimmmaaa
open Go.RowKit
set_option linter.unusedVariables false
set_option linter.unusedSimpArgs false

/-- The functions' words that may be leant on. -/
def DOk (P : Program) (Δ : List (FuncId × Spec)) : Prop := ∀ p ∈ Δ, SC P p.1 p.2 ∧ ∀ (us : Array Value) (u : World), (callFunc p.1 us).run P u = .ok (.enter p.1 us) u

section
variable {P : Program} {Δ : List (FuncId × Spec)} {nt : Nat} {ops : Array Oper} {AQ : Exit → TS → Prop}

theorem args_of {o : Oper} {σ : TS} {f : Operand} {as' : Array Operand} {ts : Array TypeId} {g : FuncId} {caps : List TV} (ho : o.op = .call ⟨.value f, as', ts⟩) (hf : σ.eval f = .fn g caps) (henter : ∀ (us : Array Value) (u : World), (callFunc g us).run P u = .ok (.enter g us) u) :
    ∀ (c : Cx) (U : Nat → Prop) (E : Env) (a : Act) (w : World) (σ' : TS), TRel c U nt σ' E a w → (∀ t ∈ tmpsIn (f :: as'.toList), σ'.tmp t = σ.tmp t) → ∃ vals : List Value, (execOp a.eval o).run P w = .ok (.enter g vals.toArray) w ∧ vals.length = (as'.toList.map σ.eval ++ caps).length ∧
      ∀ (i : Nat) (x : TV) (v : Value), (as'.toList.map σ.eval ++ caps)[i]? = some x → vals[i]? = some v → VA E w (Fof E σ'.den.blk) U c.heap.size (denV σ'.blk x) v := fun c U E a w σ' hr ha => by
  have hev : ∀ x ∈ f :: as'.toList, σ'.eval x = σ.eval x := fun x hx => by
    cases x with
    | tmp t => exact ha t (tmpsIn_mem hx)
    | _ => rfl
  have h1 := Rel.eval hr f
  rw [TS.eval_den, hev f (by simp), hf] at h1
  simp only [denV] at h1
  generalize hfv : a.eval f = fv at h1
  cases h1 with
  | @fn _ _ us hl h =>
    refine ⟨as'.toList.map a.eval ++ us, ?_, by rw [denVs_map, List.length_map] at hl; simp [hl], fun i x v hx hv => ?_⟩
    · rw [execOp, ho]
      have : (as'.toList.map a.eval ++ us).toArray = as'.map a.eval ++ us.toArray := by
        apply Array.ext'
        simp
      rw [this]
      simp [resolve, hfv, Deferred.ofValue, invoke, henter]
    · by_cases hi : i < as'.toList.length
      · rw [List.getElem?_append_left (by simpa using hi), List.getElem?_map, List.getElem?_eq_getElem hi] at hx hv
        obtain rfl : σ.eval as'.toList[i] = x := by simpa using hx
        obtain rfl : a.eval as'.toList[i] = v := by simpa using hv
        have := Rel.eval hr as'.toList[i]
        rw [TS.eval_den, hev _ (List.mem_cons_of_mem _ (List.getElem_mem hi))] at this
        exact this
      · rw [List.getElem?_append_right (by simpa using hi)] at hx hv
        simp only [List.length_map] at hx hv
        exact h _ _ v (by rw [denVs_map, List.getElem?_map, hx]; rfl) hv

theorem specsK_ok {o : Oper} {σ : TS} {k : Nat} {KK : TInfo → Nat → Prop} {f : Operand} {as' : Array Operand} {ts : Array TypeId} {g : FuncId} {caps : List TV} (ho : o.op = .call ⟨.value f, as', ts⟩) (hd : dstOk o nt = true) (hf : σ.eval f = .fn g caps) :
    ∀ (L : List (FuncId × Spec)), DOk P L → specsK g (as'.toList.map σ.eval ++ caps) (tmpsIn (f :: as'.toList)) σ k KK L → ∃ fi k', TDoesB P nt o σ fi ∧ KK fi k'
  | [], _, h => h.elim
  | (g', S) :: L, hL, h => by
    have hL' : DOk P L := fun p hp => hL p (List.mem_cons_of_mem _ hp)
    simp only [specsK] at h
    cases hg : Nat.beq g' g with
    | false => rw [hg] at h; exact specsK_ok ho hd hf L hL' h
    | true =>
      rw [hg] at h
      simp only [cond_true] at h
      obtain rfl := Nat.eq_of_beq_eq_true hg
      obtain ⟨hS, henter⟩ := hL _ (List.mem_cons_self ..)
      split at h
      · rename_i q hq
        unfold specK at hq
        split at hq
        · rename_i p hp
          cases hq
          obtain ⟨h1, h2⟩ := bif_t h
          simp only [Bool.and_eq_true] at h1
          obtain ⟨⟨⟨⟨⟨⟨q1, q2⟩, q3⟩, q4⟩, q5⟩, q6⟩, q7⟩ := h1
          obtain ⟨h3, h4, h5⟩ := conj_of h2
          split at h5
          · rename_i r1 rs1 hcs
            exact ⟨_, _, T.call hS (args_of ho hf henter) hp q1 h3 h4 (Nat.eq_of_beq_eq_true q2) q3 q4 q5 q7 hcs (Nat.le_of_ble_eq_true q6) hd, h5⟩
          · exact h5.elim
        · cases hq
      · exact specsK_ok ho hd hf L hL' h

theorem callK_ok (hΔ : DOk P Δ) : CallOk P nt (callK Δ) := fun o f as' ts σ k KK ho hd h => by
  unfold callK at h
  split at h
  · rename_i g caps hf
    exact specsK_ok ho hd hf Δ hΔ h
  · exact h.elim

theorem step_fresh {lk : Nat → Bool} {σ : TS} {k k' : Nat} {dst : Option Tmp} {s : TStep} (hf : Fresh σ k) (h : s.ups.all (fun p => Nat.blt p.1 k' && !lk p.1) = true) (hk : k ≤ k') : Fresh (σ.step dst s) k' ∧ Fr lk dst.toList σ (σ.step dst s) := by
  have hu : ∀ p ∈ s.ups, p.1 < k' ∧ lk p.1 = false := fun p hp => by
    have := List.all_eq_true.1 h p hp
    simp only [Bool.and_eq_true, Bool.not_eq_true'] at this
    exact ⟨Nat.le_of_ble_eq_true this.1, this.2⟩
  refine ⟨fun g hg => ?_, fun t ht => ?_, fun g hg => ?_⟩
  · show tupsOf σ.blk s.ups g = _
    rw [tupsOf_out _ _ _ (fun hm => by obtain ⟨p, hp, rfl⟩ := List.mem_map.1 hm; have := (hu p hp).1; omega)]
    exact hf g (by omega)
  · show tputOf σ.tmp dst s.v t = _
    cases dst with
    | none => rfl
    | some d => exact upd_other _ _ _ (by rintro rfl; exact ht (by simp))
  · show tupsOf σ.blk s.ups g = _
    exact tupsOf_out _ _ _ (fun hm => by obtain ⟨p, hp, rfl⟩ := List.mem_map.1 hm; rw [(hu p hp).2] at hg; cases hg)

/-- What an operation, wanted, leads to. -/
def TGo (P : Program) (nt : Nat) (o : Oper) (σ : TS) (Kp : TS → Prop) : Prop :=
  ∀ (c : Cx) (U : Nat → Prop) (E : Env) (a : Act) (w : World) (N : Act → World → Prop) (Q : Exit → Act → World → Prop), TRel c U nt σ E a w → (∀ σ' E' a' w', Kp σ' → TRel c U nt σ' E' a' w' → N a' w') → o.wp P a w N Q

theorem TGo.of {o : Oper} {σ : TS} {f : TInfo} {Kp : TS → Prop} (h : TDoesB P nt o σ f) (hk : Kp (σ.step o.dst f.step)) : TGo P nt o σ Kp := fun c U E a w N Q hr hN =>
  h σ (TAgree.refl _ _) c U E a w N Q hr fun E' a' w' hr' => hN _ E' a' w' hk hr'

/-- What is known behind an operation. -/
def Aft (lk : Nat → Bool) (D : List Nat) (σ : TS) (k : Nat) (K : TS → Nat → Prop) (σ' : TS) : Prop := ∃ k', k ≤ k' ∧ Fresh σ' k' ∧ Fr lk D σ σ' ∧ K σ' k'

theorem opK_go (hΔ : DOk P Δ) {lk : Nat → Bool} {o : Oper} {σ : TS} {k : Nat} {K : TS → Nat → Prop} (hd : dstOk o nt = true) (hf : Fresh σ k) (h : opK P (callK Δ) o σ k (stepK lk o.dst σ k K)) : TGo P nt o σ (Aft lk o.dst.toList σ k K) := by
  obtain ⟨f, k', h1, h2⟩ := opK_ok (callK_ok hΔ) hd h
  unfold stepK at h2
  obtain ⟨h3, h4⟩ := bif_t h2
  simp only [Bool.and_eq_true] at h3
  have hk := Nat.le_of_ble_eq_true h3.2
  obtain ⟨h5, h6⟩ := step_fresh (dst := o.dst) hf h3.1 hk
  exact .of h1 ⟨k', hk, h5, h6, h4⟩

theorem aft_put {lk : Nat → Bool} {o : Oper} {σ : TS} {k : Nat} {K : TS → Nat → Prop} {v : TV} (hf : Fresh σ k) (h : K (σ.step o.dst ⟨v, []⟩) k) : Aft lk o.dst.toList σ k K (σ.step o.dst ⟨v, []⟩) := by
  obtain ⟨h1, h2⟩ := step_fresh (lk := lk) (dst := o.dst) (s := ⟨v, []⟩) hf rfl (Nat.le_refl k)
  exact ⟨k, Nat.le_refl _, h1, h2, h⟩

theorem nil_of {B : Nat → TB} {E : Env} {w : World} {F U : Nat → Prop} {base : Nat} {x : TV} {n : Nat} {rb : List Nat} {v : Value} (h : VA E w F U base (denV B x) v) (hl : lenTV B x = some (n, rb)) : ∃ a cap, v = .slice a n cap ∧ (a = none → n = 0) := by
  have h1 := lenTV_ok (B' := B) hl (fun _ _ => rfl)
  generalize denV B x = y at h h1
  cases h with
  | d h =>
    cases h with
    | view u q1 q2 q3 q4 _ _ _ => simp [lenAV] at h1; subst h1; exact ⟨_, _, by rw [q1], fun ha => by have := q4 ha; omega⟩
    | int => cases h1
    | bool => cases h1
  | lent u q1 q2 q3 q4 _ _ _ => simp [lenAV] at h1; subst h1; exact ⟨_, _, by rw [q1], fun ha => by have := q4 ha; omega⟩
  | onil => simp [lenAV] at h1; subst h1; exact ⟨_, _, rfl, fun _ => rfl⟩
  | own => simp [lenAV] at h1; subst h1; exact ⟨_, _, rfl, fun ha => by cases ha⟩
  | nsl => simp [lenAV] at h1; subst h1; exact ⟨_, _, rfl, fun _ => rfl⟩
  | _ => cases h1

theorem nilOp_go {o : Oper} {σ : TS} {op : BinOp} {t ty e : TypeId} {x : Operand} {Kp : TS → Prop} (neg : Bool) (ho : o.op = .binOp op t x (.const (.slice none 0 0)) ty) (hop : op = (bif neg then .neq else .eql)) (ht : P.underlying t = some (.slice e)) (hd : dstOk o nt = true)
    (hx : (σ.eval x = .nsl ∧ Kp (σ.step o.dst ⟨.bool (!neg), []⟩)) ∨ ∃ n rb, lenTV σ.blk (σ.eval x) = some (n, rb) ∧ (n = 0 → Kp (σ.step o.dst ⟨.bool (!neg), []⟩)) ∧ Kp (σ.step o.dst ⟨.bool neg, []⟩)) : TGo P nt o σ Kp := fun c U E a w N Q hr hN => by
  have hv := Rel.eval hr x
  rw [TS.eval_den] at hv
  have key : ∀ (ad : Option Addr) (n cap : Nat), a.eval x = .slice ad n cap → (execOp a.eval o).run P w = .ok (.value (.bool (bif neg then !ad.isNone else ad.isNone))) w := fun ad n cap he => by
    rw [execOp, ho]
    have hcv : a.eval (.const (.slice none 0 0)) = .slice none 0 0 := rfl
    have hb := Lib.run_eql_slice_nil (P := P) w t e ad n cap 0 0 ht
    simp only [he, hcv, Sem.run_bind]
    have hgd : (eqGuard op t x (.const (.slice none 0 0)) (.slice ad n cap) (.slice none 0 0)).run P w = .ok () w := by
      unfold eqGuard
      subst hop
      cases neg <;> rfl
    simp only [hgd, Result.andThen_ok]
    subst hop
    cases neg with
    | false => simp only [cond_false, hb]; rfl
    | true =>
      have : (binOp .neq t (.slice ad n cap) (.slice none 0 0)).run P w = .ok (.bool (!ad.isNone)) w := by
        simp only [binOp, Sem.run_bind] at hb ⊢
        revert hb
        cases (Op.equal t (.slice ad n cap) (.slice none 0 0)).run P w with
        | ok b w1 =>
          intro hb
          simp only [Result.andThen_ok, Sem.run_pure, Result.ok.injEq, Value.bool.injEq] at hb ⊢
          obtain ⟨rfl, rfl⟩ := hb
          exact ⟨rfl, rfl⟩
        | halt h w1 => intro hb; cases hb
      simp only [cond_true, this]
      rfl
  have fin : ∀ b : Bool, (execOp a.eval o).run P w = .ok (.value (.bool b)) w → Kp (σ.step o.dst ⟨.bool b, []⟩) → o.wp P a w N Q := fun b hrun hk => by
    unfold Oper.wp
    rw [hrun]
    exact hN _ E _ _ hk (TRel.put hr (dstOk_lt hd) (.d (.bool _)))
  rcases hx with ⟨hx, hk⟩ | ⟨n, rb, hx, hk0, hk1⟩
  · rw [hx] at hv
    generalize he : a.eval x = u at hv
    cases hv
    refine fin _ (key _ _ _ he) ?_
    cases neg <;> exact hk
  · obtain ⟨ad, cap, h1, h2⟩ := nil_of hv hx
    have hrun := key ad n cap h1
    cases ad with
    | none =>
      refine fin _ hrun ?_
      cases neg <;> exact hk0 (h2 rfl)
    | some b =>
      refine fin _ hrun ?_
      cases neg <;> exact hk1

theorem evOp_go (hΔ : DOk P Δ) {lk : Nat → Bool} {o : Oper} {σ : TS} {k : Nat} {K : TS → Nat → Prop} (hd : dstOk o nt = true) (hf : Fresh σ k) (h : evOp P Δ lk o σ k K) : TGo P nt o σ (Aft lk o.dst.toList σ k K) := by
  unfold evOp at h
  split at h
  · rename_i op t x ty ho
    split at h
    · rename_i e ht
      split at h
      · rename_i hx
        exact nilOp_go false ho rfl ht hd (.inl ⟨hx, aft_put hf h⟩)
      · split at h
        · rename_i n rb hl
          exact nilOp_go false ho rfl ht hd (.inr ⟨n, rb, hl, fun h0 => aft_put hf (h.1 h0), aft_put hf h.2⟩)
        · exact h.elim
    · rename_i e ht
      split at h
      · rename_i hx
        exact nilOp_go true ho rfl ht hd (.inl ⟨hx, aft_put hf h⟩)
      · split at h
        · rename_i n rb hl
          exact nilOp_go true ho rfl ht hd (.inr ⟨n, rb, hl, fun h0 => aft_put hf (h.1 h0), aft_put hf h.2⟩)
        · exact h.elim
    · exact h.elim
  · rename_i as' ts ho
    split at h
    · rename_i x hx
      split at h
      · rename_i o' T l hv
        intro c U E a w N Q hr hN
        have hva := Rel.eval hr x
        rw [TS.eval_den, hv] at hva
        generalize a.eval x = u0 at hva
        have hlen : l.length ≤ 9223372036854775807 := by
          have : l.length ≤ maxLen := by
            cases o' with
            | false =>
              cases hva with
              | d h1 => cases h1 with
                | view u q1 q2 q3 _ _ _ _ => rw [denS, List.length_map] at q1; omega
            | true =>
              cases hva with
              | lent u q1 q2 q3 _ _ _ _ => rw [denS, List.length_map] at q1; omega
          unfold maxLen at this
          omega
        exact opK_go hΔ hd hf (h hlen) c U E a w N Q hr hN
      · exact opK_go hΔ hd hf h
    · exact opK_go hΔ hd hf h
  · exact opK_go hΔ hd hf h

/-- A guard, read off a state. -/
theorem guardK_ok {σ : TS} {g : Option (Nat × Bool)} {on off : TS → Prop} (h : guardK ops σ g on off) :
    (g = none ∧ on σ) ∨ (∃ j b t, g = some (j, b) ∧ ((ops[j]?).bind (·.dst)) = some t ∧ ((σ.tmp t = .bool b ∧ on σ) ∨ (σ.tmp t = .bool (!b) ∧ off σ) ∨ (σ.tmp t = .tup [] ∧ off σ))) := by
  unfold guardK at h
  split at h
  · exact .inl ⟨rfl, h⟩
  · rename_i j b
    split at h
    · rename_i t ht
      refine .inr ⟨j, b, t, rfl, ht, ?_⟩
      split at h
      · rename_i c hc
        cases c with
        | true =>
          rw [setB_eq hc] at h
          cases b
          · exact .inr (.inl ⟨hc, h⟩)
          · exact .inl ⟨hc, h⟩
        | false =>
          rw [setB_eq hc] at h
          cases b
          · exact .inl ⟨hc, h⟩
          · exact .inr (.inl ⟨hc, h⟩)
      · rename_i hc
        exact .inr (.inr ⟨hc, h⟩)
      · exact h.elim
    · exact h.elim

theorem TAL.go {o : Oper} {l : List Oper} {σ : TS} {Kp : TS → Prop} (hnd : ∀ c, o.op ≠ .defer c) (hw : ∀ (c : Cx) (U : Nat → Prop) (E : Env) (a : Act) (w : World), TRel c U nt σ E a w → Region.wanted o (yielded ops a.tmps) = true) (hg : TGo P nt o σ Kp) (h : ∀ σ', Kp σ' → TAL P nt ops AQ l σ') : TAL P nt ops AQ (o :: l) σ := fun r n c U E a w hr => by
  show if _ then _ else _
  rw [if_pos (hw c U E a w hr)]
  exact wp_in r n hnd (hg c U E a w _ _ hr fun σ' E' a' w' hk hr' => h σ' hk r n c U E' a' w' hr')

theorem evL_ok {ann : Nat → Option LA} (hΔ : DOk P Δ) {lk : Nat → Bool} : ∀ (l : List Oper) (σ : TS) (k : Nat) (K : TS → Nat → Prop), Fresh σ k → evL P Δ nt ann lk ops l σ k K → (∀ σ', Aft lk (l.filterMap (·.dst)) σ k K σ' → AQ .normal σ') → TAL P nt ops AQ l σ
  | [], σ, k, K, hf, h, hA => .nil (hA σ ⟨k, Nat.le_refl _, hf, .refl _ _ _, h⟩)
  | o :: l, σ, k, K, hf, h, hA => by
    simp only [evL] at h
    obtain ⟨hd, h⟩ := bif_t h
    have hsub : ∀ t ∈ o.dst.toList, t ∈ (o :: l).filterMap (·.dst) := fun t ht => by
      cases ho : o.dst with
      | none => rw [ho] at ht; simp at ht
      | some d => rw [ho] at ht; obtain rfl : t = d := by simpa using ht
                  simp [List.filterMap_cons, ho]
    have hsub2 : ∀ t ∈ l.filterMap (·.dst), t ∈ (o :: l).filterMap (·.dst) := fun t ht => by
      cases ho : o.dst with
      | none => simpa [List.filterMap_cons, ho] using ht
      | some d => rw [List.filterMap_cons, ho]; exact List.mem_cons_of_mem _ ht
    have on : evOp P Δ lk o σ k (fun σ' k' => forkS (dsOf ann) o.dst σ' fun σ' => evL P Δ nt ann lk ops l σ' k' K) → (∀ (c : Cx) (U : Nat → Prop) (E : Env) (a : Act) (w : World), TRel c U nt σ E a w → Region.wanted o (yielded ops a.tmps) = true) → TAL P nt ops AQ (o :: l) σ := fun h1 hw =>
      TAL.go (dstOk_nd hd) hw (evOp_go hΔ hd hf h1) fun σ1 ⟨k1, q1, q2, q3, q4⟩ => evL_ok hΔ l σ1 k1 K q2 (forkS_ok q4) fun σ2 ⟨k2, r1, r2, r3, r4⟩ => hA σ2 ⟨k2, Nat.le_trans q1 r1, r2, q3.trans r3 hsub hsub2, r4⟩
    have off : evL P Δ nt ann lk ops l (σ.step o.dst ⟨.tup [], []⟩) k K → TDoesR P nt ops o σ ⟨[], [], .tup [], []⟩ ∨ (∃ rt, TDoesR P nt ops o σ ⟨rt, [], .tup [], []⟩) → TAL P nt ops AQ (o :: l) σ := fun h1 hr => by
      obtain ⟨h2, h3⟩ := step_fresh (lk := lk) (dst := o.dst) (s := ⟨.tup [], []⟩) hf rfl (Nat.le_refl k)
      have rest := evL_ok hΔ l _ k K h2 h1 fun σ2 ⟨k2, r1, r2, r3, r4⟩ => hA σ2 ⟨k2, r1, r2, h3.trans r3 hsub hsub2, r4⟩
      rcases hr with hr | ⟨rt, hr⟩
      · exact TAL.cons hr rest
      · exact TAL.cons hr rest
    rcases guardK_ok h with ⟨hg, h1⟩ | ⟨j, b, t, hg, ht, ⟨hb, h1⟩ | ⟨hb, h1⟩ | ⟨hb, h1⟩⟩
    · exact on h1 fun c U E a w hr => by simp [Region.wanted, hg]
    · exact on h1 fun c U E a w hr => by
        have hy := yielded_of ht (ttmp_bool hr hb)
        simp [Region.wanted, hg, hy]
    · refine off h1 (.inr ⟨[t], ?_⟩)
      exact TDoesR.off (dstOk_lt hd) (b := !b) (by rw [hg, Bool.not_not]) ht hb
    · exact off h1 (.inr ⟨[t], TDoesR.offU (dstOk_lt hd) hg ht hb⟩)

theorem evD_ok (hΔ : DOk P Δ) {lk : Nat → Bool} : ∀ (l : List Oper) (σ : TS) (k : Nat) (acc : List TInfo) (K : TS → Nat → List TInfo → Prop), Fresh σ k → evD P Δ nt lk ops l σ k acc K →
    ∃ fs σ' k', TChain P nt ops l σ fs σ' ∧ k ≤ k' ∧ Fresh σ' k' ∧ Fr lk (l.filterMap (·.dst)) σ σ' ∧ K σ' k' (acc ++ fs)
  | [], σ, k, acc, K, hf, h => ⟨[], σ, k, .nil, Nat.le_refl _, hf, .refl _ _ _, by rw [List.append_nil]; exact h⟩
  | o :: l, σ, k, acc, K, hf, h => by
    simp only [evD] at h
    obtain ⟨hd, h⟩ := bif_t h
    have hsub : ∀ t ∈ o.dst.toList, t ∈ (o :: l).filterMap (·.dst) := fun t ht => by
      cases ho : o.dst with
      | none => rw [ho] at ht; simp at ht
      | some d => rw [ho] at ht; obtain rfl : t = d := by simpa using ht
                  simp [List.filterMap_cons, ho]
    have hsub2 : ∀ t ∈ l.filterMap (·.dst), t ∈ (o :: l).filterMap (·.dst) := fun t ht => by
      cases ho : o.dst with
      | none => simpa [List.filterMap_cons, ho] using ht
      | some d => rw [List.filterMap_cons, ho]; exact List.mem_cons_of_mem _ ht
    have go : ∀ (f : TInfo) (k1 : Nat), TDoesR P nt ops o σ f → f.step.ups.all (fun p => Nat.blt p.1 k1 && !lk p.1) = true → k ≤ k1 → evD P Δ nt lk ops l (σ.step o.dst f.step) k1 (acc ++ [f]) K →
        ∃ fs σ' k', TChain P nt ops (o :: l) σ fs σ' ∧ k ≤ k' ∧ Fresh σ' k' ∧ Fr lk ((o :: l).filterMap (·.dst)) σ σ' ∧ K σ' k' (acc ++ fs) := fun f k1 h1 h2 h3 h4 => by
      obtain ⟨q1, q2⟩ := step_fresh (dst := o.dst) hf h2 h3
      obtain ⟨fs, σ', k', r1, r2, r3, r4, r5⟩ := evD_ok hΔ l _ k1 _ K q1 h4
      exact ⟨f :: fs, σ', k', .cons h1 r1, Nat.le_trans h3 r2, r3, q2.trans r4 hsub hsub2, by rw [List.append_assoc] at r5; exact r5⟩
    have on : ∀ rt0 : List Nat, gslot ops o.guard = rt0 → (∀ rt rb s, TDoesB P nt o σ ⟨rt, rb, s⟩ → TDoesR P nt ops o σ ⟨rt0 ++ rt, rb, s⟩) →
        (opK P (callK Δ) o σ k fun f k' => bif f.step.ups.all (fun p => Nat.blt p.1 k' && !lk p.1) && Nat.ble k k' then evD P Δ nt lk ops l (σ.step o.dst f.step) k' (acc ++ [⟨gslot ops o.guard ++ f.rt, f.rb, f.step⟩]) K else False) →
        ∃ fs σ' k', TChain P nt ops (o :: l) σ fs σ' ∧ k ≤ k' ∧ Fresh σ' k' ∧ Fr lk ((o :: l).filterMap (·.dst)) σ σ' ∧ K σ' k' (acc ++ fs) := fun rt0 he hR h1 => by
      obtain ⟨f, k1, h2, h3⟩ := opK_ok (callK_ok hΔ) hd h1
      obtain ⟨h4, h5⟩ := bif_t h3
      simp only [Bool.and_eq_true] at h4
      rw [he] at h5
      exact go ⟨rt0 ++ f.rt, f.rb, f.step⟩ k1 (hR _ _ _ h2) h4.1 (Nat.le_of_ble_eq_true h4.2) h5
    rcases guardK_ok h with ⟨hg, h1⟩ | ⟨j, b, t, hg, ht, ⟨hb, h1⟩ | ⟨hb, h1⟩ | ⟨hb, h1⟩⟩
    · exact on [] (by rw [hg]; rfl) (fun rt rb s hh => .plain (dstOk_nd hd) hg hh) h1
    · exact on [t] (by rw [hg]; show ((ops[j]?).bind (·.dst)).toList = _; rw [ht]; rfl) (fun rt rb s hh => .on (dstOk_nd hd) hg ht hb hh) h1
    · have he : gslot ops o.guard = [t] := by rw [hg]; show ((ops[j]?).bind (·.dst)).toList = _; rw [ht]; rfl
      rw [he] at h1
      exact go ⟨[t], [], .tup [], []⟩ k (TDoesR.off (dstOk_lt hd) (b := !b) (by rw [hg, Bool.not_not]) ht hb) rfl (Nat.le_refl _) h1
    · have he : gslot ops o.guard = [t] := by rw [hg]; show ((ops[j]?).bind (·.dst)).toList = _; rw [ht]; rfl
      rw [he] at h1
      exact go ⟨[t], [], .tup [], []⟩ k (TDoesR.offU (dstOk_lt hd) hg ht hb) rfl (Nat.le_refl _) h1
end
end Go.Proofs.Ytmkfpfnjimmmaaa
