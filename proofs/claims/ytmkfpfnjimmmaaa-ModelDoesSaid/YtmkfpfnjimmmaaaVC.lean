/- The walk over data by type: the rules of the code's forms, and of regions, drawn ones too. Nothing of the dump stands here. -/
import Derived.Test.YtmkfpfnjimmmaaaVT
import Derived.Tactics
import Derived.TacticsIn
import Derived.OrdersIn
import Derived.RangeFuncCalls
namespace Go.Proofs.Ytmkfpfnjimmmaaa
open Go.RowKit
set_option linter.unusedVariables false
set_option linter.unusedSimpArgs false

/-- No bound; within a round, or not. -/
abbrev FR (r : Option Nat) : Fence := { Fence.wide with round := r }
theorem FR_none : FR none = Fence.wide := rfl
theorem room_FR (r : Option Nat) (n : Nat) : (FR r).room n := fun _ h => by cases h
theorem callsIn_FR {P : Program} {r : Option Nat} {n : Nat} {f : FuncId} {args : Array Value} {w : World} {R : Ending → World → Prop} (h : Calls P f args w R) : CallsIn (FR r) n P f args w R :=
  (callsIn_wide (n := n)).2 h
theorem about_FR {P : Program} {o : Oper} {w : World} {ρ : Operand → Value} (r : Option Nat) : ∀ f, o.about P w ρ = some f → (FR r).fn f := fun _ _ => trivial
theorem semAt_nd {r : Option Nat} {o : Oper} (ρ : Operand → Value) (hnd : ∀ c, o.op ≠ .defer c) : o.semAt r ρ = execOp ρ o := by
  cases r with
  | none => rfl
  | some l => exact Oper.semAt_some l ρ o hnd
theorem wp_in {P : Program} {o : Oper} {a : Act} {w : World} {N : Act → World → Prop} {Q : Exit → Act → World → Prop} (r : Option Nat) (n : Nat) (hnd : ∀ c, o.op ≠ .defer c) (h : o.wp P a w N Q) : o.wpIn (FR r) n P a w N Q := by
  refine ⟨about_FR r, ?_⟩
  rw [show (FR r).round = r from rfl, semAt_nd _ hnd]
  unfold Oper.wp at h
  generalize (execOp a.eval o).run P w = res at h
  cases res with
  | ok x w1 =>
    cases x with
    | value v => exact h
    | skip => exact h
    | defer d => exact h
    | enter f args => exact ⟨(fun h => by cases h), callsIn_FR h⟩
    | row row args => exact ⟨(fun h => by cases h), fun c cs _ => by
        obtain ⟨v, w', h1, h2⟩ := h c cs
        exact ⟨v, w', h1, stepsIn_wide.2 h2⟩⟩
    | _ => exact h.elim
  | halt x w1 =>
    cases x with
    | panic v => exact h
    | _ => exact h.elim

/-- The same, with the guard. -/
def TDoesG (P : Program) (nt : Nat) (ops : Array Oper) (o : Oper) (σ : TS) (s : TStep) : Prop :=
  ∀ (w0 : Cx) (U : Nat → Prop) (E : Env) (a : Act) (w : World) (N : Act → World → Prop) (Q : Exit → Act → World → Prop), TRel w0 U nt σ E a w →
    (∀ E' a' w', TRel w0 U nt (σ.step o.dst s) E' a' w' → N a' w') → if Region.wanted o (yielded ops a.tmps) then ∀ r n, o.wpIn (FR r) n P a w N Q else N (a.put o.dst undef) w

/-- What it reads: slots, blocks; and what it does. -/
structure TInfo where
  rt : List Nat
  rb : List Nat
  step : TStep

def TAgree (f : TInfo) (σ' σ : TS) : Prop := (∀ t ∈ f.rt, σ'.tmp t = σ.tmp t) ∧ ∀ g ∈ f.rb, σ'.blk g = σ.blk g
theorem TAgree.refl (f : TInfo) (σ : TS) : TAgree f σ σ := ⟨fun _ _ => rfl, fun _ _ => rfl⟩

theorem TAgree.eval {l : List Operand} {rt rb : List Nat} {s : TStep} {σ' σ : TS} (h : TAgree ⟨rt, rb, s⟩ σ' σ) (hl : ∀ t, Operand.tmp t ∈ l → t ∈ rt) {x : Operand} (hx : x ∈ l) : σ'.eval x = σ.eval x := by
  cases x with
  | tmp t => exact h.1 t (hl t hx)
  | _ => rfl

def TDoesB (P : Program) (nt : Nat) (o : Oper) (σ : TS) (f : TInfo) : Prop := ∀ σ', TAgree f σ' σ → TDoes P nt o σ' f.step
def TDoesR (P : Program) (nt : Nat) (ops : Array Oper) (o : Oper) (σ : TS) (f : TInfo) : Prop := ∀ σ', TAgree f σ' σ → TDoesG P nt ops o σ' f.step

theorem TDoesR.plain {P : Program} {nt : Nat} {ops : Array Oper} {o : Oper} {σ : TS} {f : TInfo} (hnd : ∀ c, o.op ≠ .defer c) (hg : o.guard = none) (h : TDoesB P nt o σ f) : TDoesR P nt ops o σ f := fun σ' ha w0 U E a w N Q hr hN => by
  rw [if_pos (by simp [Region.wanted, hg])]
  exact fun r n => wp_in r n hnd (h σ' ha w0 U E a w N Q hr hN)

theorem ttmp_bool {w0 : Cx} {U : Nat → Prop} {nt : Nat} {σ : TS} {E : Env} {a : Act} {w : World} (h : TRel w0 U nt σ E a w) {t : Nat} {b : Bool} (hb : σ.tmp t = .bool b) : a.tmps[t]? = some (.bool b) :=
  tmp_bool (σ := σ.den) h (by show denV _ (σ.tmp t) = _; rw [hb]; rfl)

/-- A guarded operation that is wanted. -/
theorem TDoesR.on {P : Program} {nt : Nat} {ops : Array Oper} {o : Oper} {σ : TS} {rt rb : List Nat} {s : TStep} {j t : Nat} {b : Bool} (hnd : ∀ c, o.op ≠ .defer c) (hg : o.guard = some (j, b)) (hj : ((ops[j]?).bind (·.dst)) = some t) (hb : σ.tmp t = .bool b) (h : TDoesB P nt o σ ⟨rt, rb, s⟩) :
    TDoesR P nt ops o σ ⟨t :: rt, rb, s⟩ := fun σ' ha w0 U E a w N Q hr hN => by
  have hy := yielded_of hj (ttmp_bool hr ((ha.1 t (by simp)).trans hb))
  rw [if_pos (by simp [Region.wanted, hg, hy])]
  exact fun r n => wp_in r n hnd (h σ' ⟨fun t ht => ha.1 t (List.mem_cons_of_mem _ ht), ha.2⟩ w0 U E a w N Q hr hN)

theorem TRel.put {w0 : Cx} {U : Nat → Prop} {nt : Nat} {σ : TS} {E : Env} {a : Act} {w : World} (h : TRel w0 U nt σ E a w) {dst : Option Tmp} (hd : ∀ t, dst = some t → t < nt) {x : TV} {v : Value} (hv : VA E w (Fof E σ.den.blk) U w0.heap.size (denV σ.blk x) v) : TRel w0 U nt (σ.step dst ⟨x, []⟩) E (a.put dst v) w := by
  have h1 := Rel.undef h hd hv
  have e : σ.den.step dst ⟨denV σ.blk x, []⟩ = (σ.step dst ⟨x, []⟩).den := by
    unfold St.step TS.step TS.den
    congr 1
    funext t
    cases dst with
    | none => rfl
    | some d =>
      show upd _ d _ t = denV _ (upd _ d _ t)
      by_cases hd : t = d
      · subst hd; rw [upd_same, upd_same]; rfl
      · rw [upd_other _ _ _ hd, upd_other _ _ _ hd]; rfl
  rw [e] at h1
  exact h1

/-- A guarded operation that is not wanted. -/
theorem TDoesR.off {P : Program} {nt : Nat} {ops : Array Oper} {o : Oper} {σ : TS} {j t : Nat} {b : Bool} (hd : ∀ t, o.dst = some t → t < nt) (hg : o.guard = some (j, !b)) (hj : ((ops[j]?).bind (·.dst)) = some t) (hb : σ.tmp t = .bool b) :
    TDoesR P nt ops o σ ⟨[t], [], .tup [], []⟩ := fun σ' ha w0 U E a w N Q hr hN => by
  have hy := yielded_of hj (ttmp_bool hr ((ha.1 t (by simp)).trans hb))
  rw [if_neg (by cases b <;> simp [Region.wanted, hg, hy])]
  exact hN _ _ _ (TRel.put hr hd (x := .tup []) .undef0)
/-- One whose guard was not wanted itself. -/
theorem TDoesR.offU {P : Program} {nt : Nat} {ops : Array Oper} {o : Oper} {σ : TS} {j t : Nat} {b : Bool} (hd : ∀ t, o.dst = some t → t < nt) (hg : o.guard = some (j, b)) (hj : ((ops[j]?).bind (·.dst)) = some t) (hb : σ.tmp t = .tup []) :
    TDoesR P nt ops o σ ⟨[t], [], .tup [], []⟩ := fun σ' ha w0 U E a w N Q hr hN => by
  have h1 := hr.tmp t
  rw [show σ'.den.tmp t = .tup [] by show denV _ (σ'.tmp t) = _; rw [(ha.1 t (by simp)).trans hb]; rfl] at h1
  have hy : yielded ops a.tmps j = none := by
    generalize hv : a.tmps.getD t undef = v at h1
    cases h1 with
    | tup hl h =>
      rw [Array.getD_eq_getD_getElem?] at hv
      unfold yielded
      rw [hj]
      simp only [Option.bind_some]
      cases he : a.tmps[t]? with
      | none => rfl
      | some v => rw [he] at hv; simp at hv; rw [hv]
  rw [if_neg (by simp [Region.wanted, hg, hy])]
  exact hN _ _ _ (TRel.put hr hd (x := .tup []) .undef0)

/-- A scope through which the run goes without a goto. -/
theorem stepR_scope' {P : Program} {b : Frame} {a : Act} {k : List Item} {cs : List Frame} {w : World} {c : Code} : step P (lone (b.atR a (.code (.scope c) :: k)) cs w) = .next (lone (b.atR a (.code c :: .inScope c :: k)) cs w) :=
  step_lone_go (by simp [stepG, stepG.exec, Frame.atR])
theorem stepR_inScope' {P : Program} {b : Frame} {a : Act} {k : List Item} {cs : List Frame} {w : World} {c : Code} : step P (lone (b.atR a (.inScope c :: k)) cs w) = .next (lone (b.atR a k) cs w) :=
  step_lone_go (by simp [stepG, stepG.exec, Frame.atR])
def NoG (Q : Exit → Act → World → Prop) : Exit → Act → World → Prop
  | .goto _, _, _ => False
  | e, a, w => Q e a w
theorem wpIn_scopeS {F : Fence} {n : Nat} {P : Program} {Q : Exit → Act → World → Prop} {a : Act} {w : World} {c : Code} (h : c.wpIn F n P (NoG Q) a w) : (Code.scope c).wpIn F n P Q a w := by
  intro b k cs hro hb hr
  have h0 : (lone (b.atR a (.code (.scope c) :: k)) cs w).fenced P F := fenced_calm hb hr rfl
  obtain ⟨e, a₁, w₁, hq, harr⟩ := h b (.inScope c :: k) cs hro hb hr
  cases e with
  | normal => exact ⟨.normal, a₁, w₁, hq, .head h0 stepR_scope' (StepsIn.trans harr (.one (fenced_calm hb hr rfl) stepR_inScope'))⟩
  | exit id =>
    have hx : exitTo id (.inScope c :: k) = exitTo id k := by simp [exitTo]
    exact ⟨.exit id, a₁, w₁, hq, fun k' hk => .head h0 stepR_scope' (harr.1 k' (by rw [hx]; exact hk)),
      fun hr' hk => let ⟨k₁, h1, h2⟩ := harr.2 hr' (by rw [hx]; exact hk); ⟨k₁, h1, .head h0 stepR_scope' h2⟩⟩
  | goto l => exact hq.elim
  | ret => exact ⟨_, a₁, w₁, hq, .of_steps (.one h0 stepR_scope') harr⟩
  | panic ch => exact ⟨_, a₁, w₁, hq, .of_steps (.one h0 stepR_scope') harr⟩
  | outgrown => exact ⟨_, a₁, w₁, hq, .of_steps (.one h0 stepR_scope') harr⟩
/-- The walk's post, read so. -/
def tconc (w0 : Cx) (U : Nat → Prop) (nt : Nat) (AQ : Exit → TS → Prop) : Exit → Act → World → Prop := fun e a w => ∃ σ E, TRel w0 U nt σ E a w ∧ AQ e σ

def TAw (P : Program) (nt : Nat) (c : Code) (AQ : Exit → TS → Prop) (σ : TS) : Prop :=
  ∀ (r : Option Nat) (n : Nat) (w0 : Cx) (U : Nat → Prop) (E : Env) (a : Act) (w : World), TRel w0 U nt σ E a w → c.wpIn (FR r) n P (tconc w0 U nt AQ) a w

def TThen (M : TS → Prop) (AQ : Exit → TS → Prop) : Exit → TS → Prop
  | .normal, σ => M σ
  | e, σ => AQ e σ

def TIn (id : Nat) (AQ : Exit → TS → Prop) : Exit → TS → Prop
  | .exit id', σ => if id' = id then AQ .normal σ else AQ (.exit id') σ
  | e, σ => AQ e σ

section
variable {P : Program} {nt : Nat} {AQ : Exit → TS → Prop} {σ : TS}

theorem TAw.mono {c : Code} {AQ' : Exit → TS → Prop} (h : TAw P nt c AQ σ) (hm : ∀ e σ, AQ e σ → AQ' e σ) : TAw P nt c AQ' σ := fun r n w0 U E a w hr =>
  wpIn_mono (h r n w0 U E a w hr) fun _ _ _ ⟨σ', E', h1, h2⟩ => ⟨σ', E', h1, hm _ _ h2⟩

theorem TAw.seq {x y : Code} (h : TAw P nt x (TThen (TAw P nt y AQ) AQ) σ) : TAw P nt (.seq x y) AQ σ := fun r n w0 U E a w hr =>
  wpIn_seq (wpIn_mono (h r n w0 U E a w hr) fun e a' w' ⟨σ', E', h1, h2⟩ => by
    cases e with
    | normal => exact h2 r n w0 U E' a' w' h1
    | _ => exact ⟨σ', E', h1, h2⟩)

/-- Two pieces of code, with a word between them. -/
theorem TAw.cut {x y : Code} (M : TS → Prop) (h : TAw P nt x (TThen M AQ) σ) (hy : ∀ σ, M σ → TAw P nt y AQ σ) : TAw P nt (.seq x y) AQ σ :=
  .seq (h.mono fun e σ hq => by cases e <;> first | exact hy _ hq | exact hq)

theorem TAw.skip (h : AQ .normal σ) : TAw P nt .skip AQ σ := fun r n w0 U E a w hr => wpIn_skip ⟨σ, E, hr, h⟩
theorem TAw.label {l : Nat} (h : AQ .normal σ) : TAw P nt (.label l) AQ σ := fun r n w0 U E a w hr => wpIn_label ⟨σ, E, hr, h⟩
def TNoG (AQ : Exit → TS → Prop) : Exit → TS → Prop
  | .goto _, _ => False
  | e, σ => AQ e σ
theorem TAw.scope {c : Code} (h : TAw P nt c (TNoG AQ) σ) : TAw P nt (.scope c) AQ σ := fun r n w0 U E a w hr =>
  wpIn_scopeS (wpIn_mono (h r n w0 U E a w hr) fun e a' w' ⟨σ', E', h1, h2⟩ => by
    cases e with
    | goto l => exact h2
    | _ => exact ⟨σ', E', h1, h2⟩)
theorem TAw.ret (h : AQ .ret σ) : TAw P nt .ret AQ σ := fun r n w0 U E a w hr => wpIn_ret ⟨σ, E, hr, h⟩
theorem TAw.exit {id : Nat} (h : AQ (.exit id) σ) : TAw P nt (.exit id) AQ σ := fun r n w0 U E a w hr => wpIn_exit ⟨σ, E, hr, h⟩
theorem TAw.block {id : Nat} {c : Code} (h : TAw P nt c (TIn id AQ) σ) : TAw P nt (.block id c) AQ σ := fun r n w0 U E a w hr =>
  wpIn_block (wpIn_mono (h r n w0 U E a w hr) fun e a' w' ⟨σ', E', h1, h2⟩ => by
    cases e with
    | exit id' =>
      show if id' = id then _ else _
      simp only [TIn] at h2
      by_cases hid : id' = id
      · rw [if_pos hid] at h2 ⊢
        exact ⟨σ', E', h1, h2⟩
      · rw [if_neg hid] at h2 ⊢
        exact ⟨σ', E', h1, h2⟩
    | _ => exact ⟨σ', E', h1, h2⟩)

theorem TAw.cond {c : Operand} {x y : Code} {b : Bool} (hc : σ.eval c = .bool b) (ht : b = true → TAw P nt x AQ σ) (hf : b = false → TAw P nt y AQ σ) : TAw P nt (.cond c x y) AQ σ := fun r n w0 U E a w hr => by
  have h := Rel.eval hr c
  rw [TS.eval_den, hc] at h
  exact wpIn_cond_split (bool_of h) (fun e => ht e r n w0 U E a w hr) (fun e => hf e r n w0 U E a w hr)

/-- A loop: so many rounds are left at the most. -/
theorem TAw.loop {c : Code} (I : Nat → TS → Prop) (n : Nat) (h0 : I n σ) (round : ∀ n σ, I n σ → TAw P nt c (TThen (fun σ' => ∃ m, m < n ∧ I m σ') AQ) σ) : TAw P nt (.loop c) AQ σ := fun rr nn w0 U E a w hr => by
  intro b k cs hro hb hroom
  have key : ∀ n σ E a w, TRel w0 U nt σ E a w → I n σ →
      ∃ e a' w', tconc w0 U nt AQ e a' w' ∧ ArrivesIn (Machine.fenced P (FR rr)) P (lone (b.atR a (.code c :: .inLoop c :: k)) cs w) b k cs e a' w' := by
    intro n
    induction n using Nat.strongRecOn with
    | _ n ih =>
      intro σ E a w hr hI
      obtain ⟨e, a₁, w₁, ⟨σ₁, E₁, h1, hq⟩, harr⟩ := round n σ hI rr nn w0 U E a w hr b (.inLoop c :: k) cs hro hb hroom
      cases e with
      | normal =>
        obtain ⟨m, hlt, hI₁⟩ := hq
        obtain ⟨e₂, a₂, w₂, hq₂, harr₂⟩ := ih m hlt σ₁ E₁ a₁ w₁ h1 hI₁
        exact ⟨e₂, a₂, w₂, hq₂, .of_steps (StepsIn.trans harr (.one (fenced_calm hb hroom rfl) stepR_inLoop)) harr₂⟩
      | exit id => exact ⟨_, a₁, w₁, ⟨σ₁, E₁, h1, hq⟩, .pass (x := .inLoop c) rfl (fun _ _ => .inl (by simp)) harr⟩
      | goto l => exact ⟨_, a₁, w₁, ⟨σ₁, E₁, h1, hq⟩, .pass (x := .inLoop c) rfl (fun _ _ => .inl (by simp)) harr⟩
      | ret => exact ⟨_, a₁, w₁, ⟨σ₁, E₁, h1, hq⟩, .pass (x := .inLoop c) rfl (fun _ _ => .inl (by simp)) harr⟩
      | panic ch => exact ⟨_, a₁, w₁, ⟨σ₁, E₁, h1, hq⟩, .pass (x := .inLoop c) rfl (fun _ _ => .inl (by simp)) harr⟩
      | outgrown => exact ⟨_, a₁, w₁, ⟨σ₁, E₁, h1, hq⟩, .pass (x := .inLoop c) rfl (fun _ _ => .inl (by simp)) harr⟩
  obtain ⟨e, a', w', hq, harr⟩ := key n σ E a w hr h0
  exact ⟨e, a', w', hq, .of_steps (.one (fenced_calm hb hroom rfl) stepR_loop) harr⟩

/-- The operations of a region, one behind the other. -/
def TAL (P : Program) (nt : Nat) (ops : Array Oper) (AQ : Exit → TS → Prop) (l : List Oper) (σ : TS) : Prop :=
  ∀ (r : Option Nat) (n : Nat) (w0 : Cx) (U : Nat → Prop) (E : Env) (a : Act) (w : World), TRel w0 U nt σ E a w → wpListIn (FR r) n P ops (tconc w0 U nt AQ) l a w

theorem TAL.nil {ops : Array Oper} (h : AQ .normal σ) : TAL P nt ops AQ [] σ := fun r n w0 U E a w hr => ⟨σ, E, hr, h⟩
theorem TAL.cons {ops : Array Oper} {o : Oper} {l : List Oper} {f : TInfo} (hd : TDoesR P nt ops o σ f) (h : TAL P nt ops AQ l (σ.step o.dst f.step)) : TAL P nt ops AQ (o :: l) σ := fun r n w0 U E a w hr => by
  have h1 := hd σ (TAgree.refl _ _) w0 U E a w (wpListIn (FR r) n P ops (tconc w0 U nt AQ) l) (tconc w0 U nt AQ) hr fun E' a' w' hr' => h r n w0 U E' a' w' hr'
  show if _ then _ else _
  split at h1
  · rename_i hw
    rw [if_pos hw]
    exact h1 r n
  · rename_i hw
    rw [if_neg hw]
    exact ⟨about_FR r, h1⟩
theorem TAw.region {id : Nat} {ops : Array Oper} (h : TAL P nt ops AQ ops.toList σ) : TAw P nt (.region id ops false) AQ σ := fun r n w0 U E a w hr => wpIn_region_list (h r n w0 U E a w hr)

/- Regions that draw their order. -/

def directs (o : Oper) : List Nat := o.after.toList.filterMap fun e => if Region.binds .any e then some e.on else none
def insA (l : List Nat) (x : Nat) : List Nat := bif l.any (Nat.beq x) then l else x :: l
def ancsOf (ops : List Oper) : List (List Nat) := ops.foldl (fun acc o => acc ++ [(directs o ++ (directs o).flatMap fun m => acc.getD m []).foldl insA []]) []

def apartL (a b : List Nat) : Bool := a.all fun x => !b.any (Nat.beq x)
def TInfo.wt (o : Oper) : List Nat := o.dst.toList
def TInfo.wb (f : TInfo) : List Nat := f.step.ups.map (·.1)
/-- Two operations do not touch each other. -/
def far (o o' : Oper) (f f' : TInfo) : Bool :=
  apartL (TInfo.wt o) f'.rt && apartL (TInfo.wt o) (TInfo.wt o') && apartL (TInfo.wt o') f.rt && apartL f.wb f'.rb && apartL f.wb f'.wb && apartL f'.wb f.rb

def okDraw (ops : List Oper) (fs : List TInfo) (anc : List (List Nat)) : Bool :=
  ops.length == fs.length && ops.length == anc.length &&
  (List.range ops.length).all fun j =>
    (match ops[j]?, fs[j]?, anc[j]? with
     | some o, some f, some an => (directs o).all (fun m => decide (m < j)) && an.all (fun i => (directs o).any (Nat.beq i) || (directs o).any fun m => (anc.getD m []).any (Nat.beq i)) &&
        (List.range j).all fun i => an.any (Nat.beq i) || (match ops[i]?, fs[i]? with | some o', some f' => far o' o f' f | _, _ => false)
     | _, _, _ => false)

/-- The states that the operations come to in the text's order. -/
inductive TChain (P : Program) (nt : Nat) (ops : Array Oper) : List Oper → TS → List TInfo → TS → Prop where
  | nil {σ : TS} : TChain P nt ops [] σ [] σ
  | cons {o : Oper} {l : List Oper} {σ σ' : TS} {f : TInfo} {fs : List TInfo} (hd : TDoesR P nt ops o σ f) (h : TChain P nt ops l (σ.step o.dst f.step) fs σ') : TChain P nt ops (o :: l) σ (f :: fs) σ'
end
/-- What is written: where, and what. -/
structure Wr (α : Type) where
  W : List Nat
  c : Nat → α

def Wr.app {α : Type} (r : Wr α) (f : Nat → α) : Nat → α := fun x => if x ∈ r.W then r.c x else f x

def appS {α : Type} (S : Nat → Bool) : List (Wr α) → (Nat → α) → Nat → α
  | [], f => f
  | r :: rs, f => appS (fun i => S (i + 1)) rs (if S 0 then r.app f else f)

theorem appS_agree {α : Type} (x : Nat) : ∀ (rs : List (Wr α)) (S S' : Nat → Bool) (f f' : Nat → α), (∀ i r, rs[i]? = some r → x ∈ r.W → S i = S' i) → f x = f' x → appS S rs f x = appS S' rs f' x
  | [], _, _, _, _, _, h => h
  | r :: rs, S, S', f, f', h, hf => by
    refine appS_agree x rs _ _ _ _ (fun i q hi hx => h (i + 1) q (by simpa using hi) hx) ?_
    by_cases hx : x ∈ r.W
    · rw [h 0 r rfl hx]
      split
      · simp [Wr.app, hx]
      · exact hf
    · split <;> split <;> simp [Wr.app, hx, hf]

theorem appS_far {α : Type} (x : Nat) : ∀ (rs : List (Wr α)) (S : Nat → Bool) (f : Nat → α), (∀ i r, rs[i]? = some r → S i = true → x ∉ r.W) → appS S rs f x = f x
  | [], _, _, _ => rfl
  | r :: rs, S, f, h => by
    refine (appS_far x rs _ _ (fun i q hi hS => h (i + 1) q (by simpa using hi) hS)).trans ?_
    by_cases h0 : S 0 = true
    · rw [if_pos h0, Wr.app, if_neg (h 0 r rfl h0)]
    · rw [if_neg h0]

theorem appS_at {α : Type} (x : Nat) : ∀ (rs : List (Wr α)) (S : Nat → Bool) (f : Nat → α) (j : Nat) (r : Wr α), rs[j]? = some r → S j = true → x ∈ r.W → (∀ i q, j < i → rs[i]? = some q → S i = true → x ∉ q.W) → appS S rs f x = r.c x
  | [], _, _, _, _, h, _, _, _ => by simp at h
  | q :: rs, S, f, 0, r, h, hS, hx, hi => by
    obtain rfl : q = r := by simpa using h
    refine (appS_far x rs _ _ (fun i q hq hS => hi (i + 1) q (by omega) (by simpa using hq) hS)).trans ?_
    rw [if_pos hS, Wr.app, if_pos hx]
  | q :: rs, S, f, j + 1, r, h, hS, hx, hi =>
    appS_at x rs _ _ j r (by simpa using h) hS hx (fun i p hlt hp hS => hi (i + 1) p (by omega) (by simpa using hp) hS)

/-- One more is done. -/
theorem appS_add {α : Type} (rs : List (Wr α)) (S S' : Nat → Bool) (f : Nat → α) (j : Nat) (r : Wr α) (hr : rs[j]? = some r) (hj : S' j = true) (hS : ∀ i, i ≠ j → S' i = S i) (hd : ∀ i q x, j < i → rs[i]? = some q → S i = true → x ∈ r.W → x ∉ q.W) :
    appS S' rs f = r.app (appS S rs f) := by
  funext x
  by_cases hx : x ∈ r.W
  · rw [Wr.app, if_pos hx]
    exact appS_at x rs S' f j r hr hj hx fun i q hlt hq hSi => hd i q x hlt hq (by rw [← hS i (by omega)]; exact hSi) hx
  · rw [Wr.app, if_neg hx]
    refine appS_agree x rs S' S f f (fun i q hq hxq => hS i ?_) rfl
    rintro rfl
    rw [hr] at hq
    cases hq
    exact hx hxq

def wrT (o : Oper) (f : TInfo) : Wr TV := ⟨o.dst.toList, fun _ => f.step.v⟩
def wrB (f : TInfo) : Wr TB := ⟨f.step.ups.map (·.1), fun g => tupsOf (fun _ => .free) f.step.ups g⟩

theorem tupsOf_in : ∀ (l : List (Nat × TB)) (B B' : Nat → TB) (g : Nat), g ∈ l.map (·.1) → tupsOf B l g = tupsOf B' l g := by
  intro l
  induction l with
  | nil => intro B B' g h; simp at h
  | cons p l ih =>
    intro B B' g h
    show tupsOf (upd B p.1 p.2) l g = tupsOf (upd B' p.1 p.2) l g
    by_cases hm : g ∈ l.map (·.1)
    · exact ih _ _ g hm
    · have hout : ∀ (l : List (Nat × TB)) (C : Nat → TB), g ∉ l.map (·.1) → tupsOf C l g = C g := by
        intro l
        induction l with
        | nil => intro C _; rfl
        | cons q l ih' =>
          intro C hC
          simp only [List.map_cons, List.mem_cons, not_or] at hC
          show tupsOf (upd C q.1 q.2) l g = _
          rw [ih' _ hC.2, upd_other _ _ _ hC.1]
      rw [hout l _ hm, hout l _ hm]
      have hp : g = p.1 := by simpa [hm] using h
      rw [hp, upd_same, upd_same]

theorem wrT_app (o : Oper) (f : TInfo) (g : Nat → TV) : (wrT o f).app g = tputOf g o.dst f.step.v := by
  funext x
  unfold Wr.app wrT tputOf
  cases o.dst with
  | none => simp
  | some t =>
    by_cases h : x = t
    · subst h; simp [upd_same]
    · simp [h, upd_other]

theorem wrB_app (f : TInfo) (B : Nat → TB) : (wrB f).app B = tupsOf B f.step.ups := by
  funext g
  unfold Wr.app wrB
  by_cases h : g ∈ f.step.ups.map (·.1)
  · rw [if_pos h]; exact tupsOf_in _ _ _ g h
  · rw [if_neg h, tupsOf_out _ _ g h]

def stS (l : List Oper) (fs : List TInfo) (σ : TS) (S : Nat → Bool) : TS := ⟨appS S (List.zipWith wrT l fs) σ.tmp, appS S (fs.map wrB) σ.blk⟩

theorem stS_cons (o : Oper) (l : List Oper) (f : TInfo) (fs : List TInfo) (σ : TS) (S : Nat → Bool) : stS (o :: l) (f :: fs) σ S = stS l fs (if S 0 then σ.step o.dst f.step else σ) fun i => S (i + 1) := by
  unfold stS
  simp only [List.zipWith_cons_cons, List.map_cons, appS, wrT_app, wrB_app]
  split <;> rfl

theorem stS_none (l : List Oper) (fs : List TInfo) (σ : TS) : stS l fs σ (fun _ => false) = σ := by
  unfold stS
  have h : ∀ {α : Type} (rs : List (Wr α)) (f : Nat → α), appS (fun _ => false) rs f = f := fun rs f => funext fun x => appS_far x rs _ f (fun _ _ _ h => by cases h)
  rw [h, h]

section
variable {P : Program} {nt : Nat} {AQ : Exit → TS → Prop} {σ : TS} {ops : Array Oper}

theorem TChain.length {l : List Oper} {σ σ' : TS} {fs : List TInfo} (h : TChain P nt ops l σ fs σ') : l.length = fs.length := by
  induction h with
  | nil => rfl
  | cons _ _ ih => simp [ih]

theorem TChain.last {l : List Oper} {σ σ' : TS} {fs : List TInfo} (h : TChain P nt ops l σ fs σ') : σ' = stS l fs σ fun _ => true := by
  induction h with
  | nil => rfl
  | cons _ _ ih => rw [stS_cons, if_pos rfl]; exact ih

theorem TChain.at {l : List Oper} {σ σ' : TS} {fs : List TInfo} (h : TChain P nt ops l σ fs σ') : ∀ j o f, l[j]? = some o → fs[j]? = some f → TDoesR P nt ops o (stS l fs σ fun i => decide (i < j)) f := by
  induction h with
  | nil => intro j o f h; simp at h
  | @cons o' l σ σ' f' fs hd _ ih =>
    intro j o f ho hf
    cases j with
    | zero =>
      obtain rfl : o' = o := by simpa using ho
      obtain rfl : f' = f := by simpa using hf
      have e : stS (o' :: l) (f' :: fs) σ (fun i => decide (i < 0)) = σ := by
        have : (fun i => decide (i < 0)) = fun _ : Nat => false := by funext i; simp
        rw [this, stS_none]
      rw [e]
      exact hd
    | succ j =>
      rw [stS_cons, if_pos (by simp)]
      have e : (fun i => decide (i + 1 < j + 1)) = fun i : Nat => decide (i < j) := by funext i; simp
      rw [e]
      exact ih j o f (by simpa using ho) (by simpa using hf)

theorem apartL_spec {a b : List Nat} (h : apartL a b = true) : ∀ x ∈ a, x ∉ b := by
  intro x hx hb
  have h1 := List.all_eq_true.1 h x hx
  have h2 : (b.any (Nat.beq x)) = true := List.any_eq_true.2 ⟨x, hb, by simp⟩
  simp [h2] at h1

structure Draw (l : List Oper) (fs : List TInfo) (anc : List (List Nat)) : Prop where
  len : l.length = fs.length
  lt : ∀ (j : Nat) (o : Oper), l[j]? = some o → ∀ m ∈ directs o, m < j
  up : ∀ (j : Nat) (o : Oper) (an : List Nat), l[j]? = some o → anc[j]? = some an → ∀ i ∈ an, i ∈ directs o ∨ ∃ m ∈ directs o, i ∈ anc.getD m []
  has : ∀ (j : Nat) (o : Oper), l[j]? = some o → ∃ an, anc[j]? = some an
  sep : ∀ (i j : Nat) (o o' : Oper) (f f' : TInfo) (an : List Nat), i < j → l[j]? = some o → fs[j]? = some f → anc[j]? = some an → i ∉ an → l[i]? = some o' → fs[i]? = some f' → far o' o f' f = true

theorem Draw.of {l : List Oper} {fs : List TInfo} {anc : List (List Nat)} (h : okDraw l fs anc = true) : Draw l fs anc := by
  unfold okDraw at h
  simp only [Bool.and_eq_true, beq_iff_eq] at h
  obtain ⟨⟨h1, h2⟩, h3⟩ := h
  have h4 : ∀ j o, l[j]? = some o → ∃ f an, fs[j]? = some f ∧ anc[j]? = some an ∧ (∀ m ∈ directs o, m < j) ∧ (∀ i ∈ an, i ∈ directs o ∨ ∃ m ∈ directs o, i ∈ anc.getD m []) ∧
      ∀ i, i < j → i ∈ an ∨ ∃ o' f', l[i]? = some o' ∧ fs[i]? = some f' ∧ far o' o f' f = true := by
    intro j o ho
    have hj : j < l.length := (List.getElem?_eq_some_iff.1 ho).1
    have h5 := List.all_eq_true.1 h3 j (List.mem_range.2 hj)
    have hf : fs[j]? = some (fs[j]'(by omega)) := List.getElem?_eq_getElem (by omega)
    have ha : anc[j]? = some (anc[j]'(by omega)) := List.getElem?_eq_getElem (by omega)
    rw [ho, hf, ha] at h5
    simp only [Bool.and_eq_true] at h5
    obtain ⟨⟨h6, h7⟩, h8⟩ := h5
    refine ⟨_, _, hf, ha, fun m hm => of_decide_eq_true (List.all_eq_true.1 h6 m hm), fun i hi => ?_, fun i hi => ?_⟩
    · have := List.all_eq_true.1 h7 i hi
      rcases Bool.or_eq_true_iff.1 this with h | h
      · exact .inl (mem_beq h)
      · obtain ⟨m, hm, hi'⟩ := List.any_eq_true.1 h
        exact .inr ⟨m, hm, mem_beq hi'⟩
    · have := List.all_eq_true.1 h8 i (List.mem_range.2 hi)
      rcases Bool.or_eq_true_iff.1 this with h | h
      · exact .inl (mem_beq h)
      · split at h
        · rename_i o' f' ho' hf'
          exact .inr ⟨o', f', ho', hf', h⟩
        · cases h
  refine ⟨h1, fun j o ho => ?_, fun j o an ho ha => ?_, fun j o ho => ?_, fun i j o o' f f' an hij ho hf ha hni ho' hf' => ?_⟩
  · obtain ⟨f, an, _, _, h, _⟩ := h4 j o ho
    exact h
  · obtain ⟨f, an', _, ha', _, h, _⟩ := h4 j o ho
    rw [ha] at ha'
    cases ha'
    exact h
  · obtain ⟨f, an, _, ha, _⟩ := h4 j o ho
    exact ⟨an, ha⟩
  · obtain ⟨f2, an2, hf2, ha2, _, _, h⟩ := h4 j o ho
    rw [hf] at hf2
    rw [ha] at ha2
    cases hf2
    cases ha2
    rcases h i hij with h | ⟨o2, f2, h5, h6, h7⟩
    · exact absurd h hni
    · rw [ho'] at h5
      rw [hf'] at h6
      cases h5
      cases h6
      exact h7

theorem zip_at {l : List Oper} {fs : List TInfo} {i : Nat} {q : Wr TV} (h : (List.zipWith wrT l fs)[i]? = some q) : ∃ o f, l[i]? = some o ∧ fs[i]? = some f ∧ q = wrT o f := by
  rw [List.getElem?_zipWith] at h
  split at h
  · rename_i o f ho hf
    exact ⟨o, f, ho, hf, by simpa using h.symm⟩
  · cases h

theorem draw_any {rr : Option Nat} {nn : Nat} {l : List Oper} (hl : ops = l.toArray) {fs : List TInfo} {anc : List (List Nat)} {w0 : Cx} {U : Nat → Prop} {σ' : TS} (hc : TChain P nt ops l σ fs σ') (hd : Draw l fs anc) (hq : AQ .normal σ') :
    ∀ (fuel : Nat) (listed : Array Bool), listed.size = l.length → (listed.toList.countP (· = false)) ≤ fuel →
      (∀ (j : Nat) (an : List Nat), listed.getD j false = true → anc[j]? = some an → ∀ i ∈ an, listed.getD i false = true) →
      ∀ (E : Env) (a : Act) (w : World), TRel w0 U nt (stS l fs σ fun i => listed.getD i false) E a w →
      wpAnyIn (FR rr) nn P .any ops (tconc w0 U nt AQ) fuel listed a w := by
  subst hl
  have hready : ∀ (listed : Array Bool) (i : Nat), i ∈ Region.ready .any l.toArray listed ↔ i < l.length ∧ listed.getD i true = false ∧ ∃ o, l[i]? = some o ∧ ∀ m ∈ directs o, listed.getD m false = true := by
    intro listed i
    unfold Region.ready
    rw [List.mem_filter, List.mem_range]
    simp only [List.size_toArray, Bool.and_eq_true, Bool.not_eq_true']
    refine and_congr_right fun hi => and_congr_right fun _ => ?_
    have hoi : l[i]? = some l[i] := List.getElem?_eq_getElem hi
    have hoa : l.toArray[i]? = some l[i] := by simp [hi]
    rw [hoa]
    simp only [Option.map_some, Option.getD_some]
    refine ⟨fun h => ⟨_, hoi, fun m hm => ?_⟩, fun ⟨o, ho, h⟩ => ?_⟩
    · unfold directs at hm
      obtain ⟨e, he, hem⟩ := List.mem_filterMap.1 hm
      have h1 := (Array.all_eq_true_iff_forall_mem.1 h) e (Array.mem_toList_iff.1 he)
      by_cases hb : Region.binds .any e = true
      · rw [if_pos hb] at hem
        cases hem
        simpa [hb] using h1
      · rw [if_neg hb] at hem
        cases hem
    · rw [hoi] at ho
      cases ho
      refine Array.all_eq_true_iff_forall_mem.2 fun e he => ?_
      by_cases hb : Region.binds .any e = true
      · simp only [hb, Bool.not_true, Bool.false_or]
        exact h _ (List.mem_filterMap.2 ⟨e, Array.mem_toList_iff.2 he, by rw [if_pos hb]⟩)
      · simp [hb]
  have hdone : ∀ (listed : Array Bool), listed.size = l.length → Region.ready .any l.toArray listed = [] → ∀ i, i < l.length → listed.getD i false = true := by
    intro listed hsz hr i
    induction i using Nat.strongRecOn with
    | _ i ih =>
      intro hi
      cases hb : listed.getD i false with
      | true => rfl
      | false =>
        exfalso
        have : i ∈ Region.ready .any l.toArray listed := (hready listed i).2 ⟨hi, by
          have h1 : listed[i]? = some (listed[i]'(by omega)) := Array.getElem?_eq_getElem (by omega)
          rw [Array.getD_eq_getD_getElem?, h1] at hb ⊢
          simpa using hb, l[i], List.getElem?_eq_getElem hi, fun m hm => ih m (hd.lt i l[i] (List.getElem?_eq_getElem hi) m hm) (by have := hd.lt i l[i] (List.getElem?_eq_getElem hi) m hm; omega)⟩
        rw [hr] at this
        cases this
  have hend : ∀ (listed : Array Bool), listed.size = l.length → Region.ready .any l.toArray listed = [] → ∀ (E : Env) (a : Act) (w : World), TRel w0 U nt (stS l fs σ fun i => listed.getD i false) E a w → tconc w0 U nt AQ .normal a w := by
    intro listed hsz hr E a w h
    have hall := hdone listed hsz hr
    have e : stS l fs σ (fun i => listed.getD i false) = σ' := by
      rw [hc.last]
      unfold stS
      congr 1
      · funext x
        refine appS_agree x _ _ _ _ _ (fun i q hi _ => ?_) rfl
        obtain ⟨o, f, ho, _⟩ := zip_at hi
        exact hall i (List.getElem?_eq_some_iff.1 ho).1
      · funext x
        refine appS_agree x _ _ _ _ _ (fun i q hi _ => ?_) rfl
        have := (List.getElem?_eq_some_iff.1 hi).1
        rw [List.length_map, ← hd.len] at this
        exact hall i this
    rw [e] at h
    exact ⟨σ', E, h, hq⟩
  intro fuel
  induction fuel with
  | zero =>
    intro listed hsz hcnt hclosed E a w h
    have hr : Region.ready .any l.toArray listed = [] := by
      rw [List.eq_nil_iff_forall_not_mem]
      intro i hi
      obtain ⟨hlt, hf, _⟩ := (hready listed i).1 hi
      have h1 : listed[i]? = some (listed[i]'(by omega)) := Array.getElem?_eq_getElem (by omega)
      rw [Array.getD_eq_getD_getElem?, h1] at hf
      have h2 : 0 < listed.toList.countP (· = false) := List.countP_pos_iff.2 ⟨listed[i]'(by omega), by simp, by simpa using hf⟩
      omega
    exact ⟨hr, hend listed hsz hr E a w h⟩
  | succ fuel ih =>
    intro listed hsz hcnt hclosed E a w h
    refine ⟨fun hr => hend listed hsz hr E a w h, fun j hj => ?_⟩
    obtain ⟨hlt, hf, o, ho, hpre⟩ := (hready listed j).1 hj
    have hjf : listed.getD j false = false := by
      have h1 : listed[j]? = some (listed[j]'(by omega)) := Array.getElem?_eq_getElem (by omega)
      rw [Array.getD_eq_getD_getElem?, h1] at hf ⊢
      simpa using hf
    have hfj : fs[j]? = some (fs[j]'(by rw [← hd.len]; exact hlt)) := List.getElem?_eq_getElem _
    generalize (fs[j]'(by rw [← hd.len]; exact hlt)) = f at hfj
    obtain ⟨an, han⟩ := hd.has j o ho
    have hanc : ∀ i ∈ an, listed.getD i false = true := fun i hi => by
      rcases hd.up j o an ho han i hi with h1 | ⟨m, hm, him⟩
      · exact hpre i h1
      · obtain ⟨anm, hanm⟩ : ∃ anm, anc[m]? = some anm := by
          cases hx : anc[m]? with
          | some q => exact ⟨q, rfl⟩
          | none => rw [List.getD_eq_getElem?_getD, hx] at him; simp at him
        rw [List.getD_eq_getElem?_getD, hanm] at him
        exact hclosed m anm (hpre m hm) hanm i him
    -- who stands ahead in the text and is not done is far; who stands behind and is done is far
    have hfar1 : ∀ i o' f', i < j → listed.getD i false = false → l[i]? = some o' → fs[i]? = some f' → far o' o f' f = true := fun i o' f' hij hn ho' hf' =>
      hd.sep i j o o' f f' an hij ho hfj han (fun hi => by rw [hanc i hi] at hn; cases hn) ho' hf'
    have hfar2 : ∀ i o' f', j < i → listed.getD i false = true → l[i]? = some o' → fs[i]? = some f' → far o o' f f' = true := fun i o' f' hij hy ho' hf' => by
      obtain ⟨ani, hani⟩ := hd.has i o' ho'
      exact hd.sep j i o' o f' f ani hij ho' hf' hani (fun hi => by have := hclosed i ani hy hani j hi; rw [hjf] at this; cases this) ho hfj
    have hag : TAgree f (stS l fs σ fun i => listed.getD i false) (stS l fs σ fun i => decide (i < j)) := by
      refine ⟨fun t ht => ?_, fun g hg => ?_⟩
      · refine appS_agree t _ _ _ _ _ (fun i q hi hx => ?_) rfl
        obtain ⟨o', f', ho', hf', rfl⟩ := zip_at hi
        rcases Nat.lt_trichotomy i j with h1 | h1 | h1
        · rw [decide_eq_true h1]
          cases hli : listed.getD i false with
          | true => rfl
          | false =>
            have h2 := hfar1 i o' f' h1 hli ho' hf'
            simp only [far, Bool.and_eq_true] at h2
            exact absurd ht (apartL_spec h2.1.1.1.1.1 t hx)
        · subst h1; rw [hjf]; simp
        · rw [decide_eq_false (by omega)]
          cases hli : listed.getD i false with
          | false => rfl
          | true =>
            have h2 := hfar2 i o' f' h1 hli ho' hf'
            simp only [far, Bool.and_eq_true] at h2
            exact absurd ht (apartL_spec h2.1.1.1.2 t hx)
      · refine appS_agree g _ _ _ _ _ (fun i q hi hx => ?_) rfl
        rw [List.getElem?_map] at hi
        obtain ⟨f', hf', rfl⟩ := Option.map_eq_some_iff.1 hi
        have hil : i < l.length := by rw [hd.len]; exact (List.getElem?_eq_some_iff.1 hf').1
        have ho' : l[i]? = some l[i] := List.getElem?_eq_getElem hil
        rcases Nat.lt_trichotomy i j with h1 | h1 | h1
        · rw [decide_eq_true h1]
          cases hli : listed.getD i false with
          | true => rfl
          | false =>
            have h2 := hfar1 i _ f' h1 hli ho' hf'
            simp only [far, Bool.and_eq_true] at h2
            exact absurd hg (apartL_spec h2.1.1.2 g hx)
        · subst h1; rw [hjf]; simp
        · rw [decide_eq_false (by omega)]
          cases hli : listed.getD i false with
          | false => rfl
          | true =>
            have h2 := hfar2 i _ f' h1 hli ho' hf'
            simp only [far, Bool.and_eq_true] at h2
            exact absurd hg (apartL_spec h2.2 g hx)
    have hset : ∀ i, i ≠ j → (listed.setIfInBounds j true).getD i false = listed.getD i false := fun i hi => by
      rw [Array.getD_eq_getD_getElem?, Array.getD_eq_getD_getElem?, Array.getElem?_setIfInBounds_ne (Ne.symm hi)]
    have hsetj : (listed.setIfInBounds j true).getD j false = true := by simp [hsz, hlt]
    have hst : (stS l fs σ fun i => listed.getD i false).step o.dst f.step = stS l fs σ fun i => (listed.setIfInBounds j true).getD i false := by
      unfold stS TS.step
      congr 1
      · rw [← wrT_app o f]
        refine (appS_add _ _ _ _ j (wrT o f) (by rw [List.getElem?_zipWith, ho, hfj]) hsetj hset fun i q x hij hi hS hx => ?_).symm
        obtain ⟨o', f', ho', hf', rfl⟩ := zip_at hi
        have h2 := hfar2 i o' f' hij hS ho' hf'
        simp only [far, Bool.and_eq_true] at h2
        exact apartL_spec h2.1.1.1.1.2 x hx
      · rw [← wrB_app f]
        refine (appS_add _ _ _ _ j (wrB f) (by rw [List.getElem?_map, hfj]; rfl) hsetj hset fun i q x hij hi hS hx => ?_).symm
        rw [List.getElem?_map] at hi
        obtain ⟨f', hf', rfl⟩ := Option.map_eq_some_iff.1 hi
        have hil : i < l.length := by rw [hd.len]; exact (List.getElem?_eq_some_iff.1 hf').1
        have h2 := hfar2 i _ f' hij hS (List.getElem?_eq_getElem hil) hf'
        simp only [far, Bool.and_eq_true] at h2
        exact apartL_spec h2.1.2 x hx
    unfold wpOpIn
    have hoa : l.toArray[j]? = some o := by simpa using ho
    rw [hoa]
    have hgo := hc.at j o f ho hfj _ hag w0 U E a w (wpAnyIn (FR rr) nn P .any l.toArray (tconc w0 U nt AQ) fuel (listed.setIfInBounds j true)) (tconc w0 U nt AQ) h fun E' a' w' h' => ?_
    · simp only
      split at hgo
      · rename_i hw
        rw [if_pos hw]
        exact hgo rr nn
      · rename_i hw
        rw [if_neg hw]
        exact ⟨about_FR rr, hgo⟩
    rw [hst] at h'
    refine ih _ (by simpa using hsz) ?_ (fun i ani hi hani k hk => ?_) E' a' w' h'
    · have hlj : j < listed.toList.length := by simp [hsz, hlt]
      have h1 : (listed.setIfInBounds j true).toList.countP (· = false) = (listed.toList.set j true).countP (· = false) := by rw [Array.toList_setIfInBounds]
      rw [h1, List.countP_set hlj]
      have h2 : (listed.toList[j] = false) := by
        have h3 : listed[j]? = some (listed[j]'(by omega)) := Array.getElem?_eq_getElem (by omega)
        rw [Array.getD_eq_getD_getElem?, h3] at hjf
        simpa using hjf
      have h3 : 0 < listed.toList.countP (fun x => decide (x = false)) := List.countP_pos_iff.2 ⟨listed.toList[j], List.getElem_mem _, (by rw [h2]; rfl : decide (listed.toList[j] = false) = true)⟩
      rw [if_pos (by rw [h2]; rfl), if_neg (by decide)]
      omega
    · by_cases hkj : k = j
      · subst hkj; exact hsetj
      · rw [hset k hkj]
        by_cases hij : i = j
        · subst hij
          rw [han] at hani
          cases hani
          exact hanc k hk
        · rw [hset i hij] at hi
          exact hclosed i ani hi hani k hk

/-- A region that draws its order comes to what the text's order comes to. -/
theorem TAw.draw {id : Nat} {l : List Oper} {fs : List TInfo} {σ' : TS} (hm : P.follows .mixedOrders = true) (hl : ops = l.toArray) (hc : TChain P nt ops l σ fs σ') (hk : okDraw l fs (ancsOf l) = true) (hq : AQ .normal σ') : TAw P nt (.region id ops true) AQ σ := fun r n w0 U E a w hr => by
  refine wpIn_region_any hm ?_
  have hsz : (Array.replicate ops.size false).size = l.length := by rw [Array.size_replicate, hl]; simp
  have e : (fun i => (Array.replicate ops.size false).getD i false) = fun _ : Nat => false := by
    funext i
    rw [Array.getD_eq_getD_getElem?, Array.getElem?_replicate]
    split <;> rfl
  refine draw_any hl hc (Draw.of hk) hq _ _ hsz ?_ (fun j an hj _ => ?_) E a _ ?_
  · exact Nat.le_trans List.countP_le_length (by simp)
  · rw [congrFun e j] at hj
    cases hj
  · rw [e, stS_none]
    exact hr.keep (Nat.le_refl _) (fun _ _ => rfl) hr.mem.below.drew
end
end Go.Proofs.Ytmkfpfnjimmmaaa
