/- The walk over states that name no address: the rules of the code's forms, and of regions, drawn ones too. Nothing of the dump stands here. -/
import Derived.Test.YtmkfpfnjimmmaaaSepA
import Derived.Tactics
namespace Go.Proofs.Ytmkfpfnjimmmaaa
open Go.RowKit
set_option linter.unusedVariables false

def constAV : Value → AV
  | .int k n => .d (.int k n)
  | .bool b => .d (.bool b)
  | .slice none 0 0 => .nsl
  | .pointer none => .nptr
  | _ => .und

def St.eval (σ : St) : Operand → AV
  | .tmp t => σ.tmp t
  | .const v => constAV v
  | .global _ => .und
  | .func f => .fn f []

theorem VA.const {E : Env} {w : World} {F U : Nat → Prop} {base : Nat} (v : Value) : VA E w F U base (constAV v) v := by
  unfold constAV
  split
  · exact .d (.int _ _)
  · exact .d (.bool _)
  · exact .nsl
  · exact .nptr
  · exact .und _

theorem Rel.eval {w0 : World} {U : Nat → Prop} {nt : Nat} {σ : St} {E : Env} {a : Act} {w : World} (h : Rel w0 U nt σ E a w) (x : Operand) : VA E w (Fof E σ.blk) U w0.heap.size (σ.eval x) (a.eval x) := by
  cases x with
  | tmp t => exact h.tmp t
  | const v => exact .const v
  | global g => exact .und _
  | func f => exact VA.fn (vs := []) (us := []) rfl (fun i x u h => by simp at h)

/-- What an operation does: its slot's new value, and what blocks become. -/
structure Step where
  v : AV
  ups : List (Nat × Blk)

def upsOf (B : Nat → Blk) (l : List (Nat × Blk)) : Nat → Blk := l.foldl (fun B p => upd B p.1 p.2) B
def putOf (f : Nat → AV) (dst : Option Tmp) (v : AV) : Nat → AV := match dst with | some t => upd f t v | none => f
def St.step (σ : St) (dst : Option Tmp) (s : Step) : St := ⟨putOf σ.tmp dst s.v, upsOf σ.blk s.ups⟩

def Does (P : Program) (nt : Nat) (o : Oper) (σ : St) (s : Step) : Prop :=
  ∀ (w0 : World) (U : Nat → Prop) (E : Env) (a : Act) (w : World) (N : Act → World → Prop) (Q : Exit → Act → World → Prop), Rel w0 U nt σ E a w →
    (∀ E' a' w', Rel w0 U nt (σ.step o.dst s) E' a' w' → N a' w') → o.wp P a w N Q

/-- The same, with the guard. -/
def DoesG (P : Program) (nt : Nat) (ops : Array Oper) (o : Oper) (σ : St) (s : Step) : Prop :=
  ∀ (w0 : World) (U : Nat → Prop) (E : Env) (a : Act) (w : World) (N : Act → World → Prop) (Q : Exit → Act → World → Prop), Rel w0 U nt σ E a w →
    (∀ E' a' w', Rel w0 U nt (σ.step o.dst s) E' a' w' → N a' w') → if Region.wanted o (yielded ops a.tmps) then o.wp P a w N Q ∨ (o.asks P a w ∧ LetsOut Q) else N (a.put o.dst undef) w

/-- What it reads: slots, blocks; and what it does. -/
structure Info where
  rt : List Nat
  rb : List Nat
  step : Step

def Agree (f : Info) (σ' σ : St) : Prop := (∀ t ∈ f.rt, σ'.tmp t = σ.tmp t) ∧ ∀ g ∈ f.rb, σ'.blk g = σ.blk g
theorem Agree.refl (f : Info) (σ : St) : Agree f σ σ := ⟨fun _ _ => rfl, fun _ _ => rfl⟩

def tmpsIn (l : List Operand) : List Nat := l.filterMap fun | .tmp t => some t | _ => none
theorem tmpsIn_mem {l : List Operand} {t : Nat} (h : Operand.tmp t ∈ l) : t ∈ tmpsIn l := List.mem_filterMap.2 ⟨_, h, rfl⟩
theorem Agree.eval {l : List Operand} {rb : List Nat} {s : Step} {σ' σ : St} (h : Agree ⟨tmpsIn l, rb, s⟩ σ' σ) {x : Operand} (hx : x ∈ l) : σ'.eval x = σ.eval x := by
  cases x with
  | tmp t => exact h.1 t (tmpsIn_mem hx)
  | _ => rfl

def DoesB (P : Program) (nt : Nat) (o : Oper) (σ : St) (f : Info) : Prop := ∀ σ', Agree f σ' σ → Does P nt o σ' f.step
def DoesR (P : Program) (nt : Nat) (ops : Array Oper) (o : Oper) (σ : St) (f : Info) : Prop := ∀ σ', Agree f σ' σ → DoesG P nt ops o σ' f.step

theorem DoesR.plain {P : Program} {nt : Nat} {ops : Array Oper} {o : Oper} {σ : St} {f : Info} (hg : o.guard = none) (h : DoesB P nt o σ f) : DoesR P nt ops o σ f := fun σ' ha w0 U E a w N Q hr hN => by
  rw [if_pos (by simp [Region.wanted, hg])]
  exact .inl (h σ' ha w0 U E a w N Q hr hN)

theorem tmp_bool {w0 : World} {U : Nat → Prop} {nt : Nat} {σ : St} {E : Env} {a : Act} {w : World} (h : Rel w0 U nt σ E a w) {t : Nat} {b : Bool} (hb : σ.tmp t = .d (.bool b)) : a.tmps[t]? = some (.bool b) := by
  have h1 := h.tmp t
  rw [hb] at h1
  generalize hv : a.tmps.getD t undef = v at h1
  cases h1 with
  | d h2 =>
    cases h2
    rw [Array.getD_eq_getD_getElem?] at hv
    cases he : a.tmps[t]? with
    | none => rw [he] at hv; cases hv
    | some v => rw [he] at hv; rw [← hv]; rfl

theorem yielded_of {ops : Array Oper} {tmps : Array Value} {j t : Nat} {b : Bool} (h1 : ((ops[j]?).bind (·.dst)) = some t) (h2 : tmps[t]? = some (.bool b)) : yielded ops tmps j = some b := by
  simp [yielded, h1, h2]

/-- A guarded operation that is wanted. -/
theorem DoesR.on {P : Program} {nt : Nat} {ops : Array Oper} {o : Oper} {σ : St} {rt rb : List Nat} {s : Step} {j t : Nat} {b : Bool} (hg : o.guard = some (j, b)) (hj : ((ops[j]?).bind (·.dst)) = some t) (hb : σ.tmp t = .d (.bool b)) (h : DoesB P nt o σ ⟨rt, rb, s⟩) :
    DoesR P nt ops o σ ⟨t :: rt, rb, s⟩ := fun σ' ha w0 U E a w N Q hr hN => by
  have hy := yielded_of hj (tmp_bool hr ((ha.1 t (by simp)).trans hb))
  rw [if_pos (by simp [Region.wanted, hg, hy])]
  exact .inl (h σ' ⟨fun t ht => ha.1 t (List.mem_cons_of_mem _ ht), ha.2⟩ w0 U E a w N Q hr hN)

theorem Rel.undef {w0 : World} {U : Nat → Prop} {nt : Nat} {σ : St} {E : Env} {a : Act} {w : World} (h : Rel w0 U nt σ E a w) {dst : Option Tmp} (hd : ∀ t, dst = some t → t < nt) {x : AV} {v : Value} (hv : VA E w (Fof E σ.blk) U w0.heap.size x v) : Rel w0 U nt (σ.step dst ⟨x, []⟩) E (a.put dst v) w := by
  cases dst with
  | none => exact h
  | some t => exact h.put (hd t rfl) hv

theorem VA.undef0 {E : Env} {w : World} {F U : Nat → Prop} {base : Nat} : VA E w F U base (.tup []) undef := VA.tup (vs := []) (us := []) rfl fun i x u h => by simp at h
/-- A guarded operation that is not wanted. -/
theorem DoesR.off {P : Program} {nt : Nat} {ops : Array Oper} {o : Oper} {σ : St} {j t : Nat} {b : Bool} (hd : ∀ t, o.dst = some t → t < nt) (hg : o.guard = some (j, !b)) (hj : ((ops[j]?).bind (·.dst)) = some t) (hb : σ.tmp t = .d (.bool b)) :
    DoesR P nt ops o σ ⟨[t], [], .tup [], []⟩ := fun σ' ha w0 U E a w N Q hr hN => by
  have hy := yielded_of hj (tmp_bool hr ((ha.1 t (by simp)).trans hb))
  rw [if_neg (by cases b <;> simp [Region.wanted, hg, hy])]
  exact hN _ _ _ (hr.undef hd .undef0)
/-- One whose guard was not wanted itself. -/
theorem DoesR.offU {P : Program} {nt : Nat} {ops : Array Oper} {o : Oper} {σ : St} {j t : Nat} {b : Bool} (hd : ∀ t, o.dst = some t → t < nt) (hg : o.guard = some (j, b)) (hj : ((ops[j]?).bind (·.dst)) = some t) (hb : σ.tmp t = .tup []) :
    DoesR P nt ops o σ ⟨[t], [], .tup [], []⟩ := fun σ' ha w0 U E a w N Q hr hN => by
  have h1 := hr.tmp t
  rw [(ha.1 t (by simp)).trans hb] at h1
  have hy : yielded ops a.tmps j = none := by
    generalize hv : a.tmps.getD t undef = v at h1
    cases h1 with
    | tup hl h =>
      rw [Array.getD_eq_getD_getElem?] at hv
      unfold yielded
      rw [hj]
      simp only [Option.bind_some]
      cases he : a.tmps[t]? with
      | none => rfl
      | some v => rw [he] at hv; simp at hv; rw [hv]
  rw [if_neg (by simp [Region.wanted, hg, hy])]
  exact hN _ _ _ (hr.undef hd .undef0)

/-- The walk's post, read so. -/
def conc (w0 : World) (U : Nat → Prop) (nt : Nat) (AQ : Exit → St → Prop) : Exit → Act → World → Prop := fun e a w => ∃ σ E, Rel w0 U nt σ E a w ∧ AQ e σ

def Aw (P : Program) (nt : Nat) (c : Code) (AQ : Exit → St → Prop) (σ : St) : Prop :=
  ∀ (w0 : World) (U : Nat → Prop) (E : Env) (a : Act) (w : World), Rel w0 U nt σ E a w → c.wp P (conc w0 U nt AQ) a w

def AThen (M : St → Prop) (AQ : Exit → St → Prop) : Exit → St → Prop
  | .normal, σ => M σ
  | e, σ => AQ e σ

def AIn (id : Nat) (AQ : Exit → St → Prop) : Exit → St → Prop
  | .exit id', σ => if id' = id then AQ .normal σ else AQ (.exit id') σ
  | e, σ => AQ e σ

section
variable {P : Program} {nt : Nat} {AQ : Exit → St → Prop} {σ : St}

theorem Aw.mono {c : Code} {AQ' : Exit → St → Prop} (h : Aw P nt c AQ σ) (hm : ∀ e σ, AQ e σ → AQ' e σ) : Aw P nt c AQ' σ := fun w0 U E a w hr =>
  wp_mono (h w0 U E a w hr) fun _ _ _ ⟨σ', E', h1, h2⟩ => ⟨σ', E', h1, hm _ _ h2⟩

theorem Aw.seq {x y : Code} (h : Aw P nt x (AThen (Aw P nt y AQ) AQ) σ) : Aw P nt (.seq x y) AQ σ := fun w0 U E a w hr =>
  wp_seq (wp_mono (h w0 U E a w hr) fun e a' w' ⟨σ', E', h1, h2⟩ => by
    cases e with
    | normal => exact h2 w0 U E' a' w' h1
    | _ => exact ⟨σ', E', h1, h2⟩)

/-- Two pieces of code, with a word between them. -/
theorem Aw.cut {x y : Code} (M : St → Prop) (h : Aw P nt x (AThen M AQ) σ) (hy : ∀ σ, M σ → Aw P nt y AQ σ) : Aw P nt (.seq x y) AQ σ :=
  .seq (h.mono fun e σ hq => by cases e <;> first | exact hy _ hq | exact hq)

theorem Aw.skip (h : AQ .normal σ) : Aw P nt .skip AQ σ := fun w0 U E a w hr => wp_skip ⟨σ, E, hr, h⟩
theorem Aw.ret (h : AQ .ret σ) : Aw P nt .ret AQ σ := fun w0 U E a w hr => wp_ret ⟨σ, E, hr, h⟩
theorem Aw.exit {id : Nat} (h : AQ (.exit id) σ) : Aw P nt (.exit id) AQ σ := fun w0 U E a w hr => wp_exit ⟨σ, E, hr, h⟩
theorem Aw.block {id : Nat} {c : Code} (h : Aw P nt c (AIn id AQ) σ) : Aw P nt (.block id c) AQ σ := fun w0 U E a w hr =>
  wp_block (wp_mono (h w0 U E a w hr) fun e a' w' ⟨σ', E', h1, h2⟩ => by
    cases e with
    | exit id' =>
      show if id' = id then _ else _
      simp only [AIn] at h2
      by_cases hid : id' = id
      · rw [if_pos hid] at h2 ⊢
        exact ⟨σ', E', h1, h2⟩
      · rw [if_neg hid] at h2 ⊢
        exact ⟨σ', E', h1, h2⟩
    | _ => exact ⟨σ', E', h1, h2⟩)

theorem bool_of {E : Env} {w : World} {F U : Nat → Prop} {base : Nat} {b : Bool} {v : Value} (h : VA E w F U base (.d (.bool b)) v) : v = .bool b := by
  cases h with
  | d h => cases h; rfl
theorem int_of {E : Env} {w : World} {F U : Nat → Prop} {base : Nat} {k : IntKind} {n : Int} {v : Value} (h : VA E w F U base (.d (.int k n)) v) : v = .int k n := by
  cases h with
  | d h => cases h; rfl

theorem Aw.cond {c : Operand} {x y : Code} {b : Bool} (hc : σ.eval c = .d (.bool b)) (ht : b = true → Aw P nt x AQ σ) (hf : b = false → Aw P nt y AQ σ) : Aw P nt (.cond c x y) AQ σ := fun w0 U E a w hr => by
  have h := hr.eval c
  rw [hc] at h
  exact wp_cond_split (bool_of h) (fun e => ht e w0 U E a w hr) (fun e => hf e w0 U E a w hr)

/-- A loop: so many rounds are left at the most. -/
theorem Aw.loop {c : Code} (I : Nat → St → Prop) (n : Nat) (h0 : I n σ) (round : ∀ n σ, I n σ → Aw P nt c (AThen (fun σ' => ∃ m, m < n ∧ I m σ') AQ) σ) : Aw P nt (.loop c) AQ σ := fun w0 U E a w hr => by
  intro b k cs
  have key : ∀ n σ E a w, Rel w0 U nt σ E a w → I n σ →
      ∃ e a' w', conc w0 U nt AQ e a' w' ∧ Arrives P (lone (b.at a (.code c :: .inLoop c :: k)) cs w) b k cs e a' w' := by
    intro n
    induction n using Nat.strongRecOn with
    | _ n ih =>
      intro σ E a w hr hI
      obtain ⟨e, a₁, w₁, ⟨σ₁, E₁, h1, hq⟩, harr⟩ := round n σ hI w0 U E a w hr b (.inLoop c :: k) cs
      cases e with
      | normal =>
        obtain ⟨m, hlt, hI₁⟩ := hq
        obtain ⟨e₂, a₂, w₂, hq₂, harr₂⟩ := ih m hlt σ₁ E₁ a₁ w₁ h1 hI₁
        exact ⟨e₂, a₂, w₂, hq₂, .of_steps (Steps.trans harr (.one step_inLoop)) harr₂⟩
      | exit id => exact ⟨_, a₁, w₁, ⟨σ₁, E₁, h1, hq⟩, .pass (x := .inLoop c) rfl (fun _ _ => .inl (by simp)) harr⟩
      | goto l => exact ⟨_, a₁, w₁, ⟨σ₁, E₁, h1, hq⟩, .pass (x := .inLoop c) rfl (fun _ _ => .inl (by simp)) harr⟩
      | ret => exact ⟨_, a₁, w₁, ⟨σ₁, E₁, h1, hq⟩, .pass (x := .inLoop c) rfl (fun _ _ => .inl (by simp)) harr⟩
      | panic ch => exact ⟨_, a₁, w₁, ⟨σ₁, E₁, h1, hq⟩, .pass (x := .inLoop c) rfl (fun _ _ => .inl (by simp)) harr⟩
      | outgrown => exact ⟨_, a₁, w₁, ⟨σ₁, E₁, h1, hq⟩, .pass (x := .inLoop c) rfl (fun _ _ => .inl (by simp)) harr⟩
  obtain ⟨e, a', w', hq, harr⟩ := key n σ E a w hr h0
  exact ⟨e, a', w', hq, .of_steps (.one step_loop) harr⟩

/-- The operations of a region, one behind the other. -/
def AL (P : Program) (nt : Nat) (ops : Array Oper) (AQ : Exit → St → Prop) (l : List Oper) (σ : St) : Prop :=
  ∀ (w0 : World) (U : Nat → Prop) (E : Env) (a : Act) (w : World), Rel w0 U nt σ E a w → wpList P ops (conc w0 U nt AQ) l a w

theorem AL.nil {ops : Array Oper} (h : AQ .normal σ) : AL P nt ops AQ [] σ := fun w0 U E a w hr => ⟨σ, E, hr, h⟩
theorem AL.cons {ops : Array Oper} {o : Oper} {l : List Oper} {f : Info} (hd : DoesR P nt ops o σ f) (h : AL P nt ops AQ l (σ.step o.dst f.step)) : AL P nt ops AQ (o :: l) σ := fun w0 U E a w hr => by
  show if _ then _ else _
  exact hd σ (Agree.refl _ _) w0 U E a w _ _ hr fun E' a' w' hr' => h w0 U E' a' w' hr'
theorem Aw.region {id : Nat} {ops : Array Oper} (h : AL P nt ops AQ ops.toList σ) : Aw P nt (.region id ops false) AQ σ := fun w0 U E a w hr => wp_region_list (h w0 U E a w hr)

/- Regions that draw their order. -/

def directs (o : Oper) : List Nat := o.after.toList.filterMap fun e => if Region.binds .any e then some e.on else none
def ancsOf (ops : List Oper) : List (List Nat) := ops.foldl (fun acc o => acc ++ [directs o ++ (directs o).flatMap fun m => acc.getD m []]) []

def apartL (a b : List Nat) : Bool := a.all fun x => !b.any (Nat.beq x)
def Info.wt (o : Oper) : List Nat := o.dst.toList
def Info.wb (f : Info) : List Nat := f.step.ups.map (·.1)
/-- Two operations do not touch each other. -/
def far (o o' : Oper) (f f' : Info) : Bool :=
  apartL (Info.wt o) f'.rt && apartL (Info.wt o) (Info.wt o') && apartL (Info.wt o') f.rt && apartL f.wb f'.rb && apartL f.wb f'.wb && apartL f'.wb f.rb

def okDraw (ops : List Oper) (fs : List Info) (anc : List (List Nat)) : Bool :=
  ops.length == fs.length && ops.length == anc.length &&
  (List.range ops.length).all fun j =>
    (match ops[j]?, fs[j]?, anc[j]? with
     | some o, some f, some an => (directs o).all (fun m => decide (m < j)) && an.all (fun i => (directs o).any (Nat.beq i) || (directs o).any fun m => (anc.getD m []).any (Nat.beq i)) &&
        (List.range j).all fun i => an.any (Nat.beq i) || (match ops[i]?, fs[i]? with | some o', some f' => far o' o f' f | _, _ => false)
     | _, _, _ => false)

/-- The states that the operations come to in the text's order. -/
inductive Chain (P : Program) (nt : Nat) (ops : Array Oper) : List Oper → St → List Info → St → Prop where
  | nil {σ : St} : Chain P nt ops [] σ [] σ
  | cons {o : Oper} {l : List Oper} {σ σ' : St} {f : Info} {fs : List Info} (hd : DoesR P nt ops o σ f) (h : Chain P nt ops l (σ.step o.dst f.step) fs σ') : Chain P nt ops (o :: l) σ (f :: fs) σ'
end
end Go.Proofs.Ytmkfpfnjimmmaaa
