/- The walk over states that name no address: the rules of the code's forms, and of regions, drawn ones too. Nothing of the dump stands here. -/
import Derived.Test.YtmkfpfnjimmmaaaVA
import Derived.Tactics
namespace Go.Proofs.Ytmkfpfnjimmmaaa
open Go.RowKit
set_option linter.unusedVariables false

def constAV : Value → AV
  | .int k n => .d (.int k n)
  | .bool b => .d (.bool b)
  | .slice none 0 0 => .nsl
  | .pointer none => .nptr
  | .map none => .nmp
  | _ => .und

def St.eval (σ : St) : Operand → AV
  | .tmp t => σ.tmp t
  | .const v => constAV v
  | .global _ => .und
  | .func f => .fn f []

theorem VA.const {E : Env} {w : World} {F U : Nat → Prop} {base : Nat} (v : Value) : VA E w F U base (constAV v) v := by
  unfold constAV
  split
  · exact .d (.int _ _)
  · exact .d (.bool _)
  · exact .nsl
  · exact .nptr
  · exact .nmp
  · exact .und _

theorem Rel.eval {w0 : Cx} {U : Nat → Prop} {nt : Nat} {σ : St} {E : Env} {a : Act} {w : World} (h : Rel w0 U nt σ E a w) (x : Operand) : VA E w (Fof E σ.blk) U w0.heap.size (σ.eval x) (a.eval x) := by
  cases x with
  | tmp t => exact h.tmp t
  | const v => exact .const v
  | global g => exact .und _
  | func f => exact VA.fn (vs := []) (us := []) rfl (fun i x u h => by simp at h)

/-- What an operation does: its slot's new value, and what blocks become. -/
structure Step where
  v : AV
  ups : List (Nat × Blk)

def upsOf (B : Nat → Blk) (l : List (Nat × Blk)) : Nat → Blk := l.foldl (fun B p => upd B p.1 p.2) B
def putOf (f : Nat → AV) (dst : Option Tmp) (v : AV) : Nat → AV := match dst with | some t => upd f t v | none => f
def St.step (σ : St) (dst : Option Tmp) (s : Step) : St := ⟨putOf σ.tmp dst s.v, upsOf σ.blk s.ups⟩

def Does (P : Program) (nt : Nat) (o : Oper) (σ : St) (s : Step) : Prop :=
  ∀ (w0 : Cx) (U : Nat → Prop) (E : Env) (a : Act) (w : World) (N : Act → World → Prop) (Q : Exit → Act → World → Prop), Rel w0 U nt σ E a w →
    (∀ E' a' w', Rel w0 U nt (σ.step o.dst s) E' a' w' → N a' w') → o.wp P a w N Q

/-- What it reads: slots, blocks; and what it does. -/
structure Info where
  rt : List Nat
  rb : List Nat
  step : Step

def Agree (f : Info) (σ' σ : St) : Prop := (∀ t ∈ f.rt, σ'.tmp t = σ.tmp t) ∧ ∀ g ∈ f.rb, σ'.blk g = σ.blk g
theorem Agree.refl (f : Info) (σ : St) : Agree f σ σ := ⟨fun _ _ => rfl, fun _ _ => rfl⟩

def tmpsIn (l : List Operand) : List Nat := l.filterMap fun | .tmp t => some t | _ => none
theorem tmpsIn_mem {l : List Operand} {t : Nat} (h : Operand.tmp t ∈ l) : t ∈ tmpsIn l := List.mem_filterMap.2 ⟨_, h, rfl⟩
theorem Agree.eval {l : List Operand} {rb : List Nat} {s : Step} {σ' σ : St} (h : Agree ⟨tmpsIn l, rb, s⟩ σ' σ) {x : Operand} (hx : x ∈ l) : σ'.eval x = σ.eval x := by
  cases x with
  | tmp t => exact h.1 t (tmpsIn_mem hx)
  | _ => rfl

def DoesB (P : Program) (nt : Nat) (o : Oper) (σ : St) (f : Info) : Prop := ∀ σ', Agree f σ' σ → Does P nt o σ' f.step
theorem tmp_bool {w0 : Cx} {U : Nat → Prop} {nt : Nat} {σ : St} {E : Env} {a : Act} {w : World} (h : Rel w0 U nt σ E a w) {t : Nat} {b : Bool} (hb : σ.tmp t = .d (.bool b)) : a.tmps[t]? = some (.bool b) := by
  have h1 := h.tmp t
  rw [hb] at h1
  generalize hv : a.tmps.getD t undef = v at h1
  cases h1 with
  | d h2 =>
    cases h2
    rw [Array.getD_eq_getD_getElem?] at hv
    cases he : a.tmps[t]? with
    | none => rw [he] at hv; cases hv
    | some v => rw [he] at hv; rw [← hv]; rfl

theorem yielded_of {ops : Array Oper} {tmps : Array Value} {j t : Nat} {b : Bool} (h1 : ((ops[j]?).bind (·.dst)) = some t) (h2 : tmps[t]? = some (.bool b)) : yielded ops tmps j = some b := by
  simp [yielded, h1, h2]

theorem Rel.undef {w0 : Cx} {U : Nat → Prop} {nt : Nat} {σ : St} {E : Env} {a : Act} {w : World} (h : Rel w0 U nt σ E a w) {dst : Option Tmp} (hd : ∀ t, dst = some t → t < nt) {x : AV} {v : Value} (hv : VA E w (Fof E σ.blk) U w0.heap.size x v) : Rel w0 U nt (σ.step dst ⟨x, []⟩) E (a.put dst v) w := by
  cases dst with
  | none => exact h
  | some t => exact h.put (hd t rfl) hv

theorem VA.undef0 {E : Env} {w : World} {F U : Nat → Prop} {base : Nat} : VA E w F U base (.tup []) undef := VA.tup (vs := []) (us := []) rfl fun i x u h => by simp at h
theorem bool_of {E : Env} {w : World} {F U : Nat → Prop} {base : Nat} {b : Bool} {v : Value} (h : VA E w F U base (.d (.bool b)) v) : v = .bool b := by
  cases h with
  | d h => cases h; rfl
theorem int_of {E : Env} {w : World} {F U : Nat → Prop} {base : Nat} {k : IntKind} {n : Int} {v : Value} (h : VA E w F U base (.d (.int k n)) v) : v = .int k n := by
  cases h with
  | d h => cases h; rfl

end Go.Proofs.Ytmkfpfnjimmmaaa
