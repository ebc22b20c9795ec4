/- Small words for the walks: what follows a piece of code; a slice that may be nil. Nothing of the dump stands here. -/
import Derived.Test.YtmkfpfnjimmmaaaSepI
import Derived.WalkSpells
namespace Go.Proofs.Ytmkfpfnjimmmaaa
open Go.RowKit
set_option linter.unusedVariables false
set_option linter.unusedSimpArgs false

section
variable {P : Program} {nt : Nat} {σ : St} {M : St → Prop} {AQ : Exit → St → Prop}

theorem AThen.n (h : M σ) : AThen M AQ .normal σ := h
theorem AThen.r (h : AQ .ret σ) : AThen M AQ .ret σ := h
theorem AThen.e {id : Nat} (h : AQ (.exit id) σ) : AThen M AQ (.exit id) σ := h
theorem AIn.n {id : Nat} (h : AQ .normal σ) : AIn id AQ .normal σ := h
theorem AIn.r {id : Nat} (h : AQ .ret σ) : AIn id AQ .ret σ := h
theorem AIn.e {id : Nat} (h : AQ .normal σ) : AIn id AQ (.exit id) σ := by show if id = id then _ else _; rw [if_pos rfl]; exact h
theorem AIn.o {id id' : Nat} (hne : Nat.beq id' id = false) (h : AQ (.exit id') σ) : AIn id AQ (.exit id') σ := by show if id' = id then _ else _; rw [if_neg (fun e => by subst e; simp at hne)]; exact h
theorem APost.n {fn : Func} {post : AV → List RB → Prop} (h : Ret P fn σ post) : APost P fn post .normal σ := h
theorem APost.r {fn : Func} {post : AV → List RB → Prop} (h : Ret P fn σ post) : APost P fn post .ret σ := h

/-- An operation without a guard. -/
theorem AL.op {o : Oper} {ops : Array Oper} {l : List Oper} {f : Info} (hg : o.guard = none) (hd : DoesB P nt o σ f) (h : AL P nt ops AQ l (σ.step o.dst f.step)) : AL P nt ops AQ (o :: l) σ := AL.cons (.plain hg hd) h
theorem Chain.op {o : Oper} {ops : Array Oper} {l : List Oper} {f : Info} {fs : List Info} {σ' : St} (hg : o.guard = none) (hd : DoesB P nt o σ f) (h : Chain P nt ops l (σ.step o.dst f.step) fs σ') : Chain P nt ops (o :: l) σ (f :: fs) σ' := .cons (.plain hg hd) h

/-- Whether a slice is nil is not known, where it has no elements. -/
theorem AL.isNil {o : Oper} {ops : Array Oper} {l : List Oper} {t ty e : TypeId} {x y : Operand} {f : Bool} {sz : Nat} {es : List (List D)} (hg : o.guard = none) (ho : o.op = .binOp .eql t x y ty) (ht : P.underlying t = some (.slice e)) (hx : SlV (σ.eval x) f sz es) (hy : y = .const (.slice none 0 0)) (hd : dstOk o nt = true)
    (h1 : es = [] → AL P nt ops AQ l (σ.step o.dst ⟨.d (.bool true), []⟩)) (h2 : AL P nt ops AQ l (σ.step o.dst ⟨.d (.bool false), []⟩)) : AL P nt ops AQ (o :: l) σ := fun w0 U E a w hr => by
  obtain ⟨ad, n, cap, u, h3, h4, h5, h6, h7, _⟩ := view_of hx (hr.eval x)
  have hrun : (execOp a.eval o).run P w = .ok (.value (.bool ad.isNone)) w := by
    subst hy
    rw [execOp, ho]
    have hb := Lib.run_eql_slice_nil (P := P) w t e ad n cap 0 0 ht
    have hcv : a.eval (.const (.slice none 0 0)) = .slice none 0 0 := rfl
    simp only [h3, hcv, Sem.run_bind]
    have hgd : (eqGuard .eql t x (.const (.slice none 0 0)) (.slice ad n cap) (.slice none 0 0)).run P w = .ok () w := rfl
    simp only [hgd, Result.andThen_ok, hb]
    rfl
  show if _ then _ else _
  rw [if_pos (by simp [Region.wanted, hg])]
  refine .inl ?_
  unfold Oper.wp
  rw [hrun]
  cases ad with
  | none =>
    have h0 := h7 rfl
    have : es = [] := List.eq_nil_of_length_eq_zero (by omega)
    exact h1 this w0 U E _ w (hr.undef (dstOk_lt hd) (.d (.bool _)))
  | some b => exact h2 w0 U E _ w (hr.undef (dstOk_lt hd) (.d (.bool _)))

/-- The elements of a slice that is read are all of its size. -/
theorem Aw.sized {c : Code} {t : Nat} {f : Bool} {sz : Nat} {es : List (List D)} (hx : SlV (σ.tmp t) f sz es) (h : (∀ (i : Nat) (x : List D), es[i]? = some x → x.length = sz) → es.length ≤ maxLen → Aw P nt c AQ σ) : Aw P nt c AQ σ := fun w0 U E a w hr => by
  obtain ⟨ad, n, cap, u, h3, h4, h5, h6, h7, h8, _⟩ := view_of hx (hr.tmp t)
  exact h h8 (by omega) w0 U E a w hr
end
end Go.Proofs.Ytmkfpfnjimmmaaa
