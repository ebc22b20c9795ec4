/- The operations that make no memory: numbers, fields' and elements' places, loads. Nothing of the dump stands here. -/
import Derived.Test.YtmkfpfnjimmmaaaVB
import Derived.IntWalk
namespace Go.Proofs.Ytmkfpfnjimmmaaa
open Go.RowKit
set_option linter.unusedVariables false
set_option linter.unusedSimpArgs false

/-- Whether a type is of several cells, and of how many. -/
def tyOf (P : Program) (t : TypeId) : Option (Bool × Nat) :=
  match P.underlying t, P.info? t with
  | some d, some i => some ((match d with | .struct _ => true | .array _ _ => true | _ => false), i.size)
  | _, _ => none

def fldOf (P : Program) (s : TypeId) (f : Nat) : Option (Nat × Bool × Nat) :=
  match P.underlying s with
  | some (.struct fs) => (fs[f]?).bind fun fl => (tyOf P fl.type).map fun i => (fl.offset, i)
  | _ => none

def elOf (P : Program) (t : TypeId) : Option (TypeId × Nat) :=
  match P.underlying t with
  | some (.slice e) => (P.info? e).map fun i => (e, i.size)
  | _ => none

def arrOf (P : Program) (t : TypeId) : Option (Nat × TypeId × Nat) :=
  match P.underlying t with
  | some (.array n e) => (P.info? e).map fun i => (n, e, i.size)
  | _ => none

section
variable {P : Program}

theorem run_sizeOf' {t : TypeId} {i : TypeInfo} (h : P.info? t = some i) (w : World) : (sizeOf t).run P w = .ok i.size w := by
  simp [sizeOf, typeInfo, h]

theorem tyOf_run {t : TypeId} {b : Bool} {n : Nat} (h : tyOf P t = some (b, n)) (w : World) : (isAgg t).run P w = .ok b w ∧ (sizeOf t).run P w = .ok n w := by
  unfold tyOf at h
  split at h
  · rename_i d i hd hi
    simp only [Option.some.injEq, Prod.mk.injEq] at h
    obtain ⟨h1, h2⟩ := h
    refine ⟨?_, by rw [run_sizeOf' hi, h2]⟩
    unfold isAgg
    rw [Sem.run_bind, run_underlying hd w]
    subst h1
    cases d <;> rfl
  · cases h

theorem fldOf_run {s f off n : Nat} {b : Bool} (h : fldOf P s f = some (off, b, n)) : ∃ fs fl, P.underlying s = some (.struct fs) ∧ fs[f]? = some fl ∧ fl.offset = off ∧ tyOf P fl.type = some (b, n) := by
  unfold fldOf at h
  split at h
  · rename_i fs hfs
    obtain ⟨fl, hfl, h2⟩ := Option.bind_eq_some_iff.1 h
    obtain ⟨i, hi, h3⟩ := Option.map_eq_some_iff.1 h2
    obtain ⟨rfl, rfl⟩ : fl.offset = off ∧ i = (b, n) := by simpa using h3
    exact ⟨fs, fl, hfs, hfl, rfl, hi⟩
  · cases h

theorem elOf_run {t : TypeId} {e : TypeId} {n : Nat} (h : elOf P t = some (e, n)) : P.underlying t = some (.slice e) ∧ ∃ i, P.info? e = some i ∧ i.size = n := by
  unfold elOf at h
  split at h
  · rename_i e' he
    obtain ⟨i, hi, h3⟩ := Option.map_eq_some_iff.1 h
    simp only [Prod.mk.injEq] at h3
    obtain ⟨rfl, rfl⟩ := h3
    exact ⟨he, i, hi, rfl⟩
  · cases h

theorem arrOf_run {t : TypeId} {m : Nat} {e : TypeId} {n : Nat} (h : arrOf P t = some (m, e, n)) : P.underlying t = some (.array m e) ∧ ∃ i, P.info? e = some i ∧ i.size = n := by
  unfold arrOf at h
  split at h
  · rename_i m' e' he
    obtain ⟨i, hi, h3⟩ := Option.map_eq_some_iff.1 h
    simp only [Prod.mk.injEq] at h3
    obtain ⟨rfl, rfl, rfl⟩ := h3
    exact ⟨he, i, hi, rfl⟩
  · cases h

def ndf : Op → Bool | .defer _ => false | _ => true
def dstOk (o : Oper) (nt : Nat) : Bool := ndf o.op && match o.dst with | some t => decide (t < nt) | none => true
theorem dstOk_nd {o : Oper} {nt : Nat} (h : dstOk o nt = true) : ∀ c, o.op ≠ .defer c := fun c hc => by
  unfold dstOk at h
  rw [hc] at h
  simp [ndf] at h
theorem dstOk_lt {o : Oper} {nt : Nat} (h : dstOk o nt = true) : ∀ t, o.dst = some t → t < nt := fun t ht => by
  unfold dstOk at h
  rw [ht, Bool.and_eq_true] at h
  exact of_decide_eq_true h.2

variable {nt : Nat} {o : Oper} {σ : St}

/-- An operation that gives a value, and leaves the world. -/
theorem Does.value {x : AV} (hd : dstOk o nt = true)
    (h : ∀ (w0 : Cx) (U : Nat → Prop) (E : Env) (a : Act) (w : World), Rel w0 U nt σ E a w → ∃ v, (execOp a.eval o).run P w = .ok (.value v) w ∧ VA E w (Fof E σ.blk) U w0.heap.size x v) : Does P nt o σ ⟨x, []⟩ := fun w0 U E a w N Q hr hN => by
  obtain ⟨v, hv, hx⟩ := h w0 U E a w hr
  unfold Oper.wp
  rw [hv]
  exact hN E _ _ (hr.undef (dstOk_lt hd) hx)

theorem B.move {x : Operand} (ho : o.op = .move x ∨ o.op = .assign x) (hd : dstOk o nt = true) : DoesB P nt o σ ⟨tmpsIn [x], [], σ.eval x, []⟩ := fun σ' ha =>
  Does.value hd fun w0 U E a w hr => ⟨a.eval x, by rcases ho with ho | ho <;> simp [execOp, ho], by rw [← ha.eval (x := x) (by simp)]; exact hr.eval x⟩

theorem B.pick {c x y : Operand} {b : Bool} (ho : o.op = .pick c x y) (hc : σ.eval c = .d (.bool b)) (hd : dstOk o nt = true) : DoesB P nt o σ ⟨tmpsIn [c, x, y], [], bif b then σ.eval x else σ.eval y, []⟩ := fun σ' ha =>
  Does.value hd fun w0 U E a w hr => by
    have h1 := hr.eval c
    rw [ha.eval (x := c) (by simp), hc] at h1
    refine ⟨bif b then a.eval x else a.eval y, ?_, ?_⟩
    · rw [execOp, ho]
      simp only [bool_of h1]
      cases b <;> simp [asBool]
    · have hx := hr.eval x
      have hy := hr.eval y
      rw [ha.eval (x := x) (by simp)] at hx
      rw [ha.eval (x := y) (by simp)] at hy
      cases b
      · exact hy
      · exact hx

/-- An operation on two numbers. -/
theorem B.bin {op : BinOp} {t ty : TypeId} {x y : Operand} {k k' : IntKind} {a b : Int} {r : D} {rv : Value} (ho : o.op = .binOp op t x y ty) (hx : σ.eval x = .d (.int k a)) (hy : σ.eval y = .d (.int k' b)) (hr : ∀ w, (binOp op t (.int k a) (.int k' b)).run P w = .ok rv w)
    (hv : (match r with | .int k n => rv = .int k n | .bool b => rv = .bool b | _ => False)) (hd : dstOk o nt = true) : DoesB P nt o σ ⟨tmpsIn [x, y], [], .d r, []⟩ := fun σ' ha =>
  Does.value hd fun w0 U E c w hrel => by
    have h1 := hrel.eval x
    rw [ha.eval (x := x) (by simp), hx] at h1
    have h2 := hrel.eval y
    rw [ha.eval (x := y) (by simp), hy] at h2
    refine ⟨rv, ?_, ?_⟩
    · rw [execOp, ho]
      simp only [int_of h1, int_of h2]
      have hg : (eqGuard op t x y (.int k a) (.int k' b)).run P w = .ok () w := by
        cases op <;> rfl
      simp [Sem.run_bind, hg, hr]
    · cases r with
      | int k n => rw [hv]; exact .d (.int _ _)
      | bool b => rw [hv]; exact .d (.bool _)
      | view => exact hv.elim

def arith (op : BinOp) (k : IntKind) (a b : Int) : Option Int :=
  match op with
  | .add => some (k.wrap (a + b))
  | .sub => some (k.wrap (a - b))
  | .mul => some (k.wrap (a * b))
  | _ => none

theorem B.arith {op : BinOp} {t ty : TypeId} {x y : Operand} {k : IntKind} {a b r : Int} (ho : o.op = .binOp op t x y ty) (hx : σ.eval x = .d (.int k a)) (hy : σ.eval y = .d (.int k b)) (hr : Go.Proofs.Ytmkfpfnjimmmaaa.arith op k a b = some r) (hd : dstOk o nt = true) :
    DoesB P nt o σ ⟨tmpsIn [x, y], [], .d (.int k r), []⟩ := B.bin (r := .int k r) ho hx hy (rv := .int k r) (fun w => by
      cases op <;> simp [Go.Proofs.Ytmkfpfnjimmmaaa.arith] at hr <;> simp [binOp, Op.intArith, hr]) rfl hd

def cmpOf (op : BinOp) (a b : Int) : Option Bool :=
  match op with
  | .eql => some (a == b)
  | .neq => some (a != b)
  | .lss => some (decide (a < b))
  | .leq => some (decide (a ≤ b))
  | .gtr => some (decide (a > b))
  | .geq => some (decide (a ≥ b))
  | _ => none

theorem B.cmp {op : BinOp} {t ty : TypeId} {x y : Operand} {k : IntKind} {a b : Int} {r : Bool} (ho : o.op = .binOp op t x y ty) (hx : σ.eval x = .d (.int k a)) (hy : σ.eval y = .d (.int k b)) (hr : cmpOf op a b = some r) (hd : dstOk o nt = true) :
    DoesB P nt o σ ⟨tmpsIn [x, y], [], .d (.bool r), []⟩ := B.bin (r := .bool r) ho hx hy (rv := .bool r) (fun w => by
      cases op <;> simp [cmpOf] at hr <;> simp [binOp, Op.intCmp, hr]) rfl hd

theorem B.not {t : TypeId} {x : Operand} {b : Bool} (ho : o.op = .unOp .not t x) (hx : σ.eval x = .d (.bool b)) (hd : dstOk o nt = true) : DoesB P nt o σ ⟨tmpsIn [x], [], .d (.bool !b), []⟩ := fun σ' ha =>
  Does.value hd fun w0 U E c w hrel => by
    have h1 := hrel.eval x
    rw [ha.eval (x := x) (by simp), hx] at h1
    exact ⟨.bool !b, by rw [execOp, ho]; simp [bool_of h1, Op.unary], .d (.bool _)⟩

theorem B.conv {s d : TypeId} {x : Operand} {k k' : IntKind} {n r : Int} {ds : TypeDesc} (ho : o.op = .convert s d x) (hs : P.underlying s = some ds) (ht : P.underlying d = some (.int k')) (hx : σ.eval x = .d (.int k n)) (hr : k'.wrap n = r) (hd : dstOk o nt = true) :
    DoesB P nt o σ ⟨tmpsIn [x], [], .d (.int k' r), []⟩ := fun σ' ha =>
  Does.value hd fun w0 U E c w hrel => by
    have h1 := hrel.eval x
    rw [ha.eval (x := x) (by simp), hx] at h1
    refine ⟨.int k' r, ?_, .d (.int _ _)⟩
    rw [execOp, ho]
    simp only [int_of h1]
    subst hr
    simp [convert, Sem.run_bind, run_underlying hs w, run_underlying ht w, Conv.intToInt]

theorem ptr_of {E : Env} {w : World} {F U : Nat → Prop} {base g i j : Nat} {v : Value} (h : VA E w F U base (.ptr g i j) v) : v = .pointer (some ⟨E.β g, i * E.sz g + j, none⟩) ∧ E.kn g := by
  cases h with
  | ptr hk => exact ⟨rfl, hk⟩

theorem vptr_of {E : Env} {w : World} {F U : Nat → Prop} {base : Nat} {f : Bool} {c : List D} {j : Nat} {v : Value} (h : VA E w F U base (.vptr f c j) v) : ∃ (b off : Nat) (u : Nat → Value), v = .pointer (some ⟨b, off + j, none⟩) ∧ Okb w F U base f b ∧ (∀ j, j < c.length → w.cell? ⟨b, off + j, none⟩ = some (u j)) ∧ ∀ (j : Nat) (d : D), c[j]? = some d → VD w F U base d (u j) := by
  cases h with
  | vptr u h1 h2 h3 => exact ⟨_, _, u, rfl, h1, h2, h3⟩

theorem addr_add (b off n : Nat) : (⟨b, off, none⟩ : Addr).add n = ⟨b, off + n, none⟩ := by
  unfold Addr.add
  split
  · next h => subst h; rfl
  · rfl

theorem run_fieldAt {s f off n : Nat} {b : Bool} (h : fldOf P s f = some (off, b, n)) (hn : n ≠ 0) (bl a : Nat) (w : World) :
    (Instr.fieldAt s (.pointer (some ⟨bl, a, none⟩)) f).run P w = .ok (.pointer (some ⟨bl, a + off, none⟩)) w := by
  obtain ⟨fs, fl, h1, h2, rfl, h4⟩ := fldOf_run h
  have hs := (tyOf_run h4 w).2
  simp [Instr.fieldAt, run_underlying h1 w, h2, Instr.sureAddr, fieldPlace, hs, hn, addr_add]

theorem B.fld {s f off n g i j : Nat} {b : Bool} {x : Operand} (ho : o.op = .fieldAddr s x f) (hf : fldOf P s f = some (off, b, n)) (hn : n ≠ 0) (hx : σ.eval x = .ptr g i j) (hd : dstOk o nt = true) :
    DoesB P nt o σ ⟨tmpsIn [x], [], .ptr g i (j + off), []⟩ := fun σ' ha =>
  Does.value hd fun w0 U E c w hrel => by
    have h1 := hrel.eval x
    rw [ha.eval (x := x) (by simp), hx] at h1
    obtain ⟨h2, hk⟩ := ptr_of h1
    refine ⟨.pointer (some ⟨E.β g, i * E.sz g + j + off, none⟩), by rw [execOp, ho]; simp [h2, Sem.run_bind, run_fieldAt hf hn], ?_⟩
    rw [Nat.add_assoc]
    exact .ptr hk

theorem B.vfld {s f off n : Nat} {b fr : Bool} {cs : List D} {j : Nat} {x : Operand} (ho : o.op = .fieldAddr s x f) (hf : fldOf P s f = some (off, b, n)) (hn : n ≠ 0) (hx : σ.eval x = .vptr fr cs j) (hd : dstOk o nt = true) :
    DoesB P nt o σ ⟨tmpsIn [x], [], .vptr fr cs (j + off), []⟩ := fun σ' ha =>
  Does.value hd fun w0 U E c w hrel => by
    have h1 := hrel.eval x
    rw [ha.eval (x := x) (by simp), hx] at h1
    obtain ⟨bl, a, u, h2, h3, h4, h5⟩ := vptr_of h1
    refine ⟨.pointer (some ⟨bl, a + j + off, none⟩), by rw [execOp, ho]; simp [h2, Sem.run_bind, run_fieldAt hf hn], ?_⟩
    rw [Nat.add_assoc]
    exact .vptr u h3 h4 h5

theorem int_toNat {ix : Int} {i : Nat} (h : ix = (i : Int)) : ix.toNat = i := by subst h; simp

/-- The place of an element of a slice of the call's own. -/
theorem B.idxOwn {t e : TypeId} {sz g i0 n : Nat} {x ix : Operand} {k : IntKind} {q : Int} {i : Nat} {es : List (List D)} {e' : TypeId} (ho : o.op = .indexAddr t x ix) (ht : elOf P t = some (e, sz)) (hx : σ.eval x = .own g i0 n) (hq : σ.eval ix = .d (.int k q)) (hb : σ.blk g = .row sz e' es)
    (hi : q = (i : Int)) (hlt : i < n) (hd : dstOk o nt = true) : DoesB P nt o σ ⟨tmpsIn [x, ix], [g], .ptr g (i0 + i) 0, []⟩ := fun σ' ha =>
  Does.value hd fun w0 U E c w hrel => by
    have h1 := hrel.eval x
    rw [ha.eval (x := x) (by simp), hx] at h1
    have h2 := hrel.eval ix
    rw [ha.eval (x := ix) (by simp), hq] at h2
    have hbl := hrel.mem.blk g
    rw [ha.2 g (by simp), hb] at hbl
    have hsz : E.sz g = sz := hbl.2.1
    obtain ⟨hu, inf, hinf, hs⟩ := elOf_run ht
    generalize hv : c.eval x = v at h1
    cases h1 with
    | onil => omega
    | @own _ _ _ a cap hk hvr hn hm hadr =>
      obtain ⟨rfl, _⟩ := hadr (.inr (by omega))
      have hrun : (Instr.indexAt t (.slice (some ⟨E.β g, i0 * E.sz g, none⟩) n cap) (.int k q)).run P w = .ok (.pointer (some ⟨E.β g, (i0 + i) * E.sz g + 0, none⟩)) w := by
        have h0 : 0 ≤ q ∧ q < (n : Int) := by omega
        simp [Instr.indexAt, asIntOf, run_underlying hu w, h0, run_sizeOf' hinf, int_toNat hi, addr_add, hs, hsz, Nat.add_mul]
      refine ⟨.pointer (some ⟨E.β g, (i0 + i) * E.sz g + 0, none⟩), by rw [execOp, ho]; simp only [hv, int_of h2, Sem.run_bind, hrun, Result.andThen_ok]; rfl, .ptr hk⟩

/-- A slice that is read: the call's own word for it, or what was lent. -/
inductive SlV : AV → Bool → Nat → List (List D) → Prop where
  | view (sz : Nat) (es : List (List D)) : SlV (.d (.view sz es)) false sz es
  | lent (sz : Nat) (es : List (List D)) : SlV (.lent sz es) true sz es

def slAV (f : Bool) (sz : Nat) (es : List (List D)) : AV := bif f then .lent sz es else .d (.view sz es)

theorem view_of {E : Env} {w : World} {F U : Nat → Prop} {base : Nat} {f : Bool} {sz : Nat} {es : List (List D)} {x : AV} {v : Value} (hs : SlV x f sz es) (h : VA E w F U base x v) : ∃ (a : Option Addr) (n cap : Nat) (u : Nat → Nat → Value), v = .slice a n cap ∧ es.length = n ∧ n ≤ cap ∧ cap ≤ maxLen ∧ (a = none → cap = 0) ∧ (∀ (i : Nat) (x : List D), es[i]? = some x → x.length = sz) ∧
    (∀ (i : Nat) (x : List D), es[i]? = some x → ∃ b off, a = some ⟨b, off, none⟩ ∧ Okb w F U base f b ∧ ∀ j, j < sz → w.cell? ⟨b, off + (i * sz + j), none⟩ = some (u i j)) ∧ ∀ (i : Nat) (x : List D) (j : Nat) (d : D), es[i]? = some x → x[j]? = some d → VD w F U base d (u i j) := by
  cases hs with
  | view =>
    cases h with
    | d h => cases h with
      | view u h1 h2 h3 h4 h5 h6 h7 => exact ⟨_, _, _, u, rfl, h1, h2, h3, h4, h5, h6, h7⟩
  | lent =>
    cases h with
    | lent u h1 h2 h3 h4 h5 h6 h7 => exact ⟨_, _, _, u, rfl, h1, h2, h3, h4, h5, h6, h7⟩

theorem view_mk {E : Env} {w : World} {F U : Nat → Prop} {base : Nat} {f : Bool} {sz : Nat} {es : List (List D)} {a : Option Addr} {n cap : Nat} (u : Nat → Nat → Value) (hl : es.length = n) (hc : n ≤ cap) (hm : cap ≤ maxLen) (hz : a = none → cap = 0)
    (hsz : ∀ (i : Nat) (x : List D), es[i]? = some x → x.length = sz)
    (hat : ∀ (i : Nat) (x : List D), es[i]? = some x → ∃ b off, a = some ⟨b, off, none⟩ ∧ Okb w F U base f b ∧ ∀ j, j < sz → w.cell? ⟨b, off + (i * sz + j), none⟩ = some (u i j))
    (hV : ∀ (i : Nat) (x : List D) (j : Nat) (d : D), es[i]? = some x → x[j]? = some d → VD w F U base d (u i j)) : VA E w F U base (slAV f sz es) (.slice a n cap) := by
  cases f with
  | false => exact .d (.view u hl hc hm hz hsz hat hV)
  | true => exact .lent u hl hc hm hz hsz hat hV

/-- The place of an element of a slice that is read. -/
theorem B.idxView {t e : TypeId} {sz : Nat} {f : Bool} {es : List (List D)} {c0 : List D} {x ix : Operand} {k : IntKind} {q : Int} {i : Nat} (ho : o.op = .indexAddr t x ix) (ht : elOf P t = some (e, sz)) (hx : SlV (σ.eval x) f sz es) (hq : σ.eval ix = .d (.int k q))
    (hi : q = (i : Int)) (hc : es[i]? = some c0) (hd : dstOk o nt = true) : DoesB P nt o σ ⟨tmpsIn [x, ix], [], .vptr f c0 0, []⟩ := fun σ' ha =>
  Does.value hd fun w0 U E c w hrel => by
    have h1 := hrel.eval x
    rw [ha.eval (x := x) (by simp)] at h1
    have h2 := hrel.eval ix
    rw [ha.eval (x := ix) (by simp), hq] at h2
    obtain ⟨hu, inf, hinf, hs⟩ := elOf_run ht
    obtain ⟨a, n, cap, u, h3, h4, h5, h6, h7, h8, h9, h10⟩ := view_of hx h1
    obtain ⟨b, off, rfl, hok, hcell⟩ := h9 i c0 hc
    have hlt : i < n := by rw [← h4]; exact (List.getElem?_eq_some_iff.1 hc).1
    have hrun : (Instr.indexAt t (.slice (some ⟨b, off, none⟩) n cap) (.int k q)).run P w = .ok (.pointer (some ⟨b, (off + i * sz) + 0, none⟩)) w := by
      have h0 : 0 ≤ q ∧ q < (n : Int) := by omega
      simp [Instr.indexAt, asIntOf, run_underlying hu w, h0, run_sizeOf' hinf, int_toNat hi, addr_add, hs]
    refine ⟨.pointer (some ⟨b, (off + i * sz) + 0, none⟩), by rw [execOp, ho]; simp only [h3, int_of h2, Sem.run_bind, hrun, Result.andThen_ok]; rfl, ?_⟩
    have hl := h8 i c0 hc
    exact .vptr (fun j => u i j) hok (fun j hj => by rw [Nat.add_assoc]; exact hcell j (by omega)) (fun j d hdj => h10 i c0 j d hc hdj)

/-- The place of an element of an array variable. -/
theorem B.idxArr {t e : TypeId} {m sz g j : Nat} {x ix : Operand} {k : IntKind} {q : Int} {i : Nat} (ho : o.op = .indexAddr t x ix) (ht : arrOf P t = some (m, e, sz)) (hx : σ.eval x = .ptr g 0 j) (hq : σ.eval ix = .d (.int k q)) (hi : q = (i : Int)) (hlt : i < m) (hd : dstOk o nt = true) :
    DoesB P nt o σ ⟨tmpsIn [x, ix], [], .ptr g 0 (j + i * sz), []⟩ := fun σ' ha =>
  Does.value hd fun w0 U E c w hrel => by
    have h1 := hrel.eval x
    rw [ha.eval (x := x) (by simp), hx] at h1
    have h2 := hrel.eval ix
    rw [ha.eval (x := ix) (by simp), hq] at h2
    obtain ⟨hu, inf, hinf, hs⟩ := arrOf_run ht
    obtain ⟨h3, hk⟩ := ptr_of h1
    have hrun : (Instr.indexAt t (.pointer (some ⟨E.β g, 0 * E.sz g + j, none⟩)) (.int k q)).run P w = .ok (.pointer (some ⟨E.β g, 0 * E.sz g + (j + i * sz), none⟩)) w := by
      have h0 : 0 ≤ q ∧ q < (m : Int) := by omega
      simp [Instr.indexAt, asIntOf, run_underlying hu w, h0, run_sizeOf' hinf, int_toNat hi, addr_add, hs, Instr.sureAddr]
    exact ⟨.pointer (some ⟨E.β g, 0 * E.sz g + (j + i * sz), none⟩), by rw [execOp, ho]; simp only [h3, int_of h2, Sem.run_bind, hrun, Result.andThen_ok]; rfl, .ptr hk⟩

/-- The cells from a place on. -/
inductive Reads (σ : St) (p : AV) : List Nat → List AV → Prop where
  | var {g j : Nat} {e : TypeId} {cs : List AV} (h : p = .ptr g 0 j) (hb : σ.blk g = .var e cs) : Reads σ p [g] (cs.drop j)
  | row {g i j sz : Nat} {e : TypeId} {es : List (List D)} {c : List D} (h : p = .ptr g i j) (hb : σ.blk g = .row sz e es) (hc : es[i]? = some c) : Reads σ p [g] ((c.drop j).map .d)
  | view {f : Bool} {c : List D} {j : Nat} (h : p = .vptr f c j) : Reads σ p [] ((c.drop j).map .d)

theorem Reads.agree {l : List Operand} {s : Step} {σ' : St} {p : AV} {rb : List Nat} {cs : List AV} (ha : Agree ⟨tmpsIn l, rb, s⟩ σ' σ) (h : Reads σ p rb cs) : Reads σ' p rb cs := by
  cases h with
  | var h hb => exact .var h ((ha.2 _ (by simp)).trans hb)
  | row h hb hc => exact .row h ((ha.2 _ (by simp)).trans hb) hc
  | view h => exact .view h

theorem Reads.cells {w0 : Cx} {U : Nat → Prop} {E : Env} {a : Act} {w : World} (hr : Rel w0 U nt σ E a w) {p : AV} {v : Value} {rb : List Nat} {cs : List AV} (h : Reads σ p rb cs) (hv : VA E w (Fof E σ.blk) U w0.heap.size p v) :
    ∃ b off, v = .pointer (some ⟨b, off, none⟩) ∧ ∀ (k : Nat) (x : AV), cs[k]? = some x → x.leaf = true ∧ ∃ u, w.cell? ⟨b, off + k, none⟩ = some u ∧ VA E w (Fof E σ.blk) U w0.heap.size x u := by
  cases h with
  | @var g j e cs h hb =>
    subst h
    obtain ⟨rfl, _⟩ := ptr_of hv
    have hbl := hr.mem.blk g
    rw [hb] at hbl
    obtain ⟨_, _, cur, hg, hl, hc⟩ := hbl
    refine ⟨_, _, rfl, fun k x hx => ?_⟩
    rw [List.getElem?_drop] at hx
    obtain ⟨h1, u, h2, h3⟩ := hc _ x hx
    refine ⟨h1, u, ?_, h3⟩
    rw [cell_of_row w _ _ cur _ (0, 0) hg, Nat.zero_mul, Nat.zero_add]
    exact h2
  | @row g i j sz e es c h hb hc =>
    subst h
    obtain ⟨rfl, _⟩ := ptr_of hv
    have hbl := hr.mem.blk g
    rw [hb] at hbl
    obtain ⟨_, hsz, _, _, hle, hvz, hre⟩ := hbl
    have hle1 := hle.1
    have hvr : E.vr g = false := by
      cases hq : E.vr g with
      | false => rfl
      | true => have := hvz hq; have := (List.getElem?_eq_some_iff.1 hc).1; omega
    obtain ⟨_, cur, hg, hl, hcc⟩ := hre hvr
    refine ⟨_, _, rfl, fun k x hx => ?_⟩
    rw [List.getElem?_map, List.getElem?_drop] at hx
    obtain ⟨d, hd, rfl⟩ := Option.map_eq_some_iff.1 hx
    obtain ⟨_, h2⟩ := hcc i c hc
    obtain ⟨u, h3, h4⟩ := h2 _ d hd
    refine ⟨rfl, u, ?_, .d h4⟩
    rw [cell_of_row w _ _ cur _ (0, 0) hg, hsz, Nat.add_assoc]
    exact h3
  | @view f c j h =>
    subst h
    obtain ⟨b, off, u, rfl, h3, h4, h5⟩ := vptr_of hv
    refine ⟨_, _, rfl, fun k x hx => ?_⟩
    rw [List.getElem?_map, List.getElem?_drop] at hx
    obtain ⟨d, hd, rfl⟩ := Option.map_eq_some_iff.1 hx
    refine ⟨rfl, u (j + k), ?_, .d (h5 _ d hd)⟩
    rw [Nat.add_assoc]
    exact h4 _ (List.getElem?_eq_some_iff.1 hd).1

/-- The first so many, spelled out. -/
def takeO {α : Type} : Nat → List α → Option (List α)
  | 0, _ => some []
  | n + 1, c :: cs => match takeO n cs with | some l => some (c :: l) | none => none
  | _ + 1, [] => none
theorem takeO_eq {α : Type} : ∀ {n : Nat} {cs vs : List α}, takeO n cs = some vs → n ≤ cs.length ∧ cs.take n = vs
  | 0, cs, vs, h => by simp [takeO] at h; subst h; simp
  | n + 1, [], vs, h => by simp [takeO] at h
  | n + 1, c :: cs, vs, h => by
    simp only [takeO] at h
    split at h
    · rename_i l hl
      obtain ⟨h1, h2⟩ := takeO_eq hl
      cases h
      exact ⟨by simp; omega, by simp [h2]⟩
    · cases h

/-- A load of one cell. -/
theorem B.load1 {t : TypeId} {n : Nat} {x : Operand} {rb : List Nat} {v : AV} {cs : List AV} (ho : o.op = .load t x) (ht : tyOf P t = some (false, n)) (hx : Reads σ (σ.eval x) rb (v :: cs)) (hd : dstOk o nt = true) : DoesB P nt o σ ⟨tmpsIn [x], rb, v, []⟩ := fun σ' ha =>
  Does.value hd fun w0 U E c w hrel => by
    have h1 := hrel.eval x
    have hx' := Reads.agree ha hx
    rw [← ha.eval (x := x) (by simp)] at hx'
    obtain ⟨b, off, h2, h3⟩ := hx'.cells hrel h1
    obtain ⟨_, u, h4, h5⟩ := h3 0 v rfl
    refine ⟨u, ?_, h5⟩
    have hl : w.cell? ⟨b, off, none⟩ = some u := h4
    rw [execOp, ho]
    simp [h2, Instr.loadAt, Instr.sureAddr, loadVar, Sem.run_bind, (tyOf_run ht w).1, hl]

/-- A load of a struct. -/
theorem B.loadN {t : TypeId} {n : Nat} {x : Operand} {rb : List Nat} {cs vs : List AV} (ho : o.op = .load t x) (ht : tyOf P t = some (true, n)) (hx : Reads σ (σ.eval x) rb cs) (hvo : takeO n cs = some vs) (hd : dstOk o nt = true) : DoesB P nt o σ ⟨tmpsIn [x], rb, .agg vs, []⟩ := fun σ' ha =>
  Does.value hd fun w0 U E c w hrel => by
    obtain ⟨hn, hv⟩ := takeO_eq hvo
    have h1 := hrel.eval x
    have hx' := Reads.agree ha hx
    rw [← ha.eval (x := x) (by simp)] at hx'
    obtain ⟨b, off, h2, h3⟩ := hx'.cells hrel h1
    obtain ⟨f, hf⟩ := Go.Deep.choose_lt (n := n) (p := fun i u => w.cell? ⟨b, off + i, none⟩ = some u ∧ ∀ y, cs[i]? = some y → VA E w (Fof E σ'.blk) U w0.heap.size y u) fun i hi => by
      obtain ⟨y, hy⟩ : ∃ y, cs[i]? = some y := ⟨_, List.getElem?_eq_getElem (by omega)⟩
      obtain ⟨_, u, h4, h5⟩ := h3 i y hy
      exact ⟨u, h4, fun y' hy' => by rw [hy] at hy'; cases hy'; exact h5⟩
    have hl : (loadCells ⟨b, off, none⟩ n).run P w = .ok ((List.range n).map f).toArray w := by
      have := run_loadCells_list (P := P) (w := w) ⟨b, off, none⟩ ((List.range n).map f) fun j u hu => by
        have hj : j < n := by have := (List.getElem?_eq_some_iff.1 hu).1; simpa using this
        rw [List.getElem?_map, List.getElem?_range hj] at hu
        obtain rfl : f j = u := by simpa using hu
        rw [addr_add]
        exact (hf j hj).1
      simpa using this
    refine ⟨.agg ((List.range n).map f).toArray, ?_, ?_⟩
    · rw [execOp, ho]
      simp [h2, Instr.loadAt, Instr.sureAddr, loadVar, Sem.run_bind, (tyOf_run ht w).1, (tyOf_run ht w).2, hl]
    · subst hv
      refine .agg (by simp; omega) fun i y u hy hu => ?_
      have hj : i < n := by have := (List.getElem?_eq_some_iff.1 hu).1; simpa using this
      rw [List.getElem?_map, List.getElem?_range hj] at hu
      obtain rfl : f i = u := by simpa using hu
      rw [List.getElem?_take_of_lt hj] at hy
      exact (hf i hj).2 y hy

/-- A field of a struct by value. -/
theorem B.fval1 {t : TypeId} {f off n : Nat} {x : Operand} {vs : List AV} {v : AV} (ho : o.op = .field t x f) (hf : fldOf P t f = some (off, false, n)) (hx : σ.eval x = .agg vs) (hv : vs[off]? = some v) (hd : dstOk o nt = true) : DoesB P nt o σ ⟨tmpsIn [x], [], v, []⟩ := fun σ' ha =>
  Does.value hd fun w0 U E c w hrel => by
    have h1 := hrel.eval x
    rw [ha.eval (x := x) (by simp), hx] at h1
    obtain ⟨fs, fl, h3, h4, rfl, h6⟩ := fldOf_run hf
    generalize he : c.eval x = q at h1
    cases h1 with
    | @agg vs us hl h =>
      have hlt : fl.offset < us.length := by rw [← hl]; exact (List.getElem?_eq_some_iff.1 hv).1
      have hu : us[fl.offset]? = some us[fl.offset] := List.getElem?_eq_getElem hlt
      refine ⟨us[fl.offset], ?_, h _ _ _ hv hu⟩
      rw [execOp, ho]
      simp [he, Instr.field, Sem.run_bind, run_underlying h3 w, h4, asAgg, part, (tyOf_run h6 w).1, hlt]

theorem B.fvalN {t : TypeId} {f off n : Nat} {x : Operand} {vs ws : List AV} (ho : o.op = .field t x f) (hf : fldOf P t f = some (off, true, n)) (hx : σ.eval x = .agg vs) (hvo : takeO n (vs.drop off) = some ws) (hd : dstOk o nt = true) : DoesB P nt o σ ⟨tmpsIn [x], [], .agg ws, []⟩ := fun σ' ha =>
  Does.value hd fun w0 U E c w hrel => by
    obtain ⟨_, hv⟩ := takeO_eq hvo
    have h1 := hrel.eval x
    rw [ha.eval (x := x) (by simp), hx] at h1
    obtain ⟨fs, fl, h3, h4, rfl, h6⟩ := fldOf_run hf
    generalize he : c.eval x = q at h1
    cases h1 with
    | @agg vs us hl h =>
      subst hv
      refine ⟨.agg ((us.drop fl.offset).take n).toArray, ?_, .agg (by simp [hl]) fun i y u hy hu => ?_⟩
      · rw [execOp, ho]
        simp [he, Instr.field, Sem.run_bind, run_underlying h3 w, h4, asAgg, part, (tyOf_run h6 w).1, (tyOf_run h6 w).2, List.extract_eq_take_drop]
      · have hj : i < n := by have := (List.getElem?_eq_some_iff.1 hu).1; simp at this; omega
        rw [List.getElem?_take_of_lt hj, List.getElem?_drop] at hy hu
        exact h _ _ _ hy hu

theorem B.extract {x : Operand} {i : Nat} {vs : List AV} {v : AV} (ho : o.op = .extract x i) (hx : σ.eval x = .tup vs) (hv : vs[i]? = some v) (hd : dstOk o nt = true) : DoesB P nt o σ ⟨tmpsIn [x], [], v, []⟩ := fun σ' ha =>
  Does.value hd fun w0 U E c w hrel => by
    have h1 := hrel.eval x
    rw [ha.eval (x := x) (by simp), hx] at h1
    generalize he : c.eval x = q at h1
    cases h1 with
    | @tup vs us hl h =>
      have hlt : i < us.length := by rw [← hl]; exact (List.getElem?_eq_some_iff.1 hv).1
      have hu : us[i]? = some us[i] := List.getElem?_eq_getElem hlt
      refine ⟨us[i], ?_, h _ _ _ hv hu⟩
      rw [execOp, ho]
      simp [he, Instr.extract, hlt]

/-- How long a slice is. -/
def lenAV : AV → Option Nat
  | .d (.view _ es) => some es.length
  | .lent _ es => some es.length
  | .own _ _ n => some n
  | .nsl => some 0
  | _ => none

theorem lenAV_of {E : Env} {w : World} {F U : Nat → Prop} {base : Nat} {x : AV} {n : Nat} {v : Value} (h : VA E w F U base x v) (hn : lenAV x = some n) : ∃ a cap, v = .slice a n cap ∧ n ≤ cap ∧ cap ≤ maxLen := by
  cases h with
  | d h =>
    cases h with
    | view u h1 h2 h3 _ _ _ _ => simp [lenAV] at hn; subst hn; rw [h1]; exact ⟨_, _, rfl, h2, h3⟩
    | int => cases hn
    | bool => cases hn
  | lent u h1 h2 h3 _ _ _ _ => simp [lenAV] at hn; subst hn; rw [h1]; exact ⟨_, _, rfl, h2, h3⟩
  | onil => simp [lenAV] at hn; subst hn; exact ⟨_, _, rfl, Nat.le_refl _, Nat.zero_le _⟩
  | own hk _ h1 h2 _ => simp [lenAV] at hn; subst hn; exact ⟨_, _, rfl, h1, h2⟩
  | nsl => simp [lenAV] at hn; subst hn; exact ⟨_, _, rfl, Nat.le_refl _, Nat.zero_le _⟩
  | _ => cases hn

theorem B.len {x : Operand} {t e : TypeId} {n : Nat} (ho : o.op = .call { callee := .builtin .len, args := #[x], argTypes := #[t] }) (ht : P.underlying t = some (.slice e)) (hx : lenAV (σ.eval x) = some n) (hd : dstOk o nt = true) : DoesB P nt o σ ⟨tmpsIn [x], [], .d (.int .i64 n), []⟩ := fun σ' ha =>
  Does.value hd fun w0 U E c w hrel => by
    have h1 := hrel.eval x
    rw [ha.eval (x := x) (by simp)] at h1
    obtain ⟨a, cap, h2, _⟩ := lenAV_of h1 hx
    refine ⟨.int .i64 n, ?_, .d (.int _ _)⟩
    rw [execOp, ho]
    simp [resolve, invoke, builtin, Builtin.len_, h2, run_underlying ht w, goInt]

/-- A piece of a slice that is read. -/
theorem B.sliceView {t e : TypeId} {sz : Nat} {f : Bool} {es : List (List D)} {x : Operand} {lo hi : Option Operand} {l h : Nat} (ho : o.op = .slice t x lo hi none) (ht : elOf P t = some (e, sz)) (hx : SlV (σ.eval x) f sz es)
    (hlo : match lo with | none => l = 0 | some y => ∃ k q, σ.eval y = .d (.int k q) ∧ q = (l : Int)) (hhi : match hi with | none => h = es.length | some y => ∃ k q, σ.eval y = .d (.int k q) ∧ q = (h : Int)) (h1 : l ≤ h) (h2 : h ≤ es.length) (hd : dstOk o nt = true) :
    DoesB P nt o σ ⟨tmpsIn (x :: (lo.toList ++ hi.toList)), [], slAV f sz ((es.drop l).take (h - l)), []⟩ := fun σ' ha =>
  Does.value hd fun w0 U E c w hrel => by
    have hxv := hrel.eval x
    rw [ha.eval (x := x) (by simp)] at hxv
    obtain ⟨hu, inf, hinf, hs⟩ := elOf_run ht
    obtain ⟨a, n, cap, u, h3, h4, h5, h6, h7, h8, h9, h10⟩ := view_of hx hxv
    have hhb : match hi with | none => h = n | some y => ∃ k, c.eval y = .int k (h : Int) := by
      cases hi with
      | none => simpa [h4] using hhi
      | some y =>
        obtain ⟨k, q, hy, rfl⟩ := hhi
        have := hrel.eval y
        rw [ha.eval (x := y) (by simp), hy] at this
        exact ⟨k, int_of this⟩
    have hlb : match lo with | none => l = 0 | some y => ∃ k, c.eval y = .int k (l : Int) := by
      cases lo with
      | none => exact hlo
      | some y =>
        obtain ⟨k, q, hy, rfl⟩ := hlo
        have := hrel.eval y
        rw [ha.eval (x := y) (by simp), hy] at this
        exact ⟨k, int_of this⟩
    have hrun : (Instr.sliceAt t (.slice a n cap) (lo.map c.eval) (hi.map c.eval) none).run P w = .ok (.slice (if cap = l then a else a.map (·.add (l * sz))) (h - l) (cap - l)) w := by
      have hbh : ∀ k, (Instr.sliceBound (.int k (h : Int)) cap .sliceAcap).run P w = .ok h w := fun k => by rw [run_sliceBound w k h cap .sliceAcap (by omega) (by omega)]; simp
      have hbl : ∀ k, (Instr.sliceBound (.int k (l : Int)) h .sliceB).run P w = .ok l w := fun k => by rw [run_sliceBound w k l h .sliceB (by omega) (by omega)]; simp
      cases lo with
      | none =>
        have hl0 : l = 0 := hlb
        cases hi with
        | none =>
          have hhn : h = n := hhb
          subst hhn
          subst hl0
          simp [Instr.sliceAt, run_underlying hu w, Instr.slice, Instr.sliceBounds, run_sizeOf' hinf, hs]
        | some y =>
          obtain ⟨k, hk⟩ := hhb
          subst hl0
          simp [Instr.sliceAt, run_underlying hu w, Instr.slice, Instr.sliceBounds, run_sizeOf' hinf, hs, hk, hbh k]
      | some z =>
        obtain ⟨k', hk'⟩ := hlb
        cases hi with
        | none =>
          have hhn : h = n := hhb
          subst hhn
          simp [Instr.sliceAt, run_underlying hu w, Instr.slice, Instr.sliceBounds, run_sizeOf' hinf, hs, hk', hbl k']
        | some y =>
          obtain ⟨k, hk⟩ := hhb
          simp [Instr.sliceAt, run_underlying hu w, Instr.slice, Instr.sliceBounds, run_sizeOf' hinf, hs, hk, hbh k, hk', hbl k']
    refine ⟨.slice (if cap = l then a else a.map (·.add (l * sz))) (h - l) (cap - l), by rw [execOp, ho]; simp only [h3, Sem.run_bind, hrun, Result.andThen_ok, Option.map_none]; rfl, view_mk (fun i j => u (l + i) j) (by rw [List.length_take, List.length_drop]; omega) (by omega) (by omega) (fun hn => ?_) (fun i y hy => ?_) (fun i y hy => ?_) (fun i y j d hy hdj => ?_)⟩
    · have : a = none := by
        split at hn
        · exact hn
        · simpa using hn
      have := h7 this
      omega
    all_goals
      have hlt : i < h - l := by have := (List.getElem?_eq_some_iff.1 hy).1; rw [List.length_take] at this; omega
      rw [List.getElem?_take_of_lt hlt, List.getElem?_drop] at hy
    · exact h8 _ y hy
    · obtain ⟨b, off, rfl, hok, hcell⟩ := h9 _ y hy
      refine ⟨b, off + l * sz, by rw [if_neg (by omega)]; simp [addr_add], hok, fun j hj => ?_⟩
      have := hcell j hj
      rw [Nat.add_mul] at this
      rw [show off + l * sz + (i * sz + j) = off + (l * sz + i * sz + j) by omega]
      exact this
    · exact h10 _ y j d hy hdj

/-- A truth value that is not known ahead. -/
theorem B.pick' {c x y : Operand} {b p q : Bool} (ho : o.op = .pick c x y) (hc : σ.eval c = .d (.bool b)) (hx : σ.eval x = .d (.bool p)) (hy : σ.eval y = .d (.bool q)) (hd : dstOk o nt = true) : DoesB P nt o σ ⟨tmpsIn [c, x, y], [], .d (.bool (bif b then p else q)), []⟩ := by
  have h := B.pick (P := P) ho hc hd
  have e : (bif b then σ.eval x else σ.eval y) = .d (.bool (bif b then p else q)) := by rw [hx, hy]; cases b <;> rfl
  rw [e] at h
  exact h
end
end Go.Proofs.Ytmkfpfnjimmmaaa
