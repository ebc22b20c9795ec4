/- The operations, computed: each one's law. Nothing of the dump stands here. -/
import Derived.Test.YtmkfpfnjimmmaaaVO
import Derived.Laws.Small
namespace Go.Proofs.Ytmkfpfnjimmmaaa
open Go.RowKit
set_option linter.unusedVariables false
set_option linter.unusedSimpArgs false

section
variable {P : Program} {nt : Nat} {o : Oper} {σ : TS}

theorem DoesB.at {σ : St} {f : Info} (h : DoesB P nt o σ f) : Does P nt o σ f.step := h σ (Agree.refl _ _)
theorem TAgree.ev {l : List Operand} {rb : List Nat} {s : TStep} {σ' : TS} (h : TAgree ⟨tmpsIn l, rb, s⟩ σ' σ) {x : Operand} (hx : x ∈ l) : σ'.eval x = σ.eval x := h.eval (fun t ht => tmpsIn_mem ht) hx
theorem TAgree.dev {l : List Operand} {rb : List Nat} {s : TStep} {σ' : TS} (h : TAgree ⟨tmpsIn l, rb, s⟩ σ' σ) {x : Operand} (hx : x ∈ l) : σ'.den.eval x = denV σ'.blk (σ.eval x) := (TS.eval_den _ _).trans (by rw [h.ev hx])

theorem FrzOk.step {c : Cx} {U : Nat → Prop} {E : Env} {a : Act} {w : World} : ∀ (fz : List (Nat × TB)) (σ : TS), (∀ p ∈ fz, ∃ (T : Ty) (l : List (Val T)), p.2 = .frz T l ∧ ((∃ e, σ.blk p.1 = .row T e l) ∨ σ.blk p.1 = .frz T l)) → TRel c U nt σ E a w → TRel c U nt ⟨σ.tmp, tupsOf σ.blk fz⟩ E a w
  | [], σ, _, hr => hr
  | p :: fz, σ, h, hr => by
    obtain ⟨T, l, h1, h2⟩ := h p (by simp)
    have hr' : TRel c U nt ⟨σ.tmp, upd σ.blk p.1 p.2⟩ E a w := by
      rcases h2 with ⟨e, h2⟩ | h2
      · rw [h1]; exact hr.frz h2
      · have : upd σ.blk p.1 p.2 = σ.blk := by
          funext g
          by_cases hg : g = p.1
          · subst hg; rw [upd_same, h1, h2]
          · rw [upd_other _ _ _ hg]
        rw [this]; exact hr
    refine FrzOk.step fz ⟨σ.tmp, upd σ.blk p.1 p.2⟩ (fun q hq => ?_) hr'
    obtain ⟨T', l', h3, h4⟩ := h q (List.mem_cons_of_mem _ hq)
    refine ⟨T', l', h3, ?_⟩
    show (∃ e, upd σ.blk p.1 p.2 q.1 = _) ∨ upd σ.blk p.1 p.2 q.1 = _
    by_cases hg : q.1 = p.1
    · rw [hg, upd_same, h1]
      rw [hg] at h4
      rcases h2 with ⟨e, h2⟩ | h2 <;> rcases h4 with ⟨e', h4⟩ | h4 <;> (rw [h2] at h4; cases h4) <;> exact .inr rfl
    · rw [upd_other _ _ _ hg]; exact h4
theorem TRel.frzs {c : Cx} {U : Nat → Prop} {E : Env} {a : Act} {w : World} (hr : TRel c U nt σ E a w) {fz : List (Nat × TB)} (h : FrzOk σ.blk fz) : TRel c U nt ⟨σ.tmp, tupsOf σ.blk fz⟩ E a w :=
  FrzOk.step fz σ (fun p hp => by obtain ⟨T, e, l, h1, h2⟩ := h p hp; exact ⟨T, l, h2, .inl ⟨e, h1⟩⟩) hr

theorem tupsOf_app (B : Nat → TB) (a b : List (Nat × TB)) : tupsOf B (a ++ b) = tupsOf (tupsOf B a) b := by unfold tupsOf; rw [List.foldl_append]

/-- What an operation freezes is frozen ahead of it. -/
theorem TDoes.frz {fz : List (Nat × TB)} {s : TStep} (hf : FrzOk σ.blk fz) (h : TDoes P nt o ⟨σ.tmp, tupsOf σ.blk fz⟩ s) : TDoes P nt o σ ⟨s.v, fz ++ s.ups⟩ := fun c U E a w N Q hr hN =>
  h c U E a w N Q (hr.frzs hf) fun E' a' w' hr' => hN E' a' w' (by
    unfold TS.step
    simp only
    rw [tupsOf_app]
    exact hr')

theorem TDoes.cast {s s' : TStep} (h : TDoes P nt o σ s) (e : s = s') : TDoes P nt o σ s' := e ▸ h

theorem denV_turn {B : Nat → TB} {g : Nat} {b : TB} (h : Turn (B g) b) {x : TV} (hx : B g = .free → g ∉ x.nm) : denV (upd B g b) x = denV B x := denV_congr x fun q hq => by
  by_cases e : q = g
  · subst e
    rw [upd_same]
    by_cases hf : B q = .free
    · exact absurd hq (hx hf)
    · exact .inr (h.den hf)
  · rw [upd_other _ _ _ e]; exact .inl rfl
theorem denVs_turn {B : Nat → TB} {g : Nat} {b : TB} (h : Turn (B g) b) {l : List TV} (hx : B g = .free → g ∉ TV.nms l) : denVs (upd B g b) l = denVs B l := denVs_congr l fun q hq => by
  by_cases e : q = g
  · subst e
    rw [upd_same]
    by_cases hf : B q = .free
    · exact absurd hq (hx hf)
    · exact .inr (h.den hf)
  · rw [upd_other _ _ _ e]; exact .inl rfl

/- Pure operations. -/
theorem T.move {x : Operand} (ho : o.op = .move x ∨ o.op = .assign x) (hd : dstOk o nt = true) : TDoesB P nt o σ ⟨tmpsIn [x], [], σ.eval x, []⟩ := fun σ' ha =>
  TDoes.val (by rw [← ha.dev (x := x) (by simp)]; exact (B.move (σ := σ'.den) ho hd).at)

theorem T.pick {c x y : Operand} {b : Bool} (ho : o.op = .pick c x y) (hc : σ.eval c = .bool b) (hd : dstOk o nt = true) : TDoesB P nt o σ ⟨tmpsIn [c, x, y], [], bif b then σ.eval x else σ.eval y, []⟩ := fun σ' ha =>
  TDoes.val (by
    have := (B.pick (P := P) (σ := σ'.den) (b := b) ho (by rw [ha.dev (x := c) (by simp), hc]; rfl) hd).at
    rw [ha.dev (x := x) (by simp), ha.dev (x := y) (by simp)] at this
    cases b <;> exact this)

namespace DoorU
def andI (k : IntKind) (a b : Int) : Int := k.wrap (BitVec.ofInt k.bits a &&& BitVec.ofInt k.bits b).toNat
def orI (k : IntKind) (a b : Int) : Int := k.wrap (BitVec.ofInt k.bits a ||| BitVec.ofInt k.bits b).toNat
def xorI (k : IntKind) (a b : Int) : Int := k.wrap (BitVec.ofInt k.bits a ^^^ BitVec.ofInt k.bits b).toNat
def anI (k : IntKind) (a b : Int) : Int := k.wrap (BitVec.ofInt k.bits a &&& ~~~BitVec.ofInt k.bits b).toNat
def notI (k : IntKind) (n : Int) : Int := k.wrap (BitVec.ofInt k.bits (if k.signed then -1 else k.max) ^^^ BitVec.ofInt k.bits n).toNat
def shlI (k : IntKind) (a b : Int) : Int := k.wrap (a * 2 ^ min b.toNat k.bits)
def shrI (k : IntKind) (a b : Int) : Int := a.fdiv (2 ^ min b.toNat k.bits)
end DoorU
def mA (op : BinOp) (k : IntKind) (a b : Int) : Option (List Prop × TV) :=
  match op with
  | .add => some ([], .int k (k.wrap (a + b)))
  | .sub => some ([], .int k (k.wrap (a - b)))
  | .mul => some ([], .int k (k.wrap (a * b)))
  | .quo => some ([b ≠ 0], .int k (k.wrap (a.tdiv b)))
  | .rem => some ([b ≠ 0], .int k (a.tmod b))
  | .and => some ([], .int k (DoorU.andI k a b))
  | .or => some ([], .int k (DoorU.orI k a b))
  | .xor => some ([], .int k (DoorU.xorI k a b))
  | .andNot => some ([], .int k (DoorU.anI k a b))
  | .eql => some ([], .bool (a == b))
  | .neq => some ([], .bool (a != b))
  | .lss => some ([], .bool (decide (a < b)))
  | .leq => some ([], .bool (decide (a ≤ b)))
  | .gtr => some ([], .bool (decide (b < a)))
  | .geq => some ([], .bool (decide (b ≤ a)))
  | _ => none
def mS (op : BinOp) (k : IntKind) (a b : Int) : Option (List Prop × TV) :=
  match op with
  | .shl => some ([0 ≤ b], .int k (DoorU.shlI k a b))
  | .shr => some ([0 ≤ b], .int k (DoorU.shrI k a b))
  | _ => none

def valOf : TV → Value
  | .int k n => .int k n
  | .bool b => .bool b
  | _ => undef
theorem T.bin {op : BinOp} {t ty : TypeId} {x y : Operand} {k k' : IntKind} {a b : Int} {v : TV} (ho : o.op = .binOp op t x y ty) (hx : σ.eval x = .int k a) (hy : σ.eval y = .int k' b) (hr : ∀ w, (binOp op t (.int k a) (.int k' b)).run P w = .ok (valOf v) w)
    (hv : match v with | .int _ _ => True | .bool _ => True | _ => False) (hd : dstOk o nt = true) : TDoesB P nt o σ ⟨tmpsIn [x, y], [], v, []⟩ := fun σ' ha =>
  TDoes.val (by
    have hx' : σ'.den.eval x = .d (.int k a) := by rw [ha.dev (x := x) (by simp), hx]; rfl
    have hy' : σ'.den.eval y = .d (.int k' b) := by rw [ha.dev (x := y) (by simp), hy]; rfl
    cases v with
    | int kk n => exact (B.bin (P := P) (σ := σ'.den) (r := .int kk n) ho hx' hy' hr rfl hd).at
    | bool bb => exact (B.bin (P := P) (σ := σ'.den) (r := .bool bb) ho hx' hy' hr rfl hd).at
    | _ => exact hv.elim)

theorem T.mA {op : BinOp} {t ty : TypeId} {x y : Operand} {k : IntKind} {a b : Int} {ps : List Prop} {v : TV} (ho : o.op = .binOp op t x y ty) (hx : σ.eval x = .int k a) (hy : σ.eval y = .int k b) (hr : Go.Proofs.Ytmkfpfnjimmmaaa.mA op k a b = some (ps, v)) (hps : ∀ p ∈ ps, p) (hd : dstOk o nt = true) : TDoesB P nt o σ ⟨tmpsIn [x, y], [], v, []⟩ := by
  cases op <;> simp only [Go.Proofs.Ytmkfpfnjimmmaaa.mA, Option.some.injEq, Prod.mk.injEq, reduceCtorEq] at hr
  all_goals obtain ⟨rfl, rfl⟩ := hr
  case quo => exact T.bin ho hx hy (fun w => by have := hps (b ≠ 0) (by simp); simp [binOp, valOf, Op.intDiv, this]) trivial hd
  case rem => exact T.bin ho hx hy (fun w => by have := hps (b ≠ 0) (by simp); simp [binOp, valOf, Op.intDiv, this]) trivial hd
  all_goals exact T.bin ho hx hy (fun w => by simp [binOp, valOf, Op.intArith, Op.intBits, Op.intCmp, DoorU.andI, DoorU.orI, DoorU.xorI, DoorU.anI]) trivial hd
theorem T.mS {op : BinOp} {t ty : TypeId} {x y : Operand} {k k' : IntKind} {a b : Int} {ps : List Prop} {v : TV} (ho : o.op = .binOp op t x y ty) (hx : σ.eval x = .int k a) (hy : σ.eval y = .int k' b) (hr : Go.Proofs.Ytmkfpfnjimmmaaa.mS op k a b = some (ps, v)) (hps : ∀ p ∈ ps, p) (hd : dstOk o nt = true) : TDoesB P nt o σ ⟨tmpsIn [x, y], [], v, []⟩ := by
  cases op <;> simp only [Go.Proofs.Ytmkfpfnjimmmaaa.mS, Option.some.injEq, Prod.mk.injEq, reduceCtorEq] at hr
  all_goals
    obtain ⟨rfl, rfl⟩ := hr
    have hb : ¬ b < 0 := by have := hps (0 ≤ b) (by simp); omega
    exact T.bin ho hx hy (fun w => by simp [binOp, valOf, Op.shift, hb, DoorU.shlI, DoorU.shrI]) trivial hd

theorem T.not {t : TypeId} {x : Operand} {b : Bool} (ho : o.op = .unOp .not t x) (hx : σ.eval x = .bool b) (hd : dstOk o nt = true) : TDoesB P nt o σ ⟨tmpsIn [x], [], .bool !b, []⟩ := fun σ' ha =>
  TDoes.val (B.not (P := P) (σ := σ'.den) ho (by rw [ha.dev (x := x) (by simp), hx]; rfl) hd).at

theorem T.un {op : UnOp} {t : TypeId} {x : Operand} {k : IntKind} {n : Int} {r : Int} (ho : o.op = .unOp op t x) (hx : σ.eval x = .int k n) (hr : ∀ w, (Op.unary op (.int k n)).run P w = .ok (.int k r) w) (hd : dstOk o nt = true) : TDoesB P nt o σ ⟨tmpsIn [x], [], .int k r, []⟩ := fun σ' ha =>
  TDoes.val (Does.value hd fun w0 U E c w hrel => by
    have h1 := Rel.eval hrel x
    rw [ha.dev (x := x) (by simp), hx] at h1
    refine ⟨.int k r, by rw [execOp, ho]; simp [int_of h1, hr], .d (.int _ _)⟩)

theorem T.conv {s d : TypeId} {x : Operand} {k k' : IntKind} {n : Int} {ds : TypeDesc} (ho : o.op = .convert s d x) (hs : P.underlying s = some ds) (ht : P.underlying d = some (.int k')) (hx : σ.eval x = .int k n) (hd : dstOk o nt = true) : TDoesB P nt o σ ⟨tmpsIn [x], [], .int k' (k'.wrap n), []⟩ := fun σ' ha =>
  TDoes.val (B.conv (P := P) (σ := σ'.den) ho hs ht (by rw [ha.dev (x := x) (by simp), hx]; rfl) rfl hd).at

theorem T.boolB {op : BinOp} {t ty : TypeId} {x y : Operand} {a b r : Bool} (ho : o.op = .binOp op t x y ty) (ht : P.underlying t = some .bool) (hx : σ.eval x = .bool a) (hy : σ.eval y = .bool b) (hr : op = .eql ∧ r = (a == b) ∨ op = .neq ∧ r = (a != b)) (hd : dstOk o nt = true) : TDoesB P nt o σ ⟨tmpsIn [x, y], [], .bool r, []⟩ := fun σ' ha =>
  TDoes.val (Does.value hd fun w0 U E c w hrel => by
    have h1 := Rel.eval hrel x
    rw [ha.dev (x := x) (by simp), hx] at h1
    have h2 := Rel.eval hrel y
    rw [ha.dev (x := y) (by simp), hy] at h2
    refine ⟨.bool r, ?_, .d (.bool _)⟩
    rw [execOp, ho]
    simp only [bool_of h1, bool_of h2]
    rcases hr with ⟨rfl, rfl⟩ | ⟨rfl, rfl⟩
    · have hg : (eqGuard .eql t x y (.bool a) (.bool b)).run P w = .ok () w := rfl
      simp [Sem.run_bind, hg, run_eql_bool w t a b ht]
    · have hg : (eqGuard .neq t x y (.bool a) (.bool b)).run P w = .ok () w := rfl
      simp [Sem.run_bind, hg, binOp, run_equal_bool w t a b ht, bne])

theorem T.fld {s f off n g i j : Nat} {b : Bool} {x : Operand} (ho : o.op = .fieldAddr s x f) (hf : fldOf P s f = some (off, b, n)) (hn : n ≠ 0) (hx : σ.eval x = .ptr g i j) (hd : dstOk o nt = true) : TDoesB P nt o σ ⟨tmpsIn [x], [], .ptr g i (j + off), []⟩ := fun σ' ha =>
  TDoes.val (B.fld (P := P) (σ := σ'.den) ho hf hn (by rw [ha.dev (x := x) (by simp), hx]; rfl) hd).at
theorem T.vfld {s f off n : Nat} {b fr : Bool} {T : Ty} {c : Val T} {j : Nat} {x : Operand} (ho : o.op = .fieldAddr s x f) (hf : fldOf P s f = some (off, b, n)) (hn : n ≠ 0) (hx : σ.eval x = .vptr fr T c j) (hd : dstOk o nt = true) : TDoesB P nt o σ ⟨tmpsIn [x], [], .vptr fr T c (j + off), []⟩ := fun σ' ha =>
  TDoes.val (B.vfld (P := P) (σ := σ'.den) ho hf hn (by rw [ha.dev (x := x) (by simp), hx]; rfl) hd).at

theorem T.idxOwn {t e e' : TypeId} {g : Nat} {x ix : Operand} {k : IntKind} {q : Int} {T : Ty} {l : List (Val T)} (ho : o.op = .indexAddr t x ix) (ht : elOf P t = some (e, T.size)) (hx : σ.eval x = .own g) (hb : σ.blk g = .row T e' l) (hq : σ.eval ix = .int k q) (h0 : 0 ≤ q) (hlt : q < l.length) (hd : dstOk o nt = true) :
    TDoesB P nt o σ ⟨tmpsIn [x, ix], [g], .ptr g q.toNat 0, []⟩ := fun σ' ha => by
  have hb' : σ'.blk g = .row T e' l := (ha.2 g (by simp)).trans hb
  refine TDoes.val ?_
  have := (B.idxOwn (P := P) (σ := σ'.den) (nt := nt) (es := denS l) (e' := e') (g := g) (i := q.toNat) (n := l.length) (i0 := 0) ho ht (by rw [ha.dev (x := x) (by simp), hx]; simp only [denV, hb', denO]) (by rw [ha.dev (x := ix) (by simp), hq]; rfl) (by show denB _ (σ'.blk g) = _; rw [hb']; rfl) (by omega) (by omega) hd).at
  rw [Nat.zero_add] at this
  exact this
theorem T.idxSub {t e e' : TypeId} {g i0 n : Nat} {x ix : Operand} {k : IntKind} {q : Int} {T : Ty} {l : List (Val T)} (ho : o.op = .indexAddr t x ix) (ht : elOf P t = some (e, T.size)) (hx : σ.eval x = .sub g i0 n) (hb : σ.blk g = .row T e' l) (hq : σ.eval ix = .int k q) (h0 : 0 ≤ q) (hlt : q < n) (hd : dstOk o nt = true) :
    TDoesB P nt o σ ⟨tmpsIn [x, ix], [g], .ptr g (i0 + q.toNat) 0, []⟩ := fun σ' ha => by
  have hb' : σ'.blk g = .row T e' l := (ha.2 g (by simp)).trans hb
  refine TDoes.val ?_
  exact (B.idxOwn (P := P) (σ := σ'.den) (nt := nt) (es := denS l) (e' := e') (g := g) (i := q.toNat) (n := n) (i0 := i0) ho ht (by rw [ha.dev (x := x) (by simp), hx]; simp only [denV, hb', denU]) (by rw [ha.dev (x := ix) (by simp), hq]; rfl) (by show denB _ (σ'.blk g) = _; rw [hb']; rfl) (by omega) (by omega) hd).at

/-- A slice that is only read. -/
def asView (B : Nat → TB) : TV → Option (Bool × (T : Ty) × List (Val T) × List Nat)
  | .view o T l => some (o, ⟨T, l, []⟩)
  | .own g => match B g with | .frz T l => some (false, ⟨T, l, [g]⟩) | _ => none
  | _ => none
theorem asView_ok {x : TV} {B B' : Nat → TB} {f : Bool} {T : Ty} {l : List (Val T)} {rb : List Nat} (h : asView B x = some (f, ⟨T, l, rb⟩)) (hb : ∀ g ∈ rb, B' g = B g) : SlV (denV B' x) f T.size (denS l) := by
  unfold asView at h
  split at h
  · cases h
    cases f
    · exact .view _ _
    · exact .lent _ _
  · rename_i g
    split at h
    · rename_i _ _ hg
      cases h
      have := (hb g (by simp)).trans hg
      simp only [denV, this, denO]
      exact .view _ _
    · cases h
  · cases h

theorem T.idxView {t e : TypeId} {f : Bool} {T : Ty} {l : List (Val T)} {rb : List Nat} {c0 : Val T} {x ix : Operand} {k : IntKind} {q : Int} (ho : o.op = .indexAddr t x ix) (ht : elOf P t = some (e, T.size)) (hx : asView σ.blk (σ.eval x) = some (f, ⟨T, l, rb⟩)) (hq : σ.eval ix = .int k q) (h0 : 0 ≤ q) (hc : l[q.toNat]? = some c0) (hd : dstOk o nt = true) :
    TDoesB P nt o σ ⟨tmpsIn [x, ix], rb, .vptr f T c0 0, []⟩ := fun σ' ha =>
  TDoes.val (B.idxView (P := P) (σ := σ'.den) (i := q.toNat) (es := denS l) (c0 := flatD T c0) ho ht (by rw [ha.dev (x := x) (by simp)]; exact asView_ok hx ha.2) (by rw [ha.dev (x := ix) (by simp), hq]; rfl) (by omega) (by unfold denS; rw [List.getElem?_map, hc]; rfl) hd).at
end
end Go.Proofs.Ytmkfpfnjimmmaaa
