/- The walk, computed: one operation, a region. Nothing of the dump stands here. -/
import Derived.Test.YtmkfpfnjimmmaaaVK
import Derived.Test.YtmkfpfnjimmmaaaVRA
import Derived.Test.YtmkfpfnjimmmaaaVRB
namespace Go.Proofs.Ytmkfpfnjimmmaaa
open Go.RowKit
set_option linter.unusedVariables false
set_option linter.unusedSimpArgs false

def tyT (P : Program) : Nat → TypeId → Option Ty
  | 0, _ => none
  | n + 1, t => match P.underlying t with
    | some (.int k) => some (.int k)
    | some .bool => some .bool
    | some (.slice e) => (tyT P n e).map .sl
    | some (.struct fs) => fs.toList.foldr (fun f acc => match tyT P n f.type, acc with | some a, some b => some (.pair a b) | _, _ => none) (some .unit)
    | some (.array m e) => match tyT P n e with | some a => some (Nat.rec .unit (fun _ b => .pair a b) m) | none => none
    | _ => none

/-- A name that is free, and a type's number that is no greater than these are. -/
def frE (b : TB) (e : TypeId) : Bool := b.isFree && Nat.blt e 1000
theorem frE_ok {b : TB} {e : TypeId} (h : frE b e = true) : b.isFree = true ∧ Nat.blt e 1000 = true := by unfold frE at h; rwa [Bool.and_eq_true] at h
/-- Two operands that are the same number. -/
def sameOp : Operand → Operand → Bool
  | .tmp a, .tmp b => Nat.beq a b
  | .const (.int _ a), .const (.int _ b) => decide (a = b)
  | _, _ => false
theorem sameOp_ok {σ : TS} {x y : Operand} {k k' : IntKind} {a b : Int} (h : sameOp x y = true) (hx : σ.eval x = .int k a) (hy : σ.eval y = .int k' b) : a = b := by
  unfold sameOp at h
  split at h
  · obtain rfl := Nat.eq_of_beq_eq_true h
    rw [hx] at hy
    cases hy
    rfl
  · cases hx
    cases hy
    exact of_decide_eq_true h
  · cases h

/-- What a call of a function asks, and gives. -/
def CallK := Oper → Operand → Array Operand → TS → Nat → (TInfo → Nat → Prop) → Prop

section
variable (P : Program) (X : CallK)

def binK (o : Oper) (op : BinOp) (t : TypeId) (x y : Operand) (σ : TS) (k : Nat) (KK : TInfo → Nat → Prop) : Prop :=
  match σ.eval x with
  | .int kx a => match σ.eval y with
    | .int ky b => match mS op kx a b with
      | some (ps, v) => conj ps (KK ⟨tmpsIn [x, y], [], v, []⟩ k)
      | none => bif decide (kx = ky) then (match mA op kx a b with
        | some (ps, v) => conj ps (KK ⟨tmpsIn [x, y], [], v, []⟩ k)
        | none => False) else False
    | _ => False
  | .bool a => match σ.eval y, P.underlying t with
    | .bool b, some .bool => match op with
      | .eql => KK ⟨tmpsIn [x, y], [], .bool (a == b), []⟩ k
      | .neq => KK ⟨tmpsIn [x, y], [], .bool (a != b), []⟩ k
      | _ => False
    | _, _ => False
  | _ => False

def unK (op : UnOp) (x : Operand) (σ : TS) (k : Nat) (KK : TInfo → Nat → Prop) : Prop :=
  match op, σ.eval x with
  | .not, .bool b => KK ⟨tmpsIn [x], [], .bool !b, []⟩ k
  | .neg, .int kx n => KK ⟨tmpsIn [x], [], .int kx (kx.wrap (0 - n)), []⟩ k
  | _, _ => False

def idxK (t : TypeId) (x ix : Operand) (σ : TS) (k : Nat) (KK : TInfo → Nat → Prop) : Prop :=
  match σ.eval ix, elOf P t with
  | .int _ q, some (_, sz) => match asView σ.blk (σ.eval x) with
    | some (f, ⟨T, l, rb⟩) => bif Nat.beq sz T.size then (0 ≤ q ∧ q < l.length ∧ ∀ c0, l[q.toNat]? = some c0 → KK ⟨tmpsIn [x, ix], rb, .vptr f T c0 0, []⟩ k) else False
    | none => match σ.eval x with
      | .own g => match σ.blk g with
        | .row T _ l => bif Nat.beq sz T.size then (0 ≤ q ∧ q < l.length ∧ KK ⟨tmpsIn [x, ix], [g], .ptr g q.toNat 0, []⟩ k) else False
        | _ => False
      | .sub g i n => match σ.blk g with
        | .row T _ l => bif Nat.beq sz T.size then (0 ≤ q ∧ q < n ∧ KK ⟨tmpsIn [x, ix], [g], .ptr g (i + q.toNat) 0, []⟩ k) else False
        | _ => False
      | _ => False
  | _, _ => False

def sliceK (t : TypeId) (x : Operand) (lo hi : Option Operand) (σ : TS) (k : Nat) (KK : TInfo → Nat → Prop) : Prop :=
  match asView σ.blk (σ.eval x), elOf P t with
  | some (f, ⟨T, l, rb⟩), some (_, sz) => match optI σ 0 lo, optI σ (l.length : Nat) hi with
    | some a, some b => bif Nat.beq sz T.size then (0 ≤ a ∧ a ≤ b ∧ b ≤ l.length ∧ KK ⟨tmpsIn (x :: (lo.toList ++ hi.toList)), rb, .view f T ((l.drop a.toNat).take (b.toNat - a.toNat)), []⟩ k) else False
    | _, _ => False
  | _, _ => False

def slice3K (t : TypeId) (x y z : Operand) (σ : TS) (k : Nat) (KK : TInfo → Nat → Prop) : Prop :=
  match asView σ.blk (σ.eval x), elOf P t, σ.eval y, σ.eval z with
  | some (f, ⟨T, l, rb⟩), some (_, sz), .int _ b, .int _ q => bif Nat.beq sz T.size then (0 ≤ b ∧ b ≤ q ∧ q ≤ l.length ∧ KK ⟨tmpsIn [x, y, z], rb, .view f T (l.take b.toNat), []⟩ k) else False
  | _, _, _, _ => False

def storeK (o : Oper) (t : TypeId) (x y : Operand) (σ : TS) (k : Nat) (KK : TInfo → Nat → Prop) : Prop :=
  match o.dst, tyOf P t, σ.eval x with
  | none, some (_, n), .ptr g i j => bif Nat.beq (σ.eval y).flat.length n then (match σ.blk g with
    | .var e cs => bif Nat.beq i 0 && (σ.eval y).flat.all tleaf then (match splice cs j (σ.eval y).flat with
      | some cs' => KK ⟨tmpsIn [x, y], [g], .und, [(g, .var e cs')]⟩ k
      | none => False) else False
    | .row T e l => i < l.length ∧ ∀ x0, l[i]? = some x0 → match splice (flat T x0) j (σ.eval y).flat with
      | some cs => (match pack σ.blk T cs with
        | some p => bif p.rest.isEmpty && !(p.fz.map (·.1)).any (Nat.beq g) then conj p.ps (KK ⟨tmpsIn [x, y], g :: p.rb, .und, p.fz ++ [(g, .row T e (l.set i p.x))]⟩ k) else False
        | none => False)
      | none => False
    | _ => False) else False
  | _, _, _ => False

def bsliceK (t : TypeId) (len : Nat) (parts : Array (Nat × Operand)) (σ : TS) (k : Nat) (KK : TInfo → Nat → Prop) : Prop :=
  match elOf P t with
  | some (e, sz) => match tyT P 20 e with
    | some T => bif Nat.beq sz T.size && Nat.ble 1 T.size && frE (σ.blk k) e then (match len, parts.toList with
      | 0, [] => KK ⟨tmpsIn (parts.toList.map (·.2)), [k], .own k, [(k, .row T e [])]⟩ (k + 1)
      | n + 1, ps => bif decide (ps.map (·.1) = List.range' 0 (n + 1)) && Nat.ble ((n + 1) * T.size) 16777216 && (zeroTV P e).isSome then (match packs σ.blk T (ps.map fun q => σ.eval q.2) with
        | some p => bif !(p.fz.map (·.1)).any (Nat.beq k) then conj p.ps (KK ⟨tmpsIn (parts.toList.map (·.2)), k :: p.rb, .own k, p.fz ++ [(k, .row T e p.x)]⟩ (k + 1)) else False
        | none => False) else False
      | _, _ => False) else False
    | none => False
  | none => False

def makeK (t : TypeId) (x y : Operand) (σ : TS) (k : Nat) (KK : TInfo → Nat → Prop) : Prop :=
  match elOf P t, σ.eval x, σ.eval y with
  | some (e, sz), .int _ ql, .int _ qc => match tyT P 20 e, zeroTV P e with
    | some T, some zl => bif Nat.beq sz T.size && Nat.ble 1 T.size && frE (σ.blk k) e then (match pack σ.blk T zl with
      | some p => bif p.rest.isEmpty && p.rb.isEmpty then (match p.ps with
        | [] => 0 ≤ ql ∧ ql ≤ qc ∧ (P.bytesOf e : Int) * qc ≤ 281474976710656 ∧ qc ≤ 140737488351232 ∧ KK ⟨tmpsIn [x, y], [k], .own k, [(k, .row T (bif sameOp x y then e + 1000 else e) (List.replicate ql.toNat p.x))]⟩ (k + 1)
        | _ => False) else False
      | none => False) else False
    | _, _ => False
  | _, _, _ => False

def appendK (t : TypeId) (s x : Operand) (σ : TS) (k : Nat) (KK : TInfo → Nat → Prop) : Prop :=
  match elOf P t with
  | some (e, sz) => match zeroTV P e with
    | some zl => match σ.eval s with
      | .own g => match σ.blk g with
        | .row T e' l => bif Nat.beq sz T.size && wkB e' e && Nat.beq zl.length T.size && Nat.ble 1 T.size && Nat.ble 1 (P.bytesOf e) && frE (σ.blk k) e then (match asSrc σ.blk T (σ.eval x) with
          | some (ys, rb, ps) => conj ps ((l.length + ys.length) * P.bytesOf e ≤ 140737488355328 ∧ KK ⟨tmpsIn [s, x], g :: k :: rb, .own k, [(g, .dead l.length), (k, .row T e (l ++ ys))]⟩ (k + 1))
          | none => False) else False
        | _ => False
      | .nsl => match tyT P 20 e with
        | some T => bif Nat.beq sz T.size && Nat.beq zl.length T.size && Nat.ble 1 T.size && Nat.ble 1 (P.bytesOf e) && frE (σ.blk k) e then (match asSrc σ.blk T (σ.eval x) with
          | some (ys, rb, ps) => conj ps (ys.length * P.bytesOf e ≤ 140737488355328 ∧ KK ⟨tmpsIn [s, x], k :: rb, .own k, [(k, .row T e ys)]⟩ (k + 1))
          | none => False) else False
        | none => False
      | _ => False
    | none => False
  | none => False

def builtinK (b : Builtin) (as' : List Operand) (ts : List TypeId) (σ : TS) (k : Nat) (KK : TInfo → Nat → Prop) : Prop :=
  match b, as', ts with
  | .len, [x], [t] => match P.underlying t with
    | some (.slice _) => match lenTV σ.blk (σ.eval x) with
      | some (n, rb) => KK ⟨tmpsIn [x], rb, .int .i64 n, []⟩ k
      | none => match σ.eval x with
        | .sub g i n => match σ.blk g with
          | .row _ _ _ => KK ⟨tmpsIn [x], [g], .int .i64 n, []⟩ k
          | _ => False
        | _ => False
    | _ => False
  | .append, [s, x], [t, t'] => bif Nat.beq t t' then appendK P t s x σ k KK else False
  | .min, [x, y], _ => match σ.eval x, σ.eval y with
    | .int k1 a, .int k2 b => bif decide (k1 = k2) then KK ⟨tmpsIn [x, y], [], .int k1 (if b < a then b else a), []⟩ k else False
    | _, _ => False
  | .max, [x, y], _ => match σ.eval x, σ.eval y with
    | .int k1 a, .int k2 b => bif decide (k1 = k2) then KK ⟨tmpsIn [x, y], [], .int k1 (if a < b then b else a), []⟩ k else False
    | _, _ => False
  | _, _, _ => False

def opK0 (o : Oper) (σ : TS) (k : Nat) (KK : TInfo → Nat → Prop) : Prop :=
  match o.op with
  | .move x => KK ⟨tmpsIn [x], [], σ.eval x, []⟩ k
  | .assign x => KK ⟨tmpsIn [x], [], σ.eval x, []⟩ k
  | .pick c x y => match σ.eval c with
    | .bool b => bif b then KK ⟨tmpsIn [c, x, y], [], σ.eval x, []⟩ k else KK ⟨tmpsIn [c, x, y], [], σ.eval y, []⟩ k
    | _ => False
  | .alloc t => match zeroTV P t with
    | some cs => bif cs.all tleaf && (σ.blk k).isFree then KK ⟨[], [k], .ptr k 0 0, [(k, .var t cs)]⟩ (k + 1) else False
    | none => False
  | .box t x => bif (σ.eval x).flat.all tleaf && (σ.blk k).isFree then KK ⟨tmpsIn [x], [k], .ptr k 0 0, [(k, .var t (σ.eval x).flat)]⟩ (k + 1) else False
  | .build t parts => match tbldOf P t with
    | some (zero, places) => match tbuildA places zero (parts.toList.map fun p => (p.1, σ.eval p.2)) with
      | some vs => KK ⟨tmpsIn (parts.toList.map (·.2)), [], .agg vs, []⟩ k
      | none => False
    | none => False
  | .buildSlice t len parts => bsliceK P t len parts σ k KK
  | .load t x => match tyOf P t with
    | some (b, n) => readC σ (σ.eval x) fun cs rb => bif b then (match takeO n cs with
        | some vs => KK ⟨tmpsIn [x], rb, .agg vs, []⟩ k
        | none => False) else (match cs with
        | v :: _ => KK ⟨tmpsIn [x], rb, v, []⟩ k
        | [] => False)
    | none => False
  | .store t x y => storeK P o t x y σ k KK
  | .nilCheck x => match σ.eval x with
    | .ptr g i j => KK ⟨tmpsIn [x], [], .ptr g i j, []⟩ k
    | .vptr f T c j => KK ⟨tmpsIn [x], [], .vptr f T c j, []⟩ k
    | _ => False
  | .binOp op t x y _ => binK P o op t x y σ k KK
  | .unOp op _ x => unK op x σ k KK
  | .convert s d x => match P.underlying s, P.underlying d, σ.eval x with
    | some _, some (.int k'), .int _ n => KK ⟨tmpsIn [x], [], .int k' (k'.wrap n), []⟩ k
    | some (.slice e), _, .own g => match P.underlying e, σ.blk g with
      | some (.int .u8), .row T _ l => bif Nat.beq s d then (0 < l.length ∧ KK ⟨tmpsIn [x], [g], .own g, [(g, .frz T l)]⟩ k) else False
      | _, _ => False
    | _, _, _ => False
  | .makeFunc (.func f) fs xs => bif fs.isEmpty then KK ⟨tmpsIn xs.toList, [], .fn f (xs.toList.map σ.eval), []⟩ k else False
  | .makeSlice t x y => makeK P t x y σ k KK
  | .slice t x lo hi none => sliceK P t x lo hi σ k KK
  | .slice t x none (some y) (some z) => slice3K P t x y z σ k KK
  | .fieldAddr s x f => match fldOf P s f with
    | some (off, _, n) => bif Nat.ble 1 n then (match σ.eval x with
      | .ptr g i j => KK ⟨tmpsIn [x], [], .ptr g i (j + off), []⟩ k
      | .vptr f T c j => KK ⟨tmpsIn [x], [], .vptr f T c (j + off), []⟩ k
      | _ => False) else False
    | none => False
  | .field t x f => match fldOf P t f, σ.eval x with
    | some (off, b, n), .agg vs => bif b then (match takeO n (vs.drop off) with
      | some ws => KK ⟨tmpsIn [x], [], .agg ws, []⟩ k
      | none => False) else (match vs[off]? with
      | some v => KK ⟨tmpsIn [x], [], v, []⟩ k
      | none => False)
    | _, _ => False
  | .indexAddr t x ix => idxK P t x ix σ k KK
  | .extract x i => match σ.eval x with
    | .tup vs => match vs[i]? with
      | some v => KK ⟨tmpsIn [x], [], v, []⟩ k
      | none => False
    | _ => False
  | .call ⟨.builtin b, as', ts⟩ => builtinK P b as'.toList ts.toList σ k KK
  | .call ⟨.value f, as', _⟩ => X o f as' σ k KK
  | _ => False
end

/-- The hook's calls are what they say. -/
def CallOk (P : Program) (nt : Nat) (X : CallK) : Prop :=
  ∀ (o : Oper) (f : Operand) (as' : Array Operand) (ts : Array TypeId) (σ : TS) (k : Nat) (KK : TInfo → Nat → Prop), o.op = .call ⟨.value f, as', ts⟩ → dstOk o nt = true → X o f as' σ k KK → ∃ fi k', TDoesB P nt o σ fi ∧ KK fi k'

section
variable {P : Program} {X : CallK} {nt : Nat} {o : Oper} {σ : TS} {k : Nat} {KK : TInfo → Nat → Prop}

theorem binK_ok {op : BinOp} {t ty : TypeId} {x y : Operand} (ho : o.op = .binOp op t x y ty) (hd : dstOk o nt = true) (h : binK P o op t x y σ k KK) : ∃ f k', TDoesB P nt o σ f ∧ KK f k' := by
  unfold binK at h
  split at h
  · rename_i kx a hx
    split at h
    · rename_i ky b hy
      split at h
      · rename_i ps v hm
        obtain ⟨h1, h2⟩ := conj_of h
        exact ⟨_, _, T.mS ho hx hy hm h1 hd, h2⟩
      · cases hk : decide (kx = ky) with
        | false => rw [hk] at h; exact h.elim
        | true =>
          rw [hk] at h
          obtain rfl := of_decide_eq_true hk
          simp only [cond_true] at h
          split at h
          · rename_i ps v hm
            obtain ⟨h1, h2⟩ := conj_of h
            exact ⟨_, _, T.mA ho hx hy hm h1 hd, h2⟩
          · exact h.elim
    · exact h.elim
  · rename_i a hx
    split at h
    · rename_i b hy ht
      split at h
      · exact ⟨_, _, T.boolB ho ht hx hy (.inl ⟨rfl, rfl⟩) hd, h⟩
      · exact ⟨_, _, T.boolB ho ht hx hy (.inr ⟨rfl, rfl⟩) hd, h⟩
      · exact h.elim
    · exact h.elim
  · exact h.elim

theorem unK_ok {op : UnOp} {t : TypeId} {x : Operand} (ho : o.op = .unOp op t x) (hd : dstOk o nt = true) (h : unK op x σ k KK) : ∃ f k', TDoesB P nt o σ f ∧ KK f k' := by
  unfold unK at h
  split at h
  · rename_i b hx
    exact ⟨_, _, T.not ho hx hd, h⟩
  · rename_i kx n hx
    exact ⟨_, _, T.un ho hx (fun w => by simp [Op.unary, Op.intArith]) hd, h⟩
  · exact h.elim

theorem beq_bif {a b : Nat} {p : Prop} (h : bif Nat.beq a b then p else False) : a = b ∧ p := by
  cases hb : Nat.beq a b with
  | false => rw [hb] at h; exact h.elim
  | true => rw [hb] at h; exact ⟨Nat.eq_of_beq_eq_true hb, h⟩
theorem bif_t {b : Bool} {p : Prop} (h : bif b then p else False) : b = true ∧ p := by
  cases b with
  | false => exact h.elim
  | true => exact ⟨rfl, h⟩

theorem idxK_ok {t : TypeId} {x ix : Operand} (ho : o.op = .indexAddr t x ix) (hd : dstOk o nt = true) (h : idxK P t x ix σ k KK) : ∃ f k', TDoesB P nt o σ f ∧ KK f k' := by
  unfold idxK at h
  split at h
  · rename_i kq q e sz hq ht
    split at h
    · rename_i f TT l rb hv
      obtain ⟨rfl, h0, h1, h2⟩ := beq_bif h
      have hc : l[q.toNat]? = some (l[q.toNat]'(by omega)) := List.getElem?_eq_getElem (by omega)
      exact ⟨_, _, T.idxView ho ht hv hq h0 hc hd, h2 _ hc⟩
    · split at h
      · rename_i g hx
        split at h
        · rename_i TT e' l hb
          obtain ⟨rfl, h0, h1, h2⟩ := beq_bif h
          exact ⟨_, _, T.idxOwn ho ht hx hb hq h0 h1 hd, h2⟩
        · exact h.elim
      · rename_i g i n hx
        split at h
        · rename_i TT e' l hb
          obtain ⟨rfl, h0, h1, h2⟩ := beq_bif h
          exact ⟨_, _, T.idxSub ho ht hx hb hq h0 h1 hd, h2⟩
        · exact h.elim
      · exact h.elim
  · exact h.elim

theorem slice3K_ok {t : TypeId} {x y z : Operand} (ho : o.op = .slice t x none (some y) (some z)) (hd : dstOk o nt = true) (h : slice3K P t x y z σ k KK) : ∃ f k', TDoesB P nt o σ f ∧ KK f k' := by
  unfold slice3K at h
  split at h
  · rename_i f TT l rb e sz ik b ik' q hv ht hy hz
    obtain ⟨rfl, h0, h1, h2, h3⟩ := beq_bif h
    exact ⟨_, _, T.sliceView3 ho ht hv hy hz h0 h1 h2 hd, h3⟩
  · exact h.elim
theorem sliceK_ok {t : TypeId} {x : Operand} {lo hi : Option Operand} (ho : o.op = .slice t x lo hi none) (hd : dstOk o nt = true) (h : sliceK P t x lo hi σ k KK) : ∃ f k', TDoesB P nt o σ f ∧ KK f k' := by
  unfold sliceK at h
  split at h
  · rename_i f TT l rb e sz hv ht
    split at h
    · rename_i a b ha hb
      obtain ⟨rfl, h0, h1, h2, h3⟩ := beq_bif h
      exact ⟨_, _, T.sliceView ho ht hv ha hb h0 h1 h2 hd, h3⟩
    · exact h.elim
  · exact h.elim

theorem not_any {l : List Nat} {g : Nat} (h : (!l.any (Nat.beq g)) = true) : g ∉ l := fun hg => by
  have : l.any (Nat.beq g) = true := List.any_eq_true.2 ⟨g, hg, by simp⟩
  rw [this] at h
  cases h
theorem isEmpty_nil {α : Type} {l : List α} (h : l.isEmpty = true) : l = [] := by cases l <;> first | rfl | cases h

theorem storeK_ok {t : TypeId} {x y : Operand} (ho : o.op = .store t x y) (h : storeK P o t x y σ k KK) : ∃ f k', TDoesB P nt o σ f ∧ KK f k' := by
  unfold storeK at h
  split at h
  · rename_i b n g i j hd ht hx
    obtain ⟨hn, hh⟩ := beq_bif h
    clear h
    have h := hh
    clear hh
    split at h
    · rename_i e cs hb
      obtain ⟨h1, hh⟩ := bif_t h
      clear h
      have h := hh
      clear hh
      simp only [Bool.and_eq_true] at h1
      obtain rfl := Nat.eq_of_beq_eq_true h1.1
      split at h
      · rename_i cs' hs
        exact ⟨_, _, T.storeVar ho ht hx hb h1.2 hn hs hd, h⟩
      · exact h.elim
    · rename_i TT e l hb
      obtain ⟨hi, hh⟩ := h
      have hc : l[i]? = some l[i] := List.getElem?_eq_getElem hi
      have h := hh _ hc
      clear hh
      split at h
      · rename_i cs hs
        split at h
        · rename_i p hp
          obtain ⟨h1, hh⟩ := bif_t h
          clear h
          have h := hh
          clear hh
          simp only [Bool.and_eq_true] at h1
          obtain ⟨h2, h3⟩ := conj_of h
          exact ⟨_, _, T.storeRow ho ht hx hb hc hn hs hp (isEmpty_nil h1.1) h2 (not_any h1.2) hd, h3⟩
        · exact h.elim
      · exact h.elim
    · exact h.elim
  · exact h.elim

theorem bsliceK_ok {t : TypeId} {len : Nat} {parts : Array (Nat × Operand)} (ho : o.op = .buildSlice t len parts) (hd : dstOk o nt = true) (h : bsliceK P t len parts σ k KK) : ∃ f k', TDoesB P nt o σ f ∧ KK f k' := by
  unfold bsliceK at h
  split at h
  · rename_i e sz ht
    split at h
    · rename_i TT hT
      obtain ⟨h1, hh⟩ := bif_t h
      clear h
      have h := hh
      clear hh
      simp only [Bool.and_eq_true] at h1
      obtain ⟨⟨q1, q2⟩, q3⟩ := h1
      obtain rfl := Nat.eq_of_beq_eq_true q1
      have hpos : 0 < TT.size := Nat.le_of_ble_eq_true q2
      split at h
      · rename_i hp
        exact ⟨_, _, T.bempty ho ht hpos (by apply Array.ext'; simpa using hp) (frE_ok q3).2 (frE_ok q3).1 hd, h⟩
      · rename_i n ps hne
        obtain ⟨h1, hh⟩ := bif_t h
        clear h
        have h := hh
        clear hh
        simp only [Bool.and_eq_true] at h1
        obtain ⟨⟨r1, r2⟩, r3⟩ := h1
        split at h
        · rename_i p hp
          obtain ⟨h1, hh⟩ := bif_t h
          clear h
          have h := hh
          clear hh
          obtain ⟨h2, h3⟩ := conj_of h
          exact ⟨_, _, T.bslice ho ht r3 hpos (of_decide_eq_true r1) (Nat.le_of_ble_eq_true r2) (Nat.succ_pos _) hp h2 (frE_ok q3).2 (frE_ok q3).1 (not_any h1) hd, h3⟩
        · exact h.elim
      · exact h.elim
    · exact h.elim
  · exact h.elim

theorem makeK_ok {t : TypeId} {x y : Operand} (ho : o.op = .makeSlice t x y) (hd : dstOk o nt = true) (h : makeK P t x y σ k KK) : ∃ f k', TDoesB P nt o σ f ∧ KK f k' := by
  unfold makeK at h
  split at h
  · rename_i e sz kl ql kc qc ht hx hy
    split at h
    · rename_i TT zl hT hz
      obtain ⟨h1, hh⟩ := bif_t h
      clear h
      have h := hh
      clear hh
      simp only [Bool.and_eq_true] at h1
      obtain ⟨⟨q1, q2⟩, q3⟩ := h1
      obtain rfl := Nat.eq_of_beq_eq_true q1
      split at h
      · rename_i p hp
        obtain ⟨h1, hh⟩ := bif_t h
        clear h
        have h := hh
        clear hh
        simp only [Bool.and_eq_true] at h1
        split at h
        · rename_i hps
          obtain ⟨r1, r2, r3, r4, r5⟩ := h
          exact ⟨_, _, T.make ho ht hz hp (isEmpty_nil h1.1) (isEmpty_nil h1.2) hps rfl (Nat.le_of_ble_eq_true q2) hx hy r1 r2 r3 r4 (e' := bif sameOp x y then e + 1000 else e) (by cases sameOp x y with | true => exact rty_x _ | false => exact rty_of (frE_ok q3).2) (by
            cases hso : sameOp x y with
            | true => rw [sameOp_ok hso hx hy]; exact .self
            | false => exact .of (frE_ok q3).2 (by omega)) (frE_ok q3).1 hd, r5⟩
        · exact h.elim
      · exact h.elim
    · exact h.elim
  · exact h.elim

theorem appendK_ok {t : TypeId} {s x : Operand} (ho : o.op = .call { callee := .builtin .append, args := #[s, x], argTypes := #[t, t] }) (hd : dstOk o nt = true) (h : appendK P t s x σ k KK) : ∃ f k', TDoesB P nt o σ f ∧ KK f k' := by
  unfold appendK at h
  split at h
  · rename_i e sz ht
    split at h
    · rename_i zl hz
      split at h
      · rename_i g hs
        split at h
        · rename_i TT e' l hb
          obtain ⟨h1, hh⟩ := bif_t h
          clear h
          have h := hh
          clear hh
          simp only [Bool.and_eq_true] at h1
          obtain ⟨⟨⟨⟨⟨q1, q2⟩, q3⟩, q4⟩, q5⟩, q6⟩ := h1
          obtain rfl := Nat.eq_of_beq_eq_true q1
          have hblt := (frE_ok q6).2
          split at h
          · rename_i ys rb ps hx
            obtain ⟨h2, h3, h4⟩ := conj_of h
            exact ⟨_, _, T.append ho ht hz (Nat.eq_of_beq_eq_true q3) rfl (Nat.le_of_ble_eq_true q5) (Nat.le_of_ble_eq_true q4) ((wkB_ok q2).1.trans (rty_of hblt)) hblt hs hb hx h2 h3 (frE_ok q6).1 hd, h4⟩
          · exact h.elim
        · exact h.elim
      · rename_i hs
        split at h
        · rename_i TT hT
          obtain ⟨h1, hh⟩ := bif_t h
          clear h
          have h := hh
          clear hh
          simp only [Bool.and_eq_true] at h1
          obtain ⟨⟨⟨⟨q1, q3⟩, q4⟩, q5⟩, q6⟩ := h1
          obtain rfl := Nat.eq_of_beq_eq_true q1
          split at h
          · rename_i ys rb ps hx
            obtain ⟨h2, h3, h4⟩ := conj_of h
            exact ⟨_, _, T.append0 ho ht hz (Nat.eq_of_beq_eq_true q3) rfl (Nat.le_of_ble_eq_true q5) (Nat.le_of_ble_eq_true q4) (frE_ok q6).2 hs hx h2 h3 (frE_ok q6).1 hd, h4⟩
          · exact h.elim
        · exact h.elim
      · exact h.elim
    · exact h.elim
  · exact h.elim

theorem builtinK_ok {b : Builtin} {as' : Array Operand} {ts : Array TypeId} (ho : o.op = .call ⟨.builtin b, as', ts⟩) (hd : dstOk o nt = true) (h : builtinK P b as'.toList ts.toList σ k KK) : ∃ f k', TDoesB P nt o σ f ∧ KK f k' := by
  have arr : ∀ {α : Type} {a : Array α} {l : List α}, a.toList = l → a = l.toArray := fun h => by apply Array.ext'; simpa using h
  unfold builtinK at h
  split at h
  · rename_i x t h1 h2
    obtain rfl := arr h1
    obtain rfl := arr h2
    split at h
    · rename_i e ht
      split at h
      · rename_i n rb hl
        exact ⟨_, _, T.len ho ht hl hd, h⟩
      · split at h
        · rename_i g i n hx
          split at h
          · rename_i hb
            exact ⟨_, _, T.lenSub ho ht hx hb hd, h⟩
          · exact h.elim
        · exact h.elim
    · exact h.elim
  · rename_i s x t t' h1 h2
    obtain rfl := arr h1
    obtain rfl := arr h2
    obtain ⟨rfl, hh⟩ := beq_bif h
    clear h
    have h := hh
    clear hh
    exact appendK_ok ho hd h
  · rename_i x y h1
    obtain rfl := arr h1
    split at h
    · rename_i k1 a k2 b hx hy
      obtain ⟨hk, h2⟩ := bif_t h
      obtain rfl := of_decide_eq_true hk
      exact ⟨_, _, T.min ho hx hy hd, h2⟩
    · exact h.elim
  · rename_i x y h1
    obtain rfl := arr h1
    split at h
    · rename_i k1 a k2 b hx hy
      obtain ⟨hk, h2⟩ := bif_t h
      obtain rfl := of_decide_eq_true hk
      exact ⟨_, _, T.max ho hx hy hd, h2⟩
    · exact h.elim
  · exact h.elim

theorem T.nilCheck {x : Operand} {v : TV} (ho : o.op = .nilCheck x) (hx : σ.eval x = v) (hv : ∀ (B : Nat → TB) (E : Env) (w : World) (F U : Nat → Prop) (base : Nat) (u : Value), VA E w F U base (denV B v) u → ∃ a, u = .pointer (some a)) (hd : dstOk o nt = true) : TDoesB P nt o σ ⟨tmpsIn [x], [], v, []⟩ := fun σ' ha =>
  TDoes.val (Does.value hd fun w0 U E c w hrel => by
    have h1 := Rel.eval hrel x
    rw [ha.dev (x := x) (by simp), hx] at h1
    obtain ⟨a, h2⟩ := hv _ _ _ _ _ _ _ h1
    refine ⟨c.eval x, by rw [execOp, ho]; simp only [h2]; rfl, h1⟩)

theorem opK0_ok (hX : CallOk P nt X) (hd : dstOk o nt = true) (h : opK0 P X o σ k KK) : ∃ f k', TDoesB P nt o σ f ∧ KK f k' := by
  unfold opK0 at h
  split at h
  · rename_i x ho
    exact ⟨_, _, T.move (.inl ho) hd, h⟩
  · rename_i x ho
    exact ⟨_, _, T.move (.inr ho) hd, h⟩
  · rename_i c x y ho
    split at h
    · rename_i b hc
      have := T.pick (P := P) ho hc hd
      cases b
      · exact ⟨_, _, this, h⟩
      · exact ⟨_, _, this, h⟩
    · exact h.elim
  · rename_i t ho
    split at h
    · rename_i cs hz
      obtain ⟨h1, hh⟩ := bif_t h
      clear h
      have h := hh
      clear hh
      simp only [Bool.and_eq_true] at h1
      exact ⟨_, _, T.alloc ho hz h1.1 h1.2 hd, h⟩
    · exact h.elim
  · rename_i t x ho
    obtain ⟨h1, hh⟩ := bif_t h
    clear h
    have h := hh
    clear hh
    simp only [Bool.and_eq_true] at h1
    exact ⟨_, _, T.box ho h1.1 h1.2 hd, h⟩
  · rename_i t parts ho
    split at h
    · rename_i zero places hz
      split at h
      · rename_i vs hb
        exact ⟨_, _, T.build ho hz hb hd, h⟩
      · exact h.elim
    · exact h.elim
  · rename_i t len parts ho
    exact bsliceK_ok ho hd h
  · rename_i t x ho
    split at h
    · rename_i b n ht
      obtain ⟨cs, rb, h1, h2⟩ := readC_ok h
      cases b with
      | true =>
        simp only [cond_true] at h1
        split at h1
        · rename_i vs hv
          exact ⟨_, _, T.loadN ho ht h2 hv hd, h1⟩
        · exact h1.elim
      | false =>
        simp only [cond_false] at h1
        split at h1
        · exact ⟨_, _, T.load1 ho ht h2 hd, h1⟩
        · exact h1.elim
    · exact h.elim
  · rename_i t x y ho
    exact storeK_ok ho h
  · rename_i x ho
    split at h
    · rename_i g i j hx
      exact ⟨_, _, T.nilCheck ho hx (fun B E w F U base u hu => by cases hu; exact ⟨_, rfl⟩) hd, h⟩
    · rename_i f TT c j hx
      exact ⟨_, _, T.nilCheck ho hx (fun B E w F U base u hu => by cases hu; exact ⟨_, rfl⟩) hd, h⟩
    · exact h.elim
  · rename_i op t x y ty ho
    exact binK_ok ho hd h
  · rename_i op t x ho
    exact unK_ok ho hd h
  · rename_i s d x ho
    split at h
    · rename_i ds k' kx n hs ht hx
      exact ⟨_, _, T.conv ho hs ht hx hd, h⟩
    · rename_i e g hs hx
      split at h
      · rename_i TT e' l he hb
        obtain ⟨rfl, h0, h2⟩ := beq_bif h
        exact ⟨_, _, T.mark ho hs he hx hb h0 hd, h2⟩
      · exact h.elim
    · exact h.elim
  · rename_i f fs xs ho
    obtain ⟨h1, h2⟩ := bif_t h
    obtain rfl : fs = #[] := by simpa using h1
    exact ⟨_, _, T.mkfn ho hd, h2⟩
  · rename_i t x y ho
    exact makeK_ok ho hd h
  · rename_i t x lo hi ho
    exact sliceK_ok ho hd h
  · rename_i t x y z ho
    exact slice3K_ok ho hd h
  · rename_i s x f ho
    split at h
    · rename_i off b n hf
      obtain ⟨h1, hh⟩ := bif_t h
      clear h
      have h := hh
      clear hh
      have hn : n ≠ 0 := by have := Nat.le_of_ble_eq_true h1; omega
      split at h
      · rename_i g i j hx
        exact ⟨_, _, T.fld ho hf hn hx hd, h⟩
      · rename_i fr TT c j hx
        exact ⟨_, _, T.vfld ho hf hn hx hd, h⟩
      · exact h.elim
    · exact h.elim
  · rename_i t x f ho
    split at h
    · rename_i off b n vs hf hx
      cases b with
      | true =>
        simp only [cond_true] at h
        split at h
        · rename_i ws hw
          exact ⟨_, _, T.fieldN ho hf hx hw hd, h⟩
        · exact h.elim
      | false =>
        simp only [cond_false] at h
        split at h
        · rename_i v hv
          exact ⟨_, _, T.field1 ho hf hx hv hd, h⟩
        · exact h.elim
    · exact h.elim
  · rename_i t x ix ho
    exact idxK_ok ho hd h
  · rename_i x i ho
    split at h
    · rename_i vs hx
      split at h
      · rename_i v hv
        exact ⟨_, _, T.extract ho hx hv hd, h⟩
      · exact h.elim
    · exact h.elim
  · rename_i b as' ts ho
    exact builtinK_ok ho hd h
  · rename_i f as' ts ho
    exact hX o f as' ts σ k KK ho hd h
  · exact h.elim
end

/-- All noughts. -/
def allZ : (T : Ty) → List (Val T) → Option (Val T)
  | .int _, l => bif List.all (α := Int) l (fun x => decide (x = 0)) then some (0 : Int) else none
  | .bool, l => bif List.all (α := Bool) l (fun x => !x) then some false else none
  | _, _ => none
theorem allZ_ok : ∀ {T : Ty} {l : List (Val T)} {z : Val T}, allZ T l = some z → l = List.replicate l.length z
  | .int _, l, z, h => by
    simp only [allZ] at h
    cases hc : List.all (α := Int) l (fun x => decide (x = 0)) with
    | false => rw [hc] at h; cases h
    | true =>
      rw [hc] at h
      cases h
      exact List.eq_replicate_iff.2 ⟨rfl, fun b hb => (of_decide_eq_true (p := (show Int from b) = 0) (List.all_eq_true.1 hc b hb) : _)⟩
  | .bool, l, z, h => by
    simp only [allZ] at h
    cases hc : List.all (α := Bool) l (fun x => !x) with
    | false => rw [hc] at h; cases h
    | true =>
      rw [hc] at h
      cases h
      exact List.eq_replicate_iff.2 ⟨rfl, fun b hb => by
        have h1 : (!(show Bool from b)) = true := List.all_eq_true.1 hc b hb
        show (show Bool from b) = false
        cases hb' : (show Bool from b) with
        | false => rfl
        | true => rw [hb'] at h1; cases h1⟩
  | .sl _, _, _, h => by simp [allZ] at h
  | .unit, _, _, h => by simp [allZ] at h
  | .pair _ _, _, _, h => by simp [allZ] at h

section
variable (P : Program)
/-- What there is to arrays, copies, slices of rows of the call's own. -/
def arrT (t : TypeId) : Option (Nat × (T : Ty) × Unit) := match arrOf P t with
  | some (m, e, _) => match tyT P 20 e with
    | some T => bif plainT T then some (m, ⟨T, ()⟩) else none
    | none => none
  | none => none
def aAlloc (t : TypeId) (σ : TS) (k : Nat) (KK : TInfo → Nat → Prop) : Option Prop := match arrT P t, zeroTV P t with
  | some (m, ⟨T, _⟩), some cs => match asVals T cs with
    | some l => match allZ T l with
      | some z => some (bif Nat.beq l.length m && Nat.ble m 1000000 && plainT T && frE (σ.blk k) t then KK ⟨[], [k], .ptr k 0 0, [(k, .row T t (List.replicate m z))]⟩ (k + 1) else False)
      | none => none
    | none => none
  | _, _ => none
def aBox (t : TypeId) (x : Operand) (σ : TS) (k : Nat) (KK : TInfo → Nat → Prop) : Option Prop := match σ.eval x with
  | .arr T l => some (bif plainT T && frE (σ.blk k) t then (l.length ≤ 9223372036854775807 ∧ KK ⟨tmpsIn [x], [k], .ptr k 0 0, [(k, .row T t l)]⟩ (k + 1)) else False)
  | _ => none
def aBuild (t : TypeId) (parts : Array (Nat × Operand)) (σ : TS) (k : Nat) (KK : TInfo → Nat → Prop) : Option Prop := match arrT P t, tbldOf P t with
  | some (m, ⟨T, _⟩), some (zero, places) => bif Nat.ble m 4 then none else (match tbuildA places zero (parts.toList.map fun p => (p.1, σ.eval p.2)) with
    | some vs => match asVals T vs with
      | some l => some (KK ⟨tmpsIn (parts.toList.map (·.2)), [], .arr T l, []⟩ k)
      | none => none
    | none => none)
  | _, _ => none
def aLoad (t : TypeId) (x : Operand) (σ : TS) (k : Nat) (KK : TInfo → Nat → Prop) : Option Prop := match arrT P t, σ.eval x with
  | some _, .ptr g 0 0 => match σ.blk g, tyOf P t with
    | .row T e l, some (true, n) => bif plainT T && Nat.ble 1 n then some (l.length = n ∧ KK ⟨tmpsIn [x], [g], .arr T l, []⟩ k) else none
    | _, _ => none
  | _, _ => none
def aStore (o : Oper) (t : TypeId) (x y : Operand) (σ : TS) (k : Nat) (KK : TInfo → Nat → Prop) : Option Prop := match σ.eval y, σ.eval x, o.dst with
  | .arr T' l', .ptr g 0 0, none => match σ.blk g, tyOf P t with
    | .row T e l, some (_, n) => match castL T' T l' with
      | some l'' => bif plainT T && Nat.ble 1 n then some (l.length = n ∧ l''.length = n ∧ KK ⟨tmpsIn [x, y], [g], .und, [(g, .row T e l'')]⟩ k) else none
      | none => none
    | _, _ => none
  | _, _, _ => none
def aIdx (t : TypeId) (x ix : Operand) (σ : TS) (k : Nat) (KK : TInfo → Nat → Prop) : Option Prop := match arrOf P t, σ.eval ix with
  | some (m, _, sz), .int _ q => match x with
    | .global g => match tabAt g with
      | some (kk, l) => bif Nat.beq sz 1 then some (0 ≤ q ∧ q < m ∧ q < l.length ∧ ∀ c0, l[q.toNat]? = some c0 → KK ⟨tmpsIn [.global g, ix], [], .vptr true (.int kk) c0 0, []⟩ k) else none
      | none => none
    | x => match σ.eval x with
      | .ptr g 0 j => match σ.blk g with
        | .row T _ l => bif Nat.beq j 0 && Nat.beq sz T.size then some (0 ≤ q ∧ q < m ∧ KK ⟨tmpsIn [x, ix], [g], .ptr g q.toNat 0, []⟩ k) else none
        | .var _ _ => bif Nat.ble m 4 then some (0 ≤ q ∧ q < m ∧ forkK q m fun i => KK ⟨tmpsIn [x, ix], [], .ptr g 0 (j + i * sz), []⟩ k) else none
        | _ => none
      | _ => none
  | _, _ => none
def aIndex (t : TypeId) (x ix : Operand) (σ : TS) (k : Nat) (KK : TInfo → Nat → Prop) : Option Prop := match arrOf P t, σ.eval ix, σ.eval x with
  | some (m, e, sz), .int _ q, .arr T l => match tyOf P e with
    | some (false, n) => bif Nat.beq sz 1 && Nat.beq n 1 && plainT T then some (0 ≤ q ∧ q < m ∧ q < l.length ∧ ∀ c0, l[q.toNat]? = some c0 → KK ⟨tmpsIn [x, ix], [], valT T c0, []⟩ k) else none
    | _ => none
  | some (m, e, sz), .int _ q, .agg vs => match tyOf P e with
    | some (false, n) => bif Nat.beq sz 1 && Nat.beq n 1 && Nat.ble m 4 then some (0 ≤ q ∧ q < m ∧ forkK q m fun i => match vs[i]? with
      | some (.int k' z) => KK ⟨tmpsIn [x, ix], [], .int k' z, []⟩ k
      | _ => False) else none
    | _ => none
  | _, _, _ => none
def aSlice (t : TypeId) (x : Operand) (lo hi : Option Operand) (σ : TS) (k : Nat) (KK : TInfo → Nat → Prop) : Option Prop := match σ.eval x with
  | .ptr g 0 0 => match arrOf P t, σ.blk g with
    | some (m, _, sz), .row T _ l => match optI σ 0 lo, optI σ (m : Nat) hi with
      | some a, some b => bif Nat.beq sz T.size then some (m ≤ l.length ∧ 0 ≤ a ∧ a ≤ b ∧ b ≤ m ∧ a < m ∧ KK ⟨tmpsIn (x :: (lo.toList ++ hi.toList)), [g], .asl g a.toNat (b.toNat - a.toNat), []⟩ k) else none
      | _, _ => none
    | _, _ => none
  | .own g => match elOf P t, σ.blk g with
    | some (_, sz), .row T _ l => match optI σ 0 lo, optI σ (l.length : Nat) hi with
      | some a, some b => bif Nat.beq sz T.size then some (0 ≤ a ∧ a ≤ b ∧ b ≤ l.length ∧ KK ⟨tmpsIn (x :: (lo.toList ++ hi.toList)), [g], .sub g (0 + a.toNat) (b.toNat - a.toNat), []⟩ k) else none
      | _, _ => none
    | _, _ => none
  | .sub g i n => match elOf P t, σ.blk g with
    | some (_, sz), .row T _ l => match optI σ 0 lo, optI σ (n : Nat) hi with
      | some a, some b => bif Nat.beq sz T.size then some (0 ≤ a ∧ a ≤ b ∧ b ≤ n ∧ KK ⟨tmpsIn (x :: (lo.toList ++ hi.toList)), [g], .sub g (i + a.toNat) (b.toNat - a.toNat), []⟩ k) else none
      | _, _ => none
    | _, _ => none
  | _ => none
def aCopy (as' : List Operand) (ts : List TypeId) (σ : TS) (k : Nat) (KK : TInfo → Nat → Prop) : Option Prop := match as', ts with
  | [d, s], [t, t'] => match elOf P t, asDst σ.blk (σ.eval d) with
    | some (_, sz), some (g, i, n) => match σ.blk g with
      | .row T e' l => match asSrcA σ.blk T (σ.eval s) with
        | some (ys, rb, ps) => bif Nat.beq sz T.size then some (i + n ≤ l.length ∧ conj ps (KK ⟨tmpsIn [d, s], g :: rb, .int .i64 (min n ys.length : Nat), [(g, .row T e' (l.take i ++ ys.take (min n ys.length) ++ l.drop (i + min n ys.length)))]⟩ k)) else none
        | none => none
      | _ => none
    | _, _ => none
  | _, _ => none
def mInt (t : TypeId) : Option (IntKind × IntKind) := match P.underlying t with
  | some (.map kt et) => match P.underlying kt, (P.info? et).bind (·.zero) with
    | some (.int ik), some (.int kv n) => bif decide (n = 0) then some (ik, kv) else none
    | _, _ => none
  | _ => none
def aMake (t : TypeId) (x : Operand) (σ : TS) (k : Nat) (KK : TInfo → Nat → Prop) : Option Prop := match mInt P t, σ.eval x with
  | some (ik, kv), .int _ _ => some (bif (σ.blk k).isFree then KK ⟨tmpsIn [x], [k], .mp k, [(k, .mp ik kv [])]⟩ (k + 1) else False)
  | _, _ => none
def aLook (t : TypeId) (x y : Operand) (σ : TS) (k : Nat) (KK : TInfo → Nat → Prop) : Option Prop := match mInt P t, σ.eval x, σ.eval y with
  | some (ik, kv), .mp g, .int ik' q => match σ.blk g with
    | .mp ik2 kv2 l => if ik' = ik then (if ik2 = ik then (if kv2 = kv then some (KK ⟨tmpsIn [x, y], [g], .tup [.int kv (DoorU.mget l q), .bool (DoorU.mhas l q)], []⟩ k) else none) else none) else none
    | _ => none
  | _, _, _ => none
def aPut (o : Oper) (t : TypeId) (x y z : Operand) (σ : TS) (k : Nat) (KK : TInfo → Nat → Prop) : Option Prop := match mInt P t, σ.eval x, σ.eval y, σ.eval z, o.dst with
  | some (ik, kv), .mp g, .int ik' q, .int kv' v, none => match σ.blk g with
    | .mp ik2 kv2 l => if ik' = ik then (if ik2 = ik then (if kv2 = kv then (if kv' = kv then some (KK ⟨tmpsIn [x, y, z], [g], .und, [(g, .mp ik kv (DoorU.mput l q v))]⟩ k) else none) else none) else none) else none
    | _ => none
  | _, _, _, _, _ => none
def aCap (as' : List Operand) (ts : List TypeId) (σ : TS) (k : Nat) (KK : TInfo → Nat → Prop) : Option Prop := match as', ts with
  | [x], [t] => match P.underlying t, σ.eval x with
    | some (.slice _), .own g => match σ.blk g with
      | .row T e l => bif Nat.blt e 1000 then none else some (KK ⟨tmpsIn [x], [g], .int .i64 (l.length : Int), []⟩ k)
      | _ => none
    | _, _ => none
  | _, _ => none
def aAppM (as' : List Operand) (ts : List TypeId) (σ : TS) (k : Nat) (KK : TInfo → Nat → Prop) : Option Prop := match as', ts with
  | [s, x], [t, tn] => match P.underlying tn, elOf P t, σ.eval s, σ.eval x with
    | some (.int _), some (e, sz), .sub g i n, .int _ q => match σ.blk g, zeroTV P e with
      | .row T e' l, some zl => match pack σ.blk T zl with
        | some p => bif Nat.beq sz T.size && Nat.ble 1 T.size && p.rest.isEmpty && p.rb.isEmpty && Nat.blt e 1000 && !Nat.blt e' 1000 && Nat.beq i 0 && (σ.blk k).isFree && !Nat.beq k g then (match p.ps with
          | [] => some (n ≤ l.length ∧ 0 ≤ q ∧ (l.length : Int) < n + q ∧ (n : Int) + q ≤ 140737488351232 ∧ (n + q) * (P.bytesOf e : Int) ≤ 140737488351232 ∧ KK ⟨tmpsIn [s, x], [g, k], .own k, [(k, .row T e (l.take n ++ List.replicate q.toNat p.x))]⟩ (k + 1))
          | _ => none) else none
        | none => none
      | _, _ => none
    | _, _, _, _ => none
  | _, _ => none
def aK (o : Oper) (σ : TS) (k : Nat) (KK : TInfo → Nat → Prop) : Option Prop :=
  match o.op with
  | .alloc t => aAlloc P t σ k KK
  | .box t x => aBox t x σ k KK
  | .build t parts => aBuild P t parts σ k KK
  | .load t x => aLoad P t x σ k KK
  | .store t x y => aStore P o t x y σ k KK
  | .indexAddr t x ix => aIdx P t x ix σ k KK
  | .index t x ix => aIndex P t x ix σ k KK
  | .slice t x lo hi none => aSlice P t x lo hi σ k KK
  | .call ⟨.builtin .copy, as', ts⟩ => aCopy P as'.toList ts.toList σ k KK
  | .call ⟨.builtin .cap, as', ts⟩ => aCap P as'.toList ts.toList σ k KK
  | .call ⟨.builtin .append, as', ts⟩ => aAppM P as'.toList ts.toList σ k KK
  | .makeMap t (some x) => aMake P t x σ k KK
  | .lookup t x y true => aLook P t x y σ k KK
  | .mapUpdate t x y z => aPut P o t x y z σ k KK
  | .unOp .xor _ x => match σ.eval x with
    | .int kx n => some (KK ⟨tmpsIn [x], [], .int kx (DoorU.notI kx n), []⟩ k)
    | _ => none
  | _ => none
def opK (X : CallK) (o : Oper) (σ : TS) (k : Nat) (KK : TInfo → Nat → Prop) : Prop := match aK P o σ k KK with
  | some p => p
  | none => opK0 P X o σ k KK
end

section
variable {P : Program} {X : CallK} {nt : Nat} {o : Oper} {σ : TS} {k : Nat} {KK : TInfo → Nat → Prop} {p : Prop}

theorem bif_s {b : Bool} {q : Prop} (h : (bif b then some q else none) = some p) : b = true ∧ q = p := by
  cases b with
  | false => cases h
  | true => exact ⟨rfl, by cases h; rfl⟩
theorem plain_size {T : Ty} (h : plainT T = true) : T.size = 1 := by cases T <;> first | rfl | cases h

theorem aAlloc_ok {t : TypeId} (ho : o.op = .alloc t) (hd : dstOk o nt = true) (h : aAlloc P t σ k KK = some p) (hp : p) : ∃ f k', TDoesB P nt o σ f ∧ KK f k' := by
  unfold aAlloc at h
  split at h
  · rename_i m TT u cs ht hz
    split at h
    · rename_i l hl
      split at h
      · rename_i z hzl
        cases h
        obtain ⟨h1, h2⟩ := bif_t hp
        simp only [Bool.and_eq_true] at h1
        have hlen := Nat.eq_of_beq_eq_true h1.1.1.1
        have hm := Nat.le_of_ble_eq_true h1.1.1.2
        have hps := plain_size h1.1.2
        have e := allZ_ok hzl
        rw [hlen] at e
        refine ⟨_, _, T.allocArr ho hz (l := List.replicate m z) (by rw [← e]; exact hl) (by omega) (by simp; omega) (frE_ok h1.2).2 (frE_ok h1.2).1 hd, h2⟩
      · cases h
    · cases h
  · cases h
theorem aBox_ok {t : TypeId} {x : Operand} (ho : o.op = .box t x) (hd : dstOk o nt = true) (h : aBox t x σ k KK = some p) (hp : p) : ∃ f k', TDoesB P nt o σ f ∧ KK f k' := by
  unfold aBox at h
  split at h
  · rename_i TT l hx
    cases h
    obtain ⟨h1, h2, h3⟩ := bif_t hp
    simp only [Bool.and_eq_true] at h1
    have hps := plain_size h1.1
    exact ⟨_, _, T.boxArr ho hx (by omega) h2 (frE_ok h1.2).2 (frE_ok h1.2).1 hd, h3⟩
  · cases h
theorem aBuild_ok {t : TypeId} {parts : Array (Nat × Operand)} (ho : o.op = .build t parts) (hd : dstOk o nt = true) (h : aBuild P t parts σ k KK = some p) (hp : p) : ∃ f k', TDoesB P nt o σ f ∧ KK f k' := by
  unfold aBuild at h
  split at h
  · rename_i m TT u zero places ht hz
    cases hm4 : Nat.ble m 4
    rotate_left 1
    · rw [hm4, cond_true] at h
      cases h
    rw [hm4, cond_false] at h
    split at h
    · rename_i vs hb
      split at h
      · rename_i l hl
        cases h
        exact ⟨_, _, T.buildArr ho hz hb hl hd, hp⟩
      · cases h
    · cases h
  · cases h
theorem aLoad_ok {t : TypeId} {x : Operand} (ho : o.op = .load t x) (hd : dstOk o nt = true) (h : aLoad P t x σ k KK = some p) (hp : p) : ∃ f k', TDoesB P nt o σ f ∧ KK f k' := by
  unfold aLoad at h
  split at h
  · rename_i g ht hx
    split at h
    · rename_i TT e l n hb hty
      obtain ⟨h1, rfl⟩ := bif_s h
      simp only [Bool.and_eq_true] at h1
      have hps := plain_size h1.1
      exact ⟨_, _, T.loadArr ho hty hx hb (Nat.le_of_ble_eq_true h1.2) (by rw [hps, Nat.mul_one]; exact hp.1) hd, hp.2⟩
    · cases h
  · cases h
theorem aStore_ok {t : TypeId} {x y : Operand} (ho : o.op = .store t x y) (h : aStore P o t x y σ k KK = some p) (hp : p) : ∃ f k', TDoesB P nt o σ f ∧ KK f k' := by
  unfold aStore at h
  split at h
  · rename_i T' l' g hy hx hdst
    split at h
    · rename_i TT e l b n hb hty
      split at h
      · rename_i l'' hc
        obtain ⟨h1, rfl⟩ := bif_s h
        simp only [Bool.and_eq_true] at h1
        have hps := plain_size h1.1
        obtain rfl := castL_ty hc
        obtain rfl := castL_self hc
        exact ⟨_, _, T.storeArr ho hty hx hb hy (by omega) (Nat.le_of_ble_eq_true h1.2) (by rw [hps, Nat.mul_one]; exact hp.1) (by rw [hps, Nat.mul_one]; exact hp.2.1) hdst, hp.2.2⟩
      · cases h
    · cases h
  · cases h
theorem aIdx_ok {t : TypeId} {x ix : Operand} (ho : o.op = .indexAddr t x ix) (hd : dstOk o nt = true) (h : aIdx P t x ix σ k KK = some p) (hp : p) : ∃ f k', TDoesB P nt o σ f ∧ KK f k' := by
  unfold aIdx at h
  split at h
  · rename_i m e sz kq q ht hq
    split at h
    · rename_i g
      split at h
      · rename_i kk l htab
        obtain ⟨h1, rfl⟩ := bif_s h
        obtain rfl := Nat.eq_of_beq_eq_true h1
        obtain ⟨h0, h2, h3, h4⟩ := hp
        have hc : l[q.toNat]? = some (l[q.toNat]'(by omega)) := List.getElem?_eq_getElem (by omega)
        exact ⟨_, _, T.idxTab ho ht htab hq h0 h2 hc hd, h4 _ hc⟩
      · cases h
    · split at h
      · rename_i g hx
        split at h
        · rename_i TT e' l hb
          obtain ⟨h1, rfl⟩ := bif_s h
          simp only [Bool.and_eq_true] at h1
          obtain rfl := Nat.eq_of_beq_eq_true h1.1
          obtain rfl := Nat.eq_of_beq_eq_true h1.2
          exact ⟨_, _, T.idxRow ho ht hx hb hq hp.1 hp.2.1 hd, hp.2.2⟩
        · obtain ⟨h1, rfl⟩ := bif_s h
          have hh := forkK_get hp.2.2 hp.1 hp.2.1
          exact ⟨_, _, T.idxVar ho ht hx hq hp.1 hp.2.1 hd, hh⟩
        · cases h
      · cases h
  · cases h
theorem aIndex_ok {t : TypeId} {x ix : Operand} (ho : o.op = .index t x ix) (hd : dstOk o nt = true) (h : aIndex P t x ix σ k KK = some p) (hp : p) : ∃ f k', TDoesB P nt o σ f ∧ KK f k' := by
  unfold aIndex at h
  split at h
  · rename_i m e sz kq q TT l ht hq hx
    split at h
    · rename_i n hty
      obtain ⟨h1, rfl⟩ := bif_s h
      simp only [Bool.and_eq_true] at h1
      obtain rfl := Nat.eq_of_beq_eq_true h1.1.1
      obtain rfl := Nat.eq_of_beq_eq_true h1.1.2
      obtain ⟨h0, h2, h3, h4⟩ := hp
      have hc : l[q.toNat]? = some (l[q.toNat]'(by omega)) := List.getElem?_eq_getElem (by omega)
      exact ⟨_, _, T.idxVal ho ht hty h1.2 hx hq h0 h2 hc hd, h4 _ hc⟩
    · cases h
  · rename_i m e sz kq q vs ht hq hx
    split at h
    · rename_i n hty
      obtain ⟨h1, rfl⟩ := bif_s h
      simp only [Bool.and_eq_true] at h1
      obtain rfl := Nat.eq_of_beq_eq_true h1.1.1
      obtain rfl := Nat.eq_of_beq_eq_true h1.1.2
      have hh := forkK_get hp.2.2 hp.1 hp.2.1
      split at hh
      · rename_i k' z hv
        exact ⟨_, _, T.idxAgg ho ht hty hx hq hp.1 hp.2.1 hv hd, hh⟩
      · exact hh.elim
    · cases h
  · cases h
theorem aSlice_ok {t : TypeId} {x : Operand} {lo hi : Option Operand} (ho : o.op = .slice t x lo hi none) (hd : dstOk o nt = true) (h : aSlice P t x lo hi σ k KK = some p) (hp : p) : ∃ f k', TDoesB P nt o σ f ∧ KK f k' := by
  unfold aSlice at h
  split at h
  · rename_i g hx
    split at h
    · rename_i m e sz TT e' l ht hb
      split at h
      · rename_i a b ha hb'
        obtain ⟨h1, rfl⟩ := bif_s h
        obtain rfl := Nat.eq_of_beq_eq_true h1
        obtain ⟨q1, q2, q3, q4, q5, q6⟩ := hp
        exact ⟨_, _, T.sliceArr ho ht hx hb q1 ha hb' q2 q3 q4 q5 hd, q6⟩
      · cases h
    · cases h
  · rename_i g hx
    split at h
    · rename_i e sz TT e' l ht hb
      split at h
      · rename_i a b ha hb'
        obtain ⟨h1, rfl⟩ := bif_s h
        obtain rfl := Nat.eq_of_beq_eq_true h1
        obtain ⟨q2, q3, q4, q6⟩ := hp
        exact ⟨_, _, T.sliceOwn (i0 := 0) (n := l.length) ho ht hb (fun B hB => by rw [hx]; simp only [denV, hB, denO]) ha hb' q2 q3 q4 hd, q6⟩
      · cases h
    · cases h
  · rename_i g i n hx
    split at h
    · rename_i e sz TT e' l ht hb
      split at h
      · rename_i a b ha hb'
        obtain ⟨h1, rfl⟩ := bif_s h
        obtain rfl := Nat.eq_of_beq_eq_true h1
        obtain ⟨q2, q3, q4, q6⟩ := hp
        exact ⟨_, _, T.sliceOwn (i0 := i) (n := n) ho ht hb (fun B hB => by rw [hx]; simp only [denV, hB, denU]) ha hb' q2 q3 q4 hd, q6⟩
      · cases h
    · cases h
  · cases h
theorem aCopy_ok {as' : Array Operand} {ts : Array TypeId} (ho : o.op = .call ⟨.builtin .copy, as', ts⟩) (hd : dstOk o nt = true) (h : aCopy P as'.toList ts.toList σ k KK = some p) (hp : p) : ∃ f k', TDoesB P nt o σ f ∧ KK f k' := by
  have arr : ∀ {α : Type} {a : Array α} {l : List α}, a.toList = l → a = l.toArray := fun h => by apply Array.ext'; simpa using h
  unfold aCopy at h
  split at h
  · rename_i d s t t' h1 h2
    obtain rfl := arr h1
    obtain rfl := arr h2
    split at h
    · rename_i e sz g i n ht hdst
      split at h
      · rename_i TT e' l hb
        split at h
        · rename_i ys rb ps hs
          obtain ⟨h1, rfl⟩ := bif_s h
          obtain rfl := Nat.eq_of_beq_eq_true h1
          obtain ⟨q1, q2⟩ := hp
          obtain ⟨q3, q4⟩ := conj_of q2
          exact ⟨_, _, T.copy ho ht hdst hb q1 hs q3 hd, q4⟩
        · cases h
      · cases h
    · cases h
  · cases h
theorem mInt_ok {t : TypeId} {ik kv : IntKind} (h : mInt P t = some (ik, kv)) : ∃ kt et, P.underlying t = some (.map kt et) ∧ P.underlying kt = some (.int ik) ∧ (P.info? et).bind (·.zero) = some (.int kv 0) := by
  unfold mInt at h
  split at h
  · rename_i kt et ht
    split at h
    · rename_i ik' kv' n hk hz
      cases hn : decide (n = 0) with
      | false => rw [hn] at h; cases h
      | true =>
        rw [hn] at h
        cases h
        obtain rfl := of_decide_eq_true hn
        exact ⟨kt, et, ht, hk, hz⟩
    · cases h
  · cases h
theorem aMake_ok {t : TypeId} {x : Operand} (ho : o.op = .makeMap t (some x)) (hd : dstOk o nt = true) (h : aMake P t x σ k KK = some p) (hp : p) : ∃ f k', TDoesB P nt o σ f ∧ KK f k' := by
  unfold aMake at h
  split at h
  · rename_i ik kv kr q hm hx
    cases h
    obtain ⟨kt, et, ht, _, _⟩ := mInt_ok hm
    obtain ⟨h1, h2⟩ := bif_t hp
    exact ⟨_, _, T.makeMap ho ht hx h1 hd, h2⟩
  · cases h
theorem aLook_ok {t : TypeId} {x y : Operand} (ho : o.op = .lookup t x y true) (hd : dstOk o nt = true) (h : aLook P t x y σ k KK = some p) (hp : p) : ∃ f k', TDoesB P nt o σ f ∧ KK f k' := by
  unfold aLook at h
  split at h
  · rename_i ik kv g ik' q hm hx hy
    split at h
    · rename_i ik2 kv2 l hb
      split at h
      · rename_i e1
        split at h
        · rename_i e2
          split at h
          · rename_i e3
            cases h
            subst e1 e2 e3
            obtain ⟨kt, et, ht, hk, hz⟩ := mInt_ok hm
            exact ⟨_, _, T.lookup ho ht hk hz hx hy hb hd, hp⟩
          · cases h
        · cases h
      · cases h
    · cases h
  · cases h
theorem aPut_ok {t : TypeId} {x y z : Operand} (ho : o.op = .mapUpdate t x y z) (h : aPut P o t x y z σ k KK = some p) (hp : p) : ∃ f k', TDoesB P nt o σ f ∧ KK f k' := by
  unfold aPut at h
  split at h
  · rename_i ik kv g ik' q kv' v hm hx hy hz hdst
    split at h
    · rename_i ik2 kv2 l hb
      split at h
      · rename_i e1
        split at h
        · rename_i e2
          split at h
          · rename_i e3
            split at h
            · rename_i e4
              cases h
              subst e1 e2 e3 e4
              obtain ⟨kt, et, ht, hk, _⟩ := mInt_ok hm
              exact ⟨_, _, T.mapUpdate ho ht hk hx hy hz hb hdst, hp⟩
            · cases h
          · cases h
        · cases h
      · cases h
    · cases h
  · cases h
theorem aCap_ok {as' : Array Operand} {ts : Array TypeId} (ho : o.op = .call ⟨.builtin .cap, as', ts⟩) (hd : dstOk o nt = true) (h : aCap P as'.toList ts.toList σ k KK = some p) (hp : p) : ∃ f k', TDoesB P nt o σ f ∧ KK f k' := by
  have arr : ∀ {α : Type} {a : Array α} {l : List α}, a.toList = l → a = l.toArray := fun h => by apply Array.ext'; simpa using h
  unfold aCap at h
  split at h
  · rename_i x t h1 h2
    obtain rfl := arr h1
    obtain rfl := arr h2
    split at h
    · rename_i el g ht hx
      split at h
      · rename_i TT e l hb
        cases he : Nat.blt e 1000 with
        | true => rw [he] at h; cases h
        | false =>
          rw [he] at h
          cases h
          exact ⟨_, _, T.capFull ho ht hx hb he hd, hp⟩
      · cases h
    · cases h
  · cases h
theorem aAppM_ok {as' : Array Operand} {ts : Array TypeId} (ho : o.op = .call ⟨.builtin .append, as', ts⟩) (hd : dstOk o nt = true) (h : aAppM P as'.toList ts.toList σ k KK = some p) (hp : p) : ∃ f k', TDoesB P nt o σ f ∧ KK f k' := by
  have arr : ∀ {α : Type} {a : Array α} {l : List α}, a.toList = l → a = l.toArray := fun h => by apply Array.ext'; simpa using h
  unfold aAppM at h
  split at h
  · rename_i s x t tn h1 h2
    obtain rfl := arr h1
    obtain rfl := arr h2
    split at h
    · rename_i kn e sz g i n kq q htn ht hs hx
      split at h
      · rename_i TT e' l zl hb hz
        split at h
        · rename_i pk hpk
          obtain ⟨h1, h2⟩ : (Nat.beq sz TT.size && Nat.ble 1 TT.size && pk.rest.isEmpty && pk.rb.isEmpty && Nat.blt e 1000 && !Nat.blt e' 1000 && Nat.beq i 0 && (σ.blk k).isFree && !Nat.beq k g) = true ∧ _ = some p := by
            cases hc : (Nat.beq sz TT.size && Nat.ble 1 TT.size && pk.rest.isEmpty && pk.rb.isEmpty && Nat.blt e 1000 && !Nat.blt e' 1000 && Nat.beq i 0 && (σ.blk k).isFree && !Nat.beq k g) with
            | false => rw [hc] at h; cases h
            | true => rw [hc] at h; exact ⟨rfl, h⟩
          simp only [Bool.and_eq_true] at h1
          obtain ⟨⟨⟨⟨⟨⟨⟨⟨c1, c2⟩, c3⟩, c4⟩, c5⟩, c6⟩, c7⟩, c8⟩, c9⟩ := h1
          obtain rfl := Nat.eq_of_beq_eq_true c1
          obtain rfl := Nat.eq_of_beq_eq_true c7
          have hne : k ≠ g := by rintro rfl; simp at c9
          split at h2
          · rename_i hps
            cases h2
            obtain ⟨q1, q2, q3, q4, q5, q6⟩ := hp
            exact ⟨_, _, T.appendMake ho ht htn hz hpk (isEmpty_nil c3) (isEmpty_nil c4) hps rfl (Nat.le_of_ble_eq_true c2) c5 (by simpa using c6) hs rfl hb q1 hx q2 q3 q4 q5 c8 hne hd, q6⟩
          · cases h2
        · cases h
      · cases h
    · cases h
  · cases h
theorem aK_ok (hd : dstOk o nt = true) (h : aK P o σ k KK = some p) (hp : p) : ∃ f k', TDoesB P nt o σ f ∧ KK f k' := by
  unfold aK at h
  split at h
  · rename_i ho; exact aAlloc_ok ho hd h hp
  · rename_i ho; exact aBox_ok ho hd h hp
  · rename_i ho; exact aBuild_ok ho hd h hp
  · rename_i ho; exact aLoad_ok ho hd h hp
  · rename_i ho; exact aStore_ok ho h hp
  · rename_i ho; exact aIdx_ok ho hd h hp
  · rename_i ho; exact aIndex_ok ho hd h hp
  · rename_i ho; exact aSlice_ok ho hd h hp
  · rename_i ho; exact aCopy_ok ho hd h hp
  · rename_i ho; exact aCap_ok ho hd h hp
  · rename_i ho; exact aAppM_ok ho hd h hp
  · rename_i ho; exact aMake_ok ho hd h hp
  · rename_i ho; exact aLook_ok ho hd h hp
  · rename_i ho; exact aPut_ok ho h hp
  · rename_i t x ho
    split at h
    · rename_i kx n hx
      cases h
      exact ⟨_, _, T.un ho hx (fun w => by simp [Op.unary, Op.intBits, DoorU.notI]) hd, hp⟩
    · cases h
  · cases h
theorem opK_ok (hX : CallOk P nt X) (hd : dstOk o nt = true) (h : opK P X o σ k KK) : ∃ f k', TDoesB P nt o σ f ∧ KK f k' := by
  unfold opK at h
  split at h
  · rename_i p hp
    exact aK_ok hd hp h
  · exact opK0_ok hX hd h
end
end Go.Proofs.Ytmkfpfnjimmmaaa
