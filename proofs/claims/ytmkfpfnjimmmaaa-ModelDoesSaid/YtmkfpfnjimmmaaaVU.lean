/- The walk, computed: code. Nothing of the dump stands here. -/
import Derived.Test.YtmkfpfnjimmmaaaVX
import Derived.Lib.UnsafeStr
namespace Go.Proofs.Ytmkfpfnjimmmaaa
open Go.RowKit
set_option linter.unusedVariables false
set_option linter.unusedSimpArgs false

/-- What is told of a loop: its slots, and what they hold at its head, and how many rounds are left. -/
structure LA where
  sl : List Nat
  ad : List (Nat × Ty × TypeId)
  sh : Sh
  inv : sh.V → Prop
  ms : sh.V → Nat

def nloops : Code → Nat
  | .seq a b => nloops a + nloops b
  | .cond _ a b => nloops a + nloops b
  | .block _ b => nloops b
  | .scope b => nloops b
  | .loop b => nloops b + 1
  | _ => 0
/-- The slots that a piece of code writes. -/
def wr (ann : Nat → Option LA) : Code → Nat → List Nat
  | .region _ ops _, _ => ops.toList.filterMap (·.dst)
  | .seq a b, n => wr ann a n ++ wr ann b (n + nloops a)
  | .cond _ a b, n => wr ann a n ++ wr ann b (n + nloops a)
  | .block _ b, n => wr ann b n
  | .scope b, n => wr ann b n
  | .loop b, n => (match ann n with | some A => A.sl ++ A.ad.map (·.1) | none => []) ++ wr ann b (n + 1)
  | _, _ => []

def Fresh (σ : TS) (k : Nat) : Prop := ∀ g, k ≤ g → σ.blk g = .free
structure Fr (lk : Nat → Bool) (D : List Nat) (σ σ' : TS) : Prop where
  tmp : ∀ t, t ∉ D → σ'.tmp t = σ.tmp t
  blk : ∀ g, lk g = true → σ'.blk g = σ.blk g
theorem Fr.refl (lk : Nat → Bool) (D : List Nat) (σ : TS) : Fr lk D σ σ := ⟨fun _ _ => rfl, fun _ _ => rfl⟩
theorem Fr.trans {lk : Nat → Bool} {D D1 D2 : List Nat} {σ σ1 σ2 : TS} (h1 : Fr lk D1 σ σ1) (h2 : Fr lk D2 σ1 σ2) (hs1 : ∀ t ∈ D1, t ∈ D) (hs2 : ∀ t ∈ D2, t ∈ D) : Fr lk D σ σ2 :=
  ⟨fun t ht => (h2.tmp t fun h => ht (hs2 t h)).trans (h1.tmp t fun h => ht (hs1 t h)), fun g hg => (h2.blk g hg).trans (h1.blk g hg)⟩

def setB (σ : TS) (t : Nat) (b : Bool) : TS := ⟨upd σ.tmp t (.bool b), σ.blk⟩
theorem setB_eq {σ : TS} {t : Nat} {b : Bool} (h : σ.tmp t = .bool b) : setB σ t b = σ := by
  unfold setB
  cases σ with
  | mk f B =>
    congr 1
    funext i
    by_cases hi : i = t
    · subst hi; rw [upd_same]; exact h.symm
    · rw [upd_other _ _ _ hi]
def setC (σ : TS) : Operand → Bool → TS
  | .tmp t, b => setB σ t b
  | _, _ => σ
theorem setC_eq {σ : TS} {x : Operand} {b : Bool} (h : σ.eval x = .bool b) : setC σ x b = σ := by
  cases x with
  | tmp t => exact setB_eq h
  | _ => rfl

section
variable (P : Program) (Δ : List (FuncId × Spec)) (nt : Nat) (ann : Nat → Option LA)

def specK (S : Spec) (xs : List TV) (rt : List Nat) (σ : TS) (k : Nat) (KK : TInfo → Nat → Prop) : Option Prop :=
  match parse σ.blk true S.sig xs with
  | some p => some (bif p.okB && Nat.beq S.fin.nv S.sig.nv && S.sig.ok && S.fin.ok && S.fin.noLent && Nat.ble S.sig.nv 64 && ((List.range' k S.fin.nr).all fun g => (σ.blk g).isFree)
      then conj p.ps (S.pre p.x ∧ match (unparse p.vs S.fin (S.fn p.x) 0 k).cs with
        | r1 :: _ => KK ⟨rt, p.vs ++ p.rs ++ p.rb ++ p.ln ++ List.range' k S.fin.nr, r1, p.fz ++ (p.rs.map (fun g => (g, .dead (σ.blk g).len)) ++ (unparse p.vs S.fin (S.fn p.x) 0 k).bs)⟩ (k + S.fin.nr)
        | [] => False) else False)
  | none => none
def specsK (f : FuncId) (xs : List TV) (rt : List Nat) (σ : TS) (k : Nat) (KK : TInfo → Nat → Prop) : List (FuncId × Spec) → Prop
  | [] => False
  | (g, S) :: r => bif Nat.beq g f then (match specK S xs rt σ k KK with
    | some q => q
    | none => specsK f xs rt σ k KK r) else specsK f xs rt σ k KK r
def callK : CallK := fun o f as' σ k KK => match σ.eval f with
  | .fn g caps => specsK g (as'.toList.map σ.eval ++ caps) (tmpsIn (f :: as'.toList)) σ k KK Δ
  | _ => False

def stepK (lk : Nat → Bool) (dst : Option Tmp) (σ : TS) (k : Nat) (K : TS → Nat → Prop) : TInfo → Nat → Prop := fun f k' =>
  bif f.step.ups.all (fun p => Nat.blt p.1 k' && !lk p.1) && Nat.ble k k' then K (σ.step dst f.step) k' else False

/-- One operation, where the order is the text's. -/
def evOp (lk : Nat → Bool) (o : Oper) (σ : TS) (k : Nat) (K : TS → Nat → Prop) : Prop :=
  match o.op with
  | .binOp op t x (.const (.slice none 0 0)) _ => match P.underlying t, op with
    | some (.slice _), .eql => (match σ.eval x with
      | .nsl => K (σ.step o.dst ⟨.bool true, []⟩) k
      | _ => match lenTV σ.blk (σ.eval x) with
        | some (n, _) => (n = 0 → K (σ.step o.dst ⟨.bool true, []⟩) k) ∧ K (σ.step o.dst ⟨.bool false, []⟩) k
        | none => False)
    | some (.slice _), .neq => (match σ.eval x with
      | .nsl => K (σ.step o.dst ⟨.bool false, []⟩) k
      | _ => match lenTV σ.blk (σ.eval x) with
        | some (n, _) => (n = 0 → K (σ.step o.dst ⟨.bool false, []⟩) k) ∧ K (σ.step o.dst ⟨.bool true, []⟩) k
        | none => False)
    | _, _ => False
  | .call ⟨.builtin .len, as', ts⟩ => (match as'.toList with
    | [x] => match σ.eval x with
      | .view _ _ l => l.length ≤ 9223372036854775807 → opK P (callK Δ) o σ k (stepK lk o.dst σ k K)
      | _ => opK P (callK Δ) o σ k (stepK lk o.dst σ k K)
    | _ => opK P (callK Δ) o σ k (stepK lk o.dst σ k K))
  | _ => opK P (callK Δ) o σ k (stepK lk o.dst σ k K)

def guardK (ops : Array Oper) (σ : TS) (g : Option (Nat × Bool)) (on off : TS → Prop) : Prop :=
  match g with
  | none => on σ
  | some (j, b) => match (ops[j]?).bind (·.dst) with
    | some t => match σ.tmp t with
      | .bool c => bif c then (bif b then on (setB σ t true) else off (setB σ t true)) else (bif b then off (setB σ t false) else on (setB σ t false))
      | .tup [] => off σ
      | _ => False
    | none => False

/-- Slots that hold 0 or 1: each is gone through (slot z when it is written; or slot z % 1000 when slot z / 1000 is written). -/
def trig (z : Nat) : Nat := bif Nat.blt z 1000 then z else z / 1000
def forkS (ds : List Nat) (dst : Option Nat) (σ : TS) (G : TS → Prop) : Prop := match dst with
  | some d => match ds.find? (fun z => Nat.beq d (trig z)) with
    | some z => match σ.tmp (z % 1000) with
      | .int kk q => 0 ≤ q ∧ q < 2 ∧ (bif decide (q = 0) then G ⟨upd σ.tmp (z % 1000) (.int kk 0), σ.blk⟩ else True) ∧ (bif decide (q = 1) then G ⟨upd σ.tmp (z % 1000) (.int kk 1), σ.blk⟩ else True)
      | _ => False
    | none => G σ
  | none => G σ
theorem upd_id {σ : TS} {t : Nat} {y : TV} (h : σ.tmp t = y) : (⟨upd σ.tmp t y, σ.blk⟩ : TS) = σ := by
  cases σ with
  | mk f B =>
    congr 1
    funext i
    by_cases hi : i = t
    · subst hi; rw [upd_same]; exact h.symm
    · rw [upd_other _ _ _ hi]
theorem forkS_ok {ds : List Nat} {dst : Option Nat} {σ : TS} {G : TS → Prop} (h : forkS ds dst σ G) : G σ := by
  unfold forkS at h
  split at h
  · rename_i d
    split at h
    · rename_i z hz
      split at h
      · rename_i kk q hq
        obtain ⟨h0, h1, h2, h3⟩ := h
        by_cases e : q = 0
        · rw [decide_eq_true e, cond_true, upd_id (by rw [hq, e])] at h2
          exact h2
        · rw [decide_eq_true (by omega : q = 1), cond_true, upd_id (by rw [hq, show q = 1 by omega])] at h3
          exact h3
      · exact h.elim
    · exact h
  · exact h
def dsOf (ann : Nat → Option LA) : List Nat := match ann 1000 with
  | some A => A.sl
  | none => []
def evL (lk : Nat → Bool) (ops : Array Oper) : List Oper → TS → Nat → (TS → Nat → Prop) → Prop
  | [], σ, k, K => K σ k
  | o :: r, σ, k, K => bif dstOk o nt then guardK ops σ o.guard (fun σ => evOp P Δ lk o σ k fun σ' k' => forkS (dsOf ann) o.dst σ' fun σ' => evL lk ops r σ' k' K) (fun σ => evL lk ops r (σ.step o.dst ⟨.tup [], []⟩) k K) else False

/-- The guard of an operation, read as a slot. -/
def gslot (ops : Array Oper) (g : Option (Nat × Bool)) : List Nat := match g with | some (j, _) => (((ops[j]?).bind (·.dst)).toList) | none => []

def evD (lk : Nat → Bool) (ops : Array Oper) : List Oper → TS → Nat → List TInfo → (TS → Nat → List TInfo → Prop) → Prop
  | [], σ, k, acc, K => K σ k acc
  | o :: r, σ, k, acc, K => bif dstOk o nt then guardK ops σ o.guard
      (fun σ => opK P (callK Δ) o σ k fun f k' => bif f.step.ups.all (fun p => Nat.blt p.1 k' && !lk p.1) && Nat.ble k k' then evD lk ops r (σ.step o.dst f.step) k' (acc ++ [⟨gslot ops o.guard ++ f.rt, f.rb, f.step⟩]) K else False)
      (fun σ => evD lk ops r (σ.step o.dst ⟨.tup [], []⟩) k (acc ++ [⟨gslot ops o.guard, [], .tup [], []⟩]) K) else False

/-- Slots that hold nil become rows; so do cells of variables (slot t, cell j: t + 1000 (j + 1)). -/
def adoptK : List (Nat × Ty × TypeId) → (lk : Nat → Bool) → TS → Nat → (TS → Nat → Prop) → Prop
  | [], lk, σ, k, K => K σ k
  | (t, T, e) :: r, lk, σ, k, K => bif Nat.blt t 1000 then (match σ.tmp t with
    | .nsl => bif Nat.blt t nt && (σ.blk k).isFree && Nat.ble 1 T.size && !lk k then adoptK r lk ⟨upd σ.tmp t (.own k), upd σ.blk k (.row T e [])⟩ (k + 1) K else False
    | _ => adoptK r lk σ k K) else (match σ.tmp (t % 1000) with
    | .ptr g 0 0 => match σ.blk g with
      | .var ev cs => match cs[t / 1000 - 1]? with
        | some .nsl => bif (σ.blk k).isFree && Nat.ble 1 T.size && !lk k && !lk g && !Nat.beq g k then adoptK r lk ⟨σ.tmp, upd (upd σ.blk k (.row T e [])) g (.var ev (cs.set (t / 1000 - 1) (.own k)))⟩ (k + 1) K else False
        | _ => adoptK r lk σ k K
      | _ => adoptK r lk σ k K
    | _ => adoptK r lk σ k K)

def cellsAt (sl : List Nat) (cs : List TV) (f : Nat → TV) : Nat → TV := (sl.zip cs).foldr (fun p f => upd f p.1 p.2) f
/-- The state at a loop's head. -/
def headS (A : LA) (D : List Nat) (σ : TS) (vs rs : List Nat) (B1 : Nat → TB) (k : Nat) (v : A.sh.V) : TS :=
  ⟨cellsAt A.sl (unparse vs A.sh v 0 k).cs (fun t => bif D.any (Nat.beq t) then .und else σ.tmp t), tupsOf B1 (rs.map (fun g => (g, .dead (B1 g).len)) ++ (unparse vs A.sh v 0 k).bs)⟩

def evC : Code → (Nat → Bool) → Nat → (Exit → TS → Nat → Prop) → TS → Nat → Prop
  | .skip, lk, n, K, σ, k => K .normal σ k
  | .region id ops draw, lk, n, K, σ, k => bif draw then (bif P.follows .mixedOrders then evD P Δ nt lk ops ops.toList σ k [] (fun σ' k' fs => bif okDraw ops.toList fs (ancsOf ops.toList) then K .normal σ' k' else False) else False)
      else evL P Δ nt ann lk ops ops.toList σ k (K .normal)
  | .seq a b, lk, n, K, σ, k => evC a lk n (fun e σ' k' => match e with | .normal => evC b lk (n + nloops a) K σ' k' | e => K e σ' k') σ k
  | .cond c a b, lk, n, K, σ, k => match σ.eval c with
    | .bool v => bif v then evC a lk n K (setC σ c true) k else evC b lk (n + nloops a) K (setC σ c false) k
    | _ => False
  | .block id b, lk, n, K, σ, k => evC b lk n (fun e σ' k' => match e with | .exit i => bif Nat.beq i id then K .normal σ' k' else K (.exit i) σ' k' | e => K e σ' k') σ k
  | .scope b, lk, n, K, σ, k => evC b lk n (fun e σ' k' => match e with | .goto _ => False | e => K e σ' k') σ k
  | .label _, lk, n, K, σ, k => K .normal σ k
  | .exit id, lk, n, K, σ, k => K (.exit id) σ k
  | .ret, lk, n, K, σ, k => K .ret σ k
  | .loop b, lk, n, K, σ, k => match ann n with
    | some A => adoptK nt A.ad lk σ k fun σ k => match parse σ.blk false A.sh (A.sl.map σ.tmp) with
      | some p => bif p.okB && A.sh.ok && nodupB A.sl && A.sl.all (Nat.blt · nt) && Nat.ble 64 k && (p.vs ++ p.rs ++ p.fz.map (·.1) ++ List.range' k A.sh.nr).all (fun g => !lk g) then
          conj p.ps (A.inv p.x ∧ ∀ v, A.inv v → evC b (fun g => lk g || (Nat.blt g k && !p.vs.any (Nat.beq g))) (n + 1) (fun e σ' k' => match e with
            | .normal => (match parse σ'.blk false A.sh (A.sl.map σ'.tmp) with
              | some q => bif q.okB && decide (q.vs = p.vs) && (q.vs ++ q.rs ++ q.fz.map (·.1)).all (fun g => !(lk g || (Nat.blt g k && !p.vs.any (Nat.beq g)))) then conj q.ps (A.inv q.x ∧ A.ms q.x < A.ms v) else False
              | none => False)
            | e => K e σ' k') (headS A ((A.sl ++ A.ad.map (·.1)) ++ wr ann b (n + 1)) σ p.vs p.rs (tupsOf σ.blk p.fz) k v) (k + A.sh.nr))
          else False
      | none => False
    | none => False
  | _, _, _, _, _, _ => False
end
end Go.Proofs.Ytmkfpfnjimmmaaa
