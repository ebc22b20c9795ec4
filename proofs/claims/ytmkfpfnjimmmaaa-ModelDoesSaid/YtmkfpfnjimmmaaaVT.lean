/- Data by type, and states over them: what the walk by computing speaks of. Nothing of the dump stands here. -/
import Derived.Test.YtmkfpfnjimmmaaaVH
namespace Go.Proofs.Ytmkfpfnjimmmaaa
open Go.RowKit
set_option linter.unusedVariables false
set_option linter.unusedSimpArgs false

/-- The types of plain data, as cells have it. -/
inductive Ty where
  | int (k : IntKind)
  | bool
  | sl (t : Ty)
  | unit
  | pair (a b : Ty)
  deriving DecidableEq, Inhabited

def Val : Ty → Type
  | .int _ => Int
  | .bool => Bool
  | .sl t => List (Val t)
  | .unit => Unit
  | .pair a b => Val a × Val b

def Ty.size : Ty → Nat
  | .int _ => 1
  | .bool => 1
  | .sl _ => 1
  | .unit => 0
  | .pair a b => a.size + b.size

def flatD : (T : Ty) → Val T → List D
  | .int k, n => [.int k n]
  | .bool, b => [.bool b]
  | .sl t, l => [.view t.size (List.map (flatD t) l)]
  | .unit, _ => []
  | .pair a b, x => flatD a x.1 ++ flatD b x.2

theorem flatD_length : ∀ (T : Ty) (x : Val T), (flatD T x).length = T.size
  | .int _, _ => rfl
  | .bool, _ => rfl
  | .sl _, _ => rfl
  | .unit, _ => rfl
  | .pair a b, x => by simp only [flatD, List.length_append, flatD_length a, flatD_length b, Ty.size]

/-- What a slot, or a cell, holds. -/
inductive TV where
  | int (k : IntKind) (n : Int)
  | bool (b : Bool)
  | view (o : Bool) (T : Ty) (l : List (Val T))
  | agg (vs : List TV)
  | tup (vs : List TV)
  | ptr (g i j : Nat)
  | vptr (o : Bool) (T : Ty) (x : Val T) (j : Nat)
  | own (g : Nat)
  | sub (g i n : Nat)
  | asl (g i n : Nat)
  | arr (T : Ty) (l : List (Val T))
  | nsl
  | nptr
  | fn (f : FuncId) (caps : List TV)
  | mp (g : Nat)
  | nmp
  | und
  deriving Inhabited

def flat : (T : Ty) → Val T → List TV
  | .int k, n => [.int k n]
  | .bool, b => [.bool b]
  | .sl t, l => [.view false t l]
  | .unit, _ => []
  | .pair a b, x => flat a x.1 ++ flat b x.2

/-- What a block holds. A row that is frozen is only read from then on. -/
inductive TB where
  | row (T : Ty) (e : TypeId) (l : List (Val T))
  | frz (T : Ty) (l : List (Val T))
  | var (e : TypeId) (cs : List TV)
  | mp (k kv : IntKind) (m : List (Int × Int))
  | dead (n : Nat)
  | free
  deriving Inhabited

def denS {T : Ty} (l : List (Val T)) : List (List D) := l.map (flatD T)
def denO (g : Nat) : TB → AV
  | .row _ _ l => .own g 0 l.length
  | .frz T l => .d (.view T.size (denS l))
  | .dead n => .own g 0 n
  | _ => .own g 0 0
def denU (g i n : Nat) : TB → AV
  | .frz T l => if i + n ≤ l.length then .d (.view T.size (((denS l).drop i).take n)) else .own g i n
  | _ => .own g i n

mutual
def denV (B : Nat → TB) : TV → AV
  | .int k n => .d (.int k n)
  | .bool b => .d (.bool b)
  | .view o T l => bif o then .lent T.size (denS l) else .d (.view T.size (denS l))
  | .agg vs => .agg (denVs B vs)
  | .tup vs => .tup (denVs B vs)
  | .ptr g i j => .ptr g i j
  | .vptr o T x j => .vptr o (flatD T x) j
  | .own g => denO g (B g)
  | .sub g i n => denU g i n (B g)
  | .asl g i n => .part g i n
  | .arr T l => .agg ((denS l).flatten.map .d)
  | .nsl => .nsl
  | .nptr => .nptr
  | .fn f vs => .fn f (denVs B vs)
  | .mp g => .mp g
  | .nmp => .nmp
  | .und => .und
def denVs (B : Nat → TB) : List TV → List AV
  | [] => []
  | x :: xs => denV B x :: denVs B xs
end

theorem denVs_map (B : Nat → TB) : ∀ l, denVs B l = l.map (denV B)
  | [] => rfl
  | x :: xs => by simp only [denVs, denVs_map B xs, List.map_cons]

def denB (B : Nat → TB) : TB → Blk
  | .row T e l => .row T.size e (denS l)
  | .frz _ _ => .dead
  | .var e cs => .var e (denVs B cs)
  | .mp k kv m => .mp k (m.map fun x => (x.1, .d (.int kv x.2)))
  | .dead _ => .dead
  | .free => .free

theorem denV_flat (B : Nat → TB) : ∀ (T : Ty) (x : Val T), denVs B (flat T x) = (flatD T x).map .d
  | .int _, _ => rfl
  | .bool, _ => rfl
  | .sl _, _ => rfl
  | .unit, _ => rfl
  | .pair a b, x => by
    have h1 := denV_flat B a x.1
    have h2 := denV_flat B b x.2
    rw [denVs_map] at h1 h2 ⊢
    simp only [flat, flatD, List.map_append, h1, h2]

structure TS where
  tmp : Nat → TV
  blk : Nat → TB
def TS.den (σ : TS) : St := ⟨fun t => denV σ.blk (σ.tmp t), fun g => denB σ.blk (σ.blk g)⟩

def constTV : Value → TV
  | .int k n => .int k n
  | .bool b => .bool b
  | .slice none 0 0 => .nsl
  | .pointer none => .nptr
  | .map none => .nmp
  | _ => .und
theorem constTV_den (B : Nat → TB) (v : Value) : denV B (constTV v) = constAV v := by
  unfold constTV constAV
  split
  · rfl
  · rfl
  · rfl
  · rfl
  · rfl
  · split <;> simp_all [denV]

def TS.eval (σ : TS) : Operand → TV
  | .tmp t => σ.tmp t
  | .const v => constTV v
  | .global _ => .und
  | .func f => .fn f []
theorem TS.eval_den (σ : TS) (x : Operand) : σ.den.eval x = denV σ.blk (σ.eval x) := by
  cases x with
  | tmp t => rfl
  | const v => exact (constTV_den _ v).symm
  | global g => rfl
  | func f => rfl

mutual
/-- What a value names. -/
def TV.nm : TV → List Nat
  | .agg vs => TV.nms vs
  | .tup vs => TV.nms vs
  | .ptr g _ _ => [g]
  | .own g => [g]
  | .sub g _ _ => [g]
  | .asl g _ _ => [g]
  | .fn _ vs => TV.nms vs
  | .mp g => [g]
  | _ => []
def TV.nms : List TV → List Nat
  | [] => []
  | x :: xs => x.nm ++ TV.nms xs
end

mutual
theorem denV_congr {B B' : Nat → TB} : ∀ (x : TV), (∀ g ∈ x.nm, B' g = B g ∨ denO g (B' g) = denO g (B g) ∧ ∀ i n, denU g i n (B' g) = denU g i n (B g)) → denV B' x = denV B x
  | .agg vs, h => by simp only [denV]; rw [denVs_congr vs h]
  | .tup vs, h => by simp only [denV]; rw [denVs_congr vs h]
  | .fn f vs, h => by simp only [denV]; rw [denVs_congr vs h]
  | .own g, h => by
    rcases h g (by simp [TV.nm]) with h | h
    · simp only [denV, h]
    · simp only [denV, h.1]
  | .sub g i n, h => by
    rcases h g (by simp [TV.nm]) with h | h
    · simp only [denV, h]
    · simp only [denV, h.2]
  | .int _ _, _ => rfl
  | .bool _, _ => rfl
  | .view _ _ _, _ => rfl
  | .ptr _ _ _, _ => rfl
  | .vptr _ _ _ _, _ => rfl
  | .asl _ _ _, _ => rfl
  | .arr _ _, _ => rfl
  | .nsl, _ => rfl
  | .nptr, _ => rfl
  | .mp _, _ => rfl
  | .nmp, _ => rfl
  | .und, _ => rfl
theorem denVs_congr {B B' : Nat → TB} : ∀ (l : List TV), (∀ g ∈ TV.nms l, B' g = B g ∨ denO g (B' g) = denO g (B g) ∧ ∀ i n, denU g i n (B' g) = denU g i n (B g)) → denVs B' l = denVs B l
  | [], _ => rfl
  | x :: xs, h => by
    simp only [denVs]
    rw [denV_congr x fun g hg => h g (by simp [TV.nms, hg]), denVs_congr xs fun g hg => h g (by simp [TV.nms, hg])]
end

theorem denO_und {g : Nat} {b : TB} : denO g b ≠ .und := by cases b <;> simp [denO]

mutual
/-- Whatever a value names is known, but what reads as nothing. -/
theorem VA.known {B : Nat → TB} {E : Env} {w : World} {F U : Nat → Prop} {base : Nat} (hfree : ∀ g, E.kn g → True) : ∀ (x : TV) (v : Value), VA E w F U base (denV B x) v → ∀ g ∈ x.nm, B g = .free → E.kn g
  | .agg vs, v, h, g, hg, hf => by
    simp only [denV] at h
    cases h with
    | agg hl h => exact VA.knowns hfree vs _ (by rw [← hl]) (fun i x u hx hu => h i x u hx hu) g hg hf
  | .tup vs, v, h, g, hg, hf => by
    simp only [denV] at h
    cases h with
    | tup hl h => exact VA.knowns hfree vs _ (by rw [← hl]) (fun i x u hx hu => h i x u hx hu) g hg hf
  | .fn f vs, v, h, g, hg, hf => by
    simp only [denV] at h
    cases h with
    | fn hl h => exact VA.knowns hfree vs _ (by rw [← hl]) (fun i x u hx hu => h i x u hx hu) g hg hf
  | .own q, v, h, g, hg, hf => by
    obtain rfl : g = q := by simpa [TV.nm] using hg
    simp only [denV, hf, denO] at h
    cases h <;> assumption
  | .sub q i n, v, h, g, hg, hf => by
    obtain rfl : g = q := by simpa [TV.nm] using hg
    simp only [denV, hf, denU] at h
    cases h <;> assumption
  | .ptr q i j, v, h, g, hg, hf => by
    obtain rfl : g = q := by simpa [TV.nm] using hg
    simp only [denV] at h
    cases h; assumption
  | .asl q i n, v, h, g, hg, hf => by
    obtain rfl : g = q := by simpa [TV.nm] using hg
    simp only [denV] at h
    cases h; assumption
  | .arr _ _, _, _, g, hg, _ => by simp [TV.nm] at hg
  | .mp q, v, h, g, hg, hf => by
    obtain rfl : g = q := by simpa [TV.nm] using hg
    simp only [denV] at h
    cases h; assumption
  | .int _ _, _, _, g, hg, _ => by simp [TV.nm] at hg
  | .bool _, _, _, g, hg, _ => by simp [TV.nm] at hg
  | .view _ _ _, _, _, g, hg, _ => by simp [TV.nm] at hg
  | .vptr _ _ _ _, _, _, g, hg, _ => by simp [TV.nm] at hg
  | .nsl, _, _, g, hg, _ => by simp [TV.nm] at hg
  | .nptr, _, _, g, hg, _ => by simp [TV.nm] at hg
  | .nmp, _, _, g, hg, _ => by simp [TV.nm] at hg
  | .und, _, _, g, hg, _ => by simp [TV.nm] at hg
theorem VA.knowns {B : Nat → TB} {E : Env} {w : World} {F U : Nat → Prop} {base : Nat} (hfree : ∀ g, E.kn g → True) : ∀ (l : List TV) (us : List Value), us.length = (denVs B l).length → (∀ (i : Nat) (x : AV) (u : Value), (denVs B l)[i]? = some x → us[i]? = some u → VA E w F U base x u) → ∀ g ∈ TV.nms l, B g = .free → E.kn g
  | [], us, _, _, g, hg, _ => by simp [TV.nms] at hg
  | x :: xs, us, hl, h, g, hg, hf => by
    simp only [denVs] at hl h
    cases us with
    | nil => simp at hl
    | cons u us =>
      simp only [TV.nms, List.mem_append] at hg
      rcases hg with hg | hg
      · exact VA.known hfree x u (h 0 _ u rfl rfl) g hg hf
      · exact VA.knowns hfree xs us (by simpa using hl) (fun i y u' hy hu => h (i + 1) y u' (by simpa using hy) (by simpa using hu)) g hg hf
end

/-- What a state names is not free. -/
structure TS.Wf (σ : TS) : Prop where
  tmp : ∀ t, ∀ g ∈ (σ.tmp t).nm, σ.blk g ≠ .free
  var : ∀ h e cs, σ.blk h = .var e cs → ∀ g ∈ TV.nms cs, σ.blk g ≠ .free

def TRel (c : Cx) (U : Nat → Prop) (nt : Nat) (σ : TS) (E : Env) (a : Act) (w : World) : Prop := Rel c U nt σ.den E a w

theorem Mem.kn_free {c : Cx} {U : Nat → Prop} {B : Nat → TB} {E : Env} {w : World} (h : Mem c U (fun g => denB B (B g)) E w) {g : Nat} (hg : B g = .free) : ¬ E.kn g := by
  have := h.blk g
  rw [hg] at this
  exact this

theorem TRel.wf {c : Cx} {U : Nat → Prop} {nt : Nat} {σ : TS} {E : Env} {a : Act} {w : World} (h : TRel c U nt σ E a w) : σ.Wf := by
  have hk : ∀ g, σ.blk g = .free → ¬ E.kn g := fun g hg => Mem.kn_free (B := σ.blk) h.mem hg
  refine ⟨fun t g hg hf => hk g hf (VA.known (fun _ _ => trivial) _ _ (h.tmp t) g hg hf), fun q e cs hq g hg hf => hk g hf ?_⟩
  · have hb := h.mem.blk q
    rw [show σ.den.blk q = .var e (denVs σ.blk cs) by show denB _ _ = _; rw [hq]; rfl] at hb
    obtain ⟨_, _, cur, _, hl, hc⟩ := hb
    exact VA.knowns (fun _ _ => trivial) cs cur.toList (by simpa using hl) (fun i x u hx hu => by
      obtain ⟨_, u', h1, h2⟩ := hc i x hx
      have : cur[i]? = some u := by simpa using hu
      rw [this] at h1
      cases h1
      exact h2) g hg hf

/-- How a block may turn while a step is done: it comes new; a row keeps its length; it is taken away. -/
inductive Turn : TB → TB → Prop where
  | new {b : TB} : Turn .free b
  | row {T : Ty} {e : TypeId} {l l' : List (Val T)} (h : l'.length = l.length) : Turn (.row T e l) (.row T e l')
  | var {e e' : TypeId} {cs cs' : List TV} : Turn (.var e cs) (.var e' cs')
  | mp {k kv : IntKind} {m m' : List (Int × Int)} : Turn (.mp k kv m) (.mp k kv m')
  | mpd {k kv : IntKind} {m : List (Int × Int)} : Turn (.mp k kv m) (.dead 0)
  | dead {T : Ty} {e : TypeId} {l : List (Val T)} : Turn (.row T e l) (.dead l.length)

theorem Turn.den {g : Nat} {b b' : TB} (h : Turn b b') (hf : b ≠ .free) : denO g b' = denO g b ∧ ∀ i n, denU g i n b' = denU g i n b := by
  cases h with
  | new => exact absurd rfl hf
  | row h => exact ⟨by simp only [denO, h], fun i n => rfl⟩
  | var => exact ⟨rfl, fun i n => rfl⟩
  | mp => exact ⟨rfl, fun i n => rfl⟩
  | mpd => exact ⟨rfl, fun i n => rfl⟩
  | dead => exact ⟨rfl, fun i n => rfl⟩

def tupsOf (B : Nat → TB) (l : List (Nat × TB)) : Nat → TB := l.foldl (fun B p => upd B p.1 p.2) B
def tputOf (f : Nat → TV) (dst : Option Tmp) (v : TV) : Nat → TV := match dst with | some t => upd f t v | none => f
structure TStep where
  v : TV
  ups : List (Nat × TB)
def TS.step (σ : TS) (dst : Option Tmp) (s : TStep) : TS := ⟨tputOf σ.tmp dst s.v, tupsOf σ.blk s.ups⟩

theorem tupsOf_out : ∀ (l : List (Nat × TB)) (B : Nat → TB) (g : Nat), g ∉ l.map (·.1) → tupsOf B l g = B g := by
  intro l
  induction l with
  | nil => intro B g _; rfl
  | cons p l ih =>
    intro B g h
    simp only [List.map_cons, List.mem_cons, not_or] at h
    show tupsOf (upd B p.1 p.2) l g = _
    rw [ih _ g h.2, upd_other _ _ _ h.1]

theorem tupsOf_mem : ∀ (l : List (Nat × TB)) (B : Nat → TB) (g : Nat), g ∈ l.map (·.1) → ∃ b, (g, b) ∈ l ∧ tupsOf B l g = b := by
  intro l
  induction l with
  | nil => intro B g h; simp at h
  | cons p l ih =>
    intro B g h
    by_cases hm : g ∈ l.map (·.1)
    · obtain ⟨b, h1, h2⟩ := ih (upd B p.1 p.2) g hm
      exact ⟨b, List.mem_cons_of_mem _ h1, h2⟩
    · have hp : g = p.1 := by simpa [hm] using h
      refine ⟨p.2, by rw [hp]; exact List.mem_cons_self .., ?_⟩
      show tupsOf (upd B p.1 p.2) l g = _
      rw [tupsOf_out _ _ _ hm, hp, upd_same]

theorem upsOf_den (B' : Nat → TB) : ∀ (l : List (Nat × TB)) (B : Nat → Blk) (C : Nat → TB), (∀ g, B g = denB B' (C g)) → ∀ g, upsOf B (l.map fun p => (p.1, denB B' p.2)) g = denB B' (tupsOf C l g) := by
  intro l
  induction l with
  | nil => intro B C h g; exact h g
  | cons p l ih =>
    intro B C h g
    show upsOf (upd B p.1 (denB B' p.2)) _ g = denB B' (tupsOf (upd C p.1 p.2) l g)
    refine ih _ _ (fun k => ?_) g
    by_cases hk : k = p.1
    · subst hk; rw [upd_same, upd_same]
    · rw [upd_other _ _ _ hk, upd_other _ _ _ hk]; exact h k

mutual
theorem denV_frz {B : Nat → TB} {g : Nat} {T : Ty} {e : TypeId} {l : List (Val T)} (hb : B g = .row T e l) : ∀ (x : TV), Weak (fun k => denB B (B k)) (· ∈ [g]) (denV B x) (denV (upd B g (.frz T l)) x)
  | .agg vs => by simp only [denV]; exact .agg (by simp [denVs_map]) (denVs_frz hb vs)
  | .tup vs => by simp only [denV]; exact .tup (by simp [denVs_map]) (denVs_frz hb vs)
  | .fn f vs => by simp only [denV]; exact .fn (by simp [denVs_map]) (denVs_frz hb vs)
  | .own k => by
    simp only [denV]
    by_cases h : k = g
    · subst h
      rw [upd_same, hb]
      exact .fz0 (e := e) (by simp) (by rw [hb]; rfl) (by simp [denS])
    · rw [upd_other _ _ _ h]; exact .refl _
  | .sub k i n => by
    simp only [denV]
    by_cases h : k = g
    · subst h
      rw [upd_same, hb]
      simp only [denU]
      by_cases hn : i + n ≤ l.length
      · rw [if_pos hn]
        exact .fz (e := e) (by simp) (by rw [hb]; rfl) (by simpa [denS] using hn)
      · rw [if_neg hn]; exact .refl _
    · rw [upd_other _ _ _ h]; exact .refl _
  | .int _ _ => .refl _
  | .bool _ => .refl _
  | .view _ _ _ => .refl _
  | .ptr _ _ _ => .refl _
  | .vptr _ _ _ _ => .refl _
  | .asl _ _ _ => .refl _
  | .arr _ _ => by simp only [denV]; exact .refl _
  | .nsl => .refl _
  | .nptr => .refl _
  | .mp _ => .refl _
  | .nmp => .refl _
  | .und => .refl _
theorem denVs_frz {B : Nat → TB} {g : Nat} {T : Ty} {e : TypeId} {l : List (Val T)} (hb : B g = .row T e l) : ∀ (xs : List TV) (i : Nat) (x y : AV), (denVs B xs)[i]? = some x → (denVs (upd B g (.frz T l)) xs)[i]? = some y → Weak (fun k => denB B (B k)) (· ∈ [g]) x y
  | [], i, x, y, h, _ => by simp [denVs] at h
  | z :: zs, 0, x, y, h1, h2 => by
    simp only [denVs, List.getElem?_cons_zero, Option.some.injEq] at h1 h2
    subst h1 h2
    exact denV_frz hb z
  | z :: zs, i + 1, x, y, h1, h2 => denVs_frz hb zs i x y (by simpa [denVs] using h1) (by simpa [denVs] using h2)
end

theorem denV_leaf {B B' : Nat → TB} : ∀ (x : TV), (denV B x).leaf = (denV B' x).leaf
  | .own g => by simp only [denV]; cases B g <;> cases B' g <;> rfl
  | .sub g i n => by
    simp only [denV]
    cases B g <;> cases B' g <;> simp only [denU] <;> (repeat' split) <;> rfl
  | .agg _ => rfl
  | .tup _ => rfl
  | .fn _ _ => rfl
  | .int _ _ => rfl
  | .bool _ => rfl
  | .view o _ _ => by cases o <;> rfl
  | .ptr _ _ _ => rfl
  | .vptr _ _ _ _ => rfl
  | .asl _ _ _ => rfl
  | .arr _ _ => rfl
  | .nsl => rfl
  | .nptr => rfl
  | .mp _ => rfl
  | .nmp => rfl
  | .und => rfl

/-- A row is only read from now on. -/
theorem TRel.frz {c : Cx} {U : Nat → Prop} {nt : Nat} {σ : TS} {E : Env} {a : Act} {w : World} (hr : TRel c U nt σ E a w) {g : Nat} {T : Ty} {e : TypeId} {l : List (Val T)} (hb : σ.blk g = .row T e l) : TRel c U nt ⟨σ.tmp, upd σ.blk g (.frz T l)⟩ E a w := by
  refine Rel.weaken hr [g] (fun k hk => ?_) _ (fun t => denV_frz hb _) (fun k => ?_)
  · obtain rfl : k = g := by simpa using hk
    exact ⟨T.size, e, denS l, by show denB _ (σ.blk k) = _; rw [hb]; rfl⟩
  · show denB (upd σ.blk g _) (upd σ.blk g _ k) = _ ∨ _
    by_cases hk : k = g
    · subst hk
      rw [upd_same, killed_in (by simp)]
      exact .inl rfl
    · rw [upd_other _ _ _ hk, killed_out (by simpa using hk)]
      cases hq : σ.blk k with
      | row | frz | dead | free | mp => exact .inl (by show _ = denB _ (σ.blk k); rw [hq]; rfl)
      | var e' cs =>
        refine .inr (.inl ⟨e', denVs σ.blk cs, denVs (upd σ.blk g (.frz T l)) cs, by show denB _ (σ.blk k) = _; rw [hq]; rfl, (by show denB (upd σ.blk g _) (upd σ.blk g _ k) = _; rw [upd_other _ _ _ hk, hq]; rfl), by simp [denVs_map], ?_, denVs_frz hb cs⟩)
        have hbl := hr.mem.blk k
        rw [show σ.den.blk k = .var e' (denVs σ.blk cs) by show denB _ _ = _; rw [hq]; rfl] at hbl
        obtain ⟨_, _, cur, _, _, hc⟩ := hbl
        refine List.all_eq_true.2 fun y hy => ?_
        rw [denVs_map] at hy
        obtain ⟨x, hx, rfl⟩ := List.mem_map.1 hy
        obtain ⟨i, hi⟩ := List.getElem?_of_mem hx
        rw [denV_leaf (B' := σ.blk)]
        exact (hc i (denV σ.blk x) (by rw [denVs_map, List.getElem?_map, hi]; rfl)).1

/-- A step of the walk over data by type. -/
def TDoes (P : Program) (nt : Nat) (o : Oper) (σ : TS) (s : TStep) : Prop :=
  ∀ (c : Cx) (U : Nat → Prop) (E : Env) (a : Act) (w : World) (N : Act → World → Prop) (Q : Exit → Act → World → Prop), TRel c U nt σ E a w →
    (∀ E' a' w', TRel c U nt (σ.step o.dst s) E' a' w' → N a' w') → o.wp P a w N Q

theorem TDoes.of {P : Program} {nt : Nat} {o : Oper} {σ : TS} {s : TStep} (ht : ∀ p ∈ s.ups, Turn (σ.blk p.1) p.2) (hn : (s.ups.map (·.1)).Nodup)
    (h : σ.Wf → Does P nt o σ.den ⟨denV (tupsOf σ.blk s.ups) s.v, s.ups.map fun p => (p.1, denB (tupsOf σ.blk s.ups) p.2)⟩) : TDoes P nt o σ s := fun c U E a w N Q hr hN => by
  have hwf := hr.wf
  have hval : ∀ g, σ.blk g ≠ .free → tupsOf σ.blk s.ups g = σ.blk g ∨ denO g (tupsOf σ.blk s.ups g) = denO g (σ.blk g) ∧ ∀ i n, denU g i n (tupsOf σ.blk s.ups g) = denU g i n (σ.blk g) := fun g hg => by
    by_cases hm : g ∈ s.ups.map (·.1)
    · obtain ⟨b, h1, h2⟩ := tupsOf_mem s.ups σ.blk g hm
      rw [h2]
      exact .inr ((ht _ h1).den hg)
    · exact .inl (tupsOf_out _ _ _ hm)
  have hold : ∀ g, denB (tupsOf σ.blk s.ups) (σ.blk g) = denB σ.blk (σ.blk g) := fun g => by
    cases hb : σ.blk g with
    | row | frz | dead | free | mp => rfl
    | var e cs => simp only [denB]; rw [denVs_congr cs fun q hq => hval q (hwf.var g e cs hb q hq)]
  refine h hwf c U E a w N Q hr fun E' a' w' hr' => hN E' a' w' ?_
  have e : σ.den.step o.dst ⟨denV (tupsOf σ.blk s.ups) s.v, s.ups.map fun p => (p.1, denB (tupsOf σ.blk s.ups) p.2)⟩ = (σ.step o.dst s).den := by
    unfold St.step TS.step TS.den
    simp only
    congr 1
    · funext t
      unfold putOf tputOf
      cases o.dst with
      | none => exact (denV_congr _ fun q hq => hval q (hwf.tmp t q hq)).symm
      | some d =>
        show upd _ d _ t = denV _ (upd _ d _ t)
        by_cases hd : t = d
        · subst hd; rw [upd_same, upd_same]
        · rw [upd_other _ _ _ hd, upd_other _ _ _ hd]
          exact (denV_congr _ fun q hq => hval q (hwf.tmp t q hq)).symm
    · funext g
      exact upsOf_den _ s.ups _ σ.blk (fun k => (hold k).symm) g
  show Rel _ _ _ _ _ _ _
  rw [← e]
  exact hr'

theorem TDoes.val {P : Program} {nt : Nat} {o : Oper} {σ : TS} {v : TV} (h : Does P nt o σ.den ⟨denV σ.blk v, []⟩) : TDoes P nt o σ ⟨v, []⟩ :=
  TDoes.of (by simp) (by simp) fun _ => h
end Go.Proofs.Ytmkfpfnjimmmaaa
