/- Shapes: how values, and the blocks that they name, are read as data, and written out of data. Nothing of the dump stands here. -/
import Derived.Test.YtmkfpfnjimmmaaaVS
import Derived.Test.YtmkfpfnjimmmaaaVJ
namespace Go.Proofs.Ytmkfpfnjimmmaaa
open Go.RowKit
set_option linter.unusedVariables false
set_option linter.unusedSimpArgs false

inductive Sh where
  | int (k : IntKind)
  | bool
  | view (o : Bool) (T : Ty)
  | own (T : Ty) (e : TypeId)
  | pa (T : Ty) (e : TypeId)
  | arr (T : Ty)
  | mpp (k kv : IntKind)
  | atp (d : Nat) (s : Sh)
  | var (e : TypeId) (s : Sh)
  | unit
  | pair (a b : Sh)
  | agg (s : Sh)
  | tup (s : Sh)
  | fn (f : FuncId) (s : Sh)
  | any
  deriving Inhabited

def Sh.V : Sh → Type
  | .int _ => Int
  | .bool => Bool
  | .view _ T => List (Val T)
  | .own T _ => List (Val T)
  | .pa T _ => List (Val T)
  | .arr T => List (Val T)
  | .mpp _ _ => List (Int × Int)
  | .atp _ s => Nat × s.V
  | .var _ s => s.V
  | .unit => Unit
  | .pair a b => a.V × b.V
  | .agg s => s.V
  | .tup s => s.V
  | .fn _ s => s.V
  | .any => Unit

/-- Whether all cells of a shape are single ones. -/
def Sh.leafy : Sh → Bool
  | .pair a b => a.leafy && b.leafy
  | .agg _ => false
  | .tup _ => false
  | .any => false
  | .arr _ => false
  | .atp _ s => s.leafy
  | _ => true
/-- Whether nothing of it is lent. -/
def Sh.noLent : Sh → Bool
  | .view o _ => !o
  | .var _ s => s.noLent
  | .pair a b => a.noLent && b.noLent
  | .agg s => s.noLent
  | .tup s => s.noLent
  | .fn _ s => s.noLent
  | .atp _ s => s.noLent
  | _ => true
/-- How many variables, and rows, a shape has. -/
def Sh.nv : Sh → Nat
  | .var _ s => s.nv + 1
  | .pair a b => a.nv + b.nv
  | .agg s => s.nv
  | .tup s => s.nv
  | .fn _ s => s.nv
  | .atp _ s => s.nv
  | _ => 0
def Sh.nr : Sh → Nat
  | .own _ _ => 1
  | .pa _ _ => 1
  | .mpp _ _ => 1
  | .atp _ s => s.nr
  | .var _ s => s.nr
  | .pair a b => a.nr + b.nr
  | .agg s => s.nr
  | .tup s => s.nr
  | .fn _ s => s.nr
  | _ => 0

/-- Whether what variables hold are single cells. -/
def Sh.ok : Sh → Bool
  | .var _ s => s.leafy && s.ok
  | .pair a b => a.ok && b.ok
  | .agg s => s.ok
  | .tup s => s.ok
  | .fn _ s => s.ok
  | .atp d s => Nat.blt d s.nr && s.ok
  | _ => true
structure UP where
  cs : List TV
  bs : List (Nat × TB)
/-- Data written out: variables have the names vs, from the v-th on; rows the names from k on. -/
def unparse (vs : List Nat) : (s : Sh) → s.V → Nat → Nat → UP
  | .int k, n, _, _ => ⟨[.int k n], []⟩
  | .bool, b, _, _ => ⟨[.bool b], []⟩
  | .view o T, l, _, _ => ⟨[.view o T l], []⟩
  | .own T e, l, _, k => ⟨[.own k], [(k, .row T e l)]⟩
  | .pa T e, l, _, k => ⟨[.ptr k 0 0], [(k, .row T e l)]⟩
  | .arr T, l, _, _ => ⟨[.arr T l], []⟩
  | .mpp a b, l, _, k => ⟨[.mp k], [(k, .mp a b l)]⟩
  | .atp d s, x, v, k => ⟨.ptr (k + d) x.1 0 :: (unparse vs s x.2 v k).cs, (unparse vs s x.2 v k).bs⟩
  | .var e s, x, v, k => ⟨[.ptr (vs.getD v 0) 0 0], (vs.getD v 0, .var e (unparse vs s x (v + 1) k).cs) :: (unparse vs s x (v + 1) k).bs⟩
  | .unit, _, _, _ => ⟨[], []⟩
  | .pair a b, x, v, k => ⟨(unparse vs a x.1 v k).cs ++ (unparse vs b x.2 (v + a.nv) (k + a.nr)).cs, (unparse vs a x.1 v k).bs ++ (unparse vs b x.2 (v + a.nv) (k + a.nr)).bs⟩
  | .agg s, x, v, k => ⟨[.agg (unparse vs s x v k).cs], (unparse vs s x v k).bs⟩
  | .tup s, x, v, k => ⟨[.tup (unparse vs s x v k).cs], (unparse vs s x v k).bs⟩
  | .fn f s, x, v, k => ⟨[.fn f (unparse vs s x v k).cs], (unparse vs s x v k).bs⟩
  | .any, _, _, _ => ⟨[.und], []⟩

structure PR (α : Type) where
  x : α
  rest : List TV
  vs : List Nat
  rs : List Nat
  rb : List Nat
  fz : List (Nat × TB)
  ln : List Nat
  ps : List Prop

def parse (B : Nat → TB) (ld : Bool) : (s : Sh) → List TV → Option (PR s.V)
  | .int k, cs => match cs with
    | .int k' n :: r => if k' = k then some ⟨n, r, [], [], [], [], [], []⟩ else none
    | _ => none
  | .bool, cs => match cs with
    | .bool b :: r => some ⟨b, r, [], [], [], [], [], []⟩
    | _ => none
  | .view o T, cs => match cs with
    | x :: r => bif o && ld then (asSrc B T x).map fun p => ⟨p.1, r, [], [], [], [], p.2.1, p.2.2⟩
      else (match o, x with
        | true, .view true T' l => (castL T' T l).map fun l' => ⟨l', r, [], [], [], [], [], []⟩
        | _, x => (asSl B T x).map fun p => ⟨p.x, r, [], [], p.rb, p.fz, [], p.ps⟩)
    | _ => none
  | .own T e, cs => match cs with
    | .own g :: r => match B g with
      | .row T' e' l => bif wkB e' e then (castL T' T l).map fun l' => ⟨l', r, [], [g], [], [], [], []⟩ else none
      | _ => none
    | _ => none
  | .pa T e, cs => match cs with
    | .ptr g 0 0 :: r => match B g with
      | .row T' e' l => bif wkB e' e then (castL T' T l).map fun l' => ⟨l', r, [], [g], [], [], [], []⟩ else none
      | _ => none
    | _ => none
  | .arr T, cs => match cs with
    | .arr T' l :: r => (castL T' T l).map fun l' => ⟨l', r, [], [], [], [], [], []⟩
    | _ => none
  | .mpp a b, cs => match cs with
    | .mp g :: r => match B g with
      | .mp a' b' l => if a' = a then (if b' = b then some ⟨l, r, [], [g], [], [], [], []⟩ else none) else none
      | _ => none
    | _ => none
  | .atp d s, cs => match cs with
    | .ptr g i 0 :: r => match parse B ld s r with
      | some p => match p.rs[d]? with
        | some g' => bif Nat.beq g' g then some ⟨(i, p.x), p.rest, p.vs, p.rs, p.rb, p.fz, p.ln, p.ps⟩ else none
        | none => none
      | none => none
    | _ => none
  | .var e s, cs => match cs with
    | .ptr g 0 0 :: r => match B g with
      | .var e' cs' => bif Nat.beq e' e then (match parse B ld s cs' with
        | some p => bif p.rest.isEmpty && (cs'.all tleaf) then some ⟨p.x, r, g :: p.vs, p.rs, p.rb, p.fz, p.ln, p.ps⟩ else none
        | none => none) else none
      | _ => none
    | _ => none
  | .unit, cs => some ⟨(), cs, [], [], [], [], [], []⟩
  | .pair a b, cs => match parse B ld a cs with
    | some p => (match parse B ld b p.rest with
      | some q => some ⟨(p.x, q.x), q.rest, p.vs ++ q.vs, p.rs ++ q.rs, p.rb ++ q.rb, p.fz ++ q.fz, p.ln ++ q.ln, p.ps ++ q.ps⟩
      | none => none)
    | none => none
  | .agg s, cs => match cs with
    | .agg cs' :: r => match parse B ld s cs' with
      | some p => bif p.rest.isEmpty then some ⟨p.x, r, p.vs, p.rs, p.rb, p.fz, p.ln, p.ps⟩ else none
      | none => none
    | _ => none
  | .tup s, cs => match cs with
    | .tup cs' :: r => match parse B ld s cs' with
      | some p => bif p.rest.isEmpty then some ⟨p.x, r, p.vs, p.rs, p.rb, p.fz, p.ln, p.ps⟩ else none
      | none => none
    | _ => none
  | .fn f s, cs => match cs with
    | .fn f' cs' :: r => bif Nat.beq f' f then (match parse B ld s cs' with
      | some p => bif p.rest.isEmpty then some ⟨p.x, r, p.vs, p.rs, p.rb, p.fz, p.ln, p.ps⟩ else none
      | none => none) else none
    | _ => none
  | .any, cs => match cs with
    | _ :: r => some ⟨(), r, [], [], [], [], [], []⟩
    | _ => none

def TB.len : TB → Nat
  | .row _ _ l => l.length
  | _ => 0
/-- What a call may take: rows, maps. -/
def Rowy (b : TB) : Prop := (∃ (T : Ty) (e : TypeId) (l : List (Val T)), b = .row T e l) ∨ ∃ k kv l, b = .mp k kv l
theorem Rowy.ne {b : TB} (h : Rowy b) : b ≠ .free := by
  rcases h with ⟨_, _, _, rfl⟩ | ⟨_, _, _, rfl⟩ <;> simp
theorem Rowy.nv {b : TB} (h : Rowy b) {e : TypeId} {cs : List TV} : b ≠ .var e cs := by
  rcases h with ⟨_, _, _, rfl⟩ | ⟨_, _, _, rfl⟩ <;> simp
theorem Rowy.nz {b : TB} (h : Rowy b) {T : Ty} {l : List (Val T)} : b ≠ .frz T l := by
  rcases h with ⟨_, _, _, rfl⟩ | ⟨_, _, _, rfl⟩ <;> simp
theorem Rowy.turn {b : TB} (h : Rowy b) : Turn b (.dead b.len) := by
  rcases h with ⟨_, _, _, rfl⟩ | ⟨_, _, _, rfl⟩
  · exact .dead
  · exact .mpd
theorem Rowy.den {b : TB} (h : Rowy b) (B : Nat → TB) : denB B b ≠ .free ∧ denB B b ≠ .dead := by
  rcases h with ⟨_, _, _, rfl⟩ | ⟨_, _, _, rfl⟩ <;> simp [denB]
/-- A row or map that is told anew. -/
def TBw (b b' : TB) : Prop := (∃ (T : Ty) (e e' : TypeId) (l : List (Val T)), b = .row T e' l ∧ b' = .row T e l ∧ Wk e' e) ∨ ∃ k kv l, b = .mp k kv l ∧ b' = .mp k kv l
theorem TBw.row {T : Ty} {e e' : TypeId} {l : List (Val T)} (h : Wk e' e) : TBw (.row T e' l) (.row T e l) := .inl ⟨T, e, e', l, rfl, rfl, h⟩
theorem BCv.same {B : Nat → Blk} {R : Nat → Nat → Prop} {al : Bool → Prop} {fz ln : Nat → Prop} {k kv : IntKind} (m : List (Int × Int)) : BCv B R al fz ln (.mp k (m.map fun x => (x.1, .d (.int kv x.2)))) (.mp k (m.map fun x => (x.1, .d (.int kv x.2)))) := .mp rfl fun i x y hx hy => by
  rw [hx] at hy
  cases hy
  rw [List.getElem?_map] at hx
  obtain ⟨z, _, rfl⟩ := Option.map_eq_some_iff.1 hx
  exact ⟨rfl, .d _⟩
theorem TBw.bcv {b b' : TB} (h : TBw b b') (B1 B2 : Nat → TB) {B : Nat → Blk} {R : Nat → Nat → Prop} {al : Bool → Prop} {fz ln : Nat → Prop} : BCv B R al fz ln (denB B1 b) (denB B2 b') := by
  rcases h with ⟨_, _, _, _, rfl, rfl, h⟩ | ⟨_, _, _, rfl, rfl⟩
  · exact .row _ _ h
  · exact .same _
theorem TBw.rowy {b b' : TB} (h : TBw b b') : Rowy b := by
  rcases h with ⟨_, _, _, _, rfl, _, h⟩ | ⟨_, _, _, rfl, _⟩
  · exact .inl ⟨_, _, _, rfl⟩
  · exact .inr ⟨_, _, _, rfl⟩

theorem unparse_leaf : ∀ (s : Sh) (x : s.V) (vs : List Nat) (v k : Nat), True := fun _ _ _ _ _ => trivial

/-- Cells, one by one. -/
def Cvs (B : Nat → Blk) (R : Nat → Nat → Prop) (al : Bool → Prop) (fz ln : Nat → Prop) (xs ys : List AV) : Prop := xs.length = ys.length ∧ ∀ (i : Nat) (x y : AV), xs[i]? = some x → ys[i]? = some y → Cv B R al fz ln x y
section
variable {B : Nat → Blk} {R : Nat → Nat → Prop} {al : Bool → Prop} {fz ln : Nat → Prop}
theorem Cvs.nil : Cvs B R al fz ln [] [] := ⟨rfl, fun i x y h => by simp at h⟩
theorem Cvs.one {x y : AV} (h : Cv B R al fz ln x y) : Cvs B R al fz ln [x] [y] := ⟨rfl, fun i a b ha hb => by
  cases i with
  | zero => obtain rfl : x = a := by simpa using ha
            obtain rfl : y = b := by simpa using hb
            exact h
  | succ i => simp at ha⟩
theorem Cvs.app {a b x y : List AV} (h1 : Cvs B R al fz ln a x) (h2 : Cvs B R al fz ln b y) : Cvs B R al fz ln (a ++ b) (x ++ y) := ⟨by simp [h1.1, h2.1], fun i p q hp hq => by
  by_cases hi : i < a.length
  · rw [List.getElem?_append_left hi] at hp
    rw [List.getElem?_append_left (by rw [← h1.1]; exact hi)] at hq
    exact h1.2 i p q hp hq
  · rw [List.getElem?_append_right (by omega)] at hp
    rw [List.getElem?_append_right (by rw [← h1.1]; omega), ← h1.1] at hq
    exact h2.2 _ p q hp hq⟩
end

/-- Freezing as parsing has it, and the state behind it. -/
structure Mid (B B1 : Nat → TB) {α : Type} (p : PR α) : Prop where
  keep : ∀ g ∈ p.vs ++ p.rs, B1 g = B g
  fz : Fz B B1 p.rb
  ln : ∀ g ∈ p.ln, B1 g = B g ∨ ∃ (T : Ty) (e : TypeId) (l : List (Val T)), B g = .row T e l ∧ B1 g = .frz T l

theorem denSrc {B B1 : Nat → TB} {t : Ty} {x : TV} {l : List (Val t)} {rb : List Nat} {ps : List Prop} {R : Nat → Nat → Prop} {al : Bool → Prop} {fz ln : Nat → Prop} (h : asSrc B t x = some (l, rb, ps)) (hps : ∀ q ∈ ps, q) (hal : al true) (hln : ∀ g ∈ rb, ln g)
    (hb : ∀ g ∈ rb, B1 g = B g ∨ ∃ (T : Ty) (e : TypeId) (l : List (Val T)), B g = .row T e l ∧ B1 g = .frz T l) : Cv (fun g => denB B1 (B1 g)) R al fz ln (denV B1 x) (.lent t.size (denS l)) := by
  unfold asSrc at h
  split at h
  · rename_i f T l0
    obtain ⟨l', h1, h2⟩ := Option.map_eq_some_iff.1 h
    cases h2
    obtain rfl := castL_ty h1
    obtain rfl := castL_self h1
    cases f
    · exact .vl _ _
    · exact .lent _ _ hal
  · cases h
    exact .nl _
  · rename_i g
    split at h
    · rename_i T e l0 hg
      obtain ⟨l', h1, h2⟩ := Option.map_eq_some_iff.1 h
      cases h2
      obtain rfl := castL_ty h1
      obtain rfl := castL_self h1
      rcases hb g (by simp) with h3 | ⟨T', e', l', h3, h4⟩
      · have h5 := h3.trans hg
        have := Cv.ln (B := fun g => denB B1 (B1 g)) (R := R) (al := al) (fz := fz) (ln := ln) (g := g) (i := 0) (n := l.length) (sz := T.size) (e := e) (es := denS l) (hln g (by simp)) (by rw [h5]; rfl) (by simp [denS])
        rw [denS_part] at this
        simp only [denV, h5, denO]
        simpa using this
      · rw [hg] at h3
        cases h3
        simp only [denV, h4, denO]
        exact .vl _ _
    · rename_i T l0 hg
      obtain ⟨l', h1, h2⟩ := Option.map_eq_some_iff.1 h
      cases h2
      obtain rfl := castL_ty h1
      obtain rfl := castL_self h1
      rcases hb g (by simp) with h3 | ⟨T', e', l', h3, h4⟩
      · simp only [denV, h3.trans hg, denO]
        exact .vl _ _
      · rw [hg] at h3; cases h3
    · cases h
  · rename_i g i n
    split at h
    · rename_i T e l0 hg
      obtain ⟨l', h1, h2⟩ := Option.map_eq_some_iff.1 h
      cases h2
      obtain rfl := castL_ty h1
      obtain rfl := castL_self h1
      have hn : i + n ≤ l'.length := hps _ (by simp)
      rcases hb g (by simp) with h3 | ⟨T', e', l'', h3, h4⟩
      · have h5 := h3.trans hg
        have := Cv.ln (B := fun g => denB B1 (B1 g)) (R := R) (al := al) (fz := fz) (ln := ln) (g := g) (i := i) (n := n) (sz := T.size) (e := e) (es := denS l') (hln g (by simp)) (by rw [h5]; rfl) (by simpa [denS] using hn)
        rw [denS_part] at this
        simp only [denV, h5, denU]
        exact this
      · rw [hg] at h3
        cases h3
        simp only [denV, h4, denU, if_pos hn, denS_part]
        exact .vl _ _
    · rename_i T l0 hg
      obtain ⟨l', h1, h2⟩ := Option.map_eq_some_iff.1 h
      cases h2
      obtain rfl := castL_ty h1
      obtain rfl := castL_self h1
      have hn : i + n ≤ l'.length := hps _ (by simp)
      rcases hb g (by simp) with h3 | ⟨T', e', l'', h3, h4⟩
      · simp only [denV, h3.trans hg, denU, if_pos hn, denS_part]
        exact .vl _ _
      · rw [hg] at h3; cases h3
    · cases h
  · cases h

theorem ZD.cv {B : Nat → Blk} {R : Nat → Nat → Prop} {al : Bool → Prop} {fz ln : Nat → Prop} {x : AV} {sz : Nat} {es : List (List D)} (h : ZD [x] [.view sz es]) : Cv B R al fz ln x (.d (.view sz es)) ∧ Cv B R al fz ln x (.lent sz es) := by
  cases h with
  | d h => exact ⟨.d _, .vl _ _⟩
  | nsl h => exact ⟨.nv _, .nl _⟩

theorem Cv.arrd {B : Nat → Blk} {R : Nat → Nat → Prop} {al : Bool → Prop} {fz ln : Nat → Prop} (ds : List D) : Cv B R al fz ln (.agg (ds.map .d)) (.agg (ds.map .d)) := .agg rfl fun i x y hx hy => by
  rw [hx] at hy
  cases hy
  rw [List.getElem?_map] at hx
  obtain ⟨d, _, rfl⟩ := Option.map_eq_some_iff.1 hx
  exact .d _

theorem parse_ok {B B1 B2 : Nat → TB} {ld : Bool} {R : Nat → Nat → Prop} {al : Bool → Prop} {fz ln : Nat → Prop} (hal : al false) (hld : (ld = true ∨ True) → al true) : ∀ {s : Sh} {cs : List TV} {p : PR s.V} {vs : List Nat} {v k : Nat}, parse B ld s cs = some p → (∀ q ∈ p.ps, q) → Mid B B1 p →
    (∀ (i g : Nat), p.vs[i]? = some g → R g (vs.getD (v + i) 0)) → (∀ (j g : Nat), p.rs[j]? = some g → R g (k + j)) → (∀ g ∈ p.ln, ln g) → (∀ q ∈ (unparse vs s p.x v k).bs, B2 q.1 = q.2) →
    p.vs.length = s.nv ∧ p.rs.length = s.nr ∧ PkOk B p.rb p.fz ∧ ∃ pre, cs = pre ++ p.rest ∧ Cvs (fun g => denB B1 (B1 g)) R al fz ln (denVs B1 pre) (denVs B2 (unparse vs s p.x v k).cs) ∧
      ∀ q ∈ (unparse vs s p.x v k).bs, ∃ g, R g q.1 ∧ B g ≠ .free ∧ ((g ∈ p.rs ∧ TBw (B g) q.2) ∨ (∃ e cs1 cs2, g ∈ p.vs ∧ B g = .var e cs1 ∧ q.2 = .var e cs2 ∧ cs1.all tleaf = true ∧ Cvs (fun g => denB B1 (B1 g)) R al fz ln (denVs B1 cs1) (denVs B2 cs2)))
  | .int kk, cs, p, vs, v, k, h, hps, hm, hv, hr, hl, hb => by
    simp only [parse] at h
    split at h
    · split at h
      · rename_i k' n r hk
        cases h
        subst hk
        exact ⟨rfl, rfl, .nil, [_], rfl, .one (.d _), fun q hq => by simp [unparse] at hq⟩
      · cases h
    · cases h
  | .bool, cs, p, vs, v, k, h, hps, hm, hv, hr, hl, hb => by
    simp only [parse] at h
    split at h
    · cases h
      exact ⟨rfl, rfl, .nil, [_], rfl, .one (.d _), fun q hq => by simp [unparse] at hq⟩
    · cases h
  | .view o T, cs, p, vs, v, k, h, hps, hm, hv, hr, hl, hb => by
    simp only [parse] at h
    split at h
    · rename_i x r
      cases ho : (o && ld) with
      | true =>
        rw [ho] at h
        simp only [Bool.and_eq_true] at ho
        obtain ⟨rfl, rfl⟩ := ho
        simp only [cond_true] at h
        obtain ⟨⟨l, rb, ps⟩, h1, rfl⟩ := Option.map_eq_some_iff.1 h
        exact ⟨rfl, rfl, .nil, [x], rfl, .one (denSrc h1 hps (hld (.inr trivial)) hl hm.ln), fun q hq => by simp [unparse] at hq⟩
      | false =>
        rw [ho] at h
        simp only [cond_false] at h
        split at h
        · rename_i T' l
          obtain ⟨l', h1, rfl⟩ := Option.map_eq_some_iff.1 h
          obtain rfl := castL_ty h1
          obtain rfl := castL_self h1
          exact ⟨rfl, rfl, .nil, [_], rfl, .one (.lent _ _ (hld (.inr trivial))), fun q hq => by simp [unparse] at hq⟩
        · obtain ⟨q, h1, rfl⟩ := Option.map_eq_some_iff.1 h
          obtain ⟨h2, h3⟩ := asSl_ok h1 hps
          have h4 := (h3 B1 hm.fz).cv (B := fun g => denB B1 (B1 g)) (R := R) (al := al) (fz := fz) (ln := ln)
          refine ⟨rfl, rfl, h2, [_], rfl, .one ?_, fun q hq => by simp [unparse] at hq⟩
          cases o
          · exact h4.1
          · exact h4.2
    · cases h
  | .own T e, cs, p, vs, v, k, h, hps, hm, hv, hr, hl, hb => by
    simp only [parse] at h
    split at h
    · rename_i g r
      split at h
      · rename_i T' e' l hg
        cases he : wkB e' e with
        | false => rw [he] at h; cases h
        | true =>
          rw [he] at h
          have hwk := wkB_ok he
          simp only [cond_true] at h
          obtain ⟨l', h1, rfl⟩ := Option.map_eq_some_iff.1 h
          obtain rfl := castL_ty h1
          obtain rfl := castL_self h1
          have h2 : B1 g = .row T' e' l' := (hm.keep g (by simp)).trans hg
          have h3 : B2 k = .row T' e l' := hb (k, .row T' e l') (by simp [unparse])
          refine ⟨rfl, rfl, .nil, [_], rfl, .one ?_, fun q hq => ?_⟩
          · simp only [denV, h2, h3, denO]
            exact .own _ _ (hr 0 g rfl)
          · simp only [unparse, List.mem_singleton] at hq
            subst hq
            exact ⟨g, hr 0 g rfl, by rw [hg]; simp, .inl ⟨by simp, by rw [hg]; exact .row hwk⟩⟩
      · cases h
    · cases h
  | .pa T e, cs, p, vs, v, k, h, hps, hm, hv, hr, hl, hb => by
    simp only [parse] at h
    split at h
    · rename_i g r
      split at h
      · rename_i T' e' l hg
        cases he : wkB e' e with
        | false => rw [he] at h; cases h
        | true =>
          rw [he] at h
          have hwk := wkB_ok he
          simp only [cond_true] at h
          obtain ⟨l', h1, rfl⟩ := Option.map_eq_some_iff.1 h
          obtain rfl := castL_ty h1
          obtain rfl := castL_self h1
          have h2 : B1 g = .row T' e' l' := (hm.keep g (by simp)).trans hg
          have h3 : B2 k = .row T' e l' := hb (k, .row T' e l') (by simp [unparse])
          refine ⟨rfl, rfl, .nil, [_], rfl, .one ?_, fun q hq => ?_⟩
          · simp only [denV]
            exact .ptr _ _ (hr 0 g rfl)
          · simp only [unparse, List.mem_singleton] at hq
            subst hq
            exact ⟨g, hr 0 g rfl, by rw [hg]; simp, .inl ⟨by simp, by rw [hg]; exact .row hwk⟩⟩
      · cases h
    · cases h
  | .arr T, cs, p, vs, v, k, h, hps, hm, hv, hr, hl, hb => by
    simp only [parse] at h
    split at h
    · obtain ⟨l', h1, rfl⟩ := Option.map_eq_some_iff.1 h
      obtain rfl := castL_ty h1
      obtain rfl := castL_self h1
      exact ⟨rfl, rfl, .nil, [_], rfl, .one (Cv.arrd _), fun q hq => by simp [unparse] at hq⟩
    · cases h
  | .mpp a b, cs, p, vs, v, k, h, hps, hm, hv, hr, hl, hb => by
    simp only [parse] at h
    split at h
    · rename_i g r
      split at h
      · rename_i a' b' l hg
        split at h
        · rename_i ha
          split at h
          · rename_i hbb
            cases h
            subst ha hbb
            refine ⟨rfl, rfl, .nil, [_], rfl, .one (by simp only [denV]; exact .mp (hr 0 g rfl)), fun q hq => ?_⟩
            simp only [unparse, List.mem_singleton] at hq
            subst hq
            exact ⟨g, hr 0 g rfl, by rw [hg]; simp, .inl ⟨by simp, .inr ⟨_, _, _, hg, rfl⟩⟩⟩
          · cases h
        · cases h
      · cases h
    · cases h
  | .atp d s, cs, p, vs, v, k, h, hps, hm, hv, hr, hl, hb => by
    simp only [parse] at h
    split at h
    · rename_i g i r
      split at h
      · rename_i q hq
        split at h
        · rename_i g' hg
          cases hgg : Nat.beq g' g with
          | false => rw [hgg] at h; cases h
          | true =>
            rw [hgg] at h
            cases h
            obtain rfl := Nat.eq_of_beq_eq_true hgg
            obtain ⟨l1, l2, hpk, pre, e1, hc, hbs⟩ := parse_ok (s := s) hal hld (vs := vs) (v := v) (k := k) hq hps ⟨hm.keep, hm.fz, hm.ln⟩ hv hr hl hb
            refine ⟨l1, l2, hpk, .ptr g' i 0 :: pre, by rw [e1]; rfl, ?_, hbs⟩
            exact Cvs.app (a := [_]) (x := [_]) (.one (by simp only [denV]; exact .ptr _ _ (hr d g' hg))) hc
        · cases h
      · cases h
    · cases h
  | .var e s, cs, p, vs, v, k, h, hps, hm, hv, hr, hl, hb => by
    simp only [parse] at h
    split at h
    · rename_i g r
      split at h
      · rename_i e' cs' hg
        cases he : Nat.beq e' e with
        | false => rw [he] at h; cases h
        | true =>
          rw [he] at h
          obtain rfl := Nat.eq_of_beq_eq_true he
          simp only [cond_true] at h
          split at h
          · rename_i q hq
            cases hre : (q.rest.isEmpty && cs'.all tleaf) with
            | false => rw [hre] at h; cases h
            | true =>
              rw [hre] at h
              cases h
              simp only [Bool.and_eq_true] at hre
              have hrr := isEmpty_nil hre.1
              obtain ⟨l1, l2, hpk, pre, e1, hc, hbs⟩ := parse_ok (s := s) hal hld (vs := vs) (v := v + 1) (k := k) hq hps ⟨fun g hg => hm.keep g (by simp only [List.cons_append, List.mem_cons]; exact .inr hg), hm.fz, hm.ln⟩
                (fun i g hi => by have := hv (i + 1) g (by simpa using hi); rwa [show v + (i + 1) = v + 1 + i by omega] at this) hr hl (fun q hq => hb q (by simp only [unparse, List.mem_cons]; exact .inr hq))
              rw [hrr, List.append_nil] at e1
              subst e1
              have h0 := hv 0 g rfl
              rw [Nat.add_zero] at h0
              refine ⟨by simp [l1, Sh.nv], l2, hpk, [_], rfl, .one (.ptr _ _ h0), fun q' hq' => ?_⟩
              simp only [unparse, List.mem_cons] at hq'
              rcases hq' with rfl | hq'
              · exact ⟨g, h0, by rw [hg]; simp, .inr ⟨e', cs', _, by simp, hg, rfl, hre.2, hc⟩⟩
              · obtain ⟨g', r1, r2, r3⟩ := hbs q' hq'
                refine ⟨g', r1, r2, ?_⟩
                rcases r3 with r3 | ⟨e3, c1, c2, r4, r5⟩
                · exact .inl r3
                · exact .inr ⟨e3, c1, c2, List.mem_cons_of_mem _ r4, r5⟩
          · cases h
      · cases h
    · cases h
  | .unit, cs, p, vs, v, k, h, hps, hm, hv, hr, hl, hb => by
    simp only [parse, Option.some.injEq] at h
    subst h
    exact ⟨rfl, rfl, .nil, [], rfl, .nil, fun q hq => by simp [unparse] at hq⟩
  | .pair a b, cs, p, vs, v, k, h, hps, hm, hv, hr, hl, hb => by
    simp only [parse] at h
    split at h
    · rename_i p1 hp1
      split at h
      · rename_i q1 hq1
        cases h
        simp only [unparse, List.mem_append] at hb
        obtain ⟨a1, a2, a3, pre1, a4, a5, a6⟩ := parse_ok (s := a) hal hld (vs := vs) (v := v) (k := k) (B2 := B2) (R := R) (fz := fz) (ln := ln) hp1 (fun q hq => hps q (List.mem_append.2 (.inl hq)))
          ⟨fun g hg => hm.keep g (by simp only [List.mem_append] at hg ⊢; rcases hg with hg | hg <;> simp [hg]), fun g hg => hm.fz g (List.mem_append.2 (.inl hg)), fun g hg => hm.ln g (List.mem_append.2 (.inl hg))⟩
          (fun i g hi => hv i g (by rw [List.getElem?_append_left (List.getElem?_eq_some_iff.1 hi).1]; exact hi)) (fun j g hj => hr j g (by rw [List.getElem?_append_left (List.getElem?_eq_some_iff.1 hj).1]; exact hj)) (fun g hg => hl g (List.mem_append.2 (.inl hg))) (fun q hq => hb q (.inl hq))
        obtain ⟨b1, b2, b3, pre2, b4, b5, b6⟩ := parse_ok (s := b) hal hld (vs := vs) (v := v + a.nv) (k := k + a.nr) (B2 := B2) (R := R) (fz := fz) (ln := ln) hq1 (fun q hq => hps q (List.mem_append.2 (.inr hq)))
          ⟨fun g hg => hm.keep g (by simp only [List.mem_append] at hg ⊢; rcases hg with hg | hg <;> simp [hg]), fun g hg => hm.fz g (List.mem_append.2 (.inr hg)), fun g hg => hm.ln g (List.mem_append.2 (.inr hg))⟩
          (fun i g hi => by
            have := hv (a.nv + i) g (by rw [List.getElem?_append_right (by omega), a1, Nat.add_sub_cancel_left]; exact hi)
            rwa [← Nat.add_assoc] at this) (fun j g hj => by
            have := hr (a.nr + j) g (by rw [List.getElem?_append_right (by omega), a2, Nat.add_sub_cancel_left]; exact hj)
            rwa [← Nat.add_assoc] at this) (fun g hg => hl g (List.mem_append.2 (.inr hg))) (fun q hq => hb q (.inr hq))
        refine ⟨by simp [a1, b1, Sh.nv], by simp [a2, b2, Sh.nr], a3.app b3, pre1 ++ pre2, by rw [a4, b4, List.append_assoc], ?_, fun q hq => ?_⟩
        · have := a5.app b5
          simp only [denVs_map] at this ⊢
          simp only [unparse, List.map_append]
          exact this
        · simp only [unparse, List.mem_append] at hq
          rcases hq with hq | hq
          · obtain ⟨g, r1, r2, r3⟩ := a6 q hq
            refine ⟨g, r1, r2, ?_⟩
            rcases r3 with ⟨r4, r5⟩ | ⟨e, c1, c2, r4, r5⟩
            · exact .inl ⟨List.mem_append.2 (.inl r4), r5⟩
            · exact .inr ⟨e, c1, c2, List.mem_append.2 (.inl r4), r5⟩
          · obtain ⟨g, r1, r2, r3⟩ := b6 q hq
            refine ⟨g, r1, r2, ?_⟩
            rcases r3 with ⟨r4, r5⟩ | ⟨e, c1, c2, r4, r5⟩
            · exact .inl ⟨List.mem_append.2 (.inr r4), r5⟩
            · exact .inr ⟨e, c1, c2, List.mem_append.2 (.inr r4), r5⟩
      · cases h
    · cases h
  | .agg s, cs, p, vs, v, k, h, hps, hm, hv, hr, hl, hb => by
    simp only [parse] at h
    split at h
    · rename_i cs' r
      split at h
      · rename_i q hq
        cases hre : q.rest.isEmpty with
        | false => rw [hre] at h; cases h
        | true =>
          rw [hre] at h
          cases h
          obtain ⟨l1, l2, hpk, pre, e1, hc, hbs⟩ := parse_ok (s := s) hal hld (vs := vs) (v := v) (k := k) hq hps ⟨hm.keep, hm.fz, hm.ln⟩ hv hr hl hb
          rw [isEmpty_nil hre, List.append_nil] at e1
          subst e1
          refine ⟨l1, l2, hpk, [_], rfl, .one ?_, hbs⟩
          simp only [denV]
          exact .agg hc.1 hc.2
      · cases h
    · cases h
  | .tup s, cs, p, vs, v, k, h, hps, hm, hv, hr, hl, hb => by
    simp only [parse] at h
    split at h
    · rename_i cs' r
      split at h
      · rename_i q hq
        cases hre : q.rest.isEmpty with
        | false => rw [hre] at h; cases h
        | true =>
          rw [hre] at h
          cases h
          obtain ⟨l1, l2, hpk, pre, e1, hc, hbs⟩ := parse_ok (s := s) hal hld (vs := vs) (v := v) (k := k) hq hps ⟨hm.keep, hm.fz, hm.ln⟩ hv hr hl hb
          rw [isEmpty_nil hre, List.append_nil] at e1
          subst e1
          refine ⟨l1, l2, hpk, [_], rfl, .one ?_, hbs⟩
          simp only [denV]
          exact .tup hc.1 hc.2
      · cases h
    · cases h
  | .fn f s, cs, p, vs, v, k, h, hps, hm, hv, hr, hl, hb => by
    simp only [parse] at h
    split at h
    · rename_i f' cs' r
      cases hf : Nat.beq f' f with
      | false => rw [hf] at h; cases h
      | true =>
        rw [hf] at h
        obtain rfl := Nat.eq_of_beq_eq_true hf
        simp only [cond_true] at h
        split at h
        · rename_i q hq
          cases hre : q.rest.isEmpty with
          | false => rw [hre] at h; cases h
          | true =>
            rw [hre] at h
            cases h
            obtain ⟨l1, l2, hpk, pre, e1, hc, hbs⟩ := parse_ok (s := s) hal hld (vs := vs) (v := v) (k := k) hq hps ⟨hm.keep, hm.fz, hm.ln⟩ hv hr hl hb
            rw [isEmpty_nil hre, List.append_nil] at e1
            subst e1
            refine ⟨l1, l2, hpk, [_], rfl, .one ?_, hbs⟩
            simp only [denV]
            exact .fn hc.1 hc.2
        · cases h
    · cases h
  | .any, cs, p, vs, v, k, h, hps, hm, hv, hr, hl, hb => by
    simp only [parse] at h
    split at h
    · cases h
      exact ⟨rfl, rfl, .nil, [_], rfl, .one (.und _), fun q hq => by simp [unparse] at hq⟩
    · cases h
end Go.Proofs.Ytmkfpfnjimmmaaa
