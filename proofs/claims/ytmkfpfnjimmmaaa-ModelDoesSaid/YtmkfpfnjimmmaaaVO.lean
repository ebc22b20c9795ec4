/- The operations, computed: what each asks, and what it gives, over data by type. Nothing of the dump stands here. -/
import Derived.Test.YtmkfpfnjimmmaaaVC
namespace Go.Proofs.Ytmkfpfnjimmmaaa
open Go.RowKit
set_option linter.unusedVariables false
set_option linter.unusedSimpArgs false

def castL (T t : Ty) (l : List (Val T)) : Option (List (Val t)) := if h : T = t then some (h ▸ l) else none
theorem castL_self {T : Ty} {l l' : List (Val T)} (h : castL T T l = some l') : l' = l := by
  unfold castL at h
  rw [dif_pos rfl] at h
  exact (Option.some.inj h).symm
theorem castL_ty {T t : Ty} {l : List (Val T)} {l' : List (Val t)} (h : castL T t l = some l') : T = t := by
  unfold castL at h
  split at h
  · assumption
  · cases h

def conj : List Prop → Prop → Prop
  | [], K => K
  | p :: ps, K => p ∧ conj ps K
theorem conj_of : ∀ {ps : List Prop} {K : Prop}, conj ps K → (∀ p ∈ ps, p) ∧ K
  | [], K, h => ⟨fun p hp => by simp at hp, h⟩
  | p :: ps, K, h => by
    obtain ⟨h1, h2⟩ := conj_of h.2
    exact ⟨fun q hq => by
      rcases List.mem_cons.1 hq with rfl | hq
      · exact h.1
      · exact h1 q hq, h2⟩

/-- What was packed: the datum, the cells behind it, the rows that are read, those that are frozen by it, what is asked. -/
structure Pk (α : Type) where
  x : α
  rest : List TV
  rb : List Nat
  fz : List (Nat × TB)
  ps : List Prop

def asSl (B : Nat → TB) (t : Ty) : TV → Option (Pk (List (Val t)))
  | .view false T l => (castL T t l).map fun l' => ⟨l', [], [], [], []⟩
  | .nsl => some ⟨[], [], [], [], []⟩
  | .own g => match B g with
    | .row T e l => (castL T t l).map fun l' => ⟨l', [], [g], [(g, .frz T l)], []⟩
    | .frz T l => (castL T t l).map fun l' => ⟨l', [], [g], [], []⟩
    | _ => none
  | .sub g i n => match B g with
    | .row T e l => (castL T t l).map fun l' => ⟨(l'.drop i).take n, [], [g], [(g, .frz T l)], [i + n ≤ l.length]⟩
    | .frz T l => (castL T t l).map fun l' => ⟨(l'.drop i).take n, [], [g], [], [i + n ≤ l.length]⟩
    | _ => none
  | _ => none

def pack (B : Nat → TB) : (T : Ty) → List TV → Option (Pk (Val T))
  | .int k, cs => match cs with
    | .int k' n :: r => if k' = k then some ⟨n, r, [], [], []⟩ else none
    | _ => none
  | .bool, cs => match cs with
    | .bool b :: r => some ⟨b, r, [], [], []⟩
    | _ => none
  | .sl t, cs => match cs with
    | x :: r => (asSl B t x).map fun p => ⟨p.x, r, p.rb, p.fz, p.ps⟩
    | _ => none
  | .unit, r => some ⟨(), r, [], [], []⟩
  | .pair a b, r => match pack B a r with
    | some p => (match pack B b p.rest with
      | some q => some ⟨(p.x, q.x), q.rest, p.rb ++ q.rb, p.fz ++ q.fz, p.ps ++ q.ps⟩
      | none => none)
    | none => none

/-- Rows that become frozen. -/
def FrzOk (B : Nat → TB) (fz : List (Nat × TB)) : Prop := ∀ p ∈ fz, ∃ (T : Ty) (e : TypeId) (l : List (Val T)), B p.1 = .row T e l ∧ p.2 = .frz T l
/-- What was read is frozen, now or long since. -/
def RdOk (B : Nat → TB) (rb : List Nat) (fz : List (Nat × TB)) : Prop := ∀ g ∈ rb, (∃ (T : Ty) (e : TypeId) (l : List (Val T)), B g = .row T e l ∧ (g, .frz T l) ∈ fz) ∨ ∃ (T : Ty) (l : List (Val T)), B g = .frz T l
def Fz (B B2 : Nat → TB) (rb : List Nat) : Prop := ∀ g ∈ rb, (∃ (T : Ty) (e : TypeId) (l : List (Val T)), B g = .row T e l ∧ B2 g = .frz T l) ∨ ∃ (T : Ty) (l : List (Val T)), B g = .frz T l ∧ B2 g = .frz T l

theorem tups_frz {B : Nat → TB} {fz : List (Nat × TB)} (h : FrzOk B fz) {p : Nat × TB} (hp : p ∈ fz) : tupsOf B fz p.1 = p.2 := by
  obtain ⟨b, h1, h2⟩ := tupsOf_mem fz B p.1 (List.mem_map.2 ⟨p, hp, rfl⟩)
  obtain ⟨T, e, l, h3, h4⟩ := h _ h1
  obtain ⟨T', e', l', h5, h6⟩ := h p hp
  simp only at h3 h4
  rw [h5] at h3
  cases h3
  rw [h2, h4, h6]

/-- The same in another state that agrees on what is read. -/
theorem RdOk.fz {B B' : Nat → TB} {rb : List Nat} {fz : List (Nat × TB)} (h : RdOk B rb fz) (hf : FrzOk B fz) (hs : ∀ p ∈ fz, p.1 ∈ rb) (ha : ∀ g ∈ rb, B' g = B g) : FrzOk B' fz ∧ Fz B (tupsOf B' fz) rb := by
  have h1 : FrzOk B' fz := fun p hp => by
    obtain ⟨T, e, l, h1, h2⟩ := hf p hp
    exact ⟨T, e, l, (ha _ (hs p hp)).trans h1, h2⟩
  refine ⟨h1, fun g hg => ?_⟩
  rcases h g hg with ⟨T, e, l, h2, h3⟩ | ⟨T, l, h2⟩
  · exact .inl ⟨T, e, l, h2, tups_frz h1 h3⟩
  · refine .inr ⟨T, l, h2, ?_⟩
    rw [tupsOf_out _ _ _ (fun hm => by
      obtain ⟨p, hp, rfl⟩ := List.mem_map.1 hm
      obtain ⟨T', e', l', h4, _⟩ := hf p hp
      rw [h2] at h4
      cases h4), ha g hg, h2]

theorem denS_part {T : Ty} (l : List (Val T)) (i n : Nat) : ((denS l).drop i).take n = denS ((l.drop i).take n) := by
  unfold denS; rw [List.map_take, List.map_drop]

structure PkOk (B : Nat → TB) (rb : List Nat) (fz : List (Nat × TB)) : Prop where
  rd : RdOk B rb fz
  fzo : FrzOk B fz
  sub : ∀ p ∈ fz, p.1 ∈ rb
theorem PkOk.nil {B : Nat → TB} : PkOk B [] [] := ⟨fun g hg => by simp at hg, fun p hp => by simp at hp, fun p hp => by simp at hp⟩
theorem PkOk.app {B : Nat → TB} {r1 r2 : List Nat} {f1 f2 : List (Nat × TB)} (h1 : PkOk B r1 f1) (h2 : PkOk B r2 f2) : PkOk B (r1 ++ r2) (f1 ++ f2) :=
  ⟨fun g hg => by
    rcases List.mem_append.1 hg with hg | hg
    · rcases h1.rd g hg with ⟨T, e, l, q1, q2⟩ | h
      · exact .inl ⟨T, e, l, q1, List.mem_append.2 (.inl q2)⟩
      · exact .inr h
    · rcases h2.rd g hg with ⟨T, e, l, q1, q2⟩ | h
      · exact .inl ⟨T, e, l, q1, List.mem_append.2 (.inr q2)⟩
      · exact .inr h, fun p hp => by
    rcases List.mem_append.1 hp with hp | hp
    · exact h1.fzo p hp
    · exact h2.fzo p hp, fun p hp => by
    rcases List.mem_append.1 hp with hp | hp
    · exact List.mem_append.2 (.inl (h1.sub p hp))
    · exact List.mem_append.2 (.inr (h2.sub p hp))⟩
theorem PkOk.row {B : Nat → TB} {g : Nat} {T : Ty} {e : TypeId} {l : List (Val T)} (hb : B g = .row T e l) : PkOk B [g] [(g, .frz T l)] :=
  ⟨fun q hq => by obtain rfl := List.mem_singleton.1 hq; exact .inl ⟨T, e, l, hb, by simp⟩, fun p hp => by obtain rfl := List.mem_singleton.1 hp; exact ⟨T, e, l, hb, rfl⟩, fun p hp => by obtain rfl := List.mem_singleton.1 hp; simp⟩
theorem PkOk.frz {B : Nat → TB} {g : Nat} {T : Ty} {l : List (Val T)} (hb : B g = .frz T l) : PkOk B [g] [] :=
  ⟨fun q hq => by obtain rfl := List.mem_singleton.1 hq; exact .inr ⟨T, l, hb⟩, fun p hp => by simp at hp, fun p hp => by simp at hp⟩
theorem Fz.row {B B2 : Nat → TB} {g : Nat} {T : Ty} {e : TypeId} {l : List (Val T)} (h : Fz B B2 [g]) (hb : B g = .row T e l) : B2 g = .frz T l := by
  rcases h g (by simp) with ⟨T', e', l', h1, h2⟩ | ⟨T', l', h1, h2⟩
  · rw [hb] at h1; cases h1; exact h2
  · rw [hb] at h1; cases h1
theorem Fz.frz {B B2 : Nat → TB} {g : Nat} {T : Ty} {l : List (Val T)} (h : Fz B B2 [g]) (hb : B g = .frz T l) : B2 g = .frz T l := by
  rcases h g (by simp) with ⟨T', e', l', h1, h2⟩ | ⟨T', l', h1, h2⟩
  · rw [hb] at h1; cases h1
  · rw [hb] at h1; cases h1; exact h2

theorem asSl_ok {B : Nat → TB} {t : Ty} {x : TV} {p : Pk (List (Val t))} (h : asSl B t x = some p) (hps : ∀ q ∈ p.ps, q) : PkOk B p.rb p.fz ∧ ∀ B2, Fz B B2 p.rb → ZD [denV B2 x] [.view t.size (denS p.x)] := by
  unfold asSl at h
  split at h
  · rename_i T l
    obtain ⟨l', h1, rfl⟩ := Option.map_eq_some_iff.1 h
    obtain rfl := castL_ty h1
    obtain rfl := castL_self h1
    exact ⟨.nil, fun B2 hf => .d .nil⟩
  · cases h
    exact ⟨.nil, fun B2 hf => .nsl .nil⟩
  · rename_i g
    split at h
    · rename_i T e l hb
      obtain ⟨l', h1, rfl⟩ := Option.map_eq_some_iff.1 h
      obtain rfl := castL_ty h1
      obtain rfl := castL_self h1
      refine ⟨.row hb, fun B2 hf => ?_⟩
      simp only [denV, hf.row hb, denO]
      exact .d .nil
    · rename_i T l hb
      obtain ⟨l', h1, rfl⟩ := Option.map_eq_some_iff.1 h
      obtain rfl := castL_ty h1
      obtain rfl := castL_self h1
      refine ⟨.frz hb, fun B2 hf => ?_⟩
      simp only [denV, hf.frz hb, denO]
      exact .d .nil
    · cases h
  · rename_i g i n
    split at h
    · rename_i T e l hb
      obtain ⟨l', h1, rfl⟩ := Option.map_eq_some_iff.1 h
      obtain rfl := castL_ty h1
      obtain rfl := castL_self h1
      refine ⟨.row hb, fun B2 hf => ?_⟩
      have hn : i + n ≤ l'.length := hps _ (by simp)
      simp only [denV, hf.row hb, denU, if_pos hn, denS_part]
      exact .d .nil
    · rename_i T l hb
      obtain ⟨l', h1, rfl⟩ := Option.map_eq_some_iff.1 h
      obtain rfl := castL_ty h1
      obtain rfl := castL_self h1
      refine ⟨.frz hb, fun B2 hf => ?_⟩
      have hn : i + n ≤ l'.length := hps _ (by simp)
      simp only [denV, hf.frz hb, denU, if_pos hn, denS_part]
      exact .d .nil
    · cases h
  · cases h

theorem ZD.app {a b : List AV} {x y : List D} (h1 : ZD a x) (h2 : ZD b y) : ZD (a ++ b) (x ++ y) := by
  induction h1 with
  | nil => exact h2
  | d _ ih => exact .d ih
  | nsl _ ih => exact .nsl ih
theorem ZD.split : ∀ {a b : List AV} {ds : List D}, ZD (a ++ b) ds → ∃ x y, ds = x ++ y ∧ ZD a x ∧ ZD b y
  | [], b, ds, h => ⟨[], ds, rfl, .nil, h⟩
  | v :: a, b, ds, h => by
    cases h with
    | d h => obtain ⟨x, y, h1, h2, h3⟩ := ZD.split h; exact ⟨_ :: x, y, by rw [h1]; rfl, .d h2, h3⟩
    | nsl h => obtain ⟨x, y, h1, h2, h3⟩ := ZD.split h; exact ⟨_ :: x, y, by rw [h1]; rfl, .nsl h2, h3⟩
theorem ZD.dmap : ∀ {l ds : List D}, ZD (l.map .d) ds → ds = l
  | [], ds, h => by cases h; rfl
  | x :: l, ds, h => by cases h with | d h => rw [ZD.dmap h]

theorem pack_ok {B : Nat → TB} : ∀ {T : Ty} {cs : List TV} {p : Pk (Val T)}, pack B T cs = some p → (∀ q ∈ p.ps, q) → PkOk B p.rb p.fz ∧ ∃ pre, cs = pre ++ p.rest ∧ ∀ B2, Fz B B2 p.rb → ZD (denVs B2 pre) (flatD T p.x)
  | .int k, cs, p, h, hps => by
    simp only [pack] at h
    split at h
    · split at h
      · rename_i k' n r hk
        cases h
        subst hk
        exact ⟨.nil, [_], rfl, fun B2 _ => .d .nil⟩
      · cases h
    · cases h
  | .bool, cs, p, h, hps => by
    simp only [pack] at h
    split at h
    · cases h
      exact ⟨.nil, [_], rfl, fun B2 _ => .d .nil⟩
    · cases h
  | .sl t, cs, p, h, hps => by
    cases cs with
    | nil => simp [pack] at h
    | cons x r =>
      simp only [pack] at h
      obtain ⟨q, h1, rfl⟩ := Option.map_eq_some_iff.1 h
      obtain ⟨h2, h3⟩ := asSl_ok h1 hps
      exact ⟨h2, [x], rfl, fun B2 hf => h3 B2 hf⟩
  | .unit, cs, p, h, hps => by
    simp only [pack, Option.some.injEq] at h
    subst h
    exact ⟨.nil, [], rfl, fun B2 _ => .nil⟩
  | .pair a b, cs, p, h, hps => by
    simp only [pack] at h
    split at h
    · rename_i p1 hp1
      split at h
      · rename_i q1 hq1
        cases h
        obtain ⟨h1, pre1, e1, z1⟩ := pack_ok hp1 fun q hq => hps q (List.mem_append.2 (.inl hq))
        obtain ⟨h2, pre2, e2, z2⟩ := pack_ok hq1 fun q hq => hps q (List.mem_append.2 (.inr hq))
        refine ⟨h1.app h2, pre1 ++ pre2, by rw [e1, e2, List.append_assoc], fun B2 hf => ?_⟩
        have := (z1 B2 fun g hg => hf g (List.mem_append.2 (.inl hg))).app (z2 B2 fun g hg => hf g (List.mem_append.2 (.inr hg)))
        rw [denVs_map, denVs_map, ← List.map_append, ← denVs_map] at this
        exact this
      · cases h
    · cases h
end Go.Proofs.Ytmkfpfnjimmmaaa
