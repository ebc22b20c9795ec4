/- What holds of a model, of what was sent and taken, holds after each step: plain. -/
import Derived.Test.YtmkfpfnjimmmaaaWF
namespace Go.Proofs.Ytmkfpfnjimmmaaa
open Go.RowKit DoorU
set_option linter.unusedVariables false
set_option linter.unusedSimpArgs false

theorem set_at {α : Type} {l : List α} {i j : Nat} {a y : α} (h : (l.set i a)[j]? = some y) : (j = i ∧ y = a) ∨ (j ≠ i ∧ l[j]? = some y) := by
  rw [List.getElem?_set] at h
  by_cases e : i = j
  · rw [if_pos e] at h
    split at h
    · exact .inl ⟨e.symm, by simpa using h.symm⟩
    · cases h
  · rw [if_neg e] at h
    exact .inr ⟨fun h => e h.symm, h⟩
theorem set_same {α : Type} {l : List α} {i : Nat} {a : α} (h : l[i]? = some a) : l.set i a = l := by
  apply List.ext_getElem?
  intro j
  rw [List.getElem?_set]
  by_cases e : i = j
  · subst e
    rw [if_pos rfl, if_pos (List.getElem?_eq_some_iff.1 h).1, h]
  · rw [if_neg e]
theorem tx_append (a b : List Let) (f t : Int) : tx (a ++ b) f t = tx a f t ++ tx b f t := by
  unfold tx btw
  rw [List.filter_append, List.map_append]
theorem tx_cons (l : Let) (r : List Let) (f t : Int) : tx (l :: r) f t = tx [l] f t ++ tx r f t := tx_append [l] r f t
theorem tx_one {l : Let} {f t : Int} : tx [l] f t = if l.2.1 = f ∧ l.2.2.1 = t then [l.2.2.2.2.1] else [] := by
  unfold tx btw
  rw [List.filter_cons]
  by_cases h1 : l.2.1 = f <;> by_cases h2 : l.2.2.1 = t <;> simp [h1, h2]
theorem tx_no {l : Let} {f t : Int} (h : ¬(l.2.1 = f ∧ l.2.2.1 = t)) : tx [l] f t = [] := by rw [tx_one, if_neg h]
theorem tx_nil (f t : Int) : tx [] f t = [] := rfl

theorem DoorU.MI.mono {c : Cfg} {i : Int} {m : Mod} {s k : List Let} (h : MI c i m s k) (hi : i + 1 ≤ 80) : MI c (i + 1) m s k :=
  ⟨h.n, ⟨by have := h.hi; omega, hi⟩, h.lq, h.lc, h.lb, fun f q hq => ⟨by have := (h.q f q hq).1; omega, (h.q f q hq).2⟩, fun t b hb => ⟨by have := (h.b t b hb).1; omega, (h.b t b hb).2⟩, h.hc, by have := h.ls; omega, by have := h.lt; omega, h.os, h.ot, h.h⟩
theorem DoorU.MI.sm {c : Cfg} {i : Int} {m : Mod} {s k : List Let} (h : MI c i m s k) : smM m := by
  have h1 := h.lq
  have h2 := h.lc
  have h3 := h.lb
  have h4 := h.n
  have h5 := h.hi
  refine ⟨by omega, by omega, by omega, fun q hq => ?_, fun b hb => ?_⟩
  · obtain ⟨f, hf⟩ := List.getElem?_of_mem hq
    obtain ⟨r1, r2⟩ := h.q f q hf
    exact ⟨by omega, fun l hl => by have := (r2 l hl).1.2; omega⟩
  · obtain ⟨t, ht⟩ := List.getElem?_of_mem hb
    obtain ⟨r1, r2⟩ := h.b t b ht
    exact ⟨by omega, fun l hl => by have := (r2 l hl).1.2; omega⟩

theorem DoorU.MI.new {c : Cfg} (h : okC c = true) : MI c 0 (mNew c).1 [] [] := by
  have hn := okC_cl h
  unfold mNew
  rw [h]
  refine ⟨hn, by omega, ?_, ?_, ?_, fun f q hq => ?_, fun t b hb => ?_, fun f p q hp hq => ?_, by simp, by simp, by simp, by simp, fun f t q p b hq hp hb => ?_⟩
  · simp only [cond_true, List.length_replicate]; omega
  · simp only [cond_true, List.length_replicate]; omega
  · simp only [cond_true, List.length_replicate]; omega
  · obtain rfl := List.eq_of_mem_replicate (List.mem_of_getElem? hq)
    simp
  · obtain rfl := List.eq_of_mem_replicate (List.mem_of_getElem? hb)
    simp
  · obtain rfl := List.eq_of_mem_replicate (List.mem_of_getElem? hp)
    obtain rfl := List.eq_of_mem_replicate (List.mem_of_getElem? hq)
    simp
  · obtain rfl := List.eq_of_mem_replicate (List.mem_of_getElem? hp)
    obtain rfl := List.eq_of_mem_replicate (List.mem_of_getElem? hq)
    obtain rfl := List.eq_of_mem_replicate (List.mem_of_getElem? hb)
    rfl

theorem DoorU.MI.say {c : Cfg} {i : Int} {m : Mod} {s k : List Let} (h : MI c i m s k) (hi : i + 1 ≤ 80) {who to : Int} {text : List Int} (hb : byt text) (hl : text.length ≤ 64) :
    ((mSay c m who to text).2 = 1 → MI c (i + 1) (mSay c m who to text).1 (s ++ [(false, who, to, 0, text, ())]) k) ∧ ((mSay c m who to text).2 ≠ 1 → MI c (i + 1) (mSay c m who to text).1 s k) := by
  unfold mSay
  cases hc : mCl m who
  · exact ⟨fun hh => absurd (show (3 : Int) = 1 from hh) (by decide), fun _ => h.mono hi⟩
  obtain ⟨q1, q2, q3, q4⟩ := mCl_of hc
  have hq : m.1[who.toNat]? = some (m.1[who.toNat]'(by omega)) := List.getElem?_eq_getElem (by omega)
  generalize m.1[who.toNat]'(by omega) = q at hq
  rw [hq]
  simp only [cond_true]
  have hsame : MI c (i + 1) (m.1.set who.toNat q, m.2.1, m.2.2.1, ()) s k := by rw [set_same hq]; exact h.mono hi
  unfold qPut
  cases (!(cli c who && cli c to) || decide (64 < text.length))
  case true => exact ⟨fun hh => absurd (show (3 : Int) = 1 from hh) (by decide), fun _ => hsame⟩
  cases decide (q.1 = 18446744073709551615)
  case true => exact ⟨fun hh => absurd (show (4 : Int) = 1 from hh) (by decide), fun _ => hsame⟩
  cases decide (c.2.2.2.2.1 ≤ q.2.1.length)
  case true => exact ⟨fun hh => absurd (show (2 : Int) = 1 from hh) (by decide), fun _ => hsame⟩
  simp only [cond_false]
  refine ⟨fun _ => ?_, fun h => absurd rfl h⟩
  have hw : ((who.toNat : Nat) : Int) = who := by omega
  have hi0 := h.hi
  refine ⟨h.n, by omega, by rw [← h.lq]; simp, h.lc, h.lb, fun f q' hq' => ?_, fun t b hb' => ⟨by have := (h.b t b hb').1; omega, (h.b t b hb').2⟩, fun f p q' hp hq' => ?_, by have := h.ls; simp; omega, by have := h.lt; omega, fun l hl' => ?_, h.ot, fun f t q' p b hq' hp hb' => ?_⟩
  · rcases set_at hq' with ⟨rfl, rfl⟩ | ⟨_, h1⟩
    · obtain ⟨r1, r2⟩ := h.q _ q hq
      refine ⟨by simp; omega, fun l hl' => ?_⟩
      rcases List.mem_append.1 hl' with h3 | h3
      · exact r2 l h3
      · obtain rfl := List.mem_singleton.1 h3
        exact ⟨⟨hb, hl⟩, hw.symm⟩
    · have := h.q f q' h1
      exact ⟨by omega, this.2⟩
  · rcases set_at hq' with ⟨rfl, rfl⟩ | ⟨_, h1⟩
    · have := h.hc _ p q hp hq
      exact ⟨this.1, by simp; omega⟩
    · exact h.hc f p q' hp h1
  · rcases List.mem_append.1 hl' with h3 | h3
    · exact h.os l h3
    · obtain rfl := List.mem_singleton.1 h3
      exact ⟨hb, hl⟩
  · rw [tx_append s]
    rcases set_at hq' with ⟨rfl, rfl⟩ | ⟨hne, h1⟩
    · have h2 := h.hc _ p q hp hq
      show _ ++ _ ++ tx (List.drop p.toNat (q.2.1 ++ [(false, who, to, q.1, text, ())])) _ _ = _
      rw [List.drop_append_of_le_length (by omega), tx_append, ← List.append_assoc, h.h _ t q p b hq hp hb', tx_one, tx_one]
    · rw [h.h f t q' p b h1 hp hb', tx_no (fun hh => hne (by have := hh.1; dsimp only at this; omega)), List.append_nil]

theorem DoorU.MI.come {c : Cfg} {i : Int} {m : Mod} {s k : List Let} (h : MI c i m s k) (hi : i + 1 ≤ 80) (who : Int) : MI c (i + 1) (mCome m who).1 s k := by
  unfold mCome
  cases hc : mCl m who
  · exact h.mono hi
  obtain ⟨q1, q2, q3, q4⟩ := mCl_of hc
  have hq : m.1[who.toNat]? = some (m.1[who.toNat]'(by omega)) := List.getElem?_eq_getElem (by omega)
  have hp : m.2.1[who.toNat]? = some (m.2.1[who.toNat]'(by omega)) := List.getElem?_eq_getElem (by omega)
  generalize m.1[who.toNat]'(by omega) = q at hq
  generalize m.2.1[who.toNat]'(by omega) = p at hp
  rw [hq, hp]
  simp only [cond_true]
  cases hx : decide (p < 0) || decide ((q.2.1.length : Int) ≤ p)
  case true => exact h.mono hi
  simp only [Bool.or_eq_false_iff, decide_eq_false_iff_not] at hx
  have hl : q.2.1[p.toNat]? = some (q.2.1[p.toNat]'(by omega)) := List.getElem?_eq_getElem (by omega)
  have hdrop : q.2.1.drop p.toNat = q.2.1[p.toNat]'(by omega) :: q.2.1.drop (p.toNat + 1) := List.drop_eq_getElem_cons (by omega)
  generalize q.2.1[p.toNat]'(by omega) = l at hl hdrop
  rw [hl]
  simp only [cond_false]
  cases hc2 : mCl m l.2.2.1
  · exact h.mono hi
  obtain ⟨s1, s2, s3, s4⟩ := mCl_of hc2
  have hb : m.2.2.1[l.2.2.1.toNat]? = some (m.2.2.1[l.2.2.1.toNat]'(by omega)) := List.getElem?_eq_getElem (by omega)
  generalize m.2.2.1[l.2.2.1.toNat]'(by omega) = b at hb
  rw [hb]
  simp only [cond_true]
  obtain ⟨r1, r2⟩ := h.q _ q hq
  obtain ⟨r3, r4⟩ := r2 l (List.mem_of_getElem? hl)
  have hi0 := h.hi
  refine ⟨h.n, by omega, h.lq, by rw [← h.lc]; simp, by rw [← h.lb]; simp, fun f q' hq' => ⟨by have := (h.q f q' hq').1; omega, (h.q f q' hq').2⟩, fun t b' hb' => ?_, fun f p' q' hp' hq' => ?_, by have := h.ls; omega, by have := h.lt; omega, h.os, h.ot, fun f t q' p' b' hq' hp' hb' => ?_⟩
  · rcases set_at hb' with ⟨rfl, rfl⟩ | ⟨_, h1⟩
    · obtain ⟨t1, t2⟩ := h.b _ b hb
      refine ⟨by simp; omega, fun x hx => ?_⟩
      rcases List.mem_append.1 hx with h3 | h3
      · exact t2 x h3
      · obtain rfl := List.mem_singleton.1 h3
        exact ⟨r3, by omega⟩
    · have := h.b t b' h1
      exact ⟨by omega, this.2⟩
  · rcases set_at hp' with ⟨rfl, rfl⟩ | ⟨_, h1⟩
    · obtain rfl := Option.some.inj (hq.symm.trans hq')
      omega
    · exact h.hc f p' q' h1 hq'
  · rcases set_at hp' with ⟨rfl, rfl⟩ | ⟨hne, h1⟩
    · obtain rfl := Option.some.inj (hq.symm.trans hq')
      have e1 : (p + 1).toNat = p.toNat + 1 := by omega
      rw [e1]
      rcases set_at hb' with ⟨rfl, rfl⟩ | ⟨hne2, h2⟩
      · have key := h.h _ _ q p b hq hp hb
        rw [hdrop, tx_cons l] at key
        rw [← key, tx_append b]
        simp only [List.append_assoc]
      · have key := h.h _ _ q p b' hq hp h2
        rw [hdrop, tx_cons l, tx_no (fun hh => hne2 (by have := hh.2; omega))] at key
        rw [← key]
        rfl
    · rcases set_at hb' with ⟨rfl, rfl⟩ | ⟨hne2, h2⟩
      · have key := h.h f _ q' p' b hq' h1 hb
        rw [← key, tx_append b, tx_no (l := l) (fun hh => hne (by have := hh.1; omega)), List.append_nil]
      · exact h.h f t q' p' b' hq' h1 h2

theorem DoorU.MI.gone {c : Cfg} {i : Int} {m : Mod} {s k : List Let} (h : MI c i m s k) (hi : i + 1 ≤ 80) (who : Int) : MI c (i + 1) (mGone m who).1 s k := by
  unfold mGone
  cases hc : mCl m who
  · exact h.mono hi
  obtain ⟨q1, q2, q3, q4⟩ := mCl_of hc
  have hq : m.1[who.toNat]? = some (m.1[who.toNat]'(by omega)) := List.getElem?_eq_getElem (by omega)
  have hp : m.2.1[who.toNat]? = some (m.2.1[who.toNat]'(by omega)) := List.getElem?_eq_getElem (by omega)
  generalize m.1[who.toNat]'(by omega) = q at hq
  generalize m.2.1[who.toNat]'(by omega) = p at hp
  rw [hq, hp]
  simp only [cond_true]
  cases hx : decide (p ≤ 0)
  case true => exact h.mono hi
  simp only [decide_eq_false_iff_not] at hx
  obtain ⟨nx, it, ⟨⟩⟩ := q
  simp only [cond_false]
  cases it with
  | nil => exact h.mono hi
  | cons l r =>
    obtain ⟨r1, r2⟩ := h.q _ _ hq
    have r3 := h.hc _ _ _ hp hq
    have hi0 := h.hi
    dsimp only at r1 r2 r3
    have e : IntKind.i64.wrap (p - 1) = p - 1 := IntWalk.i64_in _ (by omega)
    rw [e]
    refine ⟨h.n, by omega, by rw [← h.lq]; simp, by rw [← h.lc]; simp, h.lb, fun f q' hq' => ?_, fun t b' hb' => ⟨by have := (h.b t b' hb').1; omega, (h.b t b' hb').2⟩, fun f p' q' hp' hq' => ?_, by have := h.ls; omega, by have := h.lt; omega, h.os, h.ot, fun f t q' p' b' hq' hp' hb' => ?_⟩
    · rcases set_at hq' with ⟨rfl, rfl⟩ | ⟨_, h1⟩
      · exact ⟨by simp at r1 ⊢; omega, fun x hx => r2 x (List.mem_cons_of_mem _ hx)⟩
      · have := h.q f q' h1
        exact ⟨by omega, this.2⟩
    · rcases set_at hq' with ⟨rfl, rfl⟩ | ⟨hne, h1⟩
      · rcases set_at hp' with ⟨_, rfl⟩ | ⟨hne, _⟩
        · simp at r3 ⊢; omega
        · exact absurd rfl hne
      · rcases set_at hp' with ⟨rfl, _⟩ | ⟨_, h2⟩
        · exact absurd rfl hne
        · exact h.hc f p' q' h2 h1
    · rcases set_at hq' with ⟨rfl, rfl⟩ | ⟨hne, h1⟩
      · rcases set_at hp' with ⟨_, rfl⟩ | ⟨hne, _⟩
        · have key := h.h _ t _ p b' hq hp hb'
          have e1 : p.toNat = (p - 1).toNat + 1 := by omega
          rw [e1] at key
          exact key
        · exact absurd rfl hne
      · rcases set_at hp' with ⟨rfl, _⟩ | ⟨_, h2⟩
        · exact absurd rfl hne
        · exact h.h f t q' p' b' h1 h2 hb'

theorem DoorU.MI.take {c : Cfg} {i : Int} {m : Mod} {s k : List Let} (h : MI c i m s k) (hi : i + 1 ≤ 80) (who : Int) :
    ((mTake m who).2.2 = true → MI c (i + 1) (mTake m who).1 s (k ++ [(mTake m who).2.1])) ∧ ((mTake m who).2.2 = false → MI c (i + 1) (mTake m who).1 s k) := by
  unfold mTake
  cases hc : mCl m who
  · exact ⟨fun hh => (by cases hh), fun _ => h.mono hi⟩
  obtain ⟨q1, q2, q3, q4⟩ := mCl_of hc
  have hb : m.2.2.1[who.toNat]? = some (m.2.2.1[who.toNat]'(by omega)) := List.getElem?_eq_getElem (by omega)
  generalize m.2.2.1[who.toNat]'(by omega) = b at hb
  rw [hb]
  simp only [cond_true]
  cases b with
  | nil => exact ⟨fun hh => (by cases hh), fun _ => h.mono hi⟩
  | cons l r =>
    refine ⟨fun _ => ?_, fun hh => (by cases hh)⟩
    obtain ⟨r1, r2⟩ := h.b _ _ hb
    have r3 := r2 l (List.mem_cons_self ..)
    have hi0 := h.hi
    refine ⟨h.n, by omega, h.lq, h.lc, by rw [← h.lb]; simp, fun f q' hq' => ⟨by have := (h.q f q' hq').1; omega, (h.q f q' hq').2⟩, fun t b' hb' => ?_, h.hc, by have := h.ls; omega, by have := h.lt; simp; omega, h.os, fun x hx => ?_, fun f t q' p' b' hq' hp' hb' => ?_⟩
    · rcases set_at hb' with ⟨rfl, rfl⟩ | ⟨_, h1⟩
      · exact ⟨by simp at r1 ⊢; omega, fun x hx => r2 x (List.mem_cons_of_mem _ hx)⟩
      · have := h.b t b' h1
        exact ⟨by omega, this.2⟩
    · rcases List.mem_append.1 hx with h3 | h3
      · exact h.ot x h3
      · obtain rfl := List.mem_singleton.1 h3
        exact r3.1
    · rw [tx_append k]
      rcases set_at hb' with ⟨rfl, rfl⟩ | ⟨hne, h1⟩
      · have key := h.h f _ q' p' _ hq' hp' hb
        rw [tx_cons l] at key
        rw [← key]
        simp only [List.append_assoc]
      · rw [tx_no (l := l) (fun hh => hne (by have := hh.2; have := r3.2; omega)), List.append_nil]
        exact h.h f t q' p' b' hq' hp' h1
end Go.Proofs.Ytmkfpfnjimmmaaa
