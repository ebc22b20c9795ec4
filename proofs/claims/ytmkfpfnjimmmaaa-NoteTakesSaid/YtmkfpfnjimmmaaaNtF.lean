/- Why notes are taken as they were put: plain Lean. -/
import Derived.Test.YtmkfpfnjimmmaaaNtC
namespace Go.Proofs.Ytmkfpfnjimmmaaa

theorem val_len2 {l : List UInt8} (h : 2 ≤ l.length) : val (l.take 2) < 65536 := by
  have h1 := val_lt (l.take 2)
  have h3 : (l.take 2).length = 2 := by rw [List.length_take]; omega
  rw [h3] at h1
  omega

theorem numL_put {n : Nat} (h : n < 65536) (r : List UInt8) : numL (putL n 2 ++ r) = some (n, r) := by
  have hl := length_putL n 2
  rw [numL, if_pos (by rw [List.length_append, hl]; omega), List.take_left' hl, List.drop_left' hl, val_putL 2 n (by omega)]

theorem numL_inv {l : List UInt8} {n : Nat} {r : List UInt8} (h : numL l = some (n, r)) : l = putL n 2 ++ r ∧ n < 65536 := by
  unfold numL at h
  by_cases h2 : 2 ≤ l.length
  · rw [if_pos h2] at h
    injection h with h
    injection h with h3 h4
    subst h3 h4
    have hl : (l.take 2).length = 2 := by rw [List.length_take]; omega
    have := putL_val (l.take 2)
    rw [hl] at this
    exact ⟨by rw [this, List.take_append_drop], val_len2 h2⟩
  · rw [if_neg h2] at h; cases h

theorem ptake_put {lim : Nat} (hlim : lim < 65536) : ∀ (ps : List (List UInt8)) (r : List UInt8), (∀ l ∈ ps, l.length ≤ lim) → ptake lim ps.length (partsL ps ++ r) = some (ps, r)
  | [], r, _ => rfl
  | p :: ps, r, h => by
    have hp := h p (List.mem_cons_self ..)
    simp only [List.length_cons, ptake, partsL, List.append_assoc]
    rw [numL_put (by omega)]
    simp only
    rw [if_neg (by omega), if_neg (by rw [List.length_append]; omega), List.drop_left' rfl, ptake_put hlim ps r (fun l hl => h l (List.mem_cons_of_mem _ hl)), List.take_left' rfl]

theorem ptake_inv {lim : Nat} : ∀ (k : Nat) (l : List UInt8) (ps : List (List UInt8)) (r : List UInt8), ptake lim k l = some (ps, r) → l = partsL ps ++ r ∧ ps.length = k ∧ ∀ x ∈ ps, x.length ≤ lim
  | 0, l, ps, r, h => by
    injection h with h
    injection h with h1 h2
    subst h1 h2
    exact ⟨rfl, rfl, fun x hx => by simp at hx⟩
  | k + 1, l, ps, r, h => by
    simp only [ptake] at h
    cases hn : numL l with
    | none => rw [hn] at h; cases h
    | some q =>
      obtain ⟨m, r1⟩ := q
      rw [hn] at h
      simp only at h
      by_cases h1 : lim < m
      · rw [if_pos h1] at h; cases h
      rw [if_neg h1] at h
      by_cases h2 : r1.length < m
      · rw [if_pos h2] at h; cases h
      rw [if_neg h2] at h
      cases hq : ptake lim k (r1.drop m) with
      | none => rw [hq] at h; cases h
      | some q =>
        obtain ⟨qs, r2⟩ := q
        rw [hq] at h
        injection h with h
        injection h with h3 h4
        subst h3 h4
        obtain ⟨e1, e2, e3⟩ := ptake_inv k _ _ _ hq
        obtain ⟨e4, _⟩ := numL_inv hn
        have hl : (r1.take m).length = m := by rw [List.length_take]; omega
        refine ⟨?_, by rw [List.length_cons, e2], fun x hx => ?_⟩
        · rw [e4, partsL, hl, List.append_assoc, List.append_assoc, ← e1, List.take_append_drop]
        · rcases List.mem_cons.1 hx with rfl | hx
          · rw [hl]; omega
          · exact e3 x hx

theorem tpL_put {ps : List (List UInt8)} (r : List UInt8) (h64 : ps.length ≤ 64) (h : ∀ l ∈ ps, l.length ≤ 1024) : tpL (putL ps.length 2 ++ (partsL ps ++ r)) = some (ps, r) := by
  rw [tpL, numL_put (by omega)]
  simp only
  rw [if_neg (by omega), ptake_put (by decide) ps r h]

theorem tpL_inv {l : List UInt8} {ps : List (List UInt8)} {r : List UInt8} (h : tpL l = some (ps, r)) : l = putL ps.length 2 ++ (partsL ps ++ r) := by
  unfold tpL at h
  cases hn : numL l with
  | none => rw [hn] at h; cases h
  | some q =>
    obtain ⟨m, r1⟩ := q
    rw [hn] at h
    simp only at h
    by_cases h1 : 64 < m
    · rw [if_pos h1] at h; cases h
    rw [if_neg h1] at h
    obtain ⟨e1, e2, _⟩ := ptake_inv _ _ _ _ h
    obtain ⟨e3, _⟩ := numL_inv hn
    rw [e3, e2, e1]

def NoteD.bytes (x : NoteD) : List UInt8 := noteL x.kind x.hop x.back x.parts
def NoteD.err (x : NoteD) : Int := noteE x.kind x.hop x.back x.parts

theorem mayN_some {x y : NoteD} (h : mayN x = some y) : y = x ∧ x.err = 0 := by
  unfold mayN at h
  by_cases h1 : noteE x.kind x.hop x.back x.parts = 0
  · rw [if_pos h1] at h; exact ⟨(Option.some.inj h).symm, h1⟩
  · rw [if_neg h1] at h; cases h

theorem toNat_ofNat8 {n : Nat} (h : n < 256) : (UInt8.ofNat n).toNat = n := by rw [UInt8.toNat_ofNat']; exact Nat.mod_eq_of_lt h
theorem ofNat_toNat8 (u : UInt8) : UInt8.ofNat u.toNat = u := by rw [← UInt8.toNat_inj, toNat_ofNat8 u.toNat_lt]

/-- What was put is taken, and nothing else is behind it. -/
theorem takeN_put {x : NoteD} (h : x.err = 0) (more : List UInt8) : takeN (x.bytes ++ more) = if more = [] then some x else none := by
  obtain ⟨kind, pp, hop, back⟩ := x
  unfold NoteD.err at h
  obtain ⟨hk1, hk7, h64, hl, hh, hr⟩ := noteE_zero h
  dsimp only at h hk1 hk7 h64 hl hh hr
  obtain ⟨kd, rfl⟩ := Int.eq_ofNat_of_zero_le (show 0 ≤ kind by omega)
  have ek : (UInt8.ofNat kd).toNat = kd := toNat_ofNat8 (by omega)
  have e : (NoteD.bytes ⟨kd, pp, hop, back⟩) ++ more = UInt8.ofNat kd :: (putL pp.length 2 ++ (partsL pp ++ (tailL kd hop back ++ more))) := by
    unfold NoteD.bytes noteL
    simp [List.append_assoc]
  rw [e, takeN]
  rw [tpL_put _ h64 hl]
  simp only
  rw [ek]
  by_cases h7 : kd = 7
  · subst h7
    obtain ⟨h0, h7'⟩ := hh rfl
    obtain ⟨hp, rfl⟩ := Int.eq_ofNat_of_zero_le h0
    have ehp : (UInt8.ofNat hp).toNat = hp := toNat_ofNat8 (by omega)
    have et : tailL ((7 : Nat) : Int) (hp : Int) back = [UInt8.ofNat hp, if back then 1 else 0] := by rw [tailL, if_pos (by decide)]; rfl
    rw [if_pos rfl, et]
    cases more with
    | nil =>
      rw [List.append_nil, if_pos ⟨rfl, by cases back <;> simp⟩, if_pos rfl, mayN]
      have ebk : ((if back then (1 : UInt8) else 0).toNat == 1) = back := by cases back <;> rfl
      simp only [List.getD_cons_zero, List.getD_cons_succ, ehp, ebk]
      rw [if_pos (show noteE 7 (hp : Int) back pp = 0 from h)]
      rfl
    | cons u more =>
      rw [if_neg (by rintro ⟨h1, _⟩; simp at h1), if_neg (by simp)]
  · obtain ⟨rfl, rfl⟩ := hr (by omega)
    have et : tailL (kd : Int) 0 false = [] := by rw [tailL, if_neg (by omega)]
    rw [if_neg h7, et, List.nil_append]
    cases more with
    | nil => rw [if_pos (show ([] : List UInt8).length = 0 from rfl), if_pos rfl, mayN, if_pos h]
    | cons u more => rw [if_neg (by simp), if_neg (by simp)]

/-- What was taken is put as these bytes. -/
theorem takeN_inv {l : List UInt8} {x : NoteD} (h : takeN l = some x) : x.err = 0 ∧ x.bytes = l := by
  cases l with
  | nil => cases h
  | cons kd r0 =>
    rw [takeN] at h
    cases hq : tpL r0 with
    | none => rw [hq] at h; cases h
    | some q =>
      obtain ⟨pp, r⟩ := q
      rw [hq] at h
      simp only at h
      have e0 := tpL_inv hq
      by_cases h7 : kd.toNat = 7
      · rw [if_pos h7] at h
        by_cases h2 : r.length = 2 ∧ (r.getD 1 0).toNat ≤ 1
        · rw [if_pos h2] at h
          obtain ⟨rfl, he⟩ := mayN_some h
          refine ⟨he, ?_⟩
          obtain ⟨u, v, rfl⟩ : ∃ u v, r = [u, v] := by
            match r, h2.1 with
            | [u, v], _ => exact ⟨u, v, rfl⟩
          simp only [List.getD_cons_zero, List.getD_cons_succ] at h2 ⊢
          unfold NoteD.bytes noteL
          have ek : UInt8.ofNat (7 : Int).toNat = kd := by rw [← ofNat_toNat8 kd, h7]; rfl
          have ev : (if (v.toNat == 1) = true then (1 : UInt8) else 0) = v := by
            by_cases hv : v.toNat = 1
            · rw [if_pos (by simpa using hv), ← UInt8.toNat_inj, hv]; rfl
            · rw [if_neg (by simpa using hv), ← UInt8.toNat_inj]
              have : v.toNat = 0 := by omega
              rw [this]; rfl
          rw [ek, tailL, if_pos rfl, Int.toNat_natCast, ofNat_toNat8, ev, ← e0]
        · rw [if_neg h2] at h; cases h
      · rw [if_neg h7] at h
        by_cases h2 : r.length = 0
        · rw [if_pos h2] at h
          obtain ⟨rfl, he⟩ := mayN_some h
          obtain rfl : r = [] := List.eq_nil_of_length_eq_zero h2
          refine ⟨he, ?_⟩
          unfold NoteD.bytes noteL
          rw [Int.toNat_natCast, ofNat_toNat8, tailL, if_neg (by simp only; omega), ← e0]
        · rw [if_neg h2] at h; cases h

theorem takeN_bytes {x : NoteD} (h : x.err = 0) : takeN x.bytes = some x := by
  have := takeN_put h []
  rwa [List.append_nil, if_pos rfl] at this

theorem takeN_more {x : NoteD} (h : x.err = 0) {more : List UInt8} (hm : more ≠ []) : takeN (x.bytes ++ more) = none := by
  rw [takeN_put h more, if_neg hm]

/-- A note's bytes cut short are none. -/
theorem takeN_short {x : NoteD} (h : x.err = 0) {k : Nat} (hk : k < x.bytes.length) : takeN (x.bytes.take k) = none := by
  cases hq : takeN (x.bytes.take k) with
  | none => rfl
  | some y =>
    obtain ⟨he, hb⟩ := takeN_inv hq
    have h1 := takeN_more he (more := x.bytes.drop k) (by intro e; have := congrArg List.length e; simp at this; omega)
    rw [hb, List.take_append_drop, takeN_bytes h] at h1
    cases h1
end Go.Proofs.Ytmkfpfnjimmmaaa
