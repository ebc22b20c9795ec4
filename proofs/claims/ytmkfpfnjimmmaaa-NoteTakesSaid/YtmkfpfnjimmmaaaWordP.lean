/- The plain laws of package word. -/
import Derived.Test.YtmkfpfnjimmmaaaWordF
namespace Go.Proofs.Ytmkfpfnjimmmaaa

theorem val_from (l : List UInt8) : ∀ acc : Nat, l.foldl (fun n u => n * 256 + u.toNat) acc = acc * 256 ^ l.length + val l := by
  induction l with
  | nil => intro acc; simp [val]
  | cons u l ih =>
    intro acc
    have h1 := ih (acc * 256 + u.toNat)
    have h2 := ih (0 * 256 + u.toNat)
    unfold val at h2 ⊢
    simp only [List.foldl_cons, List.length_cons, Nat.pow_succ] at *
    rw [h1, h2, Nat.add_mul, Nat.zero_mul, Nat.zero_add, Nat.mul_assoc, Nat.mul_comm 256, Nat.add_assoc]
    rfl

theorem val_cons (u : UInt8) (l : List UInt8) : val (u :: l) = u.toNat * 256 ^ l.length + val l := by
  have := val_from l (0 * 256 + u.toNat)
  rw [Nat.zero_mul, Nat.zero_add] at this
  rw [← this]
  simp [val]

theorem val_putL : ∀ (k n : Nat), n < 256 ^ k → val (putL n k) = n
  | 0, n, h => by simp at h; subst h; rfl
  | k + 1, n, h => by
    have hp : 0 < 256 ^ k := Nat.pow_pos (by decide)
    have h1 : n / 256 ^ k < 256 := Nat.div_lt_of_lt_mul (by rw [Nat.pow_succ] at h; exact h)
    rw [putL_cons, val_cons, length_putL, UInt8.toNat_ofNat', Nat.mod_eq_of_lt h1, ← putL_mod, val_putL k _ (Nat.mod_lt _ hp), Nat.mul_comm]
    exact Nat.div_add_mod n (256 ^ k)

theorem putL_val : ∀ l : List UInt8, putL (val l) l.length = l
  | [] => rfl
  | u :: l => by
    have hl := val_lt l
    have hp : 0 < 256 ^ l.length := Nat.pow_pos (by decide)
    rw [List.length_cons, putL_cons, val_cons]
    have e1 : (u.toNat * 256 ^ l.length + val l) / 256 ^ l.length = u.toNat := by
      rw [Nat.mul_comm, Nat.mul_add_div hp, Nat.div_eq_of_lt hl, Nat.add_zero]
    rw [e1, ← putL_mod, Nat.mul_comm, Nat.mul_add_mod, Nat.mod_eq_of_lt hl, putL_val l]
    simp

theorem putL_snoc (n k : Nat) : putL (n / 256) k ++ [UInt8.ofNat (n % 256)] = putL n (k + 1) := by
  apply List.ext_getElem
  · simp [putL]
  · intro i h1 h2
    simp only [List.length_append, length_putL, List.length_singleton] at h1
    rw [List.getElem_append]
    by_cases hi : i < k
    · rw [dif_pos (by rw [length_putL]; exact hi)]
      simp only [putL, List.getElem_map, List.getElem_range]
      rw [Nat.div_div_eq_div_mul, ← Nat.pow_succ']
      congr 3
      omega
    · rw [dif_neg (by rw [length_putL]; exact hi)]
      have : i = k := by omega
      subst this
      rw [← UInt8.toNat_inj]
      simp [putL]

/-- What is left without its last byte goes into one byte less just if all goes in. -/
theorem putE_parts {n : Nat} {k : Nat} (h1 : 1 ≤ k) (h7 : k ≤ 7) : putE (n / 256) (k : Int) = putE n ((k : Int) + 1) ∧ (putE n ((k : Int) + 1) = 0 ∨ putE n ((k : Int) + 1) = 2) := by
  have e1 : ¬ ((k : Int) < 1 ∨ 8 < (k : Int)) := by omega
  have e2 : ¬ ((k : Int) + 1 < 1 ∨ 8 < (k : Int) + 1) := by omega
  have e3 : ((k : Int) + 1).toNat = k + 1 := by omega
  have e4 : n / 256 < 256 ^ k ↔ n < 256 ^ (k + 1) := by
    rw [Nat.pow_succ, Nat.div_lt_iff_lt_mul (by decide)]
  unfold putE
  rw [if_neg e1, if_neg e2, e3, Int.toNat_natCast]
  by_cases h : n < 256 ^ (k + 1)
  · rw [if_pos h, if_pos (e4.2 h)]; exact ⟨rfl, .inl rfl⟩
  · rw [if_neg h, if_neg (fun h' => h (e4.1 h'))]; exact ⟨rfl, .inr rfl⟩

theorem getE_cases (l : List UInt8) : (getE l = 0 ∧ 1 ≤ l.length ∧ l.length ≤ 8 ∧ getN l = val l) ∨ (getE l = 1 ∧ getN l = 0) := by
  unfold getE getN
  by_cases h : l.length = 0 ∨ 8 < l.length
  · rw [if_pos h, if_pos h]; exact .inr ⟨rfl, rfl⟩
  · rw [if_neg h, if_neg h]; exact .inl ⟨rfl, by omega, by omega, rfl⟩

/-- What was put is got again. -/
theorem get_put {n : Nat} {wide : Int} (h : putE n wide = 0) : getE (putR n wide) = 0 ∧ getN (putR n wide) = n ∧ ((putR n wide).length : Int) = wide := by
  obtain ⟨h1, h8, hn⟩ := putE_zero h
  rw [putR_of_zero h]
  have hl := length_putL n wide.toNat
  have : ¬ ((putL n wide.toNat).length = 0 ∨ 8 < (putL n wide.toNat).length) := by rw [hl]; omega
  unfold getE getN
  rw [if_neg this, if_neg this, val_putL _ _ hn, hl]
  exact ⟨rfl, rfl, by omega⟩

/-- What was got is put again. -/
theorem put_get {l : List UInt8} (h1 : 1 ≤ l.length) (h8 : l.length ≤ 8) : putE (val l) (l.length : Int) = 0 ∧ putR (val l) (l.length : Int) = l := by
  have e : putE (val l) (l.length : Int) = 0 := by
    unfold putE
    rw [if_neg (by omega), Int.toNat_natCast, if_pos (val_lt l)]
  refine ⟨e, ?_⟩
  rw [putR_of_zero e, Int.toNat_natCast, putL_val]

theorem val_u64 {l : List UInt8} (h8 : l.length ≤ 8) : val l < 18446744073709551616 :=
  Nat.lt_of_lt_of_le (val_lt l) (Nat.le_trans (Nat.pow_le_pow_right (by decide) h8) (by decide))

theorem fillE_zero {l : List UInt8} {wide : Int} (h : fillE l wide = 0) : 1 ≤ wide ∧ wide ≤ 255 ∧ (l.length : Int) ≤ wide := by
  unfold fillE at h
  by_cases h1 : wide < 1 ∨ 255 < wide
  · rw [if_pos h1] at h; cases h
  · rw [if_neg h1] at h
    by_cases h2 : wide < l.length
    · rw [if_pos h2] at h; cases h
    · exact ⟨by omega, by omega, by omega⟩

theorem fillR_of_ne {l : List UInt8} {wide : Int} (h : fillE l wide ≠ 0) : fillR l wide = [] := by rw [fillR, if_neg h]
theorem fillR_of_zero {l : List UInt8} {wide : Int} (h : fillE l wide = 0) : fillR l wide = fillL l wide.toNat := by rw [fillR, if_pos h]

/-- What was filled is told again. -/
theorem unfill_fill {l : List UInt8} {wide : Int} (h : fillE l wide = 0) : unfillE (fillR l wide) = 0 ∧ unfillR (fillR l wide) = l ∧ ((fillR l wide).length : Int) = wide + 1 := by
  obtain ⟨h1, h2, h3⟩ := fillE_zero h
  rw [fillR_of_zero h]
  have hl := length_fillL l wide.toNat (by omega)
  have hn : (UInt8.ofNat l.length).toNat = l.length := by rw [UInt8.toNat_ofNat']; exact Nat.mod_eq_of_lt (by omega)
  have e : unfillE (fillL l wide.toNat) = 0 := by
    unfold unfillE
    rw [if_neg (by rw [hl]; omega)]
    simp only [fillL, List.tail_cons, List.headD_cons, hn]
    rw [if_neg (by simp), if_pos (by simp)]
  refine ⟨e, ?_, by rw [hl]; omega⟩
  rw [unfillR, if_pos e]
  simp [fillL, hn]

theorem unfillE_zero {l : List UInt8} (h : unfillE l = 0) : 2 ≤ l.length ∧ l.length ≤ 256 ∧ (l.headD 0).toNat ≤ l.tail.length ∧ (l.tail.drop (l.headD 0).toNat).all (· == 0) = true := by
  unfold unfillE at h
  by_cases h1 : l.length < 2 ∨ 256 < l.length
  · rw [if_pos h1] at h; cases h
  · rw [if_neg h1] at h
    by_cases h2 : l.tail.length < (l.headD 0).toNat
    · rw [if_pos h2] at h; cases h
    · rw [if_neg h2] at h
      by_cases h3 : (l.tail.drop (l.headD 0).toNat).all (· == 0) = true
      · exact ⟨by omega, by omega, by omega, h3⟩
      · rw [if_neg h3] at h; cases h

theorem unfillR_of_ne {l : List UInt8} (h : unfillE l ≠ 0) : unfillR l = [] := by rw [unfillR, if_neg h]

theorem all_zero_eq {l : List UInt8} (h : l.all (· == 0) = true) : l = List.replicate l.length 0 := by
  rw [List.eq_replicate_iff]
  exact ⟨rfl, fun b hb => by simpa using List.all_eq_true.1 h b hb⟩

/-- What was told is filled again. -/
theorem fill_unfill {l : List UInt8} (h : unfillE l = 0) : fillE (unfillR l) ((l.length : Int) - 1) = 0 ∧ fillR (unfillR l) ((l.length : Int) - 1) = l := by
  obtain ⟨h1, h2, h3, h4⟩ := unfillE_zero h
  have hr : unfillR l = l.tail.take (l.headD 0).toNat := by rw [unfillR, if_pos h]
  have ht : l.tail.length = l.length - 1 := by simp
  have hlen : (unfillR l).length = (l.headD 0).toNat := by rw [hr, List.length_take]; omega
  have e : fillE (unfillR l) ((l.length : Int) - 1) = 0 := by
    unfold fillE
    rw [if_neg (by omega), if_neg (by rw [hlen]; omega)]
  refine ⟨e, ?_⟩
  rw [fillR_of_zero e, show ((l.length : Int) - 1).toNat = l.length - 1 by omega]
  unfold fillL
  rw [hlen, hr]
  have hz := all_zero_eq h4
  have hdl : (l.tail.drop (l.headD 0).toNat).length = l.length - 1 - (l.headD 0).toNat := by rw [List.length_drop, ht]
  rw [hdl] at hz
  rw [← hz, List.take_append_drop]
  cases l with
  | nil => simp at h1
  | cons u t => simp

theorem length_unfillR (l : List UInt8) : (unfillR l).length ≤ l.length := by
  unfold unfillR
  by_cases h : unfillE l = 0
  · rw [if_pos h]; simp; omega
  · rw [if_neg h]; simp

end Go.Proofs.Ytmkfpfnjimmmaaa
