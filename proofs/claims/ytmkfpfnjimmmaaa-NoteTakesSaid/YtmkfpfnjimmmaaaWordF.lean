/- Package word in plain Lean: numbers and texts as bytes. Nothing of the dump stands here. -/
import Derived.Test.YtmkfpfnjimmmaaaLib
namespace Go.Proofs.Ytmkfpfnjimmmaaa

def putL (n wide : Nat) : List UInt8 := (List.range wide).map fun j => UInt8.ofNat (n / 256 ^ (wide - 1 - j))
def putE (n : Nat) (wide : Int) : Int := if wide < 1 ∨ 8 < wide then 1 else if n < 256 ^ wide.toNat then 0 else 2
def putR (n : Nat) (wide : Int) : List UInt8 := if putE n wide = 0 then putL n wide.toNat else []

/-- The loop of Put: behind k rounds. -/
def putPart (n wide k : Nat) : List UInt8 := (List.range wide).map fun j => if wide - k ≤ j then UInt8.ofNat (n / 256 ^ (wide - 1 - j)) else 0

theorem length_putPart (n wide k : Nat) : (putPart n wide k).length = wide := by simp [putPart]
theorem length_putL (n wide : Nat) : (putL n wide).length = wide := by simp [putL]
theorem putPart_zero (n wide : Nat) : putPart n wide 0 = List.replicate wide 0 := by
  apply List.ext_getElem
  · simp [putPart]
  · intro i h1 h2
    simp [putPart] at h1 ⊢
    omega
theorem putPart_full (n wide : Nat) : putPart n wide wide = putL n wide := by simp [putPart, putL]
theorem putPart_succ (n wide k : Nat) (hk : k < wide) : (putPart n wide k).set (wide - 1 - k) (UInt8.ofNat (n / 256 ^ k)) = putPart n wide (k + 1) := by
  apply List.ext_getElem
  · simp [putPart]
  · intro i h1 h2
    simp only [putPart, List.length_set, List.length_map, List.length_range] at h1
    rw [List.getElem_set]
    by_cases e : wide - 1 - k = i
    · subst e
      rw [if_pos rfl]
      simp only [putPart, List.getElem_map, List.getElem_range]
      rw [if_pos (by omega)]
      congr 3
      omega
    · rw [if_neg e]
      simp only [putPart, List.getElem_map, List.getElem_range]
      by_cases h : wide - k ≤ i
      · rw [if_pos h, if_pos (by omega)]
      · rw [if_neg h, if_neg (by omega)]

theorem putL_succ (n k : Nat) : putL n (k + 1) = UInt8.ofNat (n / 256 ^ k) :: putL n k := by
  apply List.ext_getElem
  · simp [putL]
  · intro i h1 h2
    cases i with
    | zero => simp [putL]
    | succ i =>
      simp only [putL, List.length_map, List.length_range] at h1
      simp only [putL, List.getElem_map, List.getElem_range, List.getElem_cons_succ]
      congr 3
      omega
theorem ofNat_toNat_int (m : Nat) : ((UInt8.ofNat m).toNat : Int) = (m : Int) % 256 := by simp

def val (l : List UInt8) : Nat := l.foldl (fun n u => n * 256 + u.toNat) 0
theorem val_snoc (l : List UInt8) (u : UInt8) : val (l ++ [u]) = val l * 256 + u.toNat := by simp [val]
theorem val_lt_from (l : List UInt8) : ∀ acc : Nat, l.foldl (fun n u => n * 256 + u.toNat) acc < (acc + 1) * 256 ^ l.length := by
  induction l with
  | nil => intro acc; simp
  | cons u l ih =>
    intro acc
    have h1 := ih (acc * 256 + u.toNat)
    have h2 := u.toNat_lt
    have h3 : (acc * 256 + u.toNat + 1) * 256 ^ l.length ≤ ((acc + 1) * 256) * 256 ^ l.length := Nat.mul_le_mul_right _ (by omega)
    simp only [List.foldl_cons, List.length_cons, Nat.pow_succ]
    rw [Nat.mul_comm (256 ^ l.length) 256, ← Nat.mul_assoc]
    omega
theorem val_lt (l : List UInt8) : val l < 256 ^ l.length := by have := val_lt_from l 0; simpa [val] using this
theorem val_take_succ (l : List UInt8) (k : Nat) (h : k < l.length) : val (l.take (k + 1)) = val (l.take k) * 256 + l[k].toNat := by
  rw [List.take_succ_eq_append_getElem h, val_snoc]


def fillE (text : List UInt8) (wide : Int) : Int := if wide < 1 ∨ 255 < wide then 1 else if wide < text.length then 2 else 0
def fillL (text : List UInt8) (wide : Nat) : List UInt8 := UInt8.ofNat text.length :: (text ++ List.replicate (wide - text.length) 0)
def fillR (text : List UInt8) (wide : Int) : List UInt8 := if fillE text wide = 0 then fillL text wide.toNat else []
theorem length_fillL (text : List UInt8) (wide : Nat) (h : text.length ≤ wide) : (fillL text wide).length = 1 + wide := by simp [fillL]; omega

/-- What stands in a filled text: how many, and what is behind. -/
def unfillE (l : List UInt8) : Int :=
  if l.length < 2 ∨ 256 < l.length then 1 else if l.tail.length < (l.headD 0).toNat then 3 else if (l.tail.drop (l.headD 0).toNat).all (· == 0) then 0 else 3
def unfillR (l : List UInt8) : List UInt8 := if unfillE l = 0 then l.tail.take (l.headD 0).toNat else []

theorem putR_of_ne {n : Nat} {wide : Int} (h : putE n wide ≠ 0) : putR n wide = [] := by rw [putR, if_neg h]

theorem putE_zero {n : Nat} {wide : Int} (h : putE n wide = 0) : 1 ≤ wide ∧ wide ≤ 8 ∧ n < 256 ^ wide.toNat := by
  unfold putE at h
  by_cases h1 : wide < 1 ∨ 8 < wide
  · rw [if_pos h1] at h; cases h
  · rw [if_neg h1] at h
    by_cases h2 : n < 256 ^ wide.toNat
    · exact ⟨by omega, by omega, h2⟩
    · rw [if_neg h2] at h; cases h

theorem putR_of_zero {n : Nat} {wide : Int} (h : putE n wide = 0) : putR n wide = putL n wide.toNat := by rw [putR, if_pos h]

/-- Highest byte first: one more in front. -/
theorem putL_cons (n k : Nat) : putL n (k + 1) = UInt8.ofNat (n / 256 ^ k) :: putL n k := putL_succ n k

theorem putL_mod (n k : Nat) : putL (n % 256 ^ k) k = putL n k := by
  apply List.ext_getElem
  · simp [putL]
  · intro i h1 h2
    simp only [putL, List.length_map, List.length_range] at h1
    simp only [putL, List.getElem_map, List.getElem_range]
    rw [← UInt8.toNat_inj]
    simp only [UInt8.toNat_ofNat']
    have e : 256 ^ k = 256 ^ (k - 1 - i) * (256 * 256 ^ i) := by
      rw [← Nat.mul_assoc, ← Nat.pow_succ, ← Nat.pow_add]
      congr 1
      omega
    rw [e, Nat.mod_mul_right_div_self, Nat.mod_mul_right_mod]

theorem putL_lt : ∀ (k n m : Nat), n < 256 ^ k → m < 256 ^ k → Op.bytesLess (putL n k) (putL m k) = decide (n < m)
  | 0, n, m, hn, hm => by
    simp at hn hm
    subst hn; subst hm
    rfl
  | k + 1, n, m, hn, hm => by
    rw [putL_cons, putL_cons]
    have hp : 0 < 256 ^ k := Nat.pow_pos (by decide)
    have h1 : n / 256 ^ k < 256 := Nat.div_lt_of_lt_mul (by rw [Nat.pow_succ] at hn; exact hn)
    have h2 : m / 256 ^ k < 256 := Nat.div_lt_of_lt_mul (by rw [Nat.pow_succ] at hm; exact hm)
    have ih := putL_lt k (n % 256 ^ k) (m % 256 ^ k) (Nat.mod_lt _ hp) (Nat.mod_lt _ hp)
    rw [putL_mod, putL_mod] at ih
    have e1 := Nat.div_add_mod n (256 ^ k)
    have e2 := Nat.div_add_mod m (256 ^ k)
    have l1 := Nat.mod_lt n hp
    have l2 := Nat.mod_lt m hp
    rw [Op.bytesLess, ih]
    generalize n / 256 ^ k = a at *
    generalize m / 256 ^ k = b at *
    have ea : (UInt8.ofNat a).toNat = a := by rw [UInt8.toNat_ofNat']; exact Nat.mod_eq_of_lt h1
    have eb : (UInt8.ofNat b).toNat = b := by rw [UInt8.toNat_ofNat']; exact Nat.mod_eq_of_lt h2
    have hlt : (UInt8.ofNat a < UInt8.ofNat b) ↔ a < b := by rw [UInt8.lt_iff_toNat_lt, ea, eb]
    have heq : (UInt8.ofNat a = UInt8.ofNat b) ↔ a = b := by rw [← UInt8.toNat_inj, ea, eb]
    rw [Bool.eq_iff_iff]
    simp only [Bool.or_eq_true, decide_eq_true_eq, Bool.and_eq_true, beq_iff_eq, hlt, heq]
    generalize 256 ^ k = p at *
    generalize n % p = r at *
    generalize m % p = q at *
    rcases Nat.lt_trichotomy a b with h | h | h
    · have : p * a + p ≤ p * b := by rw [← Nat.mul_succ]; exact Nat.mul_le_mul_left _ h
      exact ⟨fun _ => by omega, fun _ => .inl h⟩
    · subst h
      exact ⟨fun h => by rcases h with h | ⟨_, h⟩ <;> omega, fun h => .inr ⟨rfl, by omega⟩⟩
    · have : p * b + p ≤ p * a := by rw [← Nat.mul_succ]; exact Nat.mul_le_mul_left _ h
      exact ⟨fun h => by rcases h with h | ⟨h, _⟩ <;> omega, fun _ => by omega⟩

theorem putL_inj : ∀ (k n m : Nat), n < 256 ^ k → m < 256 ^ k → (putL n k = putL m k ↔ n = m) := by
  intro k n m hn hm
  refine ⟨fun h => ?_, fun h => by rw [h]⟩
  have h1 := putL_lt k n m hn hm
  have h2 := putL_lt k m n hm hn
  rw [h] at h1
  rw [h] at h2
  have : decide (n < m) = decide (m < n) := by rw [← h1, ← h2]
  have h3 : (n < m) ↔ (m < n) := by simpa using this
  omega

/-- A number of so many bytes. -/
def getE (l : List UInt8) : Int := if l.length = 0 ∨ 8 < l.length then 1 else 0
def getN (l : List UInt8) : Nat := if l.length = 0 ∨ 8 < l.length then 0 else val l

end Go.Proofs.Ytmkfpfnjimmmaaa
