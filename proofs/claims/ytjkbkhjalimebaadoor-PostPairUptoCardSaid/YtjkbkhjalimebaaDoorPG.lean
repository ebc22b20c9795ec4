/- The words of packages word, mac, key. Printed by gen.py. -/
import Derived.Test.YtjkbkhjalimebaaDoorPF
namespace Go.Proofs.YtjkbkhjalimebaaDoor
open Go.RowKit DoorU
set_option linter.unusedVariables false
set_option linter.unusedSimpArgs false
set_option maxRecDepth 100000
set_option maxHeartbeats 1000000

namespace DoorU
def putI (n : Int) (w : Nat) : List Int := (List.range w).map fun j => n / 256 ^ (w - 1 - j) % 256
def putP (n : Int) (w k : Nat) : List Int := (List.range w).map fun j => if w - k ≤ j then n / 256 ^ (w - 1 - j) % 256 else 0
def putE (n w : Int) : Int := if w < 1 then 1 else if 8 < w then 1 else if w < 8 then (if n / 2 ^ (8 * w).toNat = 0 then 0 else 2) else 0
def putR (n w : Int) : List Int := if putE n w = 0 then putI n w.toNat else []
def getI (l : List Int) : Int := l.foldl (fun a x => a * 256 + x) 0
def getE (l : List Int) : Int := if l.length < 1 then 1 else if 8 < l.length then 1 else 0
def getR (l : List Int) : Int := if getE l = 0 then getI l else 0
def blockF (key : List Int) : List Int := (if 64 < key.length then sumF key else key) ++ List.replicate (64 - (if 64 < key.length then sumF key else key).length) 0
def maskF (k : List Int) (x : Int) : List Int := k.map fun a => xorI .u8 a x
def hashF (pp : List (List Int)) : List Int := sumF pp.flatten
def tagF (key b : List Int) : List Int := sumF (maskF (blockF key) 92 ++ sumF (maskF (blockF key) 54 ++ b))
def up1 (n : Nat) : Int := n + 1
def serversF (c : Cfg) : Int := IntKind.i64.wrap (c.2.1 + c.2.2.1)
def nodesF (c : Cfg) : Int := IntKind.i64.wrap (IntKind.i64.wrap (1 + serversF c) + c.2.2.2.1)
def w8 (n : Int) : Int := IntKind.u8.wrap n
def madeF (c : Cfg) (what : Int) (ns : List Int) : List Int := tagF c.1 (what :: ns.map w8)
def minI (a b : Int) : Int := if b < a then b else a
def maxI (a b : Int) : Int := if a < b then b else a
def pairF (c : Cfg) (a b : Int) : List Int := madeF c 1 [minI a b, maxI a b]
def wit (n a b : Int) : Bool := decide (a ≤ n) && decide (n ≤ b)
def okC (c : Cfg) : Bool := decide (c.1.length ≤ 64) && (wit c.2.1 1 8 && (wit c.2.2.1 0 8 && (wit c.2.2.2.1 1 8 && (wit c.2.2.2.2.1 1 64 && (wit c.2.2.2.2.2.1 1 10000 && (!decide (c.2.2.2.2.2.2.1 ≤ c.2.2.2.2.2.1) && (decide (c.2.2.2.2.2.2.1 ≤ 10000) && (wit c.2.2.2.2.2.2.2.1 1 10000 && (wit c.2.2.2.2.2.2.2.2.1 1 64 && (decide (1 ≤ c.2.2.2.2.2.2.2.2.2.1) && decide (1 ≤ c.2.2.2.2.2.2.2.2.2.2.1)))))))))))
def kchkF (c : Cfg) : Int := if okC c then 0 else 1
def firstF (c : Cfg) : Sta := if okC c then (1, c.2.2.2.2.2.2.2.2.2.1, (List.range c.2.1.toNat).map up1, ()) else (0, 0, [], ())
def isNodeF (c : Cfg) (n : Int) : Bool := decide (0 ≤ n) && decide (n < nodesF c)
end DoorU
abbrev vSt : Sh := .agg (shOf false tSt)
def S_put : Spec := ⟨.pair nW (.pair nI .unit), .pair (.tup (.pair vY (.pair nI .unit))) .unit, fun (x : Int × Int × Unit) => 0 ≤ x.1 ∧ x.1 < 18446744073709551616, fun (x : Int × Int × Unit) => (((putR x.1 x.2.1, putE x.1 x.2.1, ()), ()) : (List Int × Int × Unit) × Unit)⟩
def A_put (x : Int × Int × Unit) : Nat → Option LA
  | 0 => some ⟨[27, 6], [], .pair nI (.pair oY .unit), fun (v : Int × List Int × Unit) => 0 ≤ v.1 ∧ v.1 ≤ x.2.1 ∧ v.2.1 = putP x.1 x.2.1.toNat v.1.toNat, fun (v : Int × List Int × Unit) => (x.2.1 - v.1).toNat⟩
  | _ => none
def S_get : Spec := ⟨.pair lY .unit, .pair (.tup (.pair nW (.pair nI .unit))) .unit, fun (x : List Int × Unit) => byt x.1, fun (x : List Int × Unit) => (((getR x.1, getE x.1, ()), ()) : (Int × Int × Unit) × Unit)⟩
def A_get (x : List Int × Unit) : Nat → Option LA
  | 0 => some ⟨[17, 4], [], .pair nI (.pair nW .unit), fun (v : Int × Int × Unit) => 0 ≤ v.1 ∧ v.1 ≤ (x.1.length : Nat) ∧ v.2.1 = getI (x.1.take v.1.toNat), fun (v : Int × Int × Unit) => ((x.1.length : Nat) - v.1).toNat⟩
  | _ => none
def S_block : Spec := ⟨.pair lY .unit, .pair (.arr tY) .unit, fun (x : List Int × Unit) => x.1.length ≤ 1000000000, fun (x : List Int × Unit) => ((blockF x.1, ()) : List Int × Unit)⟩
def S_mask : Spec := ⟨.pair (.arr tY) (.pair nY .unit), .pair vY .unit, fun (x : List Int × Int × Unit) => x.1.length = 64, fun (x : List Int × Int × Unit) => ((maskF x.1 x.2.1, ()) : List Int × Unit)⟩
def A_mask (x : List Int × Int × Unit) : Nat → Option LA
  | 0 => some ⟨[10, 5], [], .pair nI (.pair oY .unit), fun (v : Int × List Int × Unit) => 0 ≤ v.1 ∧ v.1 ≤ 64 ∧ v.2.1 = maskF (x.1.take v.1.toNat) x.2.1 ++ List.replicate (64 - v.1.toNat) 0, fun (v : Int × List Int × Unit) => (64 - v.1).toNat⟩
  | _ => none
def S_hash : Spec := ⟨.pair lYs .unit, .pair oY .unit, fun (x : List (List Int) × Unit) => x.1.flatten.length ≤ 1000000000, fun (x : List (List Int) × Unit) => ((hashF x.1, ()) : List Int × Unit)⟩
def S_tagV : Spec := ⟨.pair vY (.pair vY .unit), .pair oY .unit, fun (x : List Int × List Int × Unit) => x.1.length ≤ 1000000000 ∧ x.2.1.length ≤ 100000000, fun (x : List Int × List Int × Unit) => ((tagF x.1 x.2.1, ()) : List Int × Unit)⟩
def S_tag : Spec := ⟨.pair lY (.pair lY .unit), .pair oY .unit, fun (x : List Int × List Int × Unit) => x.1.length ≤ 1000000000 ∧ x.2.1.length ≤ 100000000, fun (x : List Int × List Int × Unit) => ((tagF x.1 x.2.1, ()) : List Int × Unit)⟩
def S_mchk : Spec := ⟨.pair lY (.pair lY (.pair lY .unit)), .pair nI .unit, fun (x : List Int × List Int × List Int × Unit) => x.1.length ≤ 1000000000 ∧ x.2.1.length ≤ 100000000 ∧ byt x.2.2.1, fun (x : List Int × List Int × List Int × Unit) => ((if x.2.2.1 = tagF x.1 x.2.1 then 0 else 4, ()) : Int × Unit)⟩
def S_kwit : Spec := ⟨.pair nI (.pair nI (.pair nI .unit)), .pair .bool .unit, fun _ => True, fun (x : Int × Int × Int × Unit) => ((wit x.1 x.2.1 x.2.2.1, ()) : Bool × Unit)⟩
def S_kchk : Spec := ⟨.pair aC .unit, .pair nI .unit, fun _ => True, fun (x : Cfg × Unit) => ((kchkF x.1, ()) : Int × Unit)⟩
def S_serv : Spec := ⟨.pair aC .unit, .pair nI .unit, fun _ => True, fun (x : Cfg × Unit) => ((serversF x.1, ()) : Int × Unit)⟩
def S_nodes : Spec := ⟨.pair aC .unit, .pair nI .unit, fun _ => True, fun (x : Cfg × Unit) => ((nodesF x.1, ()) : Int × Unit)⟩
def S_made : Spec := ⟨.pair aC (.pair nY (.pair lI .unit)), .pair oY .unit, fun (x : Cfg × Int × List Int × Unit) => x.1.1.length ≤ 1000000000 ∧ x.2.2.1.length ≤ 1000, fun (x : Cfg × Int × List Int × Unit) => ((madeF x.1 x.2.1 x.2.2.1, ()) : List Int × Unit)⟩
def A_made (x : Cfg × Int × List Int × Unit) : Nat → Option LA
  | 0 => some ⟨[14, 7], [], .pair nI (.pair oY .unit), fun (v : Int × List Int × Unit) => 0 ≤ v.1 ∧ v.1 ≤ (x.2.2.1.length : Nat) ∧ v.2.1 = x.2.1 :: (x.2.2.1.take v.1.toNat).map w8, fun (v : Int × List Int × Unit) => ((x.2.2.1.length : Nat) - v.1).toNat⟩
  | _ => none
def S_pair : Spec := ⟨.pair aC (.pair nI (.pair nI .unit)), .pair oY .unit, fun (x : Cfg × Int × Int × Unit) => x.1.1.length ≤ 1000000000, fun (x : Cfg × Int × Int × Unit) => ((pairF x.1 x.2.1 x.2.2.1, ()) : List Int × Unit)⟩
def S_first : Spec := ⟨.pair aC .unit, .pair vSt .unit, fun _ => True, fun (x : Cfg × Unit) => ((firstF x.1, ()) : Sta × Unit)⟩
def A_first (x : Cfg × Unit) : Nat → Option LA
  | 0 => some ⟨[14, 3], [(3003, tI, 3)], .pair nI (.pair (.var 28 (.pair nW (.pair nW (.pair oI .unit)))) .unit), fun (v : Int × (Int × Int × List Int × Unit) × Unit) => 0 ≤ v.1 ∧ v.1 ≤ x.1.2.1 ∧ v.2.1 = (1, x.1.2.2.2.2.2.2.2.2.2.1, (List.range v.1.toNat).map up1, ()), fun (v : Int × (Int × Int × List Int × Unit) × Unit) => (x.1.2.1 - v.1).toNat⟩
  | _ => none
def S_isN : Spec := ⟨.pair aC (.pair nI .unit), .pair .bool .unit, fun _ => True, fun (x : Cfg × Int × Unit) => ((isNodeF x.1 x.2.1, ()) : Bool × Unit)⟩

namespace DoorU
theorem shr_of {n : Int} (h : 0 ≤ n) {k : Int} (hk0 : 0 ≤ k) (hk : k ≤ 64) : shrI .u64 n k = n / 2 ^ k.toNat := by
  unfold shrI
  rw [show min k.toNat IntKind.u64.bits = k.toNat from Nat.min_eq_left (by show k.toNat ≤ 64; omega)]
  exact Int.fdiv_eq_ediv_of_nonneg _ (Int.le_of_lt (Int.pow_pos (by decide)))
theorem w8_of (n : Int) : IntKind.u8.wrap n = n % 256 := by simp [IntKind.wrap, IntKind.signed, IntKind.bits]
theorem pow256 (k : Nat) : (2 : Int) ^ (8 * k) = 256 ^ k := by rw [Int.pow_mul]; rfl
theorem putP_len (n : Int) (w k : Nat) : (putP n w k).length = w := by simp [putP]
theorem putI_len (n : Int) (w : Nat) : (putI n w).length = w := by simp [putI]
theorem putP_zero (n : Int) (w : Nat) : putP n w 0 = List.replicate w 0 := by
  apply List.ext_getElem
  · simp [putP]
  · intro i h1 h2
    simp only [putP, List.getElem_map, List.getElem_range, List.getElem_replicate]
    rw [if_neg]
    simp [putP] at h1
    omega
theorem putP_full (n : Int) (w : Nat) : putP n w w = putI n w := by simp [putP, putI]
theorem putP_succ (n : Int) {w k : Nat} (hk : k < w) : (putP n w k).set (w - 1 - k) (n / 256 ^ k % 256) = putP n w (k + 1) := by
  apply List.ext_getElem
  · simp [putP]
  · intro i h1 h2
    have hi : i < w := by simpa [putP] using h2
    simp only [putP, List.getElem_set, List.getElem_map, List.getElem_range]
    by_cases e : w - 1 - k = i
    · rw [if_pos e, if_pos (by omega), show w - 1 - i = k by omega]
    · rw [if_neg e]
      by_cases h : w - k ≤ i
      · rw [if_pos h, if_pos (by omega)]
      · rw [if_neg h, if_neg (by omega)]
theorem or_of {a c : Int} (ha : 0 ≤ a) (ha2 : a < 72057594037927936) (hc : 0 ≤ c) (hc2 : c < 256) : orI .u64 (shlI .u64 a 8) (IntKind.u64.wrap c) = a * 256 + c := by
  obtain ⟨A, rfl⟩ := Int.eq_ofNat_of_zero_le ha
  obtain ⟨C, rfl⟩ := Int.eq_ofNat_of_zero_le hc
  have h1 : shlI .u64 (A : Int) 8 = ((A * 256 : Nat) : Int) := by
    unfold shlI
    rw [show min (8 : Int).toNat IntKind.u64.bits = 8 from rfl, IntWalk.u64_in _ ⟨by omega, by omega⟩]
    push_cast; rfl
  have h2 : IntKind.u64.wrap (C : Int) = (C : Int) := IntWalk.u64_in _ ⟨by omega, by omega⟩
  rw [h1, h2]
  unfold orI
  have h3 : (BitVec.ofInt IntKind.u64.bits ((A * 256 : Nat) : Int) ||| BitVec.ofInt IntKind.u64.bits (C : Int)).toNat = A * 256 + C := by
    rw [BitVec.toNat_or, BitVec.ofInt_natCast, BitVec.ofInt_natCast, BitVec.toNat_ofNat, BitVec.toNat_ofNat]
    show (A * 256) % 2 ^ 64 ||| C % 2 ^ 64 = _
    rw [Nat.mod_eq_of_lt (by omega), Nat.mod_eq_of_lt (by omega)]
    have := Nat.shiftLeft_add_eq_or_of_lt (i := 8) (b := C) (by omega : C < 2 ^ 8) A
    rw [Nat.shiftLeft_eq] at this
    exact this.symm
  rw [h3, IntWalk.u64_in _ ⟨by omega, by omega⟩]
  push_cast; rfl
theorem getI_snoc (l : List Int) (x : Int) : getI (l ++ [x]) = getI l * 256 + x := by simp [getI]
theorem getI_fold : ∀ (l : List Int) (a : Int), byt l → 0 ≤ a → 0 ≤ l.foldl (fun a x => a * 256 + x) a ∧ l.foldl (fun a x => a * 256 + x) a < (a + 1) * 256 ^ l.length
  | [], a, _, h => ⟨h, by simp only [List.foldl_nil, List.length_nil, Int.pow_zero]; omega⟩
  | x :: l, a, hb, h => by
    have hx := hb x (List.mem_cons_self ..)
    have ih := getI_fold l (a * 256 + x) (fun y hy => hb y (List.mem_cons_of_mem _ hy)) (by omega)
    refine ⟨ih.1, Int.lt_of_lt_of_le ih.2 ?_⟩
    rw [List.length_cons, Int.pow_succ, Int.mul_comm (256 ^ l.length) 256, ← Int.mul_assoc]
    exact Int.mul_le_mul_of_nonneg_right (by omega) (Int.le_of_lt (Int.pow_pos (by decide)))
theorem getI_bd (l : List Int) (h : byt l) : 0 ≤ getI l ∧ getI l < 256 ^ l.length := by
  have := getI_fold l 0 h (Int.le_refl 0)
  rw [Int.zero_add, Int.one_mul] at this
  exact this
theorem copL {K : List Int} (h : K.length ≤ 64) : [] ++ List.take (min 64 K.length) K ++ List.drop (0 + min 64 K.length) (List.replicate 64 (0 : Int)) = K ++ List.replicate (64 - K.length) 0 := by
  rw [Nat.min_eq_right h, List.take_length, Nat.zero_add, List.drop_replicate, List.nil_append]
theorem blockF_len (k : List Int) : (blockF k).length = 64 := by
  unfold blockF
  rw [List.length_append, List.length_replicate]
  by_cases h : 64 < k.length
  · rw [if_pos h, sumF_len]
  · rw [if_neg h]; omega
theorem maskF_len (k : List Int) (x : Int) : (maskF k x).length = k.length := List.length_map _
theorem set_rep (A : List Int) (m : Nat) (v : Int) : (A ++ List.replicate (m + 1) 0).set A.length v = (A ++ [v]) ++ List.replicate m 0 := by
  rw [List.set_append_right _ _ (Nat.le_refl _), Nat.sub_self, List.replicate_succ, List.set_cons_zero, List.append_assoc]
  rfl
theorem w4_byt (n : Int) : byt (w4 n) := fun x hx => by
  simp only [w4, List.mem_cons, List.not_mem_nil, or_false] at hx
  rcases hx with rfl | rfl | rfl | rfl <;> (rw [w8_of]; omega)
theorem outP_byt (hs : List Int) : ∀ n, byt (outP hs n)
  | 0 => fun x hx => by cases hx
  | n + 1 => fun x hx => (List.mem_append.1 hx).elim (outP_byt hs n x) (w4_byt _ x)
theorem sumF_byt (l : List Int) : byt (sumF l) := outP_byt _ 8
theorem tagF_byt (k b : List Int) : byt (tagF k b) := sumF_byt _
theorem tagF_len (k b : List Int) : (tagF k b).length = 32 := sumF_len _
end DoorU
def PutRest (n w : Int) : Prop :=
  (0 : Int) ≤ w ∧ w ≤ w ∧ Int.ofNat (nat_lit 1) * w ≤ (281474976710656 : Int) ∧ w ≤ (140737488351232 : Int) ∧ ((0 : Int) ≤ (0 : Int) ∧ (0 : Int) ≤ w ∧ List.replicate (Int.toNat w) (0 : Int) = putP n (Int.toNat w) (Int.toNat (0 : Int))) ∧ ∀ (v : Int × List Int × Unit), (0 : Int) ≤ v.fst ∧ v.fst ≤ w ∧ v.2.fst = putP n (Int.toNat w) (Int.toNat v.fst) →
  bif decide (v.fst < (↑(List.length (List.replicate (Int.toNat w) (0 : Int))) : Int)) then (0 : Int) ≤ IntKind.wrap IntKind.i64 ((8 : Int) * v.fst) ∧ (0 : Int) ≤ IntKind.wrap IntKind.i64 (IntKind.wrap IntKind.i64 (w - (1 : Int)) - v.fst) ∧ IntKind.wrap IntKind.i64 (IntKind.wrap IntKind.i64 (w - (1 : Int)) - v.fst) < (↑(List.length v.2.fst) : Int) ∧ Int.toNat (IntKind.wrap IntKind.i64 (IntKind.wrap IntKind.i64 (w - (1 : Int)) - v.fst)) < List.length v.2.fst ∧ ∀ (x0 : Int), v.2.fst[Int.toNat (IntKind.wrap IntKind.i64 (IntKind.wrap IntKind.i64 (w - (1 : Int)) - v.fst))]? = some x0 →
  ((0 : Int) ≤ IntKind.wrap IntKind.i64 (v.fst + (1 : Int)) ∧ IntKind.wrap IntKind.i64 (v.fst + (1 : Int)) ≤ w ∧ List.set v.2.fst (Int.toNat (IntKind.wrap IntKind.i64 (IntKind.wrap IntKind.i64 (w - (1 : Int)) - v.fst))) (IntKind.wrap IntKind.u8 (shrI IntKind.u64 n (IntKind.wrap IntKind.i64 ((8 : Int) * v.fst)))) = putP n (Int.toNat w) (Int.toNat (IntKind.wrap IntKind.i64 (v.fst + (1 : Int))))) ∧ Int.toNat (w - IntKind.wrap IntKind.i64 (v.fst + (1 : Int))) < Int.toNat (w - v.fst) else ((v.2.fst, (0 : Int), ()), ()) = ((putR n w, putE n w, ()), ())
theorem put_rest {n w : Int} (hn0 : 0 ≤ n) (h1 : 1 ≤ w) (h2 : w ≤ 8) (hE : putE n w = 0) : PutRest n w := by
  unfold PutRest
  refine ⟨by omega, Int.le_refl _, by show (1 : Int) * w ≤ _; omega, by omega, ⟨Int.le_refl 0, by omega, (putP_zero n w.toNat).symm⟩, ?_⟩
  rintro ⟨i, r, ⟨⟩⟩ ⟨q0, q1, hr⟩
  dsimp only at q0 q1 hr ⊢
  rw [List.length_replicate, show ((w.toNat : Nat) : Int) = w by omega]
  have rl : r.length = w.toNat := by rw [hr, putP_len]
  have wi : IntKind.i64.wrap (i + 1) = i + 1 := IntWalk.i64_in _ (by omega)
  by_cases hi : i < w
  · rw [decide_eq_true hi, cond_true]
    have v1 : IntKind.i64.wrap (8 * i) = 8 * i := IntWalk.i64_in _ (by omega)
    have v2 : IntKind.i64.wrap (w - 1) = w - 1 := IntWalk.i64_in _ (by omega)
    have v3 : IntKind.i64.wrap (w - 1 - i) = w - 1 - i := IntWalk.i64_in _ (by omega)
    rw [wi, v1, v2, v3, rl]
    refine ⟨by omega, by omega, by omega, by omega, fun x0 _ => ⟨⟨by omega, by omega, ?_⟩, by omega⟩⟩
    rw [shr_of hn0 (by omega) (by omega), w8_of, show (8 * i).toNat = 8 * i.toNat by omega, pow256, hr, show (w - 1 - i).toNat = w.toNat - 1 - i.toNat by omega, show (i + 1).toNat = i.toNat + 1 by omega]
    exact putP_succ n (by omega)
  · rw [decide_eq_false hi, cond_false]
    obtain rfl : i = w := by omega
    rw [hr, putP_full, putR, if_pos hE, hE]

theorem vc_put : VC Tryd.prog Tryd.f41 (bodyOf Tryd.f41) S_put [] A_put = (∀ (x : Int × Int × Unit), (0 : Int) ≤ x.fst ∧ x.fst < (18446744073709551616 : Int) →
  bif decide (x.2.fst < (1 : Int)) then (([], (1 : Int), ()), ()) = ((putR x.fst x.2.fst, putE x.fst x.2.fst, ()), ()) else bif decide ((8 : Int) < x.2.fst) then (([], (1 : Int), ()), ()) = ((putR x.fst x.2.fst, putE x.fst x.2.fst, ()), ()) else bif decide (x.2.fst < (8 : Int)) then (0 : Int) ≤ IntKind.wrap IntKind.i64 ((8 : Int) * x.2.fst) ∧ bif shrI IntKind.u64 x.fst (IntKind.wrap IntKind.i64 ((8 : Int) * x.2.fst)) != (0 : Int) then (([], (2 : Int), ()), ()) = ((putR x.fst x.2.fst, putE x.fst x.2.fst, ()), ()) else (0 : Int) ≤ x.2.fst ∧ x.2.fst ≤ x.2.fst ∧ Int.ofNat (nat_lit 1) * x.2.fst ≤ (281474976710656 : Int) ∧ x.2.fst ≤ (140737488351232 : Int) ∧ ((0 : Int) ≤ (0 : Int) ∧ (0 : Int) ≤ x.2.fst ∧ List.replicate (Int.toNat x.2.fst) (0 : Int) = putP x.fst (Int.toNat x.2.fst) (Int.toNat (0 : Int))) ∧ ∀ (v : Int × List Int × Unit), (0 : Int) ≤ v.fst ∧ v.fst ≤ x.2.fst ∧ v.2.fst = putP x.fst (Int.toNat x.2.fst) (Int.toNat v.fst) →
  bif decide (v.fst < (↑(List.length (List.replicate (Int.toNat x.2.fst) (0 : Int))) : Int)) then (0 : Int) ≤ IntKind.wrap IntKind.i64 ((8 : Int) * v.fst) ∧ (0 : Int) ≤ IntKind.wrap IntKind.i64 (IntKind.wrap IntKind.i64 (x.2.fst - (1 : Int)) - v.fst) ∧ IntKind.wrap IntKind.i64 (IntKind.wrap IntKind.i64 (x.2.fst - (1 : Int)) - v.fst) < (↑(List.length v.2.fst) : Int) ∧ Int.toNat (IntKind.wrap IntKind.i64 (IntKind.wrap IntKind.i64 (x.2.fst - (1 : Int)) - v.fst)) < List.length v.2.fst ∧ ∀ (x0 : Int), v.2.fst[Int.toNat (IntKind.wrap IntKind.i64 (IntKind.wrap IntKind.i64 (x.2.fst - (1 : Int)) - v.fst))]? = some x0 →
  ((0 : Int) ≤ IntKind.wrap IntKind.i64 (v.fst + (1 : Int)) ∧ IntKind.wrap IntKind.i64 (v.fst + (1 : Int)) ≤ x.2.fst ∧ List.set v.2.fst (Int.toNat (IntKind.wrap IntKind.i64 (IntKind.wrap IntKind.i64 (x.2.fst - (1 : Int)) - v.fst))) (IntKind.wrap IntKind.u8 (shrI IntKind.u64 x.fst (IntKind.wrap IntKind.i64 ((8 : Int) * v.fst)))) = putP x.fst (Int.toNat x.2.fst) (Int.toNat (IntKind.wrap IntKind.i64 (v.fst + (1 : Int))))) ∧ Int.toNat (x.2.fst - IntKind.wrap IntKind.i64 (v.fst + (1 : Int))) < Int.toNat (x.2.fst - v.fst) else ((v.2.fst, (0 : Int), ()), ()) = ((putR x.fst x.2.fst, putE x.fst x.2.fst, ()), ()) else (0 : Int) ≤ x.2.fst ∧ x.2.fst ≤ x.2.fst ∧ Int.ofNat (nat_lit 1) * x.2.fst ≤ (281474976710656 : Int) ∧ x.2.fst ≤ (140737488351232 : Int) ∧ ((0 : Int) ≤ (0 : Int) ∧ (0 : Int) ≤ x.2.fst ∧ List.replicate (Int.toNat x.2.fst) (0 : Int) = putP x.fst (Int.toNat x.2.fst) (Int.toNat (0 : Int))) ∧ ∀ (v : Int × List Int × Unit), (0 : Int) ≤ v.fst ∧ v.fst ≤ x.2.fst ∧ v.2.fst = putP x.fst (Int.toNat x.2.fst) (Int.toNat v.fst) →
  bif decide (v.fst < (↑(List.length (List.replicate (Int.toNat x.2.fst) (0 : Int))) : Int)) then (0 : Int) ≤ IntKind.wrap IntKind.i64 ((8 : Int) * v.fst) ∧ (0 : Int) ≤ IntKind.wrap IntKind.i64 (IntKind.wrap IntKind.i64 (x.2.fst - (1 : Int)) - v.fst) ∧ IntKind.wrap IntKind.i64 (IntKind.wrap IntKind.i64 (x.2.fst - (1 : Int)) - v.fst) < (↑(List.length v.2.fst) : Int) ∧ Int.toNat (IntKind.wrap IntKind.i64 (IntKind.wrap IntKind.i64 (x.2.fst - (1 : Int)) - v.fst)) < List.length v.2.fst ∧ ∀ (x0 : Int), v.2.fst[Int.toNat (IntKind.wrap IntKind.i64 (IntKind.wrap IntKind.i64 (x.2.fst - (1 : Int)) - v.fst))]? = some x0 →
  ((0 : Int) ≤ IntKind.wrap IntKind.i64 (v.fst + (1 : Int)) ∧ IntKind.wrap IntKind.i64 (v.fst + (1 : Int)) ≤ x.2.fst ∧ List.set v.2.fst (Int.toNat (IntKind.wrap IntKind.i64 (IntKind.wrap IntKind.i64 (x.2.fst - (1 : Int)) - v.fst))) (IntKind.wrap IntKind.u8 (shrI IntKind.u64 x.fst (IntKind.wrap IntKind.i64 ((8 : Int) * v.fst)))) = putP x.fst (Int.toNat x.2.fst) (Int.toNat (IntKind.wrap IntKind.i64 (v.fst + (1 : Int))))) ∧ Int.toNat (x.2.fst - IntKind.wrap IntKind.i64 (v.fst + (1 : Int))) < Int.toNat (x.2.fst - v.fst) else ((v.2.fst, (0 : Int), ()), ()) = ((putR x.fst x.2.fst, putE x.fst x.2.fst, ()), ())) := by kernel_rfl
theorem en_put (us : Array Value) (u : World) : (callFunc 41 us).run Tryd.prog u = .ok (.enter 41 us) u := by kernel_rfl
theorem sc_put : SC Tryd.prog 41 S_put := by
  refine SC.of Tryd.func41 (c := bodyOf Tryd.f41) (by kernel_rfl) (by kernel_rfl) (fun x => (by decide : (2:Nat) ≤ Tryd.f41.ntmps)) DOk.nil (Eq.mpr vc_put ?_)
  rintro ⟨n, w, ⟨⟩⟩ ⟨hn0, hn1⟩
  dsimp only at hn0 hn1 ⊢
  by_cases h1 : w < 1
  · rw [decide_eq_true h1, cond_true]
    simp [putR, putE, h1]
  rw [decide_eq_false h1, cond_false]
  by_cases h2 : 8 < w
  · rw [decide_eq_true h2, cond_true]
    simp [putR, putE, h1, h2]
  rw [decide_eq_false h2, cond_false]
  have v8 : IntKind.i64.wrap (8 * w) = 8 * w := IntWalk.i64_in _ (by omega)
  by_cases h3 : w < 8
  · rw [decide_eq_true h3, cond_true, v8, shr_of hn0 (by omega) (by omega)]
    refine ⟨by omega, ?_⟩
    by_cases h4 : n / 2 ^ (8 * w).toNat = 0
    · rw [h4, show ((0 : Int) != 0) = false from rfl, cond_false]
      exact put_rest hn0 (by omega) (by omega) (by simp only [putE, if_neg h1, if_neg h2, if_pos h3, if_pos h4])
    · rw [show (n / 2 ^ (8 * w).toNat != 0) = true from bne_iff_ne.2 h4, cond_true]
      have e : putE n w = 2 := by simp only [putE, if_neg h1, if_neg h2, if_pos h3, if_neg h4]
      rw [putR, e]
      rfl
  · rw [decide_eq_false h3, cond_false]
    exact put_rest hn0 (by omega) (by omega) (by simp only [putE, if_neg h1, if_neg h2, if_neg h3])

theorem vc_get : VC Tryd.prog Tryd.f96 (bodyOf Tryd.f96) S_get [] A_get = (∀ (x : List Int × Unit), (∀ (x_1 : Int), x_1 ∈ x.fst →
  (0 : Int) ≤ x_1 ∧ x_1 < (256 : Int)) →
  List.length x.fst ≤ (9223372036854775807 : Nat) →
  List.length x.fst ≤ (9223372036854775807 : Nat) →
  bif decide ((↑(List.length x.fst) : Int) < (1 : Int)) then (((0 : Int), (1 : Int), ()), ()) = ((getR x.fst, getE x.fst, ()), ()) else List.length x.fst ≤ (9223372036854775807 : Nat) →
  bif decide ((8 : Int) < (↑(List.length x.fst) : Int)) then (((0 : Int), (1 : Int), ()), ()) = ((getR x.fst, getE x.fst, ()), ()) else List.length x.fst ≤ (9223372036854775807 : Nat) →
  ((0 : Int) ≤ (0 : Int) ∧ (0 : Int) ≤ (↑(List.length x.fst) : Int) ∧ (0 : Int) = getI (List.take (Int.toNat (0 : Int)) x.fst)) ∧ ∀ (v : Int × Int × Unit), (0 : Int) ≤ v.fst ∧ v.fst ≤ (↑(List.length x.fst) : Int) ∧ v.2.fst = getI (List.take (Int.toNat v.fst) x.fst) →
  bif decide (v.fst < (↑(List.length x.fst) : Int)) then (0 : Int) ≤ v.fst ∧ v.fst < (↑(List.length x.fst) : Int) ∧ ∀ (c0 : Int), x.fst[Int.toNat v.fst]? = some c0 →
  (0 : Int) ≤ (8 : Int) ∧ ((0 : Int) ≤ IntKind.wrap IntKind.i64 (v.fst + (1 : Int)) ∧ IntKind.wrap IntKind.i64 (v.fst + (1 : Int)) ≤ (↑(List.length x.fst) : Int) ∧ orI IntKind.u64 (shlI IntKind.u64 v.2.fst (8 : Int)) (IntKind.wrap IntKind.u64 c0) = getI (List.take (Int.toNat (IntKind.wrap IntKind.i64 (v.fst + (1 : Int)))) x.fst)) ∧ Int.toNat ((↑(List.length x.fst) : Int) - IntKind.wrap IntKind.i64 (v.fst + (1 : Int))) < Int.toNat ((↑(List.length x.fst) : Int) - v.fst) else ((v.2.fst, (0 : Int), ()), ()) = ((getR x.fst, getE x.fst, ()), ())) := by kernel_rfl
theorem en_get (us : Array Value) (u : World) : (callFunc 96 us).run Tryd.prog u = .ok (.enter 96 us) u := by kernel_rfl
theorem sc_get : SC Tryd.prog 96 S_get := by
  refine SC.of Tryd.func96 (c := bodyOf Tryd.f96) (by kernel_rfl) (by kernel_rfl) (fun x => (by decide : (1:Nat) ≤ Tryd.f96.ntmps)) DOk.nil (Eq.mpr vc_get ?_)
  rintro ⟨l, ⟨⟩⟩ hb - -
  dsimp only at hb ⊢
  by_cases h1 : l.length < 1
  · rw [decide_eq_true (by omega : (l.length : Int) < 1), cond_true]
    simp [getR, getE, h1]
  rw [decide_eq_false (by omega), cond_false]
  intro _
  by_cases h2 : 8 < l.length
  · rw [decide_eq_true (by omega : (8 : Int) < (l.length : Int)), cond_true]
    simp [getR, getE, h1, h2]
  rw [decide_eq_false (by omega), cond_false]
  intro _
  refine ⟨⟨Int.le_refl 0, by omega, rfl⟩, ?_⟩
  rintro ⟨i, n, ⟨⟩⟩ ⟨q0, q1, hn⟩
  dsimp only at q0 q1 hn ⊢
  have wi : IntKind.i64.wrap (i + 1) = i + 1 := IntWalk.i64_in _ (by omega)
  by_cases hi : i < (l.length : Int)
  · rw [decide_eq_true hi, cond_true]
    refine ⟨q0, hi, fun c hc => ⟨by decide, ?_⟩⟩
    rw [wi]
    refine ⟨⟨by omega, by omega, ?_⟩, by omega⟩
    have hbt : byt (l.take i.toNat) := fun y hy => hb y (List.mem_of_mem_take hy)
    have hbd := getI_bd _ hbt
    have hlen : (l.take i.toNat).length ≤ 7 := by rw [List.length_take]; omega
    have hp : (256 : Int) ^ (l.take i.toNat).length ≤ 256 ^ 7 := (by decide : ∀ n : Fin 8, (256 : Int) ^ n.val ≤ 256 ^ 7) ⟨(l.take i.toNat).length, by omega⟩
    have hc' := hb c (List.mem_of_getElem? hc)
    rw [← hn] at hbd
    rw [or_of hbd.1 (Int.lt_of_lt_of_le hbd.2 hp) hc'.1 hc'.2, show (i + 1).toNat = i.toNat + 1 by omega, take_snoc hc, getI_snoc, hn]
  · rw [decide_eq_false hi, cond_false]
    obtain rfl : i = (l.length : Int) := by omega
    rw [hn]
    simp [getR, getE, h1, h2]

theorem vc_block : VC Tryd.prog Tryd.f81 (bodyOf Tryd.f81) S_block [(111, S_sum)] (fun _ _ => none) = (∀ (x : List Int × Unit), List.length x.fst ≤ (1000000000 : Nat) →
  List.length x.fst ≤ (9223372036854775807 : Nat) →
  List.length x.fst ≤ (9223372036854775807 : Nat) →
  bif decide ((64 : Int) < (↑(List.length x.fst) : Int)) then List.length x.fst ≤ (1000000000 : Nat) ∧ (64 : Nat) ≤ nat_lit 64 ∧ (0 : Int) ≤ (0 : Int) ∧ (0 : Int) ≤ Int.ofNat (64 : Nat) ∧ Int.ofNat (64 : Nat) ≤ Int.ofNat (64 : Nat) ∧ (0 : Int) < Int.ofNat (64 : Nat) ∧ nat_lit 64 ≤ nat_lit 64 ∧ List.length ([] ++ List.take (min (nat_lit 64) (List.length (sumF x.fst))) (sumF x.fst) ++ List.drop (nat_lit 0 + min (nat_lit 64) (List.length (sumF x.fst))) [(0 : Int), (0 : Int), (0 : Int), (0 : Int), (0 : Int), (0 : Int), (0 : Int), (0 : Int), (0 : Int), (0 : Int), (0 : Int), (0 : Int), (0 : Int), (0 : Int), (0 : Int), (0 : Int), (0 : Int), (0 : Int), (0 : Int), (0 : Int), (0 : Int), (0 : Int), (0 : Int), (0 : Int), (0 : Int), (0 : Int), (0 : Int), (0 : Int), (0 : Int), (0 : Int), (0 : Int), (0 : Int), (0 : Int), (0 : Int), (0 : Int), (0 : Int), (0 : Int), (0 : Int), (0 : Int), (0 : Int), (0 : Int), (0 : Int), (0 : Int), (0 : Int), (0 : Int), (0 : Int), (0 : Int), (0 : Int), (0 : Int), (0 : Int), (0 : Int), (0 : Int), (0 : Int), (0 : Int), (0 : Int), (0 : Int), (0 : Int), (0 : Int), (0 : Int), (0 : Int), (0 : Int), (0 : Int), (0 : Int), (0 : Int)]) = nat_lit 64 ∧ nat_lit 64 = nat_lit 64 ∧ List.length ([] ++ List.take (min (nat_lit 64) (List.length (sumF x.fst))) (sumF x.fst) ++ List.drop (nat_lit 0 + min (nat_lit 64) (List.length (sumF x.fst))) [(0 : Int), (0 : Int), (0 : Int), (0 : Int), (0 : Int), (0 : Int), (0 : Int), (0 : Int), (0 : Int), (0 : Int), (0 : Int), (0 : Int), (0 : Int), (0 : Int), (0 : Int), (0 : Int), (0 : Int), (0 : Int), (0 : Int), (0 : Int), (0 : Int), (0 : Int), (0 : Int), (0 : Int), (0 : Int), (0 : Int), (0 : Int), (0 : Int), (0 : Int), (0 : Int), (0 : Int), (0 : Int), (0 : Int), (0 : Int), (0 : Int), (0 : Int), (0 : Int), (0 : Int), (0 : Int), (0 : Int), (0 : Int), (0 : Int), (0 : Int), (0 : Int), (0 : Int), (0 : Int), (0 : Int), (0 : Int), (0 : Int), (0 : Int), (0 : Int), (0 : Int), (0 : Int), (0 : Int), (0 : Int), (0 : Int), (0 : Int), (0 : Int), (0 : Int), (0 : Int), (0 : Int), (0 : Int), (0 : Int), (0 : Int)]) = nat_lit 64 ∧ List.length ([] ++ List.take (min (nat_lit 64) (List.length (sumF x.fst))) (sumF x.fst) ++ List.drop (nat_lit 0 + min (nat_lit 64) (List.length (sumF x.fst))) [(0 : Int), (0 : Int), (0 : Int), (0 : Int), (0 : Int), (0 : Int), (0 : Int), (0 : Int), (0 : Int), (0 : Int), (0 : Int), (0 : Int), (0 : Int), (0 : Int), (0 : Int), (0 : Int), (0 : Int), (0 : Int), (0 : Int), (0 : Int), (0 : Int), (0 : Int), (0 : Int), (0 : Int), (0 : Int), (0 : Int), (0 : Int), (0 : Int), (0 : Int), (0 : Int), (0 : Int), (0 : Int), (0 : Int), (0 : Int), (0 : Int), (0 : Int), (0 : Int), (0 : Int), (0 : Int), (0 : Int), (0 : Int), (0 : Int), (0 : Int), (0 : Int), (0 : Int), (0 : Int), (0 : Int), (0 : Int), (0 : Int), (0 : Int), (0 : Int), (0 : Int), (0 : Int), (0 : Int), (0 : Int), (0 : Int), (0 : Int), (0 : Int), (0 : Int), (0 : Int), (0 : Int), (0 : Int), (0 : Int), (0 : Int)]) = nat_lit 64 ∧ ([] ++ List.take (min (nat_lit 64) (List.length (sumF x.fst))) (sumF x.fst) ++ List.drop (nat_lit 0 + min (nat_lit 64) (List.length (sumF x.fst))) [(0 : Int), (0 : Int), (0 : Int), (0 : Int), (0 : Int), (0 : Int), (0 : Int), (0 : Int), (0 : Int), (0 : Int), (0 : Int), (0 : Int), (0 : Int), (0 : Int), (0 : Int), (0 : Int), (0 : Int), (0 : Int), (0 : Int), (0 : Int), (0 : Int), (0 : Int), (0 : Int), (0 : Int), (0 : Int), (0 : Int), (0 : Int), (0 : Int), (0 : Int), (0 : Int), (0 : Int), (0 : Int), (0 : Int), (0 : Int), (0 : Int), (0 : Int), (0 : Int), (0 : Int), (0 : Int), (0 : Int), (0 : Int), (0 : Int), (0 : Int), (0 : Int), (0 : Int), (0 : Int), (0 : Int), (0 : Int), (0 : Int), (0 : Int), (0 : Int), (0 : Int), (0 : Int), (0 : Int), (0 : Int), (0 : Int), (0 : Int), (0 : Int), (0 : Int), (0 : Int), (0 : Int), (0 : Int), (0 : Int), (0 : Int)], ()) = (blockF x.fst, ()) else (64 : Nat) ≤ nat_lit 64 ∧ (0 : Int) ≤ (0 : Int) ∧ (0 : Int) ≤ Int.ofNat (64 : Nat) ∧ Int.ofNat (64 : Nat) ≤ Int.ofNat (64 : Nat) ∧ (0 : Int) < Int.ofNat (64 : Nat) ∧ nat_lit 64 ≤ nat_lit 64 ∧ List.length ([] ++ List.take (min (nat_lit 64) (List.length x.fst)) x.fst ++ List.drop (nat_lit 0 + min (nat_lit 64) (List.length x.fst)) [(0 : Int), (0 : Int), (0 : Int), (0 : Int), (0 : Int), (0 : Int), (0 : Int), (0 : Int), (0 : Int), (0 : Int), (0 : Int), (0 : Int), (0 : Int), (0 : Int), (0 : Int), (0 : Int), (0 : Int), (0 : Int), (0 : Int), (0 : Int), (0 : Int), (0 : Int), (0 : Int), (0 : Int), (0 : Int), (0 : Int), (0 : Int), (0 : Int), (0 : Int), (0 : Int), (0 : Int), (0 : Int), (0 : Int), (0 : Int), (0 : Int), (0 : Int), (0 : Int), (0 : Int), (0 : Int), (0 : Int), (0 : Int), (0 : Int), (0 : Int), (0 : Int), (0 : Int), (0 : Int), (0 : Int), (0 : Int), (0 : Int), (0 : Int), (0 : Int), (0 : Int), (0 : Int), (0 : Int), (0 : Int), (0 : Int), (0 : Int), (0 : Int), (0 : Int), (0 : Int), (0 : Int), (0 : Int), (0 : Int), (0 : Int)]) = nat_lit 64 ∧ nat_lit 64 = nat_lit 64 ∧ List.length ([] ++ List.take (min (nat_lit 64) (List.length x.fst)) x.fst ++ List.drop (nat_lit 0 + min (nat_lit 64) (List.length x.fst)) [(0 : Int), (0 : Int), (0 : Int), (0 : Int), (0 : Int), (0 : Int), (0 : Int), (0 : Int), (0 : Int), (0 : Int), (0 : Int), (0 : Int), (0 : Int), (0 : Int), (0 : Int), (0 : Int), (0 : Int), (0 : Int), (0 : Int), (0 : Int), (0 : Int), (0 : Int), (0 : Int), (0 : Int), (0 : Int), (0 : Int), (0 : Int), (0 : Int), (0 : Int), (0 : Int), (0 : Int), (0 : Int), (0 : Int), (0 : Int), (0 : Int), (0 : Int), (0 : Int), (0 : Int), (0 : Int), (0 : Int), (0 : Int), (0 : Int), (0 : Int), (0 : Int), (0 : Int), (0 : Int), (0 : Int), (0 : Int), (0 : Int), (0 : Int), (0 : Int), (0 : Int), (0 : Int), (0 : Int), (0 : Int), (0 : Int), (0 : Int), (0 : Int), (0 : Int), (0 : Int), (0 : Int), (0 : Int), (0 : Int), (0 : Int)]) = nat_lit 64 ∧ List.length ([] ++ List.take (min (nat_lit 64) (List.length x.fst)) x.fst ++ List.drop (nat_lit 0 + min (nat_lit 64) (List.length x.fst)) [(0 : Int), (0 : Int), (0 : Int), (0 : Int), (0 : Int), (0 : Int), (0 : Int), (0 : Int), (0 : Int), (0 : Int), (0 : Int), (0 : Int), (0 : Int), (0 : Int), (0 : Int), (0 : Int), (0 : Int), (0 : Int), (0 : Int), (0 : Int), (0 : Int), (0 : Int), (0 : Int), (0 : Int), (0 : Int), (0 : Int), (0 : Int), (0 : Int), (0 : Int), (0 : Int), (0 : Int), (0 : Int), (0 : Int), (0 : Int), (0 : Int), (0 : Int), (0 : Int), (0 : Int), (0 : Int), (0 : Int), (0 : Int), (0 : Int), (0 : Int), (0 : Int), (0 : Int), (0 : Int), (0 : Int), (0 : Int), (0 : Int), (0 : Int), (0 : Int), (0 : Int), (0 : Int), (0 : Int), (0 : Int), (0 : Int), (0 : Int), (0 : Int), (0 : Int), (0 : Int), (0 : Int), (0 : Int), (0 : Int), (0 : Int)]) = nat_lit 64 ∧ ([] ++ List.take (min (nat_lit 64) (List.length x.fst)) x.fst ++ List.drop (nat_lit 0 + min (nat_lit 64) (List.length x.fst)) [(0 : Int), (0 : Int), (0 : Int), (0 : Int), (0 : Int), (0 : Int), (0 : Int), (0 : Int), (0 : Int), (0 : Int), (0 : Int), (0 : Int), (0 : Int), (0 : Int), (0 : Int), (0 : Int), (0 : Int), (0 : Int), (0 : Int), (0 : Int), (0 : Int), (0 : Int), (0 : Int), (0 : Int), (0 : Int), (0 : Int), (0 : Int), (0 : Int), (0 : Int), (0 : Int), (0 : Int), (0 : Int), (0 : Int), (0 : Int), (0 : Int), (0 : Int), (0 : Int), (0 : Int), (0 : Int), (0 : Int), (0 : Int), (0 : Int), (0 : Int), (0 : Int), (0 : Int), (0 : Int), (0 : Int), (0 : Int), (0 : Int), (0 : Int), (0 : Int), (0 : Int), (0 : Int), (0 : Int), (0 : Int), (0 : Int), (0 : Int), (0 : Int), (0 : Int), (0 : Int), (0 : Int), (0 : Int), (0 : Int), (0 : Int)], ()) = (blockF x.fst, ())) := by kernel_rfl
theorem en_block (us : Array Value) (u : World) : (callFunc 81 us).run Tryd.prog u = .ok (.enter 81 us) u := by kernel_rfl
theorem sc_block : SC Tryd.prog 81 S_block := by
  refine SC.of Tryd.func81 (c := bodyOf Tryd.f81) (by kernel_rfl) (by kernel_rfl) (fun x => (by decide : (1:Nat) ≤ Tryd.f81.ntmps)) (DOk.cons sc_sum en_sum DOk.nil) (Eq.mpr vc_block ?_)
  rintro ⟨l, ⟨⟩⟩ hl - -
  dsimp only at hl ⊢
  have hz : ([(0 : Int), (0 : Int), (0 : Int), (0 : Int), (0 : Int), (0 : Int), (0 : Int), (0 : Int), (0 : Int), (0 : Int), (0 : Int), (0 : Int), (0 : Int), (0 : Int), (0 : Int), (0 : Int), (0 : Int), (0 : Int), (0 : Int), (0 : Int), (0 : Int), (0 : Int), (0 : Int), (0 : Int), (0 : Int), (0 : Int), (0 : Int), (0 : Int), (0 : Int), (0 : Int), (0 : Int), (0 : Int), (0 : Int), (0 : Int), (0 : Int), (0 : Int), (0 : Int), (0 : Int), (0 : Int), (0 : Int), (0 : Int), (0 : Int), (0 : Int), (0 : Int), (0 : Int), (0 : Int), (0 : Int), (0 : Int), (0 : Int), (0 : Int), (0 : Int), (0 : Int), (0 : Int), (0 : Int), (0 : Int), (0 : Int), (0 : Int), (0 : Int), (0 : Int), (0 : Int), (0 : Int), (0 : Int), (0 : Int), (0 : Int)] : List Int) = List.replicate 64 0 := rfl
  by_cases h : 64 < l.length
  · rw [decide_eq_true (by omega : (64 : Int) < (l.length : Int)), cond_true, hz, copL (K := sumF l) (by rw [sumF_len]; decide)]
    have e : sumF l ++ List.replicate (64 - (sumF l).length) 0 = blockF l := by unfold blockF; rw [if_pos h]
    have hb := blockF_len l
    rw [e]
    exact ⟨hl, by decide, by decide, by decide, by decide, by decide, by decide, hb, rfl, hb, hb, rfl⟩
  · rw [decide_eq_false (by omega), cond_false, hz, copL (K := l) (by omega)]
    have e : l ++ List.replicate (64 - l.length) 0 = blockF l := by unfold blockF; rw [if_neg h]
    have hb := blockF_len l
    rw [e]
    exact ⟨by decide, by decide, by decide, by decide, by decide, by decide, hb, rfl, hb, hb, rfl⟩

theorem vc_mask : VC Tryd.prog Tryd.f83 (bodyOf Tryd.f83) S_mask [] A_mask = (∀ (x : List Int × Int × Unit), List.length x.fst = (64 : Nat) →
  List.length x.fst ≤ (9223372036854775807 : Nat) ∧ (0 : Int) ≤ (64 : Int) ∧ (64 : Int) ≤ (64 : Int) ∧ Int.ofNat (nat_lit 64) ≤ (281474976710656 : Int) ∧ (64 : Int) ≤ (140737488351232 : Int) ∧ ((0 : Int) ≤ (0 : Int) ∧ (0 : Int) ≤ (64 : Int) ∧ [(0 : Int), (0 : Int), (0 : Int), (0 : Int), (0 : Int), (0 : Int), (0 : Int), (0 : Int), (0 : Int), (0 : Int), (0 : Int), (0 : Int), (0 : Int), (0 : Int), (0 : Int), (0 : Int), (0 : Int), (0 : Int), (0 : Int), (0 : Int), (0 : Int), (0 : Int), (0 : Int), (0 : Int), (0 : Int), (0 : Int), (0 : Int), (0 : Int), (0 : Int), (0 : Int), (0 : Int), (0 : Int), (0 : Int), (0 : Int), (0 : Int), (0 : Int), (0 : Int), (0 : Int), (0 : Int), (0 : Int), (0 : Int), (0 : Int), (0 : Int), (0 : Int), (0 : Int), (0 : Int), (0 : Int), (0 : Int), (0 : Int), (0 : Int), (0 : Int), (0 : Int), (0 : Int), (0 : Int), (0 : Int), (0 : Int), (0 : Int), (0 : Int), (0 : Int), (0 : Int), (0 : Int), (0 : Int), (0 : Int), (0 : Int)] = maskF (List.take (Int.toNat (0 : Int)) x.fst) x.2.fst ++ List.replicate ((64 : Nat) - Int.toNat (0 : Int)) (0 : Int)) ∧ ∀ (v : Int × List Int × Unit), (0 : Int) ≤ v.fst ∧ v.fst ≤ (64 : Int) ∧ v.2.fst = maskF (List.take (Int.toNat v.fst) x.fst) x.2.fst ++ List.replicate ((64 : Nat) - Int.toNat v.fst) (0 : Int) →
  bif decide (v.fst < Int.ofNat (nat_lit 64)) then (0 : Int) ≤ v.fst ∧ v.fst < Int.ofNat (64 : Nat) ∧ Int.toNat v.fst < List.length x.fst ∧ ∀ (x_1 : Int), x.fst[Int.toNat v.fst]? = some x_1 →
  (0 : Int) ≤ v.fst ∧ v.fst < (↑(List.length v.2.fst) : Int) ∧ Int.toNat v.fst < List.length v.2.fst ∧ ∀ (x0 : Int), v.2.fst[Int.toNat v.fst]? = some x0 →
  ((0 : Int) ≤ IntKind.wrap IntKind.i64 (v.fst + (1 : Int)) ∧ IntKind.wrap IntKind.i64 (v.fst + (1 : Int)) ≤ (64 : Int) ∧ List.set v.2.fst (Int.toNat v.fst) (xorI IntKind.u8 x_1 x.2.fst) = maskF (List.take (Int.toNat (IntKind.wrap IntKind.i64 (v.fst + (1 : Int)))) x.fst) x.2.fst ++ List.replicate ((64 : Nat) - Int.toNat (IntKind.wrap IntKind.i64 (v.fst + (1 : Int)))) (0 : Int)) ∧ Int.toNat ((64 : Int) - IntKind.wrap IntKind.i64 (v.fst + (1 : Int))) < Int.toNat ((64 : Int) - v.fst) else v.2 = (maskF x.fst x.2.fst, ())) := by kernel_rfl
theorem en_mask (us : Array Value) (u : World) : (callFunc 83 us).run Tryd.prog u = .ok (.enter 83 us) u := by kernel_rfl
theorem sc_mask : SC Tryd.prog 83 S_mask := by
  refine SC.of Tryd.func83 (c := bodyOf Tryd.f83) (by kernel_rfl) (by kernel_rfl) (fun x => (by decide : (2:Nat) ≤ Tryd.f83.ntmps)) DOk.nil (Eq.mpr vc_mask ?_)
  rintro ⟨k, x, ⟨⟩⟩ hk
  dsimp only at hk ⊢
  refine ⟨by omega, by decide, by decide, by decide, by decide, ⟨by decide, by decide, rfl⟩, ?_⟩
  rintro ⟨i, r, ⟨⟩⟩ ⟨q0, q1, hr⟩
  dsimp only at q0 q1 hr ⊢
  have wi : IntKind.i64.wrap (i + 1) = i + 1 := IntWalk.i64_in _ (by omega)
  have tl : (maskF (k.take i.toNat) x).length = i.toNat := by rw [maskF_len, List.length_take]; omega
  have rl : r.length = 64 := by rw [hr, List.length_append, tl, List.length_replicate]; omega
  by_cases hi : i < 64
  · rw [decide_eq_true (show i < Int.ofNat 64 from hi), cond_true, rl, hk, wi]
    refine ⟨q0, hi, by omega, fun a ha => ⟨q0, by omega, by omega, fun x0 _ => ⟨⟨by omega, by omega, ?_⟩, by omega⟩⟩⟩
    rw [hr, show (i + 1).toNat = i.toNat + 1 by omega, take_snoc ha, show 64 - i.toNat = (64 - (i.toNat + 1)) + 1 by omega]
    have := set_rep (maskF (k.take i.toNat) x) (64 - (i.toNat + 1)) (xorI .u8 a x)
    rw [tl] at this
    rw [this]
    simp [maskF]
  · rw [decide_eq_false (show ¬ i < Int.ofNat 64 from hi), cond_false]
    obtain rfl : i = 64 := by omega
    rw [hr, show (64 : Int).toNat = 64 from rfl, List.take_of_length_le (by omega)]
    simp

theorem vc_hash : VC Tryd.prog Tryd.f82 (bodyOf Tryd.f82) S_hash [(111, S_sum), (80, S_cat)] (fun _ _ => none) = (∀ (x : List (List Int) × Unit), List.length (List.flatten x.fst) ≤ (1000000000 : Nat) →
  List.length x.fst ≤ (9223372036854775807 : Nat) →
  List.length (List.flatten x.fst) ≤ (1099511627776 : Nat) ∧ List.length (List.flatten x.fst) ≤ (1000000000 : Nat) ∧ (sumF (List.flatten x.fst), ()) = (hashF x.fst, ())) := by kernel_rfl
theorem en_hash (us : Array Value) (u : World) : (callFunc 82 us).run Tryd.prog u = .ok (.enter 82 us) u := by kernel_rfl
theorem sc_hash : SC Tryd.prog 82 S_hash := by
  refine SC.of Tryd.func82 (c := bodyOf Tryd.f82) (by kernel_rfl) (by kernel_rfl) (fun x => (by decide : (1:Nat) ≤ Tryd.f82.ntmps)) (DOk.cons sc_sum en_sum (DOk.cons sc_cat en_cat DOk.nil)) (Eq.mpr vc_hash ?_)
  rintro ⟨pp, ⟨⟩⟩ h -
  dsimp only at h ⊢
  exact ⟨by omega, h, rfl⟩

theorem vc_tagV : VC Tryd.prog Tryd.f42 (bodyOf Tryd.f42) S_tagV [(81, S_block), (83, S_mask), (82, S_hash)] (fun _ _ => none) = (∀ (x : List Int × List Int × Unit), List.length x.fst ≤ (1000000000 : Nat) ∧ List.length x.2.fst ≤ (100000000 : Nat) →
  List.length x.fst ≤ (9223372036854775807 : Nat) →
  List.length x.2.fst ≤ (9223372036854775807 : Nat) →
  List.length x.fst ≤ (1000000000 : Nat) ∧ nat_lit 64 = nat_lit 64 ∧ List.length (blockF x.fst) = nat_lit 64 ∧ List.length (blockF x.fst) = nat_lit 64 ∧ List.length (blockF x.fst) = (64 : Nat) ∧ List.length (blockF x.fst) = nat_lit 64 ∧ List.length (blockF x.fst) = (64 : Nat) ∧ List.length (List.flatten [maskF (blockF x.fst) (54 : Int), x.2.fst]) ≤ (1000000000 : Nat) ∧ List.length (List.flatten [maskF (blockF x.fst) (92 : Int), hashF [maskF (blockF x.fst) (54 : Int), x.2.fst]]) ≤ (1000000000 : Nat) ∧ (hashF [maskF (blockF x.fst) (92 : Int), hashF [maskF (blockF x.fst) (54 : Int), x.2.fst]], ()) = (tagF x.fst x.2.fst, ())) := by kernel_rfl
theorem en_tagV (us : Array Value) (u : World) : (callFunc 42 us).run Tryd.prog u = .ok (.enter 42 us) u := by kernel_rfl
theorem sc_tagV : SC Tryd.prog 42 S_tagV := by
  refine SC.of Tryd.func42 (c := bodyOf Tryd.f42) (by kernel_rfl) (by kernel_rfl) (fun x => (by decide : (2:Nat) ≤ Tryd.f42.ntmps)) (DOk.cons sc_block en_block (DOk.cons sc_mask en_mask (DOk.cons sc_hash en_hash DOk.nil))) (Eq.mpr vc_tagV ?_)
  rintro ⟨k, b, ⟨⟩⟩ ⟨h1, h2⟩ - -
  dsimp only at h1 h2 ⊢
  have hb := blockF_len k
  have m1 : (maskF (blockF k) 54).length = 64 := by rw [maskF_len, hb]
  have m2 : (maskF (blockF k) 92).length = 64 := by rw [maskF_len, hb]
  have hs : (hashF [maskF (blockF k) 54, b]).length = 32 := sumF_len _
  refine ⟨h1, rfl, hb, hb, hb, hb, hb, ?_, ?_, ?_⟩
  · simp only [List.flatten_cons, List.flatten_nil, List.append_nil, List.length_append, m1]; omega
  · simp only [List.flatten_cons, List.flatten_nil, List.append_nil, List.length_append, m2, hs]; omega
  · simp only [hashF, tagF, List.flatten_cons, List.flatten_nil, List.append_nil]

theorem vc_mchk : VC Tryd.prog Tryd.f54 (bodyOf Tryd.f54) S_mchk [(42, S_tag), (97, S_eq)] (fun _ _ => none) = (∀ (x : List Int × List Int × List Int × Unit), (List.length x.fst ≤ (1000000000 : Nat) ∧ List.length x.2.fst ≤ (100000000 : Nat) ∧ ∀ (x_1 : Int), x_1 ∈ x.2.snd.fst →
  (0 : Int) ≤ x_1 ∧ x_1 < (256 : Int)) →
  List.length x.fst ≤ (9223372036854775807 : Nat) →
  List.length x.2.fst ≤ (9223372036854775807 : Nat) →
  List.length x.2.snd.fst ≤ (9223372036854775807 : Nat) →
  (List.length x.fst ≤ (1000000000 : Nat) ∧ List.length x.2.fst ≤ (100000000 : Nat)) ∧ ((∀ (x_1 : Int), x_1 ∈ x.2.snd.fst →
  (0 : Int) ≤ x_1 ∧ x_1 < (256 : Int)) ∧ ∀ (x_1 : Int), x_1 ∈ tagF x.fst x.2.fst →
  (0 : Int) ≤ x_1 ∧ x_1 < (256 : Int)) ∧ bif !x.2.snd.fst == tagF x.fst x.2.fst then ((4 : Int), ()) = (if x.2.snd.fst = tagF x.fst x.2.fst then (0 : Int) else (4 : Int), ()) else ((0 : Int), ()) = (if x.2.snd.fst = tagF x.fst x.2.fst then (0 : Int) else (4 : Int), ())) := by kernel_rfl

theorem sc_tag : SC Tryd.prog 42 S_tag :=
  SC.own .u8 5 (by decide) rfl (fun _ => rfl) (fun x => tagF x.1 x.2.1) (fun _ => rfl) (fun _ => rfl) fun x hx w U E vs hT hl hv => by
    obtain ⟨k, b, ⟨⟩⟩ := x
    refine SC.useOwn sc_tagV .u8 5 (tagF k b) rfl rfl (k, b, ()) hx rfl hT rfl rfl (U := fun _ => True) (vs := vs) hl (fun i y v hy hv' => ?_)
    match i with
    | 0 =>
      cases hy
      exact VA.mine (hv 0 (.view true tY k) v rfl hv')
    | 1 =>
      cases hy
      exact VA.mine (hv 1 (.view true tY b) v rfl hv')
    | i + 2 => cases hy
theorem en_tag (us : Array Value) (u : World) : (callFunc 42 us).run Tryd.prog u = .ok (.enter 42 us) u := by kernel_rfl
theorem en_mchk (us : Array Value) (u : World) : (callFunc 54 us).run Tryd.prog u = .ok (.enter 54 us) u := by kernel_rfl
theorem sc_mchk : SC Tryd.prog 54 S_mchk := by
  refine SC.of Tryd.func54 (c := bodyOf Tryd.f54) (by kernel_rfl) (by kernel_rfl) (fun x => (by decide : (3:Nat) ≤ Tryd.f54.ntmps)) (DOk.cons sc_tag en_tag (DOk.cons sc_eq en_eq DOk.nil)) (Eq.mpr vc_mchk ?_)
  rintro ⟨k, b, g, ⟨⟩⟩ ⟨h1, h2, h3⟩ - - -
  dsimp only at h1 h2 h3 ⊢
  refine ⟨⟨h1, h2⟩, ⟨h3, tagF_byt k b⟩, ?_⟩
  by_cases h : g = tagF k b
  · rw [if_pos h, show (!(g == tagF k b)) = false by rw [beq_iff_eq.2 h]; rfl, cond_false]
  · rw [if_neg h, show (!(g == tagF k b)) = true by rw [beq_eq_false_iff_ne.2 h]; rfl, cond_true]

theorem vc_kwit : VC Tryd.prog Tryd.f104 (bodyOf Tryd.f104) S_kwit [] (fun _ _ => none) = (∀ (x : Int × Int × Int × Unit), True →
  bif decide (x.2.fst ≤ x.fst) then (decide (x.fst ≤ x.2.snd.fst), ()) = (wit x.fst x.2.fst x.2.snd.fst, ()) else (false, ()) = (wit x.fst x.2.fst x.2.snd.fst, ())) := by kernel_rfl
theorem en_kwit (us : Array Value) (u : World) : (callFunc 104 us).run Tryd.prog u = .ok (.enter 104 us) u := by kernel_rfl
theorem sc_kwit : SC Tryd.prog 104 S_kwit := by
  refine SC.of Tryd.func104 (c := bodyOf Tryd.f104) (by kernel_rfl) (by kernel_rfl) (fun x => (by decide : (3:Nat) ≤ Tryd.f104.ntmps)) DOk.nil (Eq.mpr vc_kwit ?_)
  rintro ⟨a, b, c, ⟨⟩⟩ -
  dsimp only [wit]
  cases decide (b ≤ a) <;> rfl

theorem vc_kchk : VC Tryd.prog Tryd.f66 (bodyOf Tryd.f66) S_kchk [(104, S_kwit)] (fun _ _ => none) = (∀ (x : (List Int × Int × Int × Int × Int × Int × Int × Int × Int × Int × Int × Unit) × Unit), True →
  List.length x.1.fst ≤ (9223372036854775807 : Nat) →
  List.length x.1.fst ≤ (9223372036854775807 : Nat) →
  bif decide ((64 : Int) < (↑(List.length x.1.fst) : Int)) then ((1 : Int), ()) = (kchkF x.1, ()) else True ∧ bif !wit x.1.snd.fst (1 : Int) (8 : Int) then ((1 : Int), ()) = (kchkF x.1, ()) else True ∧ bif !wit x.1.snd.snd.fst (0 : Int) (8 : Int) then ((1 : Int), ()) = (kchkF x.1, ()) else True ∧ bif !wit x.1.snd.snd.snd.fst (1 : Int) (8 : Int) then ((1 : Int), ()) = (kchkF x.1, ()) else True ∧ bif !wit x.1.snd.snd.snd.snd.fst (1 : Int) (64 : Int) then ((1 : Int), ()) = (kchkF x.1, ()) else True ∧ bif !wit x.1.snd.snd.snd.snd.snd.fst (1 : Int) (10000 : Int) then ((1 : Int), ()) = (kchkF x.1, ()) else bif decide (x.1.snd.snd.snd.snd.snd.snd.fst ≤ x.1.snd.snd.snd.snd.snd.fst) then ((1 : Int), ()) = (kchkF x.1, ()) else bif decide ((10000 : Int) < x.1.snd.snd.snd.snd.snd.snd.fst) then ((1 : Int), ()) = (kchkF x.1, ()) else True ∧ bif !wit x.1.snd.snd.snd.snd.snd.snd.snd.fst (1 : Int) (10000 : Int) then ((1 : Int), ()) = (kchkF x.1, ()) else True ∧ bif !wit x.1.snd.snd.snd.snd.snd.snd.snd.snd.fst (1 : Int) (64 : Int) then ((1 : Int), ()) = (kchkF x.1, ()) else bif decide (x.1.snd.snd.snd.snd.snd.snd.snd.snd.snd.fst < (1 : Int)) then ((1 : Int), ()) = (kchkF x.1, ()) else bif decide (x.1.snd.snd.snd.snd.snd.snd.snd.snd.snd.snd.fst < (1 : Int)) then ((1 : Int), ()) = (kchkF x.1, ()) else ((0 : Int), ()) = (kchkF x.1, ())) := by kernel_rfl
theorem en_kchk (us : Array Value) (u : World) : (callFunc 66 us).run Tryd.prog u = .ok (.enter 66 us) u := by kernel_rfl
theorem sc_kchk : SC Tryd.prog 66 S_kchk := by
  refine SC.of Tryd.func66 (c := bodyOf Tryd.f66) (by kernel_rfl) (by kernel_rfl) (fun x => (by decide : (1:Nat) ≤ Tryd.f66.ntmps)) (DOk.cons sc_kwit en_kwit DOk.nil) (Eq.mpr vc_kchk ?_)
  rintro ⟨⟨a, b, c, d, e, f, g, h, i, j, k, ⟨⟩⟩, ⟨⟩⟩ - - -
  dsimp only [kchkF, okC]
  have nl : ∀ a b : Int, decide (a < b) = !decide (b ≤ a) := fun a b => by rw [Bool.eq_iff_iff]; simp
  have e1 : decide (a.length ≤ 64) = decide ((a.length : Int) ≤ (64 : Int)) := by rw [Bool.eq_iff_iff]; simp; omega
  simp only [e1, nl, true_and]
  cases decide ((a.length : Int) ≤ (64 : Int)) <;> (try simp only [Bool.not_true, Bool.not_false, Bool.true_and, Bool.false_and, Bool.and_false, cond_true, cond_false, true_and]) <;> (try rfl)
  cases wit b 1 8 <;> (try simp only [Bool.not_true, Bool.not_false, Bool.true_and, Bool.false_and, Bool.and_false, cond_true, cond_false, true_and]) <;> (try rfl)
  cases wit c 0 8 <;> (try simp only [Bool.not_true, Bool.not_false, Bool.true_and, Bool.false_and, Bool.and_false, cond_true, cond_false, true_and]) <;> (try rfl)
  cases wit d 1 8 <;> (try simp only [Bool.not_true, Bool.not_false, Bool.true_and, Bool.false_and, Bool.and_false, cond_true, cond_false, true_and]) <;> (try rfl)
  cases wit e 1 64 <;> (try simp only [Bool.not_true, Bool.not_false, Bool.true_and, Bool.false_and, Bool.and_false, cond_true, cond_false, true_and]) <;> (try rfl)
  cases wit f 1 10000 <;> (try simp only [Bool.not_true, Bool.not_false, Bool.true_and, Bool.false_and, Bool.and_false, cond_true, cond_false, true_and]) <;> (try rfl)
  cases decide (g ≤ f) <;> (try simp only [Bool.not_true, Bool.not_false, Bool.true_and, Bool.false_and, Bool.and_false, cond_true, cond_false, true_and]) <;> (try rfl)
  cases decide (g ≤ 10000) <;> (try simp only [Bool.not_true, Bool.not_false, Bool.true_and, Bool.false_and, Bool.and_false, cond_true, cond_false, true_and]) <;> (try rfl)
  cases wit h 1 10000 <;> (try simp only [Bool.not_true, Bool.not_false, Bool.true_and, Bool.false_and, Bool.and_false, cond_true, cond_false, true_and]) <;> (try rfl)
  cases wit i 1 64 <;> (try simp only [Bool.not_true, Bool.not_false, Bool.true_and, Bool.false_and, Bool.and_false, cond_true, cond_false, true_and]) <;> (try rfl)
  cases decide (1 ≤ j) <;> (try simp only [Bool.not_true, Bool.not_false, Bool.true_and, Bool.false_and, Bool.and_false, cond_true, cond_false, true_and]) <;> (try rfl)
  cases decide (1 ≤ k) <;> rfl

theorem vc_serv : VC Tryd.prog Tryd.f44 (bodyOf Tryd.f44) S_serv [] (fun _ _ => none) = (∀ (x : (List Int × Int × Int × Int × Int × Int × Int × Int × Int × Int × Int × Unit) × Unit), True →
  List.length x.1.fst ≤ (9223372036854775807 : Nat) →
  (IntKind.wrap IntKind.i64 (x.1.snd.fst + x.1.snd.snd.fst), ()) = (serversF x.1, ())) := by kernel_rfl
theorem en_serv (us : Array Value) (u : World) : (callFunc 44 us).run Tryd.prog u = .ok (.enter 44 us) u := by kernel_rfl
theorem sc_serv : SC Tryd.prog 44 S_serv := by
  refine SC.of Tryd.func44 (c := bodyOf Tryd.f44) (by kernel_rfl) (by kernel_rfl) (fun x => (by decide : (1:Nat) ≤ Tryd.f44.ntmps)) DOk.nil (Eq.mpr vc_serv ?_)
  rintro ⟨c, ⟨⟩⟩ - -
  rfl

theorem vc_nodes : VC Tryd.prog Tryd.f15 (bodyOf Tryd.f15) S_nodes [(44, S_serv)] (fun _ _ => none) = (∀ (x : (List Int × Int × Int × Int × Int × Int × Int × Int × Int × Int × Int × Unit) × Unit), True →
  List.length x.1.fst ≤ (9223372036854775807 : Nat) →
  True ∧ (IntKind.wrap IntKind.i64 (IntKind.wrap IntKind.i64 ((1 : Int) + serversF x.1) + x.1.snd.snd.snd.fst), ()) = (nodesF x.1, ())) := by kernel_rfl
theorem en_nodes (us : Array Value) (u : World) : (callFunc 15 us).run Tryd.prog u = .ok (.enter 15 us) u := by kernel_rfl
theorem sc_nodes : SC Tryd.prog 15 S_nodes := by
  refine SC.of Tryd.func15 (c := bodyOf Tryd.f15) (by kernel_rfl) (by kernel_rfl) (fun x => (by decide : (1:Nat) ≤ Tryd.f15.ntmps)) (DOk.cons sc_serv en_serv DOk.nil) (Eq.mpr vc_nodes ?_)
  rintro ⟨c, ⟨⟩⟩ - -
  exact ⟨trivial, rfl⟩

theorem vc_made : VC Tryd.prog Tryd.f43 (bodyOf Tryd.f43) S_made [(42, S_tag)] A_made = (∀ (x : (List Int × Int × Int × Int × Int × Int × Int × Int × Int × Int × Int × Unit) × Int × List Int × Unit), List.length x.1.fst ≤ (1000000000 : Nat) ∧ List.length x.2.snd.fst ≤ (1000 : Nat) →
  List.length x.1.fst ≤ (9223372036854775807 : Nat) →
  List.length x.2.snd.fst ≤ (9223372036854775807 : Nat) →
  List.length x.2.snd.fst ≤ (9223372036854775807 : Nat) →
  ((0 : Int) ≤ (0 : Int) ∧ (0 : Int) ≤ (↑(List.length x.2.snd.fst) : Int) ∧ [x.2.fst] = x.2.fst :: List.map w8 (List.take (Int.toNat (0 : Int)) x.2.snd.fst)) ∧ ∀ (v : Int × List Int × Unit), (0 : Int) ≤ v.fst ∧ v.fst ≤ (↑(List.length x.2.snd.fst) : Int) ∧ v.2.fst = x.2.fst :: List.map w8 (List.take (Int.toNat v.fst) x.2.snd.fst) →
  bif decide (v.fst < (↑(List.length x.2.snd.fst) : Int)) then (0 : Int) ≤ v.fst ∧ v.fst < (↑(List.length x.2.snd.fst) : Int) ∧ ∀ (c0 : Int), x.2.snd.fst[Int.toNat v.fst]? = some c0 →
  (List.length v.2.fst + List.length [IntKind.wrap IntKind.u8 c0]) * nat_lit 1 ≤ (140737488351232 : Nat) ∧ ((0 : Int) ≤ IntKind.wrap IntKind.i64 (v.fst + (1 : Int)) ∧ IntKind.wrap IntKind.i64 (v.fst + (1 : Int)) ≤ (↑(List.length x.2.snd.fst) : Int) ∧ v.2.fst ++ [IntKind.wrap IntKind.u8 c0] = x.2.fst :: List.map w8 (List.take (Int.toNat (IntKind.wrap IntKind.i64 (v.fst + (1 : Int)))) x.2.snd.fst)) ∧ Int.toNat ((↑(List.length x.2.snd.fst) : Int) - IntKind.wrap IntKind.i64 (v.fst + (1 : Int))) < Int.toNat ((↑(List.length x.2.snd.fst) : Int) - v.fst) else (List.length x.1.fst ≤ (1000000000 : Nat) ∧ List.length v.2.fst ≤ (100000000 : Nat)) ∧ (tagF x.1.fst v.2.fst, ()) = (madeF x.1 x.2.fst x.2.snd.fst, ())) := by kernel_rfl
theorem en_made (us : Array Value) (u : World) : (callFunc 43 us).run Tryd.prog u = .ok (.enter 43 us) u := by kernel_rfl
theorem sc_made : SC Tryd.prog 43 S_made := by
  refine SC.of Tryd.func43 (c := bodyOf Tryd.f43) (by kernel_rfl) (by kernel_rfl) (fun x => (by decide : (3:Nat) ≤ Tryd.f43.ntmps)) (DOk.cons sc_tag en_tag DOk.nil) (Eq.mpr vc_made ?_)
  rintro ⟨c, a, ns, ⟨⟩⟩ ⟨h1, h2⟩ - - -
  dsimp only at h1 h2 ⊢
  refine ⟨⟨Int.le_refl 0, by omega, rfl⟩, ?_⟩
  rintro ⟨i, r, ⟨⟩⟩ ⟨q0, q1, hr⟩
  dsimp only at q0 q1 hr ⊢
  have wi : IntKind.i64.wrap (i + 1) = i + 1 := IntWalk.i64_in _ (by omega)
  have rl : r.length = 1 + i.toNat := by rw [hr, List.length_cons, List.length_map, List.length_take]; omega
  by_cases hi : i < (ns.length : Int)
  · rw [decide_eq_true hi, cond_true, wi, rl]
    refine ⟨q0, hi, fun x hx => ⟨by simp only [List.length_cons, List.length_nil]; omega, ⟨by omega, by omega, ?_⟩, by omega⟩⟩
    rw [hr, show (i + 1).toNat = i.toNat + 1 by omega, take_snoc hx]
    simp [w8]
  · rw [decide_eq_false hi, cond_false]
    obtain rfl : i = (ns.length : Int) := by omega
    refine ⟨⟨h1, by omega⟩, ?_⟩
    rw [hr, show ((ns.length : Nat) : Int).toNat = ns.length by omega, List.take_length]
    rfl

theorem vc_pair : VC Tryd.prog Tryd.f14 (bodyOf Tryd.f14) S_pair [(43, S_made)] (fun _ _ => none) = (∀ (x : (List Int × Int × Int × Int × Int × Int × Int × Int × Int × Int × Int × Unit) × Int × Int × Unit), List.length x.1.fst ≤ (1000000000 : Nat) →
  List.length x.1.fst ≤ (9223372036854775807 : Nat) →
  (List.length x.1.fst ≤ (1000000000 : Nat) ∧ List.length [if x.2.snd.fst < x.2.fst then x.2.snd.fst else x.2.fst, if x.2.fst < x.2.snd.fst then x.2.snd.fst else x.2.fst] ≤ (1000 : Nat)) ∧ (madeF x.1 (1 : Int) [if x.2.snd.fst < x.2.fst then x.2.snd.fst else x.2.fst, if x.2.fst < x.2.snd.fst then x.2.snd.fst else x.2.fst], ()) = (pairF x.1 x.2.fst x.2.snd.fst, ())) := by kernel_rfl
theorem en_pair (us : Array Value) (u : World) : (callFunc 14 us).run Tryd.prog u = .ok (.enter 14 us) u := by kernel_rfl
theorem sc_pair : SC Tryd.prog 14 S_pair := by
  refine SC.of Tryd.func14 (c := bodyOf Tryd.f14) (by kernel_rfl) (by kernel_rfl) (fun x => (by decide : (3:Nat) ≤ Tryd.f14.ntmps)) (DOk.cons sc_made en_made DOk.nil) (Eq.mpr vc_pair ?_)
  rintro ⟨c, a, b, ⟨⟩⟩ h -
  exact ⟨⟨h, by simp⟩, rfl⟩

theorem vc_first : VC Tryd.prog Tryd.f27 (bodyOf Tryd.f27) S_first [(66, S_kchk)] A_first = (∀ (x : (List Int × Int × Int × Int × Int × Int × Int × Int × Int × Int × Int × Unit) × Unit), True →
  List.length x.1.fst ≤ (9223372036854775807 : Nat) →
  True ∧ bif kchkF x.1 != (0 : Int) then (((0 : Int), (0 : Int), [], ()), ()) = (firstF x.1, ()) else ((0 : Int) ≤ (0 : Int) ∧ (0 : Int) ≤ x.1.snd.fst ∧ ((1 : Int), x.1.snd.snd.snd.snd.snd.snd.snd.snd.snd.fst, [], ()) = ((1 : Int), x.1.snd.snd.snd.snd.snd.snd.snd.snd.snd.fst, List.map up1 [], ())) ∧ ∀ (v : Int × (Int × Int × List Int × Unit) × Unit), (0 : Int) ≤ v.fst ∧ v.fst ≤ x.1.snd.fst ∧ v.2.fst = ((1 : Int), x.1.snd.snd.snd.snd.snd.snd.snd.snd.snd.fst, List.map up1 (List.range (Int.toNat v.fst)), ()) →
  bif decide (v.fst < x.1.snd.fst) then (List.length v.2.fst.snd.snd.fst + List.length [IntKind.wrap IntKind.i64 (v.fst + (1 : Int))]) * nat_lit 8 ≤ (140737488351232 : Nat) ∧ ((0 : Int) ≤ IntKind.wrap IntKind.i64 (v.fst + (1 : Int)) ∧ IntKind.wrap IntKind.i64 (v.fst + (1 : Int)) ≤ x.1.snd.fst ∧ (v.2.fst.fst, v.2.fst.snd.fst, v.2.fst.snd.snd.fst ++ [IntKind.wrap IntKind.i64 (v.fst + (1 : Int))], ()) = ((1 : Int), x.1.snd.snd.snd.snd.snd.snd.snd.snd.snd.fst, List.map up1 (List.range (Int.toNat (IntKind.wrap IntKind.i64 (v.fst + (1 : Int))))), ())) ∧ Int.toNat (x.1.snd.fst - IntKind.wrap IntKind.i64 (v.fst + (1 : Int))) < Int.toNat (x.1.snd.fst - v.fst) else v.2 = (firstF x.1, ())) := by kernel_rfl
theorem en_first (us : Array Value) (u : World) : (callFunc 27 us).run Tryd.prog u = .ok (.enter 27 us) u := by kernel_rfl
theorem sc_first : SC Tryd.prog 27 S_first := by
  refine SC.of Tryd.func27 (c := bodyOf Tryd.f27) (by kernel_rfl) (by kernel_rfl) (fun x => (by decide : (1:Nat) ≤ Tryd.f27.ntmps)) (DOk.cons sc_kchk en_kchk DOk.nil) (Eq.mpr vc_first ?_)
  rintro ⟨⟨s, b, c, d, e, f, g, h, i, j, k, ⟨⟩⟩, ⟨⟩⟩ - -
  dsimp only
  refine ⟨trivial, ?_⟩
  cases hk : okC (s, b, c, d, e, f, g, h, i, j, k, ())
  · rw [show (kchkF (s, b, c, d, e, f, g, h, i, j, k, ()) != 0) = true by rw [kchkF, hk]; rfl, cond_true, firstF, hk]
    rfl
  rw [show (kchkF (s, b, c, d, e, f, g, h, i, j, k, ()) != 0) = false by rw [kchkF, hk]; rfl, cond_false]
  have hb : 1 ≤ b ∧ b ≤ 8 := by
    simp only [okC, wit, Bool.and_eq_true, decide_eq_true_eq] at hk
    exact hk.2.1
  refine ⟨⟨Int.le_refl 0, by omega, rfl⟩, ?_⟩
  rintro ⟨i, ⟨r1, r2, r, ⟨⟩⟩, ⟨⟩⟩ ⟨q0, q1, hr⟩
  dsimp only at q0 q1 hr ⊢
  obtain ⟨rfl, rfl, rfl⟩ : r1 = 1 ∧ r2 = j ∧ r = (List.range i.toNat).map up1 := by
    simp only [Prod.mk.injEq] at hr
    exact ⟨hr.1, hr.2.1, hr.2.2.1⟩
  have wi : IntKind.i64.wrap (i + 1) = i + 1 := IntWalk.i64_in _ (by omega)
  by_cases hi : i < b
  · rw [decide_eq_true hi, cond_true, wi]
    refine ⟨by simp only [List.length_map, List.length_range, List.length_cons, List.length_nil]; omega, ⟨by omega, by omega, ?_⟩, by omega⟩
    rw [show (i + 1).toNat = i.toNat + 1 by omega, List.range_succ, List.map_append]
    simp only [List.map_cons, List.map_nil, up1]
    rw [show ((i.toNat : Nat) : Int) = i by omega]
  · rw [decide_eq_false hi, cond_false]
    obtain rfl : i = b := by omega
    rw [firstF, hk]
    rfl

theorem vc_isN : VC Tryd.prog Tryd.f45 (bodyOf Tryd.f45) S_isN [(15, S_nodes)] (fun _ _ => none) = (∀ (x : (List Int × Int × Int × Int × Int × Int × Int × Int × Int × Int × Int × Unit) × Int × Unit), True →
  List.length x.1.fst ≤ (9223372036854775807 : Nat) →
  bif decide ((0 : Int) ≤ x.2.fst) then True ∧ (decide (x.2.fst < nodesF x.1), ()) = (isNodeF x.1 x.2.fst, ()) else (false, ()) = (isNodeF x.1 x.2.fst, ())) := by kernel_rfl
theorem en_isN (us : Array Value) (u : World) : (callFunc 45 us).run Tryd.prog u = .ok (.enter 45 us) u := by kernel_rfl
theorem sc_isN : SC Tryd.prog 45 S_isN := by
  refine SC.of Tryd.func45 (c := bodyOf Tryd.f45) (by kernel_rfl) (by kernel_rfl) (fun x => (by decide : (2:Nat) ≤ Tryd.f45.ntmps)) (DOk.cons sc_nodes en_nodes DOk.nil) (Eq.mpr vc_isN ?_)
  rintro ⟨c, n, ⟨⟩⟩ - -
  dsimp only [isNodeF]
  cases decide (0 ≤ n)
  · rfl
  · exact ⟨trivial, rfl⟩
end Go.Proofs.YtjkbkhjalimebaaDoor
