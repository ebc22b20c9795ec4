/- The words of packages stamp and frame. Printed by gen.py. -/
import Derived.Test.YtjkbkhjalimebaaDoorPG
namespace Go.Proofs.YtjkbkhjalimebaaDoor
open Go.RowKit DoorU
set_option linter.unusedVariables false
set_option linter.unusedSimpArgs false
set_option maxRecDepth 100000
set_option maxHeartbeats 1000000

namespace DoorU
def okG : List Int → List Int → Bool
  | _, [] => true
  | p, n :: r => decide (1 ≤ n) && (decide (n ≤ 16) && (!p.contains n && okG (p ++ [n]) r))
def okS (s : Sta) : Bool := decide (1 ≤ s.2.2.1.length) && (decide (s.2.2.1.length ≤ 8) && okG [] s.2.2.1)
def stChk (s : Sta) : Int := if okS s then 0 else 1
def metA (p : List Int) : List Bool := (List.range 17).map fun n : Nat => p.contains (n : Int)
def cmpF (a b : Int) : Int := if a < b then -1 else if b < a then 1 else 0
def stCmp (a b : Sta) : Int := if cmpF a.1 b.1 = 0 then cmpF a.2.1 b.2.1 else cmpF a.1 b.1
def stSame (a b : Sta) : Bool := a.1 == b.1 && (a.2.1 == b.2.1 && a.2.2.1 == b.2.2.1)
def stL (s : Sta) : List Int := putI s.1 8 ++ putI s.2.1 8 ++ [w8 s.2.2.1.length] ++ s.2.2.1.map w8
def stPutF (s : Sta) : List Int := if okS s then stL s else []
def okW (n : Int) : Prop := 0 ≤ n ∧ n < 18446744073709551616
def okSt (s : Sta) : Prop := okW s.1 ∧ okW s.2.1
def zSt : Sta := (0, 0, [], ())
def g16 (b : List Int) : Int := b.getD 16 0
def g8 (b : List Int) : Int := getR (b.take 8)
def g9 (b : List Int) : Int := getR ((b.drop 8).take 8)
def g17 (b : List Int) (n : Nat) : List Int := (b.drop 17).take n
def stAt (b : List Int) : Sta := (g8 b, g9 b, g17 b (g16 b).toNat, ())
def stTkE (b : List Int) : Int := if b.length < 17 then 3 else if 8 < g16 b then 3 else if (b.length : Int) < 17 + g16 b then 3 else if okS (stAt b) then 0 else 3
def stTkS (b : List Int) : Sta := if stTkE b = 0 then stAt b else zSt
def stTkN (b : List Int) : Int := if stTkE b = 0 then 17 + g16 b else 0
def frChk (f : Fra) : Int := if f.1 < 0 then 1 else if 24 < f.1 then 1 else if f.2.1 < 0 then 1 else if 24 < f.2.1 then 1 else if f.1 = f.2.1 then 1 else if stChk f.2.2.1 = 0 then (if f.2.2.2.2.1 < 0 then 1 else if 2147483647 < f.2.2.2.2.1 then 1 else if f.2.2.2.1 = 1 then (if 65536 < f.2.2.2.2.2.1.length then 2 else 0) else if f.2.2.2.1 = 2 then (if 0 < f.2.2.2.2.2.1.length then 1 else 0) else 1) else 1
def frHd (f : Fra) : List Int := [w8 f.1, w8 f.2.1] ++ stL f.2.2.1 ++ [w8 f.2.2.2.1] ++ putI f.2.2.2.2.1 4 ++ putI f.2.2.2.2.2.1.length 4 ++ f.2.2.2.2.2.1
def frPutF (k : List Int) (f : Fra) : List Int := if frChk f = 0 then frHd f ++ tagF k (frHd f) else []
def zFr : Fra := (0, 0, zSt, 0, 0, [], ())
def frRest (b : List Int) : List Int := b.drop (2 + stTkN (b.drop 2)).toNat
def frAt (b : List Int) : Fra := (b.getD 0 0, b.getD 1 0, stTkS (b.drop 2), (frRest b).getD 0 0, getR (((frRest b).drop 1).take 4), (frRest b).drop 9, ())
def frRdE (b : List Int) : Bool := decide (2 ≤ b.length) && (stTkE (b.drop 2) == 0 && (decide (9 ≤ (frRest b).length) && (getR (((frRest b).drop 5).take 4) == (((frRest b).drop 9).length : Int))))
def frRdF (b : List Int) : Fra := if frRdE b then frAt b else zFr
def frTkE (k b : List Int) : Int := if b.length < 32 then 3 else if frRdE (b.take (b.length - 32)) then (if frChk (frRdF (b.take (b.length - 32))) = 0 then (if b.drop (b.length - 32) = tagF k (b.take (b.length - 32)) then 0 else 4) else 3) else 3
def frTkF (k b : List Int) : Fra := if frTkE k b = 0 then frRdF (b.take (b.length - 32)) else zFr
theorem bneF {a b : Int} (h : a = b) : (a != b) = false := by rw [h]; exact bne_self_eq_false _
theorem bneT {a b : Int} (h : a ≠ b) : (a != b) = true := bne_iff_ne.2 h
theorem metA_len (p : List Int) : (metA p).length = 17 := by simp [metA]
theorem metA_at {p : List Int} {n : Int} (h0 : 0 ≤ n) (h1 : n ≤ 16) {b : Bool} (h : (metA p)[n.toNat]? = some b) : b = p.contains n := by
  unfold metA at h
  rw [List.getElem?_map, List.getElem?_range (by omega)] at h
  simp only [Option.map_some, Option.some.injEq] at h
  rw [← h, show ((n.toNat : Nat) : Int) = n by omega]
theorem metA_set {p : List Int} {n : Int} (h0 : 0 ≤ n) (h1 : n ≤ 16) : (metA p).set n.toNat true = metA (p ++ [n]) := by
  apply List.ext_getElem
  · simp [metA]
  · intro i h2 h3
    have hi : i < 17 := by rw [metA_len] at h3; exact h3
    simp only [metA, List.getElem_set, List.getElem_map, List.getElem_range, List.contains_append]
    by_cases e : n.toNat = i
    · rw [if_pos e]
      have : ((i : Nat) : Int) = n := by omega
      rw [this]
      simp
    · rw [if_neg e]
      have : ((i : Nat) : Int) ≠ n := by omega
      simp [this]
theorem putE8 {n : Int} : putE n 8 = 0 := by unfold putE; rw [if_neg (by decide), if_neg (by decide), if_neg (by decide)]
theorem putR8 {n : Int} : putR n 8 = putI n 8 := by unfold putR; rw [if_pos putE8]; rfl
theorem putE4 {n : Int} (h0 : 0 ≤ n) (h : n < 4294967296) : putE n 4 = 0 := by
  unfold putE
  rw [if_neg (by decide), if_neg (by decide), if_pos (by decide), if_pos]
  show n / 4294967296 = 0
  omega
theorem putR4 {n : Int} (h0 : 0 ≤ n) (h : n < 4294967296) : putR n 4 = putI n 4 := by unfold putR; rw [if_pos (putE4 h0 h)]; rfl
theorem stL_len (s : Sta) : (stL s).length = 17 + s.2.2.1.length := by
  simp only [stL, List.length_append, putI_len, List.length_map, List.length_cons, List.length_nil]
theorem stChk_0 {s : Sta} (h : stChk s = 0) : okS s = true := by
  unfold stChk at h
  cases hk : okS s with
  | true => rfl
  | false => rw [hk] at h; cases h
theorem okS_len {s : Sta} (h : okS s = true) : 1 ≤ s.2.2.1.length ∧ s.2.2.1.length ≤ 8 := by
  simp only [okS, Bool.and_eq_true, decide_eq_true_eq] at h
  exact ⟨h.1, h.2.1⟩
theorem frChk_0 {f : Fra} (h : frChk f = 0) : 0 ≤ f.1 ∧ f.1 ≤ 24 ∧ 0 ≤ f.2.1 ∧ f.2.1 ≤ 24 ∧ f.1 ≠ f.2.1 ∧ stChk f.2.2.1 = 0 ∧ 0 ≤ f.2.2.2.2.1 ∧ f.2.2.2.2.1 ≤ 2147483647 ∧ ((f.2.2.2.1 = 1 ∧ f.2.2.2.2.2.1.length ≤ 65536) ∨ (f.2.2.2.1 = 2 ∧ f.2.2.2.2.2.1.length = 0)) := by
  unfold frChk at h
  split at h
  · cases h
  split at h
  · cases h
  split at h
  · cases h
  split at h
  · cases h
  split at h
  · cases h
  split at h
  · rename_i h6
    split at h
    · cases h
    split at h
    · cases h
    split at h
    · rename_i hk
      split at h
      · cases h
      · exact ⟨by omega, by omega, by omega, by omega, by omega, h6, by omega, by omega, .inl ⟨hk, by omega⟩⟩
    · split at h
      · rename_i hk
        split at h
        · cases h
        · exact ⟨by omega, by omega, by omega, by omega, by omega, h6, by omega, by omega, .inr ⟨hk, by omega⟩⟩
      · cases h
  · cases h
theorem frHd_len {f : Fra} : (frHd f).length = 28 + f.2.2.1.2.2.1.length + f.2.2.2.2.2.1.length := by
  simp only [frHd, List.length_append, stL_len, putI_len, List.length_cons, List.length_nil]
  omega
theorem dropT (l : List Int) (n : Nat) : List.take (Int.toNat (l.length : Int) - n) (l.drop n) = l.drop n := by
  rw [Int.toNat_natCast, List.take_of_length_le (by rw [List.length_drop]; omega)]
theorem byt_drop {l : List Int} (h : byt l) (n : Nat) : byt (l.drop n) := fun x hx => h x (List.mem_of_mem_drop hx)
theorem byt_take {l : List Int} (h : byt l) (n : Nat) : byt (l.take n) := fun x hx => h x (List.mem_of_mem_take hx)
theorem byt_getD {l : List Int} (h : byt l) (n : Nat) : 0 ≤ l.getD n 0 ∧ l.getD n 0 < 256 := by
  rw [List.getD_eq_getElem?_getD]
  cases hx : l[n]? with
  | none => exact ⟨by decide, by decide⟩
  | some x => exact h x (List.mem_of_getElem? hx)
theorem stTk_N {b : List Int} (hb : byt b) : 0 ≤ stTkN b ∧ stTkN b ≤ (b.length : Nat) ∧ stTkN b ≤ 25 := by
  have hg := byt_getD hb 16
  have h16 : g16 b = b.getD 16 0 := rfl
  unfold stTkN
  split
  · rename_i h
    unfold stTkE at h
    split at h
    · cases h
    split at h
    · cases h
    split at h
    · cases h
    · omega
  · omega
theorem getI4_bd {l : List Int} (h : byt l) (hl : l.length = 4) : 0 ≤ getR l ∧ getR l < 4294967296 := by
  have e : getE l = 0 := by unfold getE; rw [if_neg (by omega), if_neg (by omega)]
  unfold getR
  rw [if_pos e]
  have := getI_bd l h
  rw [hl] at this
  exact this
end DoorU
abbrev vFr : Sh := .agg (shOf false tFr)
def S_schk : Spec := ⟨.pair aSt .unit, .pair nI .unit, fun _ => True, fun (x : Sta × Unit) => ((stChk x.1, ()) : Int × Unit)⟩
def A_schk (x : Sta × Unit) : Nat → Option LA
  | 0 => some ⟨[19, 3], [], .pair nI (.pair (.pa .bool 135) .unit), fun (v : Int × List Bool × Unit) => 0 ≤ v.1 ∧ v.1 ≤ (x.1.2.2.1.length : Nat) ∧ v.2.1 = metA (x.1.2.2.1.take v.1.toNat) ∧ okG [] x.1.2.2.1 = okG (x.1.2.2.1.take v.1.toNat) (x.1.2.2.1.drop v.1.toNat), fun (v : Int × List Bool × Unit) => ((x.1.2.2.1.length : Nat) - v.1).toNat⟩
  | _ => none
def S_nan : Spec := ⟨.pair nW .unit, .pair .bool .unit, fun _ => True, fun _ => ((false, ()) : Bool × Unit)⟩
def S_ccmp : Spec := ⟨.pair nW (.pair nW .unit), .pair nI .unit, fun _ => True, fun (x : Int × Int × Unit) => ((cmpF x.1 x.2.1, ()) : Int × Unit)⟩
def S_scmp : Spec := ⟨.pair aSt (.pair aSt .unit), .pair nI .unit, fun _ => True, fun (x : Sta × Sta × Unit) => ((stCmp x.1 x.2.1, ()) : Int × Unit)⟩
def S_eqi : Spec := ⟨.pair lI (.pair lI .unit), .pair .bool .unit, fun _ => True, fun (x : List Int × List Int × Unit) => ((x.1 == x.2.1, ()) : Bool × Unit)⟩
def A_eqi (x : List Int × List Int × Unit) : Nat → Option LA
  | 0 => some ⟨[13], [], .pair nI .unit, fun (v : Int × Unit) => 0 ≤ v.1 ∧ v.1 ≤ (x.1.length : Nat) ∧ x.1.length = x.2.1.length ∧ x.1.take v.1.toNat = x.2.1.take v.1.toNat, fun (v : Int × Unit) => ((x.1.length : Nat) - v.1).toNat⟩
  | _ => none
def S_ssame : Spec := ⟨.pair aSt (.pair aSt .unit), .pair .bool .unit, fun _ => True, fun (x : Sta × Sta × Unit) => ((stSame x.1 x.2.1, ()) : Bool × Unit)⟩
def S_sput : Spec := ⟨.pair aSt .unit, .pair (.tup (.pair vY (.pair nI .unit))) .unit, fun (x : Sta × Unit) => okSt x.1, fun (x : Sta × Unit) => (((stPutF x.1, stChk x.1, ()), ()) : (List Int × Int × Unit) × Unit)⟩
def A_sput (x : Sta × Unit) : Nat → Option LA
  | 0 => some ⟨[41, 9], [], .pair nI (.pair oY .unit), fun (v : Int × List Int × Unit) => 0 ≤ v.1 ∧ v.1 ≤ (x.1.2.2.1.length : Nat) ∧ v.2.1 = putI x.1.1 8 ++ putI x.1.2.1 8 ++ [w8 x.1.2.2.1.length] ++ (x.1.2.2.1.take v.1.toNat).map w8, fun (v : Int × List Int × Unit) => ((x.1.2.2.1.length : Nat) - v.1).toNat⟩
  | _ => none
def S_stake : Spec := ⟨.pair lY .unit, .pair (.tup (.pair vSt (.pair nI (.pair nI .unit)))) .unit, fun (x : List Int × Unit) => byt x.1, fun (x : List Int × Unit) => (((stTkS x.1, stTkN x.1, stTkE x.1, ()), ()) : (Sta × Int × Int × Unit) × Unit)⟩
def A_stake (x : List Int × Unit) : Nat → Option LA
  | 0 => some ⟨[46, 6], [(3006, tI, 3)], .pair nI (.pair (.var 28 (.pair nW (.pair nW (.pair oI .unit)))) .unit), fun (v : Int × (Int × Int × List Int × Unit) × Unit) => 0 ≤ v.1 ∧ v.1 ≤ g16 x.1 ∧ v.2.1 = (g8 x.1, g9 x.1, g17 x.1 v.1.toNat, ()), fun (v : Int × (Int × Int × List Int × Unit) × Unit) => (g16 x.1 - v.1).toNat⟩
  | _ => none
def S_fchk : Spec := ⟨.pair aFr .unit, .pair nI .unit, fun _ => True, fun (x : Fra × Unit) => ((frChk x.1, ()) : Int × Unit)⟩
def S_fput : Spec := ⟨.pair lY (.pair aFr .unit), .pair (.tup (.pair vY (.pair nI .unit))) .unit, fun (x : List Int × Fra × Unit) => x.1.length ≤ 1000000000 ∧ okSt x.2.1.2.2.1, fun (x : List Int × Fra × Unit) => (((frPutF x.1 x.2.1, frChk x.2.1, ()), ()) : (List Int × Int × Unit) × Unit)⟩
def S_fread : Spec := ⟨.pair vY .unit, .pair (.tup (.pair vFr (.pair .bool .unit))) .unit, fun (x : List Int × Unit) => byt x.1, fun (x : List Int × Unit) => (((frRdF x.1, frRdE x.1, ()), ()) : (Fra × Bool × Unit) × Unit)⟩
def S_bcl : Spec := ⟨.pair lY .unit, .pair vY .unit, fun (x : List Int × Unit) => x.1.length ≤ 1000000000000, fun (x : List Int × Unit) => ((x.1, ()) : List Int × Unit)⟩
def S_ftake : Spec := ⟨.pair lY (.pair vY .unit), .pair (.tup (.pair vFr (.pair nI .unit))) .unit, fun (x : List Int × List Int × Unit) => x.1.length ≤ 1000000000 ∧ x.2.1.length ≤ 100000000 ∧ byt x.2.1, fun (x : List Int × List Int × Unit) => (((frTkF x.1 x.2.1, frTkE x.1 x.2.1, ()), ()) : (Fra × Int × Unit) × Unit)⟩

theorem vc_schk : VC Tryd.prog Tryd.f33 (bodyOf Tryd.f33) S_schk [] A_schk = (∀ (x : (Int × Int × List Int × Unit) × Unit), True →
  List.length x.1.snd.snd.fst ≤ (9223372036854775807 : Nat) →
  List.length x.1.snd.snd.fst ≤ (9223372036854775807 : Nat) →
  bif decide ((↑(List.length x.1.snd.snd.fst) : Int) < (1 : Int)) then ((1 : Int), ()) = (stChk x.1, ()) else List.length x.1.snd.snd.fst ≤ (9223372036854775807 : Nat) →
  bif decide ((8 : Int) < (↑(List.length x.1.snd.snd.fst) : Int)) then ((1 : Int), ()) = (stChk x.1, ()) else List.length x.1.snd.snd.fst ≤ (9223372036854775807 : Nat) →
  ((0 : Int) ≤ (0 : Int) ∧ (0 : Int) ≤ (↑(List.length x.1.snd.snd.fst) : Int) ∧ [false, false, false, false, false, false, false, false, false, false, false, false, false, false, false, false, false] = metA (List.take (Int.toNat (0 : Int)) x.1.snd.snd.fst) ∧ okG [] x.1.snd.snd.fst = okG (List.take (Int.toNat (0 : Int)) x.1.snd.snd.fst) (List.drop (Int.toNat (0 : Int)) x.1.snd.snd.fst)) ∧ ∀ (v : Int × List Bool × Unit), (0 : Int) ≤ v.fst ∧ v.fst ≤ (↑(List.length x.1.snd.snd.fst) : Int) ∧ v.2.fst = metA (List.take (Int.toNat v.fst) x.1.snd.snd.fst) ∧ okG [] x.1.snd.snd.fst = okG (List.take (Int.toNat v.fst) x.1.snd.snd.fst) (List.drop (Int.toNat v.fst) x.1.snd.snd.fst) →
  bif decide (v.fst < (↑(List.length x.1.snd.snd.fst) : Int)) then (0 : Int) ≤ v.fst ∧ v.fst < (↑(List.length x.1.snd.snd.fst) : Int) ∧ ∀ (c0 : Int), x.1.snd.snd.fst[Int.toNat v.fst]? = some c0 →
  bif decide (c0 < (1 : Int)) then ((1 : Int), ()) = (stChk x.1, ()) else bif decide ((16 : Int) < c0) then ((1 : Int), ()) = (stChk x.1, ()) else (0 : Int) ≤ c0 ∧ c0 < Int.ofNat (17 : Nat) ∧ Int.toNat c0 < List.length v.2.fst ∧ ∀ (x_1 : Bool), v.2.fst[Int.toNat c0]? = some x_1 →
  bif x_1 then ((1 : Int), ()) = (stChk x.1, ()) else (0 : Int) ≤ c0 ∧ c0 < Int.ofNat (17 : Nat) ∧ Int.toNat c0 < List.length v.2.fst ∧ ∀ (x0 : Bool), v.2.fst[Int.toNat c0]? = some x0 →
  ((0 : Int) ≤ IntKind.wrap IntKind.i64 (v.fst + (1 : Int)) ∧ IntKind.wrap IntKind.i64 (v.fst + (1 : Int)) ≤ (↑(List.length x.1.snd.snd.fst) : Int) ∧ List.set v.2.fst (Int.toNat c0) true = metA (List.take (Int.toNat (IntKind.wrap IntKind.i64 (v.fst + (1 : Int)))) x.1.snd.snd.fst) ∧ okG [] x.1.snd.snd.fst = okG (List.take (Int.toNat (IntKind.wrap IntKind.i64 (v.fst + (1 : Int)))) x.1.snd.snd.fst) (List.drop (Int.toNat (IntKind.wrap IntKind.i64 (v.fst + (1 : Int)))) x.1.snd.snd.fst)) ∧ Int.toNat ((↑(List.length x.1.snd.snd.fst) : Int) - IntKind.wrap IntKind.i64 (v.fst + (1 : Int))) < Int.toNat ((↑(List.length x.1.snd.snd.fst) : Int) - v.fst) else ((0 : Int), ()) = (stChk x.1, ())) := by kernel_rfl
theorem en_schk (us : Array Value) (u : World) : (callFunc 33 us).run Tryd.prog u = .ok (.enter 33 us) u := by kernel_rfl
theorem sc_schk : SC Tryd.prog 33 S_schk := by
  refine SC.of Tryd.func33 (c := bodyOf Tryd.f33) (by kernel_rfl) (by kernel_rfl) (fun x => (by decide : (1:Nat) ≤ Tryd.f33.ntmps)) DOk.nil (Eq.mpr vc_schk ?_)
  rintro ⟨⟨e, r, ch, ⟨⟩⟩, ⟨⟩⟩ - - -
  dsimp only
  by_cases h1 : ch.length < 1
  · rw [decide_eq_true (by omega : (ch.length : Int) < 1), cond_true]
    have : okS (e, r, ch, ()) = false := by simp only [okS]; rw [decide_eq_false (by omega)]; rfl
    rw [stChk, this]; rfl
  rw [decide_eq_false (by omega), cond_false]
  intro _
  by_cases h2 : 8 < ch.length
  · rw [decide_eq_true (by omega : (8 : Int) < (ch.length : Int)), cond_true]
    have : okS (e, r, ch, ()) = false := by simp only [okS]; rw [decide_eq_false (by omega : ¬ ch.length ≤ 8)]; simp
    rw [stChk, this]; rfl
  rw [decide_eq_false (by omega), cond_false]
  intro _
  have hok : okS (e, r, ch, ()) = okG [] ch := by simp only [okS]; rw [decide_eq_true (by omega : 1 ≤ ch.length), decide_eq_true (by omega : ch.length ≤ 8)]; rfl
  refine ⟨⟨Int.le_refl 0, by omega, rfl, rfl⟩, ?_⟩
  rintro ⟨i, m, ⟨⟩⟩ ⟨q0, q1, hm, hg⟩
  dsimp only at q0 q1 hm hg ⊢
  have wi : IntKind.i64.wrap (i + 1) = i + 1 := IntWalk.i64_in _ (by omega)
  have ml : m.length = 17 := by rw [hm, metA_len]
  by_cases hi : i < (ch.length : Int)
  · rw [decide_eq_true hi, cond_true]
    refine ⟨q0, hi, fun c hc => ?_⟩
    have hd : ch.drop i.toNat = c :: ch.drop (i.toNat + 1) := by
      obtain ⟨hlt, rfl⟩ := List.getElem?_eq_some_iff.1 hc
      exact List.drop_eq_getElem_cons hlt
    rw [hd] at hg
    simp only [okG] at hg
    have bad : ∀ {q : Bool}, q = false → okG [] ch = q → (((1 : Int), ()) : Int × Unit) = (stChk (e, r, ch, ()), ()) := fun h1 h2 => by rw [stChk, hok, h2, h1]; rfl
    by_cases c1 : c < 1
    · rw [decide_eq_true c1, cond_true]
      exact bad (by rw [decide_eq_false (by omega : ¬ (1 : Int) ≤ c)]; rfl) hg
    rw [decide_eq_false c1, cond_false]
    by_cases c2 : 16 < c
    · rw [decide_eq_true c2, cond_true]
      exact bad (by rw [decide_eq_false (by omega : ¬ c ≤ 16)]; simp) hg
    rw [decide_eq_false c2, cond_false, ml, wi]
    rw [decide_eq_true (by omega : (1 : Int) ≤ c), decide_eq_true (by omega : c ≤ 16), Bool.true_and, Bool.true_and] at hg
    refine ⟨by omega, by show c < 17; omega, by omega, fun b hb => ?_⟩
    rw [hm] at hb
    obtain rfl := metA_at (by omega) (by omega) hb
    cases hct : (ch.take i.toNat).contains c
    · rw [cond_false]
      rw [hct, Bool.not_false, Bool.true_and] at hg
      refine ⟨by omega, by show c < 17; omega, by omega, fun _ _ => ⟨⟨by omega, by omega, ?_, ?_⟩, by omega⟩⟩
      · rw [hm, metA_set (by omega) (by omega), show (i + 1).toNat = i.toNat + 1 by omega, take_snoc hc]
      · rw [show (i + 1).toNat = i.toNat + 1 by omega, take_snoc hc]
        exact hg
    · rw [cond_true]
      exact bad (by rw [hct]; rfl) hg
  · rw [decide_eq_false hi, cond_false]
    obtain rfl : i = (ch.length : Int) := by omega
    rw [show ((ch.length : Nat) : Int).toNat = ch.length by omega, List.drop_length] at hg
    rw [stChk, hok, hg]
    rfl

theorem vc_nan : VC Tryd.prog Tryd.f94 (bodyOf Tryd.f94) S_nan [] (fun _ _ => none) = (∀ (x : Int × Unit), True →
  (x.fst != x.fst, ()) = (false, ())) := by kernel_rfl
theorem en_nan (us : Array Value) (u : World) : (callFunc 94 us).run Tryd.prog u = .ok (.enter 94 us) u := by kernel_rfl
theorem sc_nan : SC Tryd.prog 94 S_nan := by
  refine SC.of Tryd.func94 (c := bodyOf Tryd.f94) (by kernel_rfl) (by kernel_rfl) (fun x => (by decide : (1:Nat) ≤ Tryd.f94.ntmps)) DOk.nil (Eq.mpr vc_nan ?_)
  rintro ⟨a, ⟨⟩⟩ -
  dsimp only
  rw [bneF rfl]

theorem vc_ccmp : VC Tryd.prog Tryd.f51 (bodyOf Tryd.f51) S_ccmp [(94, S_nan)] (fun _ _ => none) = (∀ (x : Int × Int × Unit), True →
  True ∧ True ∧ bif decide (x.fst < x.2.fst) then (Int.negSucc (nat_lit 0), ()) = (cmpF x.fst x.2.fst, ()) else bif decide (x.2.fst < x.fst) then ((1 : Int), ()) = (cmpF x.fst x.2.fst, ()) else ((0 : Int), ()) = (cmpF x.fst x.2.fst, ())) := by kernel_rfl
theorem en_ccmp (us : Array Value) (u : World) : (callFunc 51 us).run Tryd.prog u = .ok (.enter 51 us) u := by kernel_rfl
theorem sc_ccmp : SC Tryd.prog 51 S_ccmp := by
  refine SC.of Tryd.func51 (c := bodyOf Tryd.f51) (by kernel_rfl) (by kernel_rfl) (fun x => (by decide : (2:Nat) ≤ Tryd.f51.ntmps)) (DOk.cons sc_nan en_nan DOk.nil) (Eq.mpr vc_ccmp ?_)
  rintro ⟨a, b, ⟨⟩⟩ -
  dsimp only [cmpF]
  refine ⟨trivial, trivial, ?_⟩
  by_cases h1 : a < b
  · rw [decide_eq_true h1, cond_true, if_pos h1]; rfl
  rw [decide_eq_false h1, cond_false, if_neg h1]
  by_cases h2 : b < a
  · rw [decide_eq_true h2, cond_true, if_pos h2]
  · rw [decide_eq_false h2, cond_false, if_neg h2]

theorem vc_scmp : VC Tryd.prog Tryd.f17 (bodyOf Tryd.f17) S_scmp [(51, S_ccmp)] (fun _ _ => none) = (∀ (x : (Int × Int × List Int × Unit) × (Int × Int × List Int × Unit) × Unit), True →
  List.length x.1.snd.snd.fst ≤ (9223372036854775807 : Nat) →
  List.length x.2.fst.snd.snd.fst ≤ (9223372036854775807 : Nat) →
  True ∧ bif cmpF x.1.fst x.2.fst.fst != (0 : Int) then (cmpF x.1.fst x.2.fst.fst, ()) = (stCmp x.1 x.2.fst, ()) else True ∧ (cmpF x.1.snd.fst x.2.fst.snd.fst, ()) = (stCmp x.1 x.2.fst, ())) := by kernel_rfl
theorem en_scmp (us : Array Value) (u : World) : (callFunc 17 us).run Tryd.prog u = .ok (.enter 17 us) u := by kernel_rfl
theorem sc_scmp : SC Tryd.prog 17 S_scmp := by
  refine SC.of Tryd.func17 (c := bodyOf Tryd.f17) (by kernel_rfl) (by kernel_rfl) (fun x => (by decide : (2:Nat) ≤ Tryd.f17.ntmps)) (DOk.cons sc_ccmp en_ccmp DOk.nil) (Eq.mpr vc_scmp ?_)
  rintro ⟨⟨a1, a2, a3, ⟨⟩⟩, ⟨b1, b2, b3, ⟨⟩⟩, ⟨⟩⟩ - - -
  dsimp only [stCmp]
  refine ⟨trivial, ?_⟩
  by_cases h : cmpF a1 b1 = 0
  · rw [bneF h, cond_false, if_pos h]
    exact ⟨trivial, rfl⟩
  · rw [bneT h, cond_true, if_neg h]

theorem vc_eqi : VC Tryd.prog Tryd.f52 (bodyOf Tryd.f52) S_eqi [] A_eqi = (∀ (x : List Int × List Int × Unit), True →
  List.length x.fst ≤ (9223372036854775807 : Nat) →
  List.length x.2.fst ≤ (9223372036854775807 : Nat) →
  List.length x.fst ≤ (9223372036854775807 : Nat) →
  List.length x.2.fst ≤ (9223372036854775807 : Nat) →
  bif (↑(List.length x.fst) : Int) != (↑(List.length x.2.fst) : Int) then (false, ()) = (x.fst == x.2.fst, ()) else List.length x.fst ≤ (9223372036854775807 : Nat) →
  ((0 : Int) ≤ (0 : Int) ∧ (0 : Int) ≤ (↑(List.length x.fst) : Int) ∧ List.length x.fst = List.length x.2.fst ∧ List.take (Int.toNat (0 : Int)) x.fst = List.take (Int.toNat (0 : Int)) x.2.fst) ∧ ∀ (v : Int × Unit), (0 : Int) ≤ v.fst ∧ v.fst ≤ (↑(List.length x.fst) : Int) ∧ List.length x.fst = List.length x.2.fst ∧ List.take (Int.toNat v.fst) x.fst = List.take (Int.toNat v.fst) x.2.fst →
  bif decide (v.fst < (↑(List.length x.fst) : Int)) then (0 : Int) ≤ v.fst ∧ v.fst < (↑(List.length x.fst) : Int) ∧ ∀ (c0 : Int), x.fst[Int.toNat v.fst]? = some c0 →
  (0 : Int) ≤ v.fst ∧ v.fst < (↑(List.length x.2.fst) : Int) ∧ ∀ (c0_1 : Int), x.2.fst[Int.toNat v.fst]? = some c0_1 →
  bif c0 != c0_1 then (false, ()) = (x.fst == x.2.fst, ()) else ((0 : Int) ≤ IntKind.wrap IntKind.i64 (v.fst + (1 : Int)) ∧ IntKind.wrap IntKind.i64 (v.fst + (1 : Int)) ≤ (↑(List.length x.fst) : Int) ∧ List.length x.fst = List.length x.2.fst ∧ List.take (Int.toNat (IntKind.wrap IntKind.i64 (v.fst + (1 : Int)))) x.fst = List.take (Int.toNat (IntKind.wrap IntKind.i64 (v.fst + (1 : Int)))) x.2.fst) ∧ Int.toNat ((↑(List.length x.fst) : Int) - IntKind.wrap IntKind.i64 (v.fst + (1 : Int))) < Int.toNat ((↑(List.length x.fst) : Int) - v.fst) else (true, ()) = (x.fst == x.2.fst, ())) := by kernel_rfl
theorem en_eqi (us : Array Value) (u : World) : (callFunc 52 us).run Tryd.prog u = .ok (.enter 52 us) u := by kernel_rfl
theorem sc_eqi : SC Tryd.prog 52 S_eqi := by
  refine SC.of Tryd.func52 (c := bodyOf Tryd.f52) (by kernel_rfl) (by kernel_rfl) (fun x => (by decide : (2:Nat) ≤ Tryd.f52.ntmps)) DOk.nil (Eq.mpr vc_eqi ?_)
  rintro ⟨a, b, ⟨⟩⟩ - hla - - -
  dsimp only at hla ⊢
  by_cases h : a.length = b.length
  rotate_left 1
  · rw [show (((a.length : Nat) : Int) != ((b.length : Nat) : Int)) = true from bneT (by omega), cond_true]
    have : (a == b) = false := beq_eq_false_iff_ne.2 fun e => h (by rw [e])
    rw [this]
  rw [show (((a.length : Nat) : Int) != ((b.length : Nat) : Int)) = false from bneF (by omega), cond_false]
  intro _
  refine ⟨⟨Int.le_refl 0, by omega, h, rfl⟩, ?_⟩
  rintro ⟨i, ⟨⟩⟩ ⟨q0, q1, -, ht⟩
  dsimp only at q0 q1 ht ⊢
  by_cases hi : i < (a.length : Int)
  · have wi : IntKind.i64.wrap (i + 1) = i + 1 := IntWalk.i64_in _ (by omega)
    rw [decide_eq_true hi, cond_true, wi]
    refine ⟨q0, hi, fun c hc => ⟨q0, by omega, fun d hd => ?_⟩⟩
    by_cases e : c = d
    · subst e
      rw [bneF rfl, cond_false]
      refine ⟨⟨by omega, by omega, h, ?_⟩, by omega⟩
      rw [show (i + 1).toNat = i.toNat + 1 by omega, take_snoc hc, take_snoc hd, ht]
    · rw [bneT e, cond_true]
      have : (a == b) = false := beq_eq_false_iff_ne.2 fun e2 => e (by rw [e2, hd] at hc; exact (Option.some.inj hc).symm)
      rw [this]
  · rw [decide_eq_false hi, cond_false]
    obtain rfl : i = (a.length : Int) := by omega
    rw [show ((a.length : Nat) : Int).toNat = a.length by omega, List.take_length, h, List.take_length] at ht
    rw [beq_iff_eq.2 ht]

theorem vc_ssame : VC Tryd.prog Tryd.f18 (bodyOf Tryd.f18) S_ssame [(52, S_eqi)] (fun _ _ => none) = (∀ (x : (Int × Int × List Int × Unit) × (Int × Int × List Int × Unit) × Unit), True →
  List.length x.1.snd.snd.fst ≤ (9223372036854775807 : Nat) →
  List.length x.2.fst.snd.snd.fst ≤ (9223372036854775807 : Nat) →
  bif x.1.fst == x.2.fst.fst then bif x.1.snd.fst == x.2.fst.snd.fst then True ∧ (x.1.snd.snd.fst == x.2.fst.snd.snd.fst, ()) = (stSame x.1 x.2.fst, ()) else (false, ()) = (stSame x.1 x.2.fst, ()) else (false, ()) = (stSame x.1 x.2.fst, ())) := by kernel_rfl
theorem en_ssame (us : Array Value) (u : World) : (callFunc 18 us).run Tryd.prog u = .ok (.enter 18 us) u := by kernel_rfl
theorem sc_ssame : SC Tryd.prog 18 S_ssame := by
  refine SC.of Tryd.func18 (c := bodyOf Tryd.f18) (by kernel_rfl) (by kernel_rfl) (fun x => (by decide : (2:Nat) ≤ Tryd.f18.ntmps)) (DOk.cons sc_eqi en_eqi DOk.nil) (Eq.mpr vc_ssame ?_)
  rintro ⟨⟨a1, a2, a3, ⟨⟩⟩, ⟨b1, b2, b3, ⟨⟩⟩, ⟨⟩⟩ - - -
  dsimp only [stSame]
  cases a1 == b1
  · rfl
  cases a2 == b2
  · rfl
  exact ⟨trivial, rfl⟩

theorem vc_sput : VC Tryd.prog Tryd.f40 (bodyOf Tryd.f40) S_sput [(33, S_schk), (41, S_put), (80, S_cat)] A_sput = (∀ (x : (Int × Int × List Int × Unit) × Unit), okSt x.1 →
  List.length x.1.snd.snd.fst ≤ (9223372036854775807 : Nat) →
  True ∧ bif stChk x.1 != (0 : Int) then (([], stChk x.1, ()), ()) = ((stPutF x.1, stChk x.1, ()), ()) else ((0 : Int) ≤ x.1.fst ∧ x.1.fst < (18446744073709551616 : Int)) ∧ ((0 : Int) ≤ x.1.snd.fst ∧ x.1.snd.fst < (18446744073709551616 : Int)) ∧ (List.length x.1.snd.snd.fst ≤ (9223372036854775807 : Nat) →
  List.length (List.flatten [putR x.1.fst (8 : Int), putR x.1.snd.fst (8 : Int), [IntKind.wrap IntKind.u8 (↑(List.length x.1.snd.snd.fst) : Int)]]) ≤ (1099511627776 : Nat) ∧ (List.length x.1.snd.snd.fst ≤ (9223372036854775807 : Nat) →
  ((0 : Int) ≤ (0 : Int) ∧ (0 : Int) ≤ (↑(List.length x.1.snd.snd.fst) : Int) ∧ List.flatten [putR x.1.fst (8 : Int), putR x.1.snd.fst (8 : Int), [IntKind.wrap IntKind.u8 (↑(List.length x.1.snd.snd.fst) : Int)]] = putI x.1.fst (8 : Nat) ++ putI x.1.snd.fst (8 : Nat) ++ [w8 (↑(List.length x.1.snd.snd.fst) : Int)] ++ List.map w8 (List.take (Int.toNat (0 : Int)) x.1.snd.snd.fst)) ∧ ∀ (v : Int × List Int × Unit), (0 : Int) ≤ v.fst ∧ v.fst ≤ (↑(List.length x.1.snd.snd.fst) : Int) ∧ v.2.fst = putI x.1.fst (8 : Nat) ++ putI x.1.snd.fst (8 : Nat) ++ [w8 (↑(List.length x.1.snd.snd.fst) : Int)] ++ List.map w8 (List.take (Int.toNat v.fst) x.1.snd.snd.fst) →
  bif decide (v.fst < (↑(List.length x.1.snd.snd.fst) : Int)) then (0 : Int) ≤ v.fst ∧ v.fst < (↑(List.length x.1.snd.snd.fst) : Int) ∧ ∀ (c0 : Int), x.1.snd.snd.fst[Int.toNat v.fst]? = some c0 →
  (List.length v.2.fst + List.length [IntKind.wrap IntKind.u8 c0]) * nat_lit 1 ≤ (140737488351232 : Nat) ∧ ((0 : Int) ≤ IntKind.wrap IntKind.i64 (v.fst + (1 : Int)) ∧ IntKind.wrap IntKind.i64 (v.fst + (1 : Int)) ≤ (↑(List.length x.1.snd.snd.fst) : Int) ∧ v.2.fst ++ [IntKind.wrap IntKind.u8 c0] = putI x.1.fst (8 : Nat) ++ putI x.1.snd.fst (8 : Nat) ++ [w8 (↑(List.length x.1.snd.snd.fst) : Int)] ++ List.map w8 (List.take (Int.toNat (IntKind.wrap IntKind.i64 (v.fst + (1 : Int)))) x.1.snd.snd.fst)) ∧ Int.toNat ((↑(List.length x.1.snd.snd.fst) : Int) - IntKind.wrap IntKind.i64 (v.fst + (1 : Int))) < Int.toNat ((↑(List.length x.1.snd.snd.fst) : Int) - v.fst) else ((v.2.fst, (0 : Int), ()), ()) = ((stPutF x.1, stChk x.1, ()), ())))) := by kernel_rfl
theorem en_sput (us : Array Value) (u : World) : (callFunc 40 us).run Tryd.prog u = .ok (.enter 40 us) u := by kernel_rfl
theorem sc_sput : SC Tryd.prog 40 S_sput := by
  refine SC.of Tryd.func40 (c := bodyOf Tryd.f40) (by kernel_rfl) (by kernel_rfl) (fun x => (by decide : (1:Nat) ≤ Tryd.f40.ntmps)) (DOk.cons sc_schk en_schk (DOk.cons sc_put en_put (DOk.cons sc_cat en_cat DOk.nil))) (Eq.mpr vc_sput ?_)
  rintro ⟨⟨e, r, ch, ⟨⟩⟩, ⟨⟩⟩ ⟨he, hr⟩ -
  dsimp only at he hr ⊢
  refine ⟨trivial, ?_⟩
  by_cases hk : stChk (e, r, ch, ()) = 0
  rotate_left 1
  · rw [bneT hk, cond_true]
    have : okS (e, r, ch, ()) = false := by
      cases h : okS (e, r, ch, ())
      · rfl
      · exact absurd (by rw [stChk, h]; rfl) hk
    rw [stPutF, this]; rfl
  have hok := stChk_0 hk
  have hl := okS_len hok
  dsimp only at hl
  rw [bneF hk, cond_false]
  have hf : List.flatten [putR e 8, putR r 8, [IntKind.u8.wrap (ch.length : Int)]] = putI e 8 ++ putI r 8 ++ [w8 ch.length] := by
    simp only [List.flatten_cons, List.flatten_nil, List.append_nil, putR8, List.append_assoc]; rfl
  rw [hf]
  have hfl : (putI e 8 ++ putI r 8 ++ [w8 ch.length]).length = 17 := by simp only [List.length_append, putI_len, List.length_cons, List.length_nil]
  refine ⟨he, hr, fun _ => ⟨by rw [hfl]; decide, fun _ => ⟨⟨Int.le_refl 0, by omega, by simp only [Int.toNat_zero, List.take_zero, List.map_nil, List.append_nil]⟩, ?_⟩⟩⟩
  rintro ⟨i, o, ⟨⟩⟩ ⟨q0, q1, ho⟩
  dsimp only at q0 q1 ho ⊢
  have wi : IntKind.i64.wrap (i + 1) = i + 1 := IntWalk.i64_in _ (by omega)
  have ol : o.length = 17 + i.toNat := by rw [ho, List.length_append, hfl, List.length_map, List.length_take]; omega
  by_cases hi : i < (ch.length : Int)
  · rw [decide_eq_true hi, cond_true, wi, ol]
    refine ⟨q0, hi, fun c hc => ⟨by simp only [List.length_cons, List.length_nil]; omega, ⟨by omega, by omega, ?_⟩, by omega⟩⟩
    rw [ho, show (i + 1).toNat = i.toNat + 1 by omega, take_snoc hc, List.map_append, List.append_assoc]
    rfl
  · rw [decide_eq_false hi, cond_false]
    obtain rfl : i = (ch.length : Int) := by omega
    rw [ho, hk, stPutF, hok, show ((ch.length : Nat) : Int).toNat = ch.length by omega, List.take_length]
    rfl

theorem vc_fchk : VC Tryd.prog Tryd.f39 (bodyOf Tryd.f39) S_fchk [(33, S_schk)] (fun _ _ => none) = (∀ (x : (Int × Int × (Int × Int × List Int × Unit) × Int × Int × List Int × Unit) × Unit), True →
  List.length x.1.snd.snd.fst.snd.snd.fst ≤ (9223372036854775807 : Nat) →
  List.length x.1.snd.snd.snd.snd.snd.fst ≤ (9223372036854775807 : Nat) →
  bif decide (x.1.fst < (0 : Int)) then ((1 : Int), ()) = (frChk x.1, ()) else bif decide ((24 : Int) < x.1.fst) then ((1 : Int), ()) = (frChk x.1, ()) else bif decide (x.1.snd.fst < (0 : Int)) then ((1 : Int), ()) = (frChk x.1, ()) else bif decide ((24 : Int) < x.1.snd.fst) then ((1 : Int), ()) = (frChk x.1, ()) else bif x.1.fst == x.1.snd.fst then ((1 : Int), ()) = (frChk x.1, ()) else True ∧ bif stChk x.1.snd.snd.fst != (0 : Int) then ((1 : Int), ()) = (frChk x.1, ()) else bif decide (x.1.snd.snd.snd.snd.fst < (0 : Int)) then ((1 : Int), ()) = (frChk x.1, ()) else bif decide ((2147483647 : Int) < x.1.snd.snd.snd.snd.fst) then ((1 : Int), ()) = (frChk x.1, ()) else bif x.1.snd.snd.snd.fst == (1 : Int) then List.length x.1.snd.snd.snd.snd.snd.fst ≤ (9223372036854775807 : Nat) →
  bif decide ((65536 : Int) < (↑(List.length x.1.snd.snd.snd.snd.snd.fst) : Int)) then ((2 : Int), ()) = (frChk x.1, ()) else ((0 : Int), ()) = (frChk x.1, ()) else bif x.1.snd.snd.snd.fst == (2 : Int) then List.length x.1.snd.snd.snd.snd.snd.fst ≤ (9223372036854775807 : Nat) →
  bif decide ((0 : Int) < (↑(List.length x.1.snd.snd.snd.snd.snd.fst) : Int)) then ((1 : Int), ()) = (frChk x.1, ()) else ((0 : Int), ()) = (frChk x.1, ()) else ((1 : Int), ()) = (frChk x.1, ())) := by kernel_rfl
theorem en_fchk (us : Array Value) (u : World) : (callFunc 39 us).run Tryd.prog u = .ok (.enter 39 us) u := by kernel_rfl
theorem sc_fchk : SC Tryd.prog 39 S_fchk := by
  refine SC.of Tryd.func39 (c := bodyOf Tryd.f39) (by kernel_rfl) (by kernel_rfl) (fun x => (by decide : (1:Nat) ≤ Tryd.f39.ntmps)) (DOk.cons sc_schk en_schk DOk.nil) (Eq.mpr vc_fchk ?_)
  rintro ⟨⟨a, b, s, k, q, bd, ⟨⟩⟩, ⟨⟩⟩ - - -
  dsimp only [frChk]
  by_cases h1 : a < 0
  · rw [decide_eq_true h1, cond_true, if_pos h1]
  rw [decide_eq_false h1, cond_false, if_neg h1]
  by_cases h2 : 24 < a
  · rw [decide_eq_true h2, cond_true, if_pos h2]
  rw [decide_eq_false h2, cond_false, if_neg h2]
  by_cases h3 : b < 0
  · rw [decide_eq_true h3, cond_true, if_pos h3]
  rw [decide_eq_false h3, cond_false, if_neg h3]
  by_cases h4 : 24 < b
  · rw [decide_eq_true h4, cond_true, if_pos h4]
  rw [decide_eq_false h4, cond_false, if_neg h4]
  by_cases h5 : a = b
  · rw [beq_iff_eq.2 h5, cond_true, if_pos h5]
  rw [beq_eq_false_iff_ne.2 h5, cond_false, if_neg h5]
  refine ⟨trivial, ?_⟩
  by_cases h6 : stChk s = 0
  rotate_left 1
  · rw [bneT h6, cond_true, if_neg h6]
  rw [bneF h6, cond_false, if_pos h6]
  by_cases h7 : q < 0
  · rw [decide_eq_true h7, cond_true, if_pos h7]
  rw [decide_eq_false h7, cond_false, if_neg h7]
  by_cases h8 : 2147483647 < q
  · rw [decide_eq_true h8, cond_true, if_pos h8]
  rw [decide_eq_false h8, cond_false, if_neg h8]
  by_cases h9 : k = 1
  · rw [beq_iff_eq.2 h9, cond_true, if_pos h9]
    intro _
    by_cases h : 65536 < bd.length
    · rw [decide_eq_true (by omega : (65536 : Int) < (bd.length : Int)), cond_true, if_pos h]
    · rw [decide_eq_false (by omega), cond_false, if_neg h]
  rw [beq_eq_false_iff_ne.2 h9, cond_false, if_neg h9]
  by_cases h10 : k = 2
  · rw [beq_iff_eq.2 h10, cond_true, if_pos h10]
    intro _
    by_cases h : 0 < bd.length
    · rw [decide_eq_true (by omega : (0 : Int) < (bd.length : Int)), cond_true, if_pos h]
    · rw [decide_eq_false (by omega), cond_false, if_neg h]
  rw [beq_eq_false_iff_ne.2 h10, cond_false, if_neg h10]

theorem vc_fput : VC Tryd.prog Tryd.f13 (bodyOf Tryd.f13) S_fput [(39, S_fchk), (40, S_sput), (41, S_put), (42, S_tag)] (fun _ _ => none) = (∀ (x : List Int × (Int × Int × (Int × Int × List Int × Unit) × Int × Int × List Int × Unit) × Unit), List.length x.fst ≤ (1000000000 : Nat) ∧ okSt x.2.fst.snd.snd.fst →
  List.length x.fst ≤ (9223372036854775807 : Nat) →
  List.length x.2.fst.snd.snd.fst.snd.snd.fst ≤ (9223372036854775807 : Nat) →
  List.length x.2.fst.snd.snd.snd.snd.snd.fst ≤ (9223372036854775807 : Nat) →
  True ∧ bif frChk x.2.fst != (0 : Int) then (([], frChk x.2.fst, ()), ()) = ((frPutF x.fst x.2.fst, frChk x.2.fst, ()), ()) else okSt x.2.fst.snd.snd.fst ∧ bif stChk x.2.fst.snd.snd.fst != (0 : Int) then (([], stChk x.2.fst.snd.snd.fst, ()), ()) = ((frPutF x.fst x.2.fst, frChk x.2.fst, ()), ()) else ((0 : Int) ≤ IntKind.wrap IntKind.u64 x.2.fst.snd.snd.snd.snd.fst ∧ IntKind.wrap IntKind.u64 x.2.fst.snd.snd.snd.snd.fst < (18446744073709551616 : Int)) ∧ (List.length x.2.fst.snd.snd.snd.snd.snd.fst ≤ (9223372036854775807 : Nat) →
  ((0 : Int) ≤ IntKind.wrap IntKind.u64 (↑(List.length x.2.fst.snd.snd.snd.snd.snd.fst) : Int) ∧ IntKind.wrap IntKind.u64 (↑(List.length x.2.fst.snd.snd.snd.snd.snd.fst) : Int) < (18446744073709551616 : Int)) ∧ (List.length [IntKind.wrap IntKind.u8 x.2.fst.fst, IntKind.wrap IntKind.u8 x.2.fst.snd.fst] + List.length (stPutF x.2.fst.snd.snd.fst)) * nat_lit 1 ≤ (140737488351232 : Nat) ∧ (List.length ([IntKind.wrap IntKind.u8 x.2.fst.fst, IntKind.wrap IntKind.u8 x.2.fst.snd.fst] ++ stPutF x.2.fst.snd.snd.fst) + List.length [IntKind.wrap IntKind.u8 x.2.fst.snd.snd.snd.fst]) * nat_lit 1 ≤ (140737488351232 : Nat) ∧ (List.length ([IntKind.wrap IntKind.u8 x.2.fst.fst, IntKind.wrap IntKind.u8 x.2.fst.snd.fst] ++ stPutF x.2.fst.snd.snd.fst ++ [IntKind.wrap IntKind.u8 x.2.fst.snd.snd.snd.fst]) + List.length (putR (IntKind.wrap IntKind.u64 x.2.fst.snd.snd.snd.snd.fst) (4 : Int))) * nat_lit 1 ≤ (140737488351232 : Nat) ∧ (List.length ([IntKind.wrap IntKind.u8 x.2.fst.fst, IntKind.wrap IntKind.u8 x.2.fst.snd.fst] ++ stPutF x.2.fst.snd.snd.fst ++ [IntKind.wrap IntKind.u8 x.2.fst.snd.snd.snd.fst] ++ putR (IntKind.wrap IntKind.u64 x.2.fst.snd.snd.snd.snd.fst) (4 : Int)) + List.length (putR (IntKind.wrap IntKind.u64 (↑(List.length x.2.fst.snd.snd.snd.snd.snd.fst) : Int)) (4 : Int))) * nat_lit 1 ≤ (140737488351232 : Nat) ∧ (List.length ([IntKind.wrap IntKind.u8 x.2.fst.fst, IntKind.wrap IntKind.u8 x.2.fst.snd.fst] ++ stPutF x.2.fst.snd.snd.fst ++ [IntKind.wrap IntKind.u8 x.2.fst.snd.snd.snd.fst] ++ putR (IntKind.wrap IntKind.u64 x.2.fst.snd.snd.snd.snd.fst) (4 : Int) ++ putR (IntKind.wrap IntKind.u64 (↑(List.length x.2.fst.snd.snd.snd.snd.snd.fst) : Int)) (4 : Int)) + List.length x.2.fst.snd.snd.snd.snd.snd.fst) * nat_lit 1 ≤ (140737488351232 : Nat) ∧ (List.length x.fst ≤ (1000000000 : Nat) ∧ List.length ([IntKind.wrap IntKind.u8 x.2.fst.fst, IntKind.wrap IntKind.u8 x.2.fst.snd.fst] ++ stPutF x.2.fst.snd.snd.fst ++ [IntKind.wrap IntKind.u8 x.2.fst.snd.snd.snd.fst] ++ putR (IntKind.wrap IntKind.u64 x.2.fst.snd.snd.snd.snd.fst) (4 : Int) ++ putR (IntKind.wrap IntKind.u64 (↑(List.length x.2.fst.snd.snd.snd.snd.snd.fst) : Int)) (4 : Int) ++ x.2.fst.snd.snd.snd.snd.snd.fst) ≤ (100000000 : Nat)) ∧ (List.length ([IntKind.wrap IntKind.u8 x.2.fst.fst, IntKind.wrap IntKind.u8 x.2.fst.snd.fst] ++ stPutF x.2.fst.snd.snd.fst ++ [IntKind.wrap IntKind.u8 x.2.fst.snd.snd.snd.fst] ++ putR (IntKind.wrap IntKind.u64 x.2.fst.snd.snd.snd.snd.fst) (4 : Int) ++ putR (IntKind.wrap IntKind.u64 (↑(List.length x.2.fst.snd.snd.snd.snd.snd.fst) : Int)) (4 : Int) ++ x.2.fst.snd.snd.snd.snd.snd.fst) + List.length (tagF x.fst ([IntKind.wrap IntKind.u8 x.2.fst.fst, IntKind.wrap IntKind.u8 x.2.fst.snd.fst] ++ stPutF x.2.fst.snd.snd.fst ++ [IntKind.wrap IntKind.u8 x.2.fst.snd.snd.snd.fst] ++ putR (IntKind.wrap IntKind.u64 x.2.fst.snd.snd.snd.snd.fst) (4 : Int) ++ putR (IntKind.wrap IntKind.u64 (↑(List.length x.2.fst.snd.snd.snd.snd.snd.fst) : Int)) (4 : Int) ++ x.2.fst.snd.snd.snd.snd.snd.fst))) * nat_lit 1 ≤ (140737488351232 : Nat) ∧ (([IntKind.wrap IntKind.u8 x.2.fst.fst, IntKind.wrap IntKind.u8 x.2.fst.snd.fst] ++ stPutF x.2.fst.snd.snd.fst ++ [IntKind.wrap IntKind.u8 x.2.fst.snd.snd.snd.fst] ++ putR (IntKind.wrap IntKind.u64 x.2.fst.snd.snd.snd.snd.fst) (4 : Int) ++ putR (IntKind.wrap IntKind.u64 (↑(List.length x.2.fst.snd.snd.snd.snd.snd.fst) : Int)) (4 : Int) ++ x.2.fst.snd.snd.snd.snd.snd.fst ++ tagF x.fst ([IntKind.wrap IntKind.u8 x.2.fst.fst, IntKind.wrap IntKind.u8 x.2.fst.snd.fst] ++ stPutF x.2.fst.snd.snd.fst ++ [IntKind.wrap IntKind.u8 x.2.fst.snd.snd.snd.fst] ++ putR (IntKind.wrap IntKind.u64 x.2.fst.snd.snd.snd.snd.fst) (4 : Int) ++ putR (IntKind.wrap IntKind.u64 (↑(List.length x.2.fst.snd.snd.snd.snd.snd.fst) : Int)) (4 : Int) ++ x.2.fst.snd.snd.snd.snd.snd.fst), (0 : Int), ()), ()) = ((frPutF x.fst x.2.fst, frChk x.2.fst, ()), ()))) := by kernel_rfl
theorem en_fput (us : Array Value) (u : World) : (callFunc 13 us).run Tryd.prog u = .ok (.enter 13 us) u := by kernel_rfl
theorem sc_fput : SC Tryd.prog 13 S_fput := by
  refine SC.of Tryd.func13 (c := bodyOf Tryd.f13) (by kernel_rfl) (by kernel_rfl) (fun x => (by decide : (2:Nat) ≤ Tryd.f13.ntmps)) (DOk.cons sc_fchk en_fchk (DOk.cons sc_sput en_sput (DOk.cons sc_put en_put (DOk.cons sc_tag en_tag DOk.nil)))) (Eq.mpr vc_fput ?_)
  rintro ⟨k, ⟨a, b, s, kd, q, bd, ⟨⟩⟩, ⟨⟩⟩ ⟨hk, hs⟩ - - -
  dsimp only at hk hs ⊢
  refine ⟨trivial, ?_⟩
  by_cases hc : frChk (a, b, s, kd, q, bd, ()) = 0
  rotate_left 1
  · rw [bneT hc, cond_true, frPutF, if_neg hc]
  rw [bneF hc, cond_false]
  obtain ⟨c1, c2, c3, c4, c5, c6, c7, c8, c9⟩ := frChk_0 hc
  dsimp only at c1 c2 c3 c4 c5 c6 c7 c8 c9
  have hbl : bd.length ≤ 65536 := by rcases c9 with h | h <;> omega
  have hok := stChk_0 c6
  have hl := okS_len hok
  have v1 : IntKind.u64.wrap q = q := IntWalk.u64_in _ ⟨by omega, by omega⟩
  have v2 : IntKind.u64.wrap (bd.length : Int) = (bd.length : Int) := IntWalk.u64_in _ ⟨by omega, by omega⟩
  rw [bneF c6, cond_false, v1, v2, putR4 c7 (by omega), putR4 (by omega) (by omega)]
  have hsp : stPutF s = stL s := by rw [stPutF, hok]; rfl
  have hh : [IntKind.u8.wrap a, IntKind.u8.wrap b] ++ stPutF s ++ [IntKind.u8.wrap kd] ++ putI q 4 ++ putI (bd.length : Int) 4 ++ bd = frHd (a, b, s, kd, q, bd, ()) := by rw [hsp]; rfl
  have hhl := frHd_len (f := (a, b, s, kd, q, bd, ()))
  dsimp only at hhl
  rw [hh]
  refine ⟨hs, ⟨by omega, by omega⟩, fun _ => ⟨⟨by omega, by omega⟩, ?_⟩⟩
  have hsl := stL_len s
  rw [← hsp] at hsl
  simp only [List.length_append, List.length_cons, List.length_nil, putI_len, hsl, tagF_len, hhl]
  refine ⟨by omega, by omega, by omega, by omega, by omega, ⟨hk, by omega⟩, by omega, ?_⟩
  rw [frPutF, if_pos hc, hc]

theorem vc_bcl : VC Tryd.prog Tryd.f55 (bodyOf Tryd.f55) S_bcl [] (fun _ _ => none) = (∀ (x : List Int × Unit), List.length x.fst ≤ (1000000000000 : Nat) →
  List.length x.fst ≤ (9223372036854775807 : Nat) →
  (List.length x.fst = (0 : Nat) →
  ([], ()) = x) ∧ (nat_lit 0 + List.length x.fst) * nat_lit 1 ≤ (140737488351232 : Nat) ∧ ([] ++ x.fst, ()) = x) := by kernel_rfl
theorem en_bcl (us : Array Value) (u : World) : (callFunc 55 us).run Tryd.prog u = .ok (.enter 55 us) u := by kernel_rfl
theorem sc_bcl : SC Tryd.prog 55 S_bcl := by
  refine SC.of Tryd.func55 (c := bodyOf Tryd.f55) (by kernel_rfl) (by kernel_rfl) (fun x => (by decide : (1:Nat) ≤ Tryd.f55.ntmps)) DOk.nil (Eq.mpr vc_bcl ?_)
  rintro ⟨l, ⟨⟩⟩ h -
  dsimp only at h ⊢
  refine ⟨fun h0 => ?_, by omega, by rw [List.nil_append]⟩
  rw [List.eq_nil_of_length_eq_zero h0]
end Go.Proofs.YtjkbkhjalimebaaDoor
