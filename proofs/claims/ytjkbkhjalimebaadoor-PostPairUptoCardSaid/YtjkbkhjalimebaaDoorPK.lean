/- The words of package post: Send and Take. Printed by gen.py. -/
import Derived.Test.YtjkbkhjalimebaaDoorPHT
namespace Go.Proofs.YtjkbkhjalimebaaDoor
open Go.RowKit DoorU
set_option linter.unusedVariables false
set_option linter.unusedSimpArgs false
set_option maxRecDepth 100000
set_option maxHeartbeats 1000000

namespace DoorU
def parF (c : Cfg) (f : Fra) (b : Bool) : List Par := if frChk f = 0 then [(f.2.1, frPutF (pairF c f.1 f.2.1) f, b, ())] else []
def iparF (c : Cfg) (p : Pos) (to : Int) (l : List Itm) (b : Bool) : List Par := l.flatMap fun x => parF c (p.1, to, p.2.1, 1, x.1, x.2.1, ()) b
def winC (c : Cfg) : Int := c.2.2.2.2.2.2.2.2.1
def linkE (p : Pos) (n : Int) : Pee := (lnkL p.2.2.1 n).getD (lnkI p.2.2.1 n) (newPe n)
def putPe (p : Pos) (n : Int) (q : Pee) : Pos := (p.1, p.2.1, (lnkL p.2.2.1 n).set (lnkI p.2.2.1 n) q, ())
def sndQ (c : Cfg) (p : Pos) (to : Int) (b : List Int) (now : Int) : Ouq × List Itm × Unit := sendF (linkE p to).2.1 b (winC c) now
def sndP (c : Cfg) (p : Pos) (to : Int) (b : List Int) (now : Int) : Pos := putPe p to ((linkE p to).1, (sndQ c p to b now).1, (linkE p to).2.2)
def psF (c : Cfg) (p : Pos) (to : Int) (b : List Int) (now : Int) : Pos × List Par × Int × Unit :=
  if isNodeF c to = false ∨ to = p.1 ∨ stChk p.2.1 ≠ 0 then (zPo, [], 1, ()) else if 65536 < b.length then (zPo, [], 2, ())
  else (sndP c p to b now, iparF c (sndP c p to b now) to (sndQ c p to b now).2.1 true, 0, ())
def tkA (c : Cfg) (p : Pos) (n : Int) (f : Fra) (now : Int) : Ouq × List Itm × Unit := ackF (linkE (goF p f.2.2.1) n).2.1 f.2.2.2.2.1 (winC c) now
def tkT (c : Cfg) (p : Pos) (n : Int) (f : Fra) : Inq × List (List Int) × Int × Unit := takF (linkE (goF p f.2.2.1) n).2.2.1 f.2.2.2.2.1 f.2.2.2.2.2.1 (winC c)
def tkAP (c : Cfg) (p : Pos) (n : Int) (f : Fra) (now : Int) : Pos := putPe (goF p f.2.2.1) n ((linkE (goF p f.2.2.1) n).1, (tkA c p n f now).1, (linkE (goF p f.2.2.1) n).2.2)
def tkTP (c : Cfg) (p : Pos) (n : Int) (f : Fra) : Pos := putPe (goF p f.2.2.1) n ((linkE (goF p f.2.2.1) n).1, (linkE (goF p f.2.2.1) n).2.1, (tkT c p n f).1, ())
def ptG (c : Cfg) (p : Pos) (n : Int) (f : Fra) (now : Int) : Pos × List (List Int) × List Par × Int × Unit :=
  if f.1 ≠ n ∨ f.2.1 ≠ p.1 then (zPo, [], [], 1, ())
  else if stCmp f.2.2.1 p.2.1 < 0 ∨ (stCmp f.2.2.1 p.2.1 = 0 ∧ stSame f.2.2.1 p.2.1 = false) then (zPo, [], [], 6, ())
  else if f.2.2.2.1 = 2 then (tkAP c p n f now, [], iparF c (tkAP c p n f now) n (tkA c p n f now).2.1 true, 0, ())
  else (tkTP c p n f, (tkT c p n f).2.1, parF c ((goF p f.2.2.1).1, n, (goF p f.2.2.1).2.1, 2, (tkT c p n f).2.2.1, [], ()) false, 0, ())
def ptF (c : Cfg) (p : Pos) (n : Int) (b : List Int) (now : Int) : Pos × List (List Int) × List Par × Int × Unit :=
  if isNodeF c n = false ∨ n = p.1 then (zPo, [], [], 1, ())
  else if frTkE (pairF c n p.1) b ≠ 0 then (zPo, [], [], frTkE (pairF c n p.1) b, ())
  else ptG c p n (frTkF (pairF c n p.1) b) now
theorem pairF_len (c : Cfg) (a b : Int) : (pairF c a b).length = 32 := tagF_len _ _
theorem parF_len (c : Cfg) (f : Fra) (b : Bool) : (parF c f b).length ≤ 1 := by
  unfold parF
  split
  · exact Nat.le_refl 1
  · exact Nat.zero_le 1
theorem iparF_snoc (c : Cfg) (p : Pos) (to : Int) (l : List Itm) (x : Itm) (b : Bool) : iparF c p to (l ++ [x]) b = iparF c p to l b ++ parF c (p.1, to, p.2.1, 1, x.1, x.2.1, ()) b := by
  simp only [iparF, List.flatMap_append, List.flatMap_cons, List.flatMap_nil, List.append_nil]
theorem sendF_len (o : Ouq) (b : List Int) (w now : Int) : (sendF o b w now).2.1.length ≤ 1 := by
  unfold sendF
  split
  · exact Nat.zero_le 1
  · exact Nat.le_refl 1
theorem ackGo_len (w now : Int) : ∀ (l : List (List Int)) (nx : Int) (s t : List Itm), (ackGo w now nx s t l).2.1.length ≤ t.length + l.length
  | [], nx, s, t => Nat.le_refl _
  | b :: r, nx, s, t => by
    rw [ackGo]
    split
    · have := ackGo_len w now r (i64 (nx + 1)) (s ++ [itm nx b now]) (t ++ [itm nx b now])
      rw [List.length_append, List.length_cons, List.length_nil] at this
      rw [List.length_cons]
      omega
    · exact Nat.le_add_right _ _
theorem lnkI_lt (l : List Pee) (n : Int) : lnkI l n < (lnkL l n).length := by
  have g1 : eqAt l n ≤ l.length := fIdx_le _ l
  have g2 : gtAt l n ≤ l.length := fIdx_le _ l
  unfold lnkI lnkL
  split
  · rw [insF_len _ _ _ g2, List.length_cons, List.length_nil]
    omega
  · omega
theorem newPe_ok (n : Int) : okPe (newPe n) := ⟨⟨⟨Nat.zero_le _, fun x h => by cases h⟩, ⟨Nat.zero_le _, fun x h => by cases h⟩⟩, ⟨Nat.zero_le _, fun x h => by cases h⟩⟩
theorem lnkL_ok {l : List Pee} (h : ∀ q ∈ l, okPe q) (n : Int) : ∀ q ∈ lnkL l n, okPe q := by
  unfold lnkL
  split
  · intro q hq
    unfold insF at hq
    rw [List.mem_append, List.mem_append, List.mem_singleton] at hq
    rcases hq with (hq | rfl) | hq
    · exact h q (List.mem_of_mem_take hq)
    · exact newPe_ok n
    · exact h q (List.mem_of_mem_drop hq)
  · exact h
theorem linkE_of {p : Pos} {n : Int} {q : Pee} (h : (lnkL p.2.2.1 n)[lnkI p.2.2.1 n]? = some q) : linkE p n = q := by
  unfold linkE
  rw [List.getD_eq_getElem?_getD, h]
  rfl
theorem getI8_bd {l : List Int} (h : byt l) (hl : l.length = 8) : 0 ≤ getR l ∧ getR l < 18446744073709551616 := by
  have e : getE l = 0 := by unfold getE; rw [if_neg (by omega), if_neg (by omega)]
  unfold getR
  rw [if_pos e]
  have := getI_bd l h
  rw [hl] at this
  exact this
theorem stTk_ok {b : List Int} (hb : byt b) (h : stTkE b = 0) : stTkS b = stAt b ∧ okSt (stAt b) ∧ okS (stAt b) = true := by
  refine ⟨by rw [stTkS, if_pos h], ?_⟩
  unfold stTkE at h
  split at h
  · cases h
  split at h
  · cases h
  split at h
  · cases h
  split at h
  · rename_i h1 _ _ ho
    exact ⟨⟨getI8_bd (byt_take hb 8) (by rw [List.length_take]; omega), getI8_bd (byt_take (byt_drop hb 8) 8) (by rw [List.length_take, List.length_drop]; omega)⟩, ho⟩
  · cases h
theorem frRd_ok {b : List Int} (hb : byt b) (h : frRdE b = true) : okSt (frRdF b).2.2.1 ∧ (frRdF b).2.2.1.2.2.1.length ≤ 8 := by
  have e : frRdF b = frAt b := by rw [frRdF, if_pos h]
  have h2 : stTkE (b.drop 2) = 0 := by
    unfold frRdE at h
    simp only [Bool.and_eq_true, beq_iff_eq] at h
    exact h.2.1
  obtain ⟨q1, q2, q3⟩ := stTk_ok (byt_drop hb 2) h2
  rw [e]
  show okSt (stTkS (b.drop 2)) ∧ (stTkS (b.drop 2)).2.2.1.length ≤ 8
  rw [q1]
  exact ⟨q2, (okS_len q3).2⟩
theorem frTk_ok {k b : List Int} (hb : byt b) (h : frTkE k b = 0) : okSt (frTkF k b).2.2.1 ∧ (frTkF k b).2.2.1.2.2.1.length ≤ 8 ∧ (frTkF k b).2.2.2.2.2.1.length ≤ 65536 ∧ frChk (frTkF k b) = 0 := by
  have e : frTkF k b = frRdF (b.take (b.length - 32)) := by rw [frTkF, if_pos h]
  unfold frTkE at h
  split at h
  · cases h
  split at h
  · rename_i h1
    split at h
    · rename_i h2
      obtain ⟨q1, q2⟩ := frRd_ok (byt_take hb _) h1
      obtain ⟨_, _, _, _, _, _, _, _, c9⟩ := frChk_0 h2
      rw [e]
      exact ⟨q1, q2, by rcases c9 with h | h <;> omega, h2⟩
    · cases h
  · cases h
theorem goF_ok {p : Pos} (h : okPo p) {s : Sta} (hs : s.2.2.1.length ≤ big) : okPo (goF p s) := by
  unfold goF
  split
  · exact h
  · exact ⟨hs, Nat.zero_le _, fun q hq => by cases hq⟩
theorem goF_st {p : Pos} (h : okSt p.2.1) {s : Sta} (hs : okSt s) : okSt (goF p s).2.1 := by
  unfold goF
  split
  · exact h
  · exact hs
end DoorU
def S_fpar : Spec := ⟨.pair aC (.pair aFr (.pair .bool .unit)), .pair vPas .unit, fun (x : Cfg × Fra × Bool × Unit) => x.1.1.length ≤ big ∧ okSt x.2.1.2.2.1, fun (x : Cfg × Fra × Bool × Unit) => ((parF x.1 x.2.1 x.2.2.1, ()) : List Par × Unit)⟩
def S_ipar : Spec := ⟨.pair aC (.pair aPo (.pair nI (.pair lIts (.pair .bool .unit)))), .pair vPas .unit, fun (x : Cfg × Pos × Int × List Itm × Bool × Unit) => x.1.1.length ≤ big ∧ okSt x.2.1.2.1 ∧ x.2.2.2.1.length ≤ 2000000000, fun (x : Cfg × Pos × Int × List Itm × Bool × Unit) => ((iparF x.1 x.2.1 x.2.2.1 x.2.2.2.1 x.2.2.2.2.1, ()) : List Par × Unit)⟩
def A_ipar (x : Cfg × Pos × Int × List Itm × Bool × Unit) : Nat → Option LA
  | 0 => some ⟨[17, 11], [(11, tPa, 62)], .pair nI (.pair (.own tPa 62) .unit), fun (v : Int × List Par × Unit) => 0 ≤ v.1 ∧ v.1 ≤ (x.2.2.2.1.length : Nat) ∧ v.2.1.length ≤ v.1.toNat ∧ v.2.1 = iparF x.1 x.2.1 x.2.2.1 (x.2.2.2.1.take v.1.toNat) x.2.2.2.2.1, fun (v : Int × List Par × Unit) => ((x.2.2.2.1.length : Nat) - v.1).toNat⟩
  | _ => none
def S_psend : Spec := ⟨.pair aC (.pair aPo (.pair nI (.pair lY (.pair nI .unit)))), .pair (.tup (.pair vPo (.pair vPas (.pair nI .unit)))) .unit, fun (x : Cfg × Pos × Int × List Int × Int × Unit) => x.1.1.length ≤ big ∧ okPo x.2.1 ∧ okSt x.2.1.2.1 ∧ x.2.2.2.1.length ≤ big, fun (x : Cfg × Pos × Int × List Int × Int × Unit) => ((psF x.1 x.2.1 x.2.2.1 x.2.2.2.1 x.2.2.2.2.1, ()) : (Pos × List Par × Int × Unit) × Unit)⟩
def S_ptake : Spec := ⟨.pair aC (.pair aPo (.pair nI (.pair vY (.pair nI .unit)))), .pair (.tup (.pair vPo (.pair (.view false tYs) (.pair vPas (.pair nI .unit))))) .unit, fun (x : Cfg × Pos × Int × List Int × Int × Unit) => x.1.1.length ≤ big ∧ okPo x.2.1 ∧ okSt x.2.1.2.1 ∧ x.2.2.2.1.length ≤ 100000000 ∧ byt x.2.2.2.1, fun (x : Cfg × Pos × Int × List Int × Int × Unit) => ((ptF x.1 x.2.1 x.2.2.1 x.2.2.2.1 x.2.2.2.2.1, ()) : (Pos × List (List Int) × List Par × Int × Unit) × Unit)⟩

theorem vc_fpar : VC Tryd.prog Tryd.f50 (bodyOf Tryd.f50) S_fpar [(14, S_pair), (13, S_fput)] (fun _ _ => none) = (∀ (x : (List Int × Int × Int × Int × Int × Int × Int × Int × Int × Int × Int × Unit) × (Int × Int × (Int × Int × List Int × Unit) × Int × Int × List Int × Unit) × Bool × Unit), List.length x.fst.fst ≤ big ∧ okSt x.snd.fst.snd.snd.fst →
  List.length x.fst.fst ≤ (9223372036854775807 : Nat) →
  List.length x.snd.fst.snd.snd.fst.snd.snd.fst ≤ (9223372036854775807 : Nat) →
  List.length x.snd.fst.snd.snd.snd.snd.snd.fst ≤ (9223372036854775807 : Nat) →
  List.length x.fst.fst ≤ (1000000000 : Nat) ∧ (List.length (pairF x.fst x.snd.fst.fst x.snd.fst.snd.fst) ≤ (1000000000 : Nat) ∧ okSt x.snd.fst.snd.snd.fst) ∧ bif frChk x.snd.fst != (0 : Int) then ([], ()) = (parF x.fst x.snd.fst x.snd.snd.fst, ()) else ([(x.snd.fst.snd.fst, frPutF (pairF x.fst x.snd.fst.fst x.snd.fst.snd.fst) x.snd.fst, x.snd.snd)], ()) = (parF x.fst x.snd.fst x.snd.snd.fst, ())) := by kernel_rfl
theorem en_fpar (us : Array Value) (u : World) : (callFunc 50 us).run Tryd.prog u = .ok (.enter 50 us) u := by kernel_rfl
theorem sc_fpar : SC Tryd.prog 50 S_fpar := by
  refine SC.of Tryd.func50 (c := bodyOf Tryd.f50) (by kernel_rfl) (by kernel_rfl) (fun x => (by decide : (3:Nat) ≤ Tryd.f50.ntmps)) (DOk.cons sc_pair en_pair (DOk.cons sc_fput en_fput DOk.nil)) (Eq.mpr vc_fpar ?_)
  rintro ⟨c, f, b, ⟨⟩⟩ ⟨h1, h2⟩ - - -
  dsimp only at h1 h2 ⊢
  refine ⟨h1, ⟨by rw [pairF_len]; omega, h2⟩, ?_⟩
  by_cases h : frChk f = 0
  · rw [bneF h, cond_false, parF, if_pos h]
  · rw [bneT h, cond_true, parF, if_neg h]

theorem vc_ipar : VC Tryd.prog Tryd.f48 (bodyOf Tryd.f48) S_ipar [(50, S_fpar)] A_ipar = (∀ (x : (List Int × Int × Int × Int × Int × Int × Int × Int × Int × Int × Int × Unit) × (Int × (Int × Int × List Int × Unit) × List (Int × (Int × List (Int × List Int × Int × Unit) × List (List Int) × Unit) × (Int × List (Int × List Int × Int × Unit) × Unit) × Unit) × Unit) × Int × List (Int × List Int × Int × Unit) × Bool × Unit), List.length x.fst.fst ≤ big ∧ okSt x.snd.fst.snd.fst ∧ List.length x.snd.snd.snd.fst ≤ (2000000000 : Nat) →
  List.length x.fst.fst ≤ (9223372036854775807 : Nat) →
  List.length x.snd.fst.snd.fst.snd.snd.fst ≤ (9223372036854775807 : Nat) →
  List.length x.snd.fst.snd.snd.fst ≤ (9223372036854775807 : Nat) →
  List.length x.snd.snd.snd.fst ≤ (9223372036854775807 : Nat) →
  List.length x.snd.snd.snd.fst ≤ (9223372036854775807 : Nat) →
  ((0 : Int) ≤ (0 : Int) ∧ (0 : Int) ≤ (↑(List.length x.snd.snd.snd.fst) : Int) ∧ List.length ([] : List Par) ≤ Int.toNat (0 : Int) ∧ [] = iparF x.fst x.snd.fst x.snd.snd.fst (List.take (Int.toNat (0 : Int)) x.snd.snd.snd.fst) x.snd.snd.snd.snd.fst) ∧ ∀ (v : Int × List (Int × List Int × Bool × Unit) × Unit), (0 : Int) ≤ v.fst ∧ v.fst ≤ (↑(List.length x.snd.snd.snd.fst) : Int) ∧ List.length v.snd.fst ≤ Int.toNat v.fst ∧ v.snd.fst = iparF x.fst x.snd.fst x.snd.snd.fst (List.take (Int.toNat v.fst) x.snd.snd.snd.fst) x.snd.snd.snd.snd.fst →
  bif decide (v.fst < (↑(List.length x.snd.snd.snd.fst) : Int)) then (0 : Int) ≤ v.fst ∧ v.fst < (↑(List.length x.snd.snd.snd.fst) : Int) ∧ ∀ (c0 : Int × List Int × Int × Unit), x.snd.snd.snd.fst[Int.toNat v.fst]? = some c0 →
  (List.length x.fst.fst ≤ big ∧ okSt x.snd.fst.snd.fst) ∧ (List.length v.snd.fst + List.length (parF x.fst (x.snd.fst.fst, x.snd.snd.fst, x.snd.fst.snd.fst, (1 : Int), c0.fst, c0.snd.fst, ()) x.snd.snd.snd.snd.fst)) * (40 : Nat) ≤ (140737488351232 : Nat) ∧ ((0 : Int) ≤ IntKind.wrap IntKind.i64 (v.fst + (1 : Int)) ∧ IntKind.wrap IntKind.i64 (v.fst + (1 : Int)) ≤ (↑(List.length x.snd.snd.snd.fst) : Int) ∧ List.length (v.snd.fst ++ parF x.fst (x.snd.fst.fst, x.snd.snd.fst, x.snd.fst.snd.fst, (1 : Int), c0.fst, c0.snd.fst, ()) x.snd.snd.snd.snd.fst) ≤ Int.toNat (IntKind.wrap IntKind.i64 (v.fst + (1 : Int))) ∧ v.snd.fst ++ parF x.fst (x.snd.fst.fst, x.snd.snd.fst, x.snd.fst.snd.fst, (1 : Int), c0.fst, c0.snd.fst, ()) x.snd.snd.snd.snd.fst = iparF x.fst x.snd.fst x.snd.snd.fst (List.take (Int.toNat (IntKind.wrap IntKind.i64 (v.fst + (1 : Int)))) x.snd.snd.snd.fst) x.snd.snd.snd.snd.fst) ∧ Int.toNat ((↑(List.length x.snd.snd.snd.fst) : Int) - IntKind.wrap IntKind.i64 (v.fst + (1 : Int))) < Int.toNat ((↑(List.length x.snd.snd.snd.fst) : Int) - v.fst) else v.snd = (iparF x.fst x.snd.fst x.snd.snd.fst x.snd.snd.snd.fst x.snd.snd.snd.snd.fst, ())) := by kernel_rfl
theorem en_ipar (us : Array Value) (u : World) : (callFunc 48 us).run Tryd.prog u = .ok (.enter 48 us) u := by kernel_rfl
theorem sc_ipar : SC Tryd.prog 48 S_ipar := by
  refine SC.of Tryd.func48 (c := bodyOf Tryd.f48) (by kernel_rfl) (by kernel_rfl) (fun x => (by decide : (5:Nat) ≤ Tryd.f48.ntmps)) (DOk.cons sc_fpar en_fpar DOk.nil) (Eq.mpr vc_ipar ?_)
  rintro ⟨c, p, to, l, b, ⟨⟩⟩ ⟨h1, h2, h3⟩ - - - - -
  dsimp only at h1 h2 h3 ⊢
  refine ⟨⟨Int.le_refl 0, by omega, Nat.zero_le _, rfl⟩, ?_⟩
  rintro ⟨i, v, ⟨⟩⟩ ⟨q0, q1, ql, hv⟩
  dsimp only at q0 q1 ql hv ⊢
  have wi : IntKind.i64.wrap (i + 1) = i + 1 := IntWalk.i64_in _ (by omega)
  by_cases hi : i < (l.length : Int)
  · rw [decide_eq_true hi, cond_true, wi]
    refine ⟨q0, hi, fun x hx => ?_⟩
    have pl := parF_len c (p.1, to, p.2.1, 1, x.1, x.2.1, ()) b
    refine ⟨⟨h1, h2⟩, by omega, ⟨by omega, by omega, by rw [List.length_append]; omega, ?_⟩, by omega⟩
    rw [show (i + 1).toNat = i.toNat + 1 by omega, take_snoc hx, iparF_snoc, hv]
  · rw [decide_eq_false hi, cond_false, hv, List.take_of_length_le (by omega)]

theorem vc_psend : VC Tryd.prog Tryd.f21 (bodyOf Tryd.f21) S_psend [(45, S_isN), (33, S_schk), (59, S_cpo), (46, S_lw), (60, S_lsend), (48, S_ipar)] (fun _ _ => none) = (∀ (x : (List Int × Int × Int × Int × Int × Int × Int × Int × Int × Int × Int × Unit) × (Int × (Int × Int × List Int × Unit) × List (Int × (Int × List (Int × List Int × Int × Unit) × List (List Int) × Unit) × (Int × List (Int × List Int × Int × Unit) × Unit) × Unit) × Unit) × Int × List Int × Int × Unit), List.length x.fst.fst ≤ big ∧ okPo x.snd.fst ∧ okSt x.snd.fst.snd.fst ∧ List.length x.snd.snd.snd.fst ≤ big →
  List.length x.fst.fst ≤ (9223372036854775807 : Nat) →
  List.length x.snd.fst.snd.fst.snd.snd.fst ≤ (9223372036854775807 : Nat) →
  List.length x.snd.fst.snd.snd.fst ≤ (9223372036854775807 : Nat) →
  List.length x.snd.snd.snd.fst ≤ (9223372036854775807 : Nat) →
  True ∧ bif !isNodeF x.fst x.snd.snd.fst then ((((0 : Int), ((0 : Int), (0 : Int), [], ()), [], ()), [], (1 : Int), ()), ()) = (psF x.fst x.snd.fst x.snd.snd.fst x.snd.snd.snd.fst x.snd.snd.snd.snd.fst, ()) else bif x.snd.snd.fst == x.snd.fst.fst then ((((0 : Int), ((0 : Int), (0 : Int), [], ()), [], ()), [], (1 : Int), ()), ()) = (psF x.fst x.snd.fst x.snd.snd.fst x.snd.snd.snd.fst x.snd.snd.snd.snd.fst, ()) else True ∧ bif stChk x.snd.fst.snd.fst != (0 : Int) then ((((0 : Int), ((0 : Int), (0 : Int), [], ()), [], ()), [], (1 : Int), ()), ()) = (psF x.fst x.snd.fst x.snd.snd.fst x.snd.snd.snd.fst x.snd.snd.snd.snd.fst, ()) else List.length x.snd.snd.snd.fst ≤ (9223372036854775807 : Nat) →
  bif decide ((65536 : Int) < (↑(List.length x.snd.snd.snd.fst) : Int)) then ((((0 : Int), ((0 : Int), (0 : Int), [], ()), [], ()), [], (2 : Int), ()), ()) = (psF x.fst x.snd.fst x.snd.snd.fst x.snd.snd.snd.fst x.snd.snd.snd.snd.fst, ()) else okPo x.snd.fst ∧ List.length x.snd.fst.snd.snd.fst ≤ big ∧ lnkI x.snd.fst.snd.snd.fst x.snd.snd.fst < List.length (lnkL x.snd.fst.snd.snd.fst x.snd.snd.fst) ∧ ∀ (x_1 : Int × (Int × List (Int × List Int × Int × Unit) × List (List Int) × Unit) × (Int × List (Int × List Int × Int × Unit) × Unit) × Unit), (lnkL x.snd.fst.snd.snd.fst x.snd.snd.fst)[lnkI x.snd.fst.snd.snd.fst x.snd.snd.fst]? = some x_1 →
  (okOut x_1.snd.fst ∧ List.length x.snd.snd.snd.fst ≤ big) ∧ lnkI x.snd.fst.snd.snd.fst x.snd.snd.fst < List.length (lnkL x.snd.fst.snd.snd.fst x.snd.snd.fst) ∧ ∀ (x0 : Int × (Int × List (Int × List Int × Int × Unit) × List (List Int) × Unit) × (Int × List (Int × List Int × Int × Unit) × Unit) × Unit), (lnkL x.snd.fst.snd.snd.fst x.snd.snd.fst)[lnkI x.snd.fst.snd.snd.fst x.snd.snd.fst]? = some x0 →
  (List.length x.fst.fst ≤ big ∧ okSt x.snd.fst.snd.fst ∧ List.length (sendF x_1.snd.fst x.snd.snd.snd.fst x.fst.snd.snd.snd.snd.snd.snd.snd.snd.fst x.snd.snd.snd.snd.fst).snd.fst ≤ (2000000000 : Nat)) ∧ (((x.snd.fst.fst, x.snd.fst.snd.fst, List.set (lnkL x.snd.fst.snd.snd.fst x.snd.snd.fst) (lnkI x.snd.fst.snd.snd.fst x.snd.snd.fst) (x0.fst, (sendF x_1.snd.fst x.snd.snd.snd.fst x.fst.snd.snd.snd.snd.snd.snd.snd.snd.fst x.snd.snd.snd.snd.fst).fst, x0.snd.snd), ()), iparF x.fst (x.snd.fst.fst, x.snd.fst.snd.fst, List.set (lnkL x.snd.fst.snd.snd.fst x.snd.snd.fst) (lnkI x.snd.fst.snd.snd.fst x.snd.snd.fst) (x0.fst, (sendF x_1.snd.fst x.snd.snd.snd.fst x.fst.snd.snd.snd.snd.snd.snd.snd.snd.fst x.snd.snd.snd.snd.fst).fst, x0.snd.snd), ()) x.snd.snd.fst (sendF x_1.snd.fst x.snd.snd.snd.fst x.fst.snd.snd.snd.snd.snd.snd.snd.snd.fst x.snd.snd.snd.snd.fst).snd.fst true, (0 : Int), ()), ()) = (psF x.fst x.snd.fst x.snd.snd.fst x.snd.snd.snd.fst x.snd.snd.snd.snd.fst, ())) := by kernel_rfl
theorem en_psend (us : Array Value) (u : World) : (callFunc 21 us).run Tryd.prog u = .ok (.enter 21 us) u := by kernel_rfl
theorem sc_psend : SC Tryd.prog 21 S_psend := by
  refine SC.of Tryd.func21 (c := bodyOf Tryd.f21) (by kernel_rfl) (by kernel_rfl) (fun x => (by decide : (5:Nat) ≤ Tryd.f21.ntmps)) (DOk.cons sc_isN en_isN (DOk.cons sc_schk en_schk (DOk.cons sc_cpo en_cpo (DOk.cons sc_lw en_lw (DOk.cons sc_lsend en_lsend (DOk.cons sc_ipar en_ipar DOk.nil)))))) (Eq.mpr vc_psend ?_)
  rintro ⟨c, p, to, b, now, ⟨⟩⟩ ⟨h1, h2, h3, h4⟩ - - - -
  dsimp only at h1 h2 h3 h4 ⊢
  refine ⟨trivial, ?_⟩
  have e1 : (isNodeF c to = false ∨ to = p.1 ∨ stChk p.2.1 ≠ 0) → ((((0, (0, 0, [], ()), [], ()), [], 1, ()), ()) : (Pos × List Par × Int × Unit) × Unit) = (psF c p to b now, ()) := fun h => by rw [psF, if_pos h]; rfl
  cases hn : isNodeF c to
  · rw [Bool.not_false, cond_true]; exact e1 (.inl hn)
  rw [Bool.not_true, cond_false]
  by_cases h5 : to = p.1
  · rw [beq_iff_eq.2 h5, cond_true]; exact e1 (.inr (.inl h5))
  rw [beq_eq_false_iff_ne.2 h5, cond_false]
  refine ⟨trivial, ?_⟩
  by_cases h6 : stChk p.2.1 = 0
  rotate_left 1
  · rw [bneT h6, cond_true]; exact e1 (.inr (.inr h6))
  rw [bneF h6, cond_false]
  intro _
  have hno : ¬ (isNodeF c to = false ∨ to = p.1 ∨ stChk p.2.1 ≠ 0) := by
    rintro (h | h | h)
    · rw [hn] at h; cases h
    · exact h5 h
    · exact h h6
  by_cases h7 : 65536 < b.length
  · rw [decide_eq_true (by omega : (65536 : Int) < (b.length : Int)), cond_true, psF, if_neg hno, if_pos h7]; rfl
  rw [decide_eq_false (by omega), cond_false]
  have lt := lnkI_lt p.2.2.1 to
  refine ⟨h2, h2.2.1, lt, fun q hq => ?_⟩
  have hqe := linkE_of hq
  have okq := lnkL_ok h2.2.2 to q (List.mem_of_getElem? hq)
  refine ⟨⟨okq.1, h4⟩, lt, fun q' hq' => ?_⟩
  rw [hq] at hq'
  cases hq'
  refine ⟨⟨h1, h3, Nat.le_trans (sendF_len _ _ _ _) (by omega)⟩, ?_⟩
  rw [psF, if_neg hno, if_neg h7]
  simp only [sndP, sndQ, hqe, putPe, winC]

def PtRest (x : Cfg × Pos × Int × List Int × Int × Unit) (f : Fra) : Prop := (okPo x.snd.fst ∧ List.length f.snd.snd.fst.snd.snd.fst ≤ (1000000000000 : Nat)) ∧ List.length (goF x.snd.fst f.snd.snd.fst).snd.snd.fst ≤ big ∧ bif f.snd.snd.snd.fst == (2 : Int) then lnkI (goF x.snd.fst f.snd.snd.fst).snd.snd.fst x.snd.snd.fst < List.length (lnkL (goF x.snd.fst f.snd.snd.fst).snd.snd.fst x.snd.snd.fst) ∧ ∀ (x_1 : Int × (Int × List (Int × List Int × Int × Unit) × List (List Int) × Unit) × (Int × List (Int × List Int × Int × Unit) × Unit) × Unit), (lnkL (goF x.snd.fst f.snd.snd.fst).snd.snd.fst x.snd.snd.fst)[lnkI (goF x.snd.fst f.snd.snd.fst).snd.snd.fst x.snd.snd.fst]? = some x_1 →
  okOut x_1.snd.fst ∧ lnkI (goF x.snd.fst f.snd.snd.fst).snd.snd.fst x.snd.snd.fst < List.length (lnkL (goF x.snd.fst f.snd.snd.fst).snd.snd.fst x.snd.snd.fst) ∧ ∀ (x0 : Int × (Int × List (Int × List Int × Int × Unit) × List (List Int) × Unit) × (Int × List (Int × List Int × Int × Unit) × Unit) × Unit), (lnkL (goF x.snd.fst f.snd.snd.fst).snd.snd.fst x.snd.snd.fst)[lnkI (goF x.snd.fst f.snd.snd.fst).snd.snd.fst x.snd.snd.fst]? = some x0 →
  (List.length x.fst.fst ≤ big ∧ okSt (goF x.snd.fst f.snd.snd.fst).snd.fst ∧ List.length (ackF x_1.snd.fst f.snd.snd.snd.snd.fst x.fst.snd.snd.snd.snd.snd.snd.snd.snd.fst x.snd.snd.snd.snd.fst).snd.fst ≤ (2000000000 : Nat)) ∧ ((((goF x.snd.fst f.snd.snd.fst).fst, (goF x.snd.fst f.snd.snd.fst).snd.fst, List.set (lnkL (goF x.snd.fst f.snd.snd.fst).snd.snd.fst x.snd.snd.fst) (lnkI (goF x.snd.fst f.snd.snd.fst).snd.snd.fst x.snd.snd.fst) (x0.fst, (ackF x_1.snd.fst f.snd.snd.snd.snd.fst x.fst.snd.snd.snd.snd.snd.snd.snd.snd.fst x.snd.snd.snd.snd.fst).fst, x0.snd.snd), ()), [], iparF x.fst ((goF x.snd.fst f.snd.snd.fst).fst, (goF x.snd.fst f.snd.snd.fst).snd.fst, List.set (lnkL (goF x.snd.fst f.snd.snd.fst).snd.snd.fst x.snd.snd.fst) (lnkI (goF x.snd.fst f.snd.snd.fst).snd.snd.fst x.snd.snd.fst) (x0.fst, (ackF x_1.snd.fst f.snd.snd.snd.snd.fst x.fst.snd.snd.snd.snd.snd.snd.snd.snd.fst x.snd.snd.snd.snd.fst).fst, x0.snd.snd), ()) x.snd.snd.fst (ackF x_1.snd.fst f.snd.snd.snd.snd.fst x.fst.snd.snd.snd.snd.snd.snd.snd.snd.fst x.snd.snd.snd.snd.fst).snd.fst true, (0 : Int), ()), ()) = (ptF x.fst x.snd.fst x.snd.snd.fst x.snd.snd.snd.fst x.snd.snd.snd.snd.fst, ()) else lnkI (goF x.snd.fst f.snd.snd.fst).snd.snd.fst x.snd.snd.fst < List.length (lnkL (goF x.snd.fst f.snd.snd.fst).snd.snd.fst x.snd.snd.fst) ∧ ∀ (x_1 : Int × (Int × List (Int × List Int × Int × Unit) × List (List Int) × Unit) × (Int × List (Int × List Int × Int × Unit) × Unit) × Unit), (lnkL (goF x.snd.fst f.snd.snd.fst).snd.snd.fst x.snd.snd.fst)[lnkI (goF x.snd.fst f.snd.snd.fst).snd.snd.fst x.snd.snd.fst]? = some x_1 →
  (okIn x_1.snd.snd.fst ∧ List.length f.snd.snd.snd.snd.snd.fst ≤ big) ∧ lnkI (goF x.snd.fst f.snd.snd.fst).snd.snd.fst x.snd.snd.fst < List.length (lnkL (goF x.snd.fst f.snd.snd.fst).snd.snd.fst x.snd.snd.fst) ∧ ∀ (x0 : Int × (Int × List (Int × List Int × Int × Unit) × List (List Int) × Unit) × (Int × List (Int × List Int × Int × Unit) × Unit) × Unit), (lnkL (goF x.snd.fst f.snd.snd.fst).snd.snd.fst x.snd.snd.fst)[lnkI (goF x.snd.fst f.snd.snd.fst).snd.snd.fst x.snd.snd.fst]? = some x0 →
  (List.length x.fst.fst ≤ big ∧ okSt (goF x.snd.fst f.snd.snd.fst).snd.fst) ∧ ((((goF x.snd.fst f.snd.snd.fst).fst, (goF x.snd.fst f.snd.snd.fst).snd.fst, List.set (lnkL (goF x.snd.fst f.snd.snd.fst).snd.snd.fst x.snd.snd.fst) (lnkI (goF x.snd.fst f.snd.snd.fst).snd.snd.fst x.snd.snd.fst) (x0.fst, x0.snd.fst, ((tkE x_1.snd.snd.fst f.snd.snd.snd.snd.fst f.snd.snd.snd.snd.snd.fst x.fst.snd.snd.snd.snd.snd.snd.snd.snd.fst).fst, tkK (tkL x_1.snd.snd.fst f.snd.snd.snd.snd.fst f.snd.snd.snd.snd.snd.fst x.fst.snd.snd.snd.snd.snd.snd.snd.snd.fst) (tkE x_1.snd.snd.fst f.snd.snd.snd.snd.fst f.snd.snd.snd.snd.snd.fst x.fst.snd.snd.snd.snd.snd.snd.snd.snd.fst).snd.fst, ()), ()), ()), (tkE x_1.snd.snd.fst f.snd.snd.snd.snd.fst f.snd.snd.snd.snd.snd.fst x.fst.snd.snd.snd.snd.snd.snd.snd.snd.fst).snd.snd, parF x.fst ((goF x.snd.fst f.snd.snd.fst).fst, x.snd.snd.fst, (goF x.snd.fst f.snd.snd.fst).snd.fst, (2 : Int), (tkE x_1.snd.snd.fst f.snd.snd.snd.snd.fst f.snd.snd.snd.snd.snd.fst x.fst.snd.snd.snd.snd.snd.snd.snd.snd.fst).fst, [], ()) false, (0 : Int), ()), ()) = (ptF x.fst x.snd.fst x.snd.snd.fst x.snd.snd.snd.fst x.snd.snd.snd.snd.fst, ())

theorem ptRest_ok (c : Cfg) (p : Pos) (n : Int) (b : List Int) (now : Int) (f : Fra) (h1 : c.1.length ≤ big) (h2 : okPo p) (h3 : okSt p.2.1) (f1 : okSt f.2.2.1) (f2 : f.2.2.1.2.2.1.length ≤ 8) (f3 : f.2.2.2.2.2.1.length ≤ 65536)
    (h : ptF c p n b now = if f.2.2.2.1 = 2 then (tkAP c p n f now, [], iparF c (tkAP c p n f now) n (tkA c p n f now).2.1 true, 0, ())
      else (tkTP c p n f, (tkT c p n f).2.1, parF c ((goF p f.2.2.1).1, n, (goF p f.2.2.1).2.1, 2, (tkT c p n f).2.2.1, [], ()) false, 0, ())) : PtRest (c, p, n, b, now, ()) f := by
  have hg := goF_ok h2 (s := f.2.2.1) (by show _ ≤ 1000000000; omega)
  have hs := goF_st h3 f1
  have lt := lnkI_lt (goF p f.2.2.1).2.2.1 n
  unfold PtRest
  dsimp only
  refine ⟨⟨h2, by omega⟩, hg.2.1, ?_⟩
  by_cases hk : f.2.2.2.1 = 2
  · rw [beq_iff_eq.2 hk, cond_true]
    refine ⟨lt, fun q hq => ?_⟩
    have hqe := linkE_of hq
    have okq := lnkL_ok hg.2.2 n q (List.mem_of_getElem? hq)
    refine ⟨okq.1, lt, fun q' hq' => ?_⟩
    rw [hq] at hq'
    cases hq'
    have al := ackGo_len (winC c) now q.2.1.2.2.1 q.2.1.1 (ackS q.2.1.2.1 f.2.2.2.2.1) []
    have wl : q.2.1.2.2.1.length ≤ 1000000000 := okq.1.2.1
    refine ⟨⟨h1, hs, Nat.le_trans al (by rw [List.length_nil]; omega)⟩, ?_⟩
    rw [h, if_pos hk]
    simp only [tkAP, tkA, hqe, putPe, winC]
  · rw [beq_eq_false_iff_ne.2 hk, cond_false]
    refine ⟨lt, fun q hq => ?_⟩
    have hqe := linkE_of hq
    have okq := lnkL_ok hg.2.2 n q (List.mem_of_getElem? hq)
    refine ⟨⟨okq.2, by show _ ≤ 1000000000; omega⟩, lt, fun q' hq' => ?_⟩
    rw [hq] at hq'
    cases hq'
    refine ⟨⟨h1, hs⟩, ?_⟩
    rw [h, if_neg hk]
    simp only [tkTP, tkT, hqe, putPe, winC, takF]

theorem vc_ptake : VC Tryd.prog Tryd.f16 (bodyOf Tryd.f16) S_ptake [(45, S_isN), (14, S_pair), (19, S_ftake), (17, S_scmp), (18, S_ssame), (26, S_go), (46, S_lw), (47, S_lack), (49, S_ltake), (48, S_ipar), (50, S_fpar)] (fun _ _ => none) = (∀ (x : (List Int × Int × Int × Int × Int × Int × Int × Int × Int × Int × Int × Unit) × (Int × (Int × Int × List Int × Unit) × List (Int × (Int × List (Int × List Int × Int × Unit) × List (List Int) × Unit) × (Int × List (Int × List Int × Int × Unit) × Unit) × Unit) × Unit) × Int × List Int × Int × Unit), (List.length x.fst.fst ≤ big ∧ okPo x.snd.fst ∧ okSt x.snd.fst.snd.fst ∧ List.length x.snd.snd.snd.fst ≤ (100000000 : Nat) ∧ ∀ (x_1 : Int), x_1 ∈ x.snd.snd.snd.fst →
  (0 : Int) ≤ x_1 ∧ x_1 < (256 : Int)) →
  List.length x.fst.fst ≤ (9223372036854775807 : Nat) →
  List.length x.snd.fst.snd.fst.snd.snd.fst ≤ (9223372036854775807 : Nat) →
  List.length x.snd.fst.snd.snd.fst ≤ (9223372036854775807 : Nat) →
  List.length x.snd.snd.snd.fst ≤ (9223372036854775807 : Nat) →
  True ∧ bif !isNodeF x.fst x.snd.snd.fst then ((((0 : Int), ((0 : Int), (0 : Int), [], ()), [], ()), [], [], (1 : Int), ()), ()) = (ptF x.fst x.snd.fst x.snd.snd.fst x.snd.snd.snd.fst x.snd.snd.snd.snd.fst, ()) else bif x.snd.snd.fst == x.snd.fst.fst then ((((0 : Int), ((0 : Int), (0 : Int), [], ()), [], ()), [], [], (1 : Int), ()), ()) = (ptF x.fst x.snd.fst x.snd.snd.fst x.snd.snd.snd.fst x.snd.snd.snd.snd.fst, ()) else List.length x.fst.fst ≤ (1000000000 : Nat) ∧ (List.length (pairF x.fst x.snd.snd.fst x.snd.fst.fst) ≤ (1000000000 : Nat) ∧ List.length x.snd.snd.snd.fst ≤ (100000000 : Nat) ∧ ∀ (x_1 : Int), x_1 ∈ x.snd.snd.snd.fst →
  (0 : Int) ≤ x_1 ∧ x_1 < (256 : Int)) ∧ bif frTkE (pairF x.fst x.snd.snd.fst x.snd.fst.fst) x.snd.snd.snd.fst != (0 : Int) then ((((0 : Int), ((0 : Int), (0 : Int), [], ()), [], ()), [], [], frTkE (pairF x.fst x.snd.snd.fst x.snd.fst.fst) x.snd.snd.snd.fst, ()), ()) = (ptF x.fst x.snd.fst x.snd.snd.fst x.snd.snd.snd.fst x.snd.snd.snd.snd.fst, ()) else bif (frTkF (pairF x.fst x.snd.snd.fst x.snd.fst.fst) x.snd.snd.snd.fst).fst != x.snd.snd.fst then ((((0 : Int), ((0 : Int), (0 : Int), [], ()), [], ()), [], [], (1 : Int), ()), ()) = (ptF x.fst x.snd.fst x.snd.snd.fst x.snd.snd.snd.fst x.snd.snd.snd.snd.fst, ()) else bif (frTkF (pairF x.fst x.snd.snd.fst x.snd.fst.fst) x.snd.snd.snd.fst).snd.fst != x.snd.fst.fst then ((((0 : Int), ((0 : Int), (0 : Int), [], ()), [], ()), [], [], (1 : Int), ()), ()) = (ptF x.fst x.snd.fst x.snd.snd.fst x.snd.snd.snd.fst x.snd.snd.snd.snd.fst, ()) else True ∧ bif decide (stCmp (frTkF (pairF x.fst x.snd.snd.fst x.snd.fst.fst) x.snd.snd.snd.fst).snd.snd.fst x.snd.fst.snd.fst < (0 : Int)) then ((((0 : Int), ((0 : Int), (0 : Int), [], ()), [], ()), [], [], (6 : Int), ()), ()) = (ptF x.fst x.snd.fst x.snd.snd.fst x.snd.snd.snd.fst x.snd.snd.snd.snd.fst, ()) else bif stCmp (frTkF (pairF x.fst x.snd.snd.fst x.snd.fst.fst) x.snd.snd.snd.fst).snd.snd.fst x.snd.fst.snd.fst == (0 : Int) then True ∧ bif !stSame (frTkF (pairF x.fst x.snd.snd.fst x.snd.fst.fst) x.snd.snd.snd.fst).snd.snd.fst x.snd.fst.snd.fst then ((((0 : Int), ((0 : Int), (0 : Int), [], ()), [], ()), [], [], (6 : Int), ()), ()) = (ptF x.fst x.snd.fst x.snd.snd.fst x.snd.snd.snd.fst x.snd.snd.snd.snd.fst, ()) else PtRest x (frTkF (pairF x.fst x.snd.snd.fst x.snd.fst.fst) x.snd.snd.snd.fst) else PtRest x (frTkF (pairF x.fst x.snd.snd.fst x.snd.fst.fst) x.snd.snd.snd.fst)) := by kernel_rfl
theorem en_ptake (us : Array Value) (u : World) : (callFunc 16 us).run Tryd.prog u = .ok (.enter 16 us) u := by kernel_rfl
theorem sc_ptake : SC Tryd.prog 16 S_ptake := by
  refine SC.of Tryd.func16 (c := bodyOf Tryd.f16) (by kernel_rfl) (by kernel_rfl) (fun x => (by decide : (5:Nat) ≤ Tryd.f16.ntmps)) (DOk.cons sc_isN en_isN (DOk.cons sc_pair en_pair (DOk.cons sc_ftake en_ftake (DOk.cons sc_scmp en_scmp (DOk.cons sc_ssame en_ssame (DOk.cons sc_go en_go (DOk.cons sc_lw en_lw (DOk.cons sc_lack en_lack (DOk.cons sc_ltake en_ltake (DOk.cons sc_ipar en_ipar (DOk.cons sc_fpar en_fpar DOk.nil))))))))))) (Eq.mpr vc_ptake ?_)
  rintro ⟨c, p, n, b, now, ⟨⟩⟩ ⟨h1, h2, h3, h4, h5⟩ - - - -
  dsimp only at h1 h2 h3 h4 h5 ⊢
  have hb : byt b := h5
  refine ⟨trivial, ?_⟩
  have e1 : (isNodeF c n = false ∨ n = p.1) → ((((0, (0, 0, [], ()), [], ()), [], [], 1, ()), ()) : (Pos × List (List Int) × List Par × Int × Unit) × Unit) = (ptF c p n b now, ()) := fun h => by rw [ptF, if_pos h]; rfl
  cases hn : isNodeF c n
  · rw [Bool.not_false, cond_true]; exact e1 (.inl hn)
  rw [Bool.not_true, cond_false]
  by_cases h6 : n = p.1
  · rw [beq_iff_eq.2 h6, cond_true]; exact e1 (.inr h6)
  rw [beq_eq_false_iff_ne.2 h6, cond_false]
  have hno : ¬ (isNodeF c n = false ∨ n = p.1) := by
    rintro (h | h)
    · rw [hn] at h; cases h
    · exact h6 h
  refine ⟨h1, ⟨by rw [pairF_len]; omega, h4, hb⟩, ?_⟩
  by_cases h7 : frTkE (pairF c n p.1) b = 0
  rotate_left 1
  · rw [bneT h7, cond_true, ptF, if_neg hno, if_pos h7]; rfl
  rw [bneF h7, cond_false]
  obtain ⟨f1, f2, f3, f4⟩ := frTk_ok hb h7
  have hG : ptF c p n b now = ptG c p n (frTkF (pairF c n p.1) b) now := by rw [ptF, if_neg hno, if_neg (fun h => h h7)]
  generalize frTkF (pairF c n p.1) b = f at f1 f2 f3 f4 hG ⊢
  by_cases h8 : f.1 = n
  rotate_left 1
  · rw [bneT h8, cond_true, hG, ptG, if_pos (.inl h8)]; rfl
  rw [bneF h8, cond_false]
  by_cases h9 : f.2.1 = p.1
  rotate_left 1
  · rw [bneT h9, cond_true, hG, ptG, if_pos (.inr h9)]; rfl
  rw [bneF h9, cond_false]
  have hn1 : ¬ (f.1 ≠ n ∨ f.2.1 ≠ p.1) := by
    rintro (h | h)
    · exact h h8
    · exact h h9
  rw [ptG, if_neg hn1] at hG
  refine ⟨trivial, ?_⟩
  by_cases h10 : stCmp f.2.2.1 p.2.1 < 0
  · rw [decide_eq_true h10, cond_true, hG, if_pos (.inl h10)]; rfl
  rw [decide_eq_false h10, cond_false]
  by_cases h11 : stCmp f.2.2.1 p.2.1 = 0
  · rw [beq_iff_eq.2 h11, cond_true]
    refine ⟨trivial, ?_⟩
    cases h12 : stSame f.2.2.1 p.2.1
    · rw [Bool.not_false, cond_true, hG, if_pos (.inr ⟨h11, h12⟩)]; rfl
    · rw [Bool.not_true, cond_false]
      refine ptRest_ok c p n b now f h1 h2 h3 f1 f2 f3 ?_
      rw [hG, if_neg]
      rintro (h | ⟨_, h⟩)
      · exact h10 h
      · rw [h12] at h; cases h
  · rw [beq_eq_false_iff_ne.2 h11, cond_false]
    refine ptRest_ok c p n b now f h1 h2 h3 f1 f2 f3 ?_
    rw [hG, if_neg]
    rintro (h | ⟨h, _⟩)
    · exact h10 h
    · exact h11 h
end Go.Proofs.YtjkbkhjalimebaaDoor
