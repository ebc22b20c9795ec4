/- The words of package link. Printed by gen.py. -/
import Derived.Test.YtjkbkhjalimebaaDoorPH
namespace Go.Proofs.YtjkbkhjalimebaaDoor
open Go.RowKit DoorU
set_option linter.unusedVariables false
set_option linter.unusedSimpArgs false
set_option maxRecDepth 100000
set_option maxHeartbeats 1000000

namespace DoorU
def zIt : Itm := (0, [], 0, ())
def big : Nat := 1000000000
def okIts (l : List Itm) : Prop := l.length ≤ big ∧ ∀ x ∈ l, x.2.1.length ≤ big
def okBs (l : List (List Int)) : Prop := l.length ≤ big ∧ ∀ x ∈ l, x.length ≤ big
def okOut (o : Ouq) : Prop := okIts o.2.1 ∧ okBs o.2.2.1
def okIn (i : Inq) : Prop := okIts i.2.1
def i64 (n : Int) : Int := IntKind.i64.wrap n
def itm (n : Int) (b : List Int) (now : Int) : Itm := (n, b, now, ())
def sendF (o : Ouq) (b : List Int) (w now : Int) : Ouq × List Itm × Unit := if w ≤ (o.2.1.length : Nat) then ((o.1, o.2.1, o.2.2.1 ++ [b], ()), [], ()) else ((i64 (o.1 + 1), o.2.1 ++ [itm o.1 b now], o.2.2.1, ()), [itm o.1 b now], ())
def ackS (l : List Itm) (n : Int) : List Itm := l.filter fun x => decide (n ≤ x.1)
def ackGo (w now : Int) : Int → List Itm → List Itm → List (List Int) → Ouq × List Itm × Unit
  | nx, s, t, [] => ((nx, s, [], ()), t, ())
  | nx, s, t, b :: r => if (s.length : Nat) < w then ackGo w now (i64 (nx + 1)) (s ++ [itm nx b now]) (t ++ [itm nx b now]) r else ((nx, s, b :: r, ()), t, ())
def ackF (o : Ouq) (n w now : Int) : Ouq × List Itm × Unit := ackGo w now o.1 (ackS o.2.1 n) [] o.2.2.1
def fpGo : Int → List Itm → List (Int × Int) → List (Int × Int)
  | _, [], m => m
  | i, x :: r, m => fpGo (i + 1) r (bif mhas m x.1 then m else mput m x.1 i)
def fpF (l : List Itm) : List (Int × Int) := fpGo 0 l []
def tkH (i : Inq) (q : Int) (w : Int) : Bool := decide (i.1 ≤ q) && (decide (q < i64 (i.1 + w)) && !(mhas (fpF i.2.1) q))
def tkL (i : Inq) (q : Int) (b : List Int) (w : Int) : List Itm := if tkH i q w then i.2.1 ++ [itm q b 0] else i.2.1
def tkM (i : Inq) (q : Int) (w : Int) : List (Int × Int) := if tkH i q w then mput (fpF i.2.1) q (i.2.1.length : Nat) else fpF i.2.1
def tkGo (m : List (Int × Int)) (l : List Itm) : Nat → Int → List Bool → List (List Int) → Int × List Bool × List (List Int)
  | 0, e, g, b => (e, g, b)
  | n + 1, e, g, b => if mhas m e then tkGo m l n (i64 (e + 1)) (g.set (mget m e).toNat true) (b ++ [(l.getD (mget m e).toNat zIt).2.1]) else (e, g, b)
def tkK : List Itm → List Bool → List Itm
  | x :: l, g :: r => if g then tkK l r else x :: tkK l r
  | _, _ => []
def tkE (i : Inq) (q : Int) (b : List Int) (w : Int) : Int × List Bool × List (List Int) := tkGo (tkM i q w) (tkL i q b w) ((tkL i q b w).length + 1) i.1 (List.replicate (tkL i q b w).length false) []
def takF (i : Inq) (q : Int) (b : List Int) (w : Int) : Inq × List (List Int) × Int × Unit := (((tkE i q b w).1, tkK (tkL i q b w) (tkE i q b w).2.1, ()), (tkE i q b w).2.2, (tkE i q b w).1, ())
theorem take_set {α : Type} {l : List α} {k : Nat} {c : α} (h : k < l.length) : (l.set k c).take (k + 1) = l.take k ++ [c] := by
  have h1 : (l.set k c)[k]? = some c := by rw [List.getElem?_set_self h]
  rw [take_snoc h1, List.take_set_of_le (Nat.le_refl k)]
theorem drop_of {α : Type} {l : List α} {k : Nat} {c : α} (h : l[k]? = some c) : l.drop k = c :: l.drop (k + 1) := by
  obtain ⟨hlt, rfl⟩ := List.getElem?_eq_some_iff.1 h
  exact List.drop_eq_getElem_cons hlt
theorem dropU {α : Type} (l : List α) (n : Nat) : List.take (Int.toNat (l.length : Int) - n) (l.drop n) = l.drop n := by
  rw [Int.toNat_natCast, List.take_of_length_le (by rw [List.length_drop]; omega)]
def cnt : List Bool → Nat
  | [] => 0
  | b :: r => (if b then 1 else 0) + cnt r
def tkInv (i : Inq) (q : Int) (b : List Int) (w : Int) (e : Int) (g : List Bool) (bs : List (List Int)) : Prop :=
  g.length = (tkL i q b w).length ∧ bs.length = cnt g ∧ (e - i.1 - (cnt g : Nat)) % 18446744073709551616 = 0 ∧ (∀ (j : Nat) (x : Itm), g[j]? = some true → (tkL i q b w)[j]? = some x → ∃ k : Nat, k < cnt g ∧ (x.1 - i.1 - k) % 18446744073709551616 = 0) ∧ tkGo (tkM i q w) (tkL i q b w) ((tkL i q b w).length + 1 - cnt g) e g bs = tkE i q b w
def tkInv2 (i : Inq) (q : Int) (b : List Int) (w : Int) (k : Int) (e : Int) (l : List Itm) : Prop :=
  0 ≤ k ∧ k ≤ ((tkL i q b w).length : Nat) ∧ l.length ≤ k.toNat ∧ e = (tkE i q b w).1 ∧ l ++ tkK ((tkL i q b w).drop k.toNat) ((tkE i q b w).2.1.drop k.toNat) = tkK (tkL i q b w) (tkE i q b w).2.1
theorem mfind_put (k v q : Int) : ∀ m : List (Int × Int), (mput m k v).find? (fun x => x.1 == q) = if k = q then some (k, v) else m.find? (fun x => x.1 == q)
  | [] => by
    simp only [mput, List.find?_cons, List.find?_nil]
    by_cases h : k = q
    · rw [if_pos h, beq_iff_eq.2 h]
    · rw [if_neg h, beq_eq_false_iff_ne.2 h]
  | x :: l => by
    have ih := mfind_put k v q l
    by_cases h1 : x.1 = k
    · simp only [mput, beq_iff_eq.2 h1, cond_true, List.find?_cons]
      by_cases h : k = q
      · rw [if_pos h, beq_iff_eq.2 h]
      · rw [if_neg h, beq_eq_false_iff_ne.2 h, beq_eq_false_iff_ne.2 (fun e => h (by rw [← h1, e]))]
    · simp only [mput, beq_eq_false_iff_ne.2 h1, cond_false, List.find?_cons]
      by_cases h2 : x.1 = q
      · rw [beq_iff_eq.2 h2, if_neg (fun e => h1 (by rw [h2, e]))]
      · rw [beq_eq_false_iff_ne.2 h2, ih]
theorem mhas_put (m : List (Int × Int)) (k v q : Int) : mhas (mput m k v) q = if k = q then true else mhas m q := by
  unfold mhas
  rw [mfind_put]
  split
  · rfl
  · rfl
theorem mget_put (m : List (Int × Int)) (k v q : Int) : mget (mput m k v) q = if k = q then v else mget m q := by
  unfold mget
  rw [mfind_put]
  split
  · rfl
  · rfl
def mOk (m : List (Int × Int)) (l : List Itm) : Prop := ∀ q, mhas m q = true → 0 ≤ mget m q ∧ ∃ x, l[(mget m q).toNat]? = some x ∧ x.1 = q
theorem mOk_nil (l : List Itm) : mOk [] l := fun q h => by cases h
theorem mOk_put {m : List (Int × Int)} {l : List Itm} (h : mOk m l) {i : Int} {x : Itm} (h0 : 0 ≤ i) (hx : l[i.toNat]? = some x) : mOk (mput m x.1 i) l := fun q hq => by
  rw [mhas_put] at hq
  rw [mget_put]
  by_cases e : x.1 = q
  · rw [if_pos e]
    exact ⟨h0, x, hx, e⟩
  · rw [if_neg e] at hq ⊢
    exact h q hq
theorem mOk_app {m : List (Int × Int)} {l : List Itm} (h : mOk m l) (r : List Itm) : mOk m (l ++ r) := fun q hq => by
  obtain ⟨h0, x, hx, e⟩ := h q hq
  refine ⟨h0, x, ?_, e⟩
  rw [List.getElem?_append_left (List.getElem?_eq_some_iff.1 hx).1, hx]
theorem fpGo_ok {L : List Itm} : ∀ (l : List Itm) (i : Int) (m : List (Int × Int)), mOk m L → 0 ≤ i → L.drop i.toNat = l → mOk (fpGo i l m) L
  | [], _, _, h, _, _ => h
  | x :: l, i, m, h, h0, hl => by
    have hx : L[i.toNat]? = some x := by
      have : (L.drop i.toNat)[0]? = some x := by rw [hl]; rfl
      rwa [List.getElem?_drop, Nat.add_zero] at this
    rw [fpGo]
    refine fpGo_ok l (i + 1) _ ?_ (by omega) ?_
    · cases hm : mhas m x.1
      · rw [cond_false]; exact mOk_put h h0 hx
      · rw [cond_true]; exact h
    · rw [drop_of hx] at hl
      rw [show (i + 1).toNat = i.toNat + 1 by omega]
      exact (List.cons.inj hl).2
theorem fpF_ok (l : List Itm) : mOk (fpF l) l := fpGo_ok l 0 [] (mOk_nil l) (Int.le_refl 0) rfl
theorem tkM_ok (i : Inq) (q : Int) (b : List Int) (w : Int) : mOk (tkM i q w) (tkL i q b w) := by
  unfold tkM tkL
  split
  · refine mOk_put (x := itm q b 0) (mOk_app (fpF_ok i.2.1) _) (by omega) ?_
    rw [show ((i.2.1.length : Nat) : Int).toNat = i.2.1.length by omega, List.getElem?_append_right (Nat.le_refl _), Nat.sub_self]
    rfl
  · exact fpF_ok i.2.1
theorem cnt_le : ∀ g : List Bool, cnt g ≤ g.length
  | [] => Nat.le_refl 0
  | b :: r => by
    have := cnt_le r
    rw [cnt, List.length_cons]
    split <;> omega
theorem cnt_rep : ∀ n : Nat, cnt (List.replicate n false) = 0
  | 0 => rfl
  | n + 1 => by rw [List.replicate_succ, cnt, cnt_rep n]; rfl
theorem cnt_set : ∀ {g : List Bool} {j : Nat}, g[j]? = some false → cnt (g.set j true) = cnt g + 1
  | [], _, h => by simp at h
  | b :: r, 0, h => by
    obtain rfl : b = false := by simpa using h
    rw [List.set_cons_zero, cnt, cnt, if_pos rfl, if_neg (by decide)]
    omega
  | b :: r, j + 1, h => by
    rw [List.set_cons_succ, cnt, cnt, cnt_set (g := r) (j := j) (by simpa using h)]
    omega
theorem wrap_mod (n : Int) : (IntKind.i64.wrap n - n) % 18446744073709551616 = 0 := by
  have e : IntKind.i64.wrap n = if 9223372036854775808 ≤ n % 18446744073709551616 then n % 18446744073709551616 - 18446744073709551616 else n % 18446744073709551616 := by
    unfold IntKind.wrap
    simp only [IntKind.bits, IntKind.signed, Bool.true_and, decide_eq_true_eq, ge_iff_le]
    rfl
  rw [e]
  split <;> omega
end DoorU
abbrev tBs : Ty := .sl tYs
abbrev vIt : Sh := .agg (shOf false tIt)
abbrev lIts : Sh := .view true tIt
abbrev vIts : Sh := .view false tIt
abbrev oIts : Sh := .own tIt 151
abbrev vYs : Sh := .view false tYs
abbrev oYs : Sh := .own tYs 22
abbrev vOut : Sh := .agg (shOf false tOut)
abbrev vIn : Sh := .agg (shOf false tIn)
abbrev pOut : Sh := .var 49 (.pair nI (.pair oIts (.pair vYs .unit)))
def S_scl : Spec := ⟨.pair lY .unit, .pair vY .unit, fun (x : List Int × Unit) => x.1.length ≤ 1000000000000, fun (x : List Int × Unit) => ((x.1, ()) : List Int × Unit)⟩
def S_cpi : Spec := ⟨.pair aIt .unit, .pair vIt .unit, fun (x : Itm × Unit) => x.1.2.1.length ≤ 1000000000000, fun (x : Itm × Unit) => ((x.1, ()) : Itm × Unit)⟩
def S_cpis : Spec := ⟨.pair lIts .unit, .pair oIts .unit, fun (x : List Itm × Unit) => okIts x.1, fun (x : List Itm × Unit) => ((x.1, ()) : List Itm × Unit)⟩
def A_cpis (x : List Itm × Unit) : Nat → Option LA
  | 0 => some ⟨[11, 3], [], .pair nI (.pair oIts .unit), fun (v : Int × List Itm × Unit) => 0 ≤ v.1 ∧ v.1 ≤ (x.1.length : Nat) ∧ v.2.1.length = x.1.length ∧ v.2.1.take v.1.toNat = x.1.take v.1.toNat, fun (v : Int × List Itm × Unit) => ((x.1.length : Nat) - v.1).toNat⟩
  | _ => none
def S_cpbs : Spec := ⟨.pair lYs .unit, .pair oYs .unit, fun (x : List (List Int) × Unit) => okBs x.1, fun (x : List (List Int) × Unit) => ((x.1, ()) : List (List Int) × Unit)⟩
def A_cpbs (x : List (List Int) × Unit) : Nat → Option LA
  | 0 => some ⟨[11, 3], [], .pair nI (.pair oYs .unit), fun (v : Int × List (List Int) × Unit) => 0 ≤ v.1 ∧ v.1 ≤ (x.1.length : Nat) ∧ v.2.1.length = x.1.length ∧ v.2.1.take v.1.toNat = x.1.take v.1.toNat, fun (v : Int × List (List Int) × Unit) => ((x.1.length : Nat) - v.1).toNat⟩
  | _ => none
def S_num : Spec := ⟨.pair pOut (.pair lY (.pair nI .unit)), .pair vIt (.pair pOut .unit), fun (x : Ouq × List Int × Int × Unit) => x.1.2.1.length ≤ 2000000000 ∧ x.2.1.length ≤ big, fun (x : Ouq × List Int × Int × Unit) => ((itm x.1.1 x.2.1 x.2.2.1, (i64 (x.1.1 + 1), x.1.2.1 ++ [itm x.1.1 x.2.1 x.2.2.1], x.1.2.2.1, ()), ()) : Itm × Ouq × Unit)⟩
def S_lsend : Spec := ⟨.pair aOut (.pair lY (.pair nI (.pair nI .unit))), .pair (.tup (.pair vOut (.pair vIts .unit))) .unit, fun (x : Ouq × List Int × Int × Int × Unit) => okOut x.1 ∧ x.2.1.length ≤ big, fun (x : Ouq × List Int × Int × Int × Unit) => ((sendF x.1 x.2.1 x.2.2.1 x.2.2.2.1, ()) : (Ouq × List Itm × Unit) × Unit)⟩
def S_lack : Spec := ⟨.pair aOut (.pair nI (.pair nI (.pair nI .unit))), .pair (.tup (.pair vOut (.pair vIts .unit))) .unit, fun (x : Ouq × Int × Int × Int × Unit) => okOut x.1, fun (x : Ouq × Int × Int × Int × Unit) => ((ackF x.1 x.2.1 x.2.2.1 x.2.2.2.1, ()) : (Ouq × List Itm × Unit) × Unit)⟩
def A_lack (x : Ouq × Int × Int × Int × Unit) : Nat → Option LA
  | 0 => some ⟨[21, 10], [(2010, tIt, 151)], .pair nI (.pair (.var 49 (.pair nI (.pair oIts (.pair vYs .unit)))) .unit), fun (v : Int × Ouq × Unit) => 0 ≤ v.1 ∧ v.1 ≤ (x.1.2.1.length : Nat) ∧ v.2.1.1 = x.1.1 ∧ v.2.1.2.1 = ackS (x.1.2.1.take v.1.toNat) x.2.1 ∧ v.2.1.2.2.1 = [], fun (v : Int × Ouq × Unit) => ((x.1.2.1.length : Nat) - v.1).toNat⟩
  | 1 => some ⟨[14, 10, 13], [(13, tIt, 151)], .pair nI (.pair (.var 49 (.pair nI (.pair oIts (.pair vYs .unit)))) (.pair oIts .unit)), fun (v : Int × Ouq × List Itm × Unit) => 0 ≤ v.1 ∧ v.1 ≤ (x.1.2.2.1.length : Nat) ∧ v.2.1.2.1.length ≤ big + v.1.toNat ∧ v.2.2.1.length ≤ v.1.toNat ∧ v.2.1.2.2.1 = [] ∧ ackF x.1 x.2.1 x.2.2.1 x.2.2.2.1 = ackGo x.2.2.1 x.2.2.2.1 v.2.1.1 v.2.1.2.1 v.2.2.1 (x.1.2.2.1.drop v.1.toNat), fun (v : Int × Ouq × List Itm × Unit) => ((x.1.2.2.1.length : Nat) - v.1).toNat⟩
  | _ => none
def S_fp : Spec := ⟨.pair lIts .unit, .pair (.mpp .i64 .i64) .unit, fun (x : List Itm × Unit) => x.1.length ≤ 2000000000, fun (x : List Itm × Unit) => ((fpF x.1, ()) : List (Int × Int) × Unit)⟩
def A_fp (x : List Itm × Unit) : Nat → Option LA
  | 0 => some ⟨[14, 3], [], .pair nI (.pair (.mpp .i64 .i64) .unit), fun (v : Int × List (Int × Int) × Unit) => 0 ≤ v.1 ∧ v.1 ≤ (x.1.length : Nat) ∧ fpGo v.1 (x.1.drop v.1.toNat) v.2.1 = fpF x.1, fun (v : Int × List (Int × Int) × Unit) => ((x.1.length : Nat) - v.1).toNat⟩
  | _ => none
abbrev oBl : Sh := .own .bool 4
abbrev tkG (x : Inq × Int × List Int × Int × Unit) : Int × List Bool × List (List Int) := tkE x.1 x.2.1 x.2.2.1 x.2.2.2.1
def S_ltake : Spec := ⟨.pair aIn (.pair nI (.pair lY (.pair nI .unit))), .pair (.tup (.pair vIn (.pair vYs (.pair nI .unit)))) .unit, fun (x : Inq × Int × List Int × Int × Unit) => okIn x.1 ∧ x.2.2.1.length ≤ big, fun (x : Inq × Int × List Int × Int × Unit) => ((takF x.1 x.2.1 x.2.2.1 x.2.2.2.1, ()) : (Inq × List (List Int) × Int × Unit) × Unit)⟩
def A_ltake (x : Inq × Int × List Int × Int × Unit) : Nat → Option LA
  | 0 => some ⟨[15, 16, 17], [(2015, tIt, 151), (17, tYs, 22)], .pair (.var 51 (.pair nI (.pair oIts .unit))) (.pair oBl (.pair oYs .unit)), fun (v : (Int × List Itm × Unit) × List Bool × List (List Int) × Unit) => v.1.2.1.length = 0 ∧ tkInv x.1 x.2.1 x.2.2.1 x.2.2.2.1 v.1.1 v.2.1 v.2.2.1, fun (v : (Int × List Itm × Unit) × List Bool × List (List Int) × Unit) => (tkL x.1 x.2.1 x.2.2.1 x.2.2.2.1).length + 1 - cnt v.2.1⟩
  | 1 => some ⟨[92, 15], [], .pair nI (.pair (.var 51 (.pair nI (.pair oIts .unit))) .unit), fun (v : Int × (Int × List Itm × Unit) × Unit) => tkInv2 x.1 x.2.1 x.2.2.1 x.2.2.2.1 v.1 v.2.1.1 v.2.1.2.1, fun (v : Int × (Int × List Itm × Unit) × Unit) => ((tkL x.1 x.2.1 x.2.2.1 x.2.2.2.1).length - v.1).toNat⟩
  | _ => none

theorem vc_scl : VC Tryd.prog Tryd.f93 (bodyOf Tryd.f93) S_scl [] (fun _ _ => none) = (∀ (x : List Int × Unit), List.length x.fst ≤ (1000000000000 : Nat) →
  List.length x.fst ≤ (9223372036854775807 : Nat) →
  (List.length x.fst = (0 : Nat) →
  ([], ()) = x) ∧ ((0 : Nat) + List.length x.fst) * (1 : Nat) ≤ (140737488351232 : Nat) ∧ ([] ++ x.fst, ()) = x) := by kernel_rfl
theorem en_scl (us : Array Value) (u : World) : (callFunc 93 us).run Tryd.prog u = .ok (.enter 93 us) u := by kernel_rfl
theorem sc_scl : SC Tryd.prog 93 S_scl := by
  refine SC.of Tryd.func93 (c := bodyOf Tryd.f93) (by kernel_rfl) (by kernel_rfl) (fun x => (by decide : (1:Nat) ≤ Tryd.f93.ntmps)) DOk.nil (Eq.mpr vc_scl ?_)
  rintro ⟨l, ⟨⟩⟩ h -
  dsimp only at h ⊢
  refine ⟨fun h0 => ?_, by omega, by rw [List.nil_append]⟩
  rw [List.eq_nil_of_length_eq_zero h0]

theorem vc_cpi : VC Tryd.prog Tryd.f88 (bodyOf Tryd.f88) S_cpi [(93, S_scl)] (fun _ _ => none) = (∀ (x : (Int × List Int × Int × Unit) × Unit), List.length x.1.snd.fst ≤ (1000000000000 : Nat) →
  List.length x.1.snd.fst ≤ (9223372036854775807 : Nat) →
  List.length x.1.snd.fst ≤ (1000000000000 : Nat) ∧ x = x) := by kernel_rfl
theorem en_cpi (us : Array Value) (u : World) : (callFunc 88 us).run Tryd.prog u = .ok (.enter 88 us) u := by kernel_rfl
theorem sc_cpi : SC Tryd.prog 88 S_cpi := by
  refine SC.of Tryd.func88 (c := bodyOf Tryd.f88) (by kernel_rfl) (by kernel_rfl) (fun x => (by decide : (1:Nat) ≤ Tryd.f88.ntmps)) (DOk.cons sc_scl en_scl DOk.nil) (Eq.mpr vc_cpi ?_)
  rintro x h -
  exact ⟨h, rfl⟩

theorem vc_cpis : VC Tryd.prog Tryd.f91 (bodyOf Tryd.f91) S_cpis [(88, S_cpi)] A_cpis = (∀ (x : List (Int × List Int × Int × Unit) × Unit), okIts x.fst →
  List.length x.fst ≤ (9223372036854775807 : Nat) →
  List.length x.fst ≤ (9223372036854775807 : Nat) →
  (0 : Int) ≤ (↑(List.length x.fst) : Int) ∧ (↑(List.length x.fst) : Int) ≤ (↑(List.length x.fst) : Int) ∧ (40 : Int) * (↑(List.length x.fst) : Int) ≤ (281474976710656 : Int) ∧ (↑(List.length x.fst) : Int) ≤ (140737488351232 : Int) ∧ (List.length x.fst ≤ (9223372036854775807 : Nat) →
  ((0 : Int) ≤ (0 : Int) ∧ (0 : Int) ≤ (↑(List.length x.fst) : Int) ∧ List.length (List.replicate (Int.toNat (↑(List.length x.fst) : Int)) (((0 : Int), [], (0 : Int), ()) : Itm)) = List.length x.fst ∧ List.take (Int.toNat (0 : Int)) (List.replicate (Int.toNat (↑(List.length x.fst) : Int)) (((0 : Int), [], (0 : Int), ()) : Itm)) = List.take (Int.toNat (0 : Int)) x.fst) ∧ ∀ (v : Int × List (Int × List Int × Int × Unit) × Unit), (0 : Int) ≤ v.fst ∧ v.fst ≤ (↑(List.length x.fst) : Int) ∧ List.length v.2.fst = List.length x.fst ∧ List.take (Int.toNat v.fst) v.2.fst = List.take (Int.toNat v.fst) x.fst →
  bif decide (v.fst < (↑(List.length x.fst) : Int)) then (0 : Int) ≤ v.fst ∧ v.fst < (↑(List.length x.fst) : Int) ∧ ∀ (c0 : Int × List Int × Int × Unit), x.fst[Int.toNat v.fst]? = some c0 →
  List.length c0.2.fst ≤ (1000000000000 : Nat) ∧ (0 : Int) ≤ v.fst ∧ v.fst < (↑(List.length v.2.fst) : Int) ∧ Int.toNat v.fst < List.length v.2.fst ∧ ∀ (x0 : Int × List Int × Int × Unit), v.2.fst[Int.toNat v.fst]? = some x0 →
  ((0 : Int) ≤ IntKind.wrap IntKind.i64 (v.fst + (1 : Int)) ∧ IntKind.wrap IntKind.i64 (v.fst + (1 : Int)) ≤ (↑(List.length x.fst) : Int) ∧ List.length (List.set v.2.fst (Int.toNat v.fst) c0) = List.length x.fst ∧ List.take (Int.toNat (IntKind.wrap IntKind.i64 (v.fst + (1 : Int)))) (List.set v.2.fst (Int.toNat v.fst) c0) = List.take (Int.toNat (IntKind.wrap IntKind.i64 (v.fst + (1 : Int)))) x.fst) ∧ Int.toNat ((↑(List.length x.fst) : Int) - IntKind.wrap IntKind.i64 (v.fst + (1 : Int))) < Int.toNat ((↑(List.length x.fst) : Int) - v.fst) else v.2 = x)) := by kernel_rfl
theorem en_cpis (us : Array Value) (u : World) : (callFunc 91 us).run Tryd.prog u = .ok (.enter 91 us) u := by kernel_rfl
theorem sc_cpis : SC Tryd.prog 91 S_cpis := by
  refine SC.of Tryd.func91 (c := bodyOf Tryd.f91) (by kernel_rfl) (by kernel_rfl) (fun x => (by decide : (1:Nat) ≤ Tryd.f91.ntmps)) (DOk.cons sc_cpi en_cpi DOk.nil) (Eq.mpr vc_cpis ?_)
  rintro ⟨l, ⟨⟩⟩ ⟨h1, h2⟩ - -
  dsimp only at h1 h2 ⊢
  have hb : l.length ≤ 1000000000 := h1
  refine ⟨by omega, Int.le_refl _, by omega, by omega, fun _ => ⟨⟨Int.le_refl 0, by omega, by rw [List.length_replicate]; omega, rfl⟩, ?_⟩⟩
  rintro ⟨i, r, ⟨⟩⟩ ⟨q0, q1, hl, ht⟩
  dsimp only at q0 q1 hl ht ⊢
  have wi : IntKind.i64.wrap (i + 1) = i + 1 := IntWalk.i64_in _ (by omega)
  by_cases hi : i < (l.length : Int)
  · rw [decide_eq_true hi, cond_true, wi]
    refine ⟨q0, hi, fun c hc => ⟨?_, q0, by omega, by omega, fun x0 _ => ⟨⟨by omega, by omega, by rw [List.length_set, hl], ?_⟩, by omega⟩⟩⟩
    · have hbc : c.2.1.length ≤ 1000000000 := h2 c (List.mem_of_getElem? hc)
      omega
    · rw [show (i + 1).toNat = i.toNat + 1 by omega, take_snoc hc, take_set (by omega), ht]
  · rw [decide_eq_false hi, cond_false]
    obtain rfl : i = (l.length : Int) := by omega
    rw [show ((l.length : Nat) : Int).toNat = l.length by omega, List.take_length, ← hl, List.take_length] at ht
    rw [ht]

theorem vc_cpbs : VC Tryd.prog Tryd.f90 (bodyOf Tryd.f90) S_cpbs [(93, S_scl)] A_cpbs = (∀ (x : List (List Int) × Unit), okBs x.fst →
  List.length x.fst ≤ (9223372036854775807 : Nat) →
  List.length x.fst ≤ (9223372036854775807 : Nat) →
  (0 : Int) ≤ (↑(List.length x.fst) : Int) ∧ (↑(List.length x.fst) : Int) ≤ (↑(List.length x.fst) : Int) ∧ (24 : Int) * (↑(List.length x.fst) : Int) ≤ (281474976710656 : Int) ∧ (↑(List.length x.fst) : Int) ≤ (140737488351232 : Int) ∧ (List.length x.fst ≤ (9223372036854775807 : Nat) →
  ((0 : Int) ≤ (0 : Int) ∧ (0 : Int) ≤ (↑(List.length x.fst) : Int) ∧ List.length (List.replicate (Int.toNat (↑(List.length x.fst) : Int)) ([] : List Int)) = List.length x.fst ∧ List.take (Int.toNat (0 : Int)) (List.replicate (Int.toNat (↑(List.length x.fst) : Int)) ([] : List Int)) = List.take (Int.toNat (0 : Int)) x.fst) ∧ ∀ (v : Int × List (List Int) × Unit), (0 : Int) ≤ v.fst ∧ v.fst ≤ (↑(List.length x.fst) : Int) ∧ List.length v.2.fst = List.length x.fst ∧ List.take (Int.toNat v.fst) v.2.fst = List.take (Int.toNat v.fst) x.fst →
  bif decide (v.fst < (↑(List.length x.fst) : Int)) then (0 : Int) ≤ v.fst ∧ v.fst < (↑(List.length x.fst) : Int) ∧ ∀ (c0 : List Int), x.fst[Int.toNat v.fst]? = some c0 →
  List.length c0 ≤ (1000000000000 : Nat) ∧ (0 : Int) ≤ v.fst ∧ v.fst < (↑(List.length v.2.fst) : Int) ∧ Int.toNat v.fst < List.length v.2.fst ∧ ∀ (x0 : List Int), v.2.fst[Int.toNat v.fst]? = some x0 →
  ((0 : Int) ≤ IntKind.wrap IntKind.i64 (v.fst + (1 : Int)) ∧ IntKind.wrap IntKind.i64 (v.fst + (1 : Int)) ≤ (↑(List.length x.fst) : Int) ∧ List.length (List.set v.2.fst (Int.toNat v.fst) c0) = List.length x.fst ∧ List.take (Int.toNat (IntKind.wrap IntKind.i64 (v.fst + (1 : Int)))) (List.set v.2.fst (Int.toNat v.fst) c0) = List.take (Int.toNat (IntKind.wrap IntKind.i64 (v.fst + (1 : Int)))) x.fst) ∧ Int.toNat ((↑(List.length x.fst) : Int) - IntKind.wrap IntKind.i64 (v.fst + (1 : Int))) < Int.toNat ((↑(List.length x.fst) : Int) - v.fst) else v.2 = x)) := by kernel_rfl
theorem en_cpbs (us : Array Value) (u : World) : (callFunc 90 us).run Tryd.prog u = .ok (.enter 90 us) u := by kernel_rfl
theorem sc_cpbs : SC Tryd.prog 90 S_cpbs := by
  refine SC.of Tryd.func90 (c := bodyOf Tryd.f90) (by kernel_rfl) (by kernel_rfl) (fun x => (by decide : (1:Nat) ≤ Tryd.f90.ntmps)) (DOk.cons sc_scl en_scl DOk.nil) (Eq.mpr vc_cpbs ?_)
  rintro ⟨l, ⟨⟩⟩ ⟨h1, h2⟩ - -
  dsimp only at h1 h2 ⊢
  have hb : l.length ≤ 1000000000 := h1
  refine ⟨by omega, Int.le_refl _, by omega, by omega, fun _ => ⟨⟨Int.le_refl 0, by omega, by rw [List.length_replicate]; omega, rfl⟩, ?_⟩⟩
  rintro ⟨i, r, ⟨⟩⟩ ⟨q0, q1, hl, ht⟩
  dsimp only at q0 q1 hl ht ⊢
  have wi : IntKind.i64.wrap (i + 1) = i + 1 := IntWalk.i64_in _ (by omega)
  by_cases hi : i < (l.length : Int)
  · rw [decide_eq_true hi, cond_true, wi]
    refine ⟨q0, hi, fun c hc => ⟨?_, q0, by omega, by omega, fun x0 _ => ⟨⟨by omega, by omega, by rw [List.length_set, hl], ?_⟩, by omega⟩⟩⟩
    · have hbc : c.length ≤ 1000000000 := h2 c (List.mem_of_getElem? hc)
      omega
    · rw [show (i + 1).toNat = i.toNat + 1 by omega, take_snoc hc, take_set (by omega), ht]
  · rw [decide_eq_false hi, cond_false]
    obtain rfl : i = (l.length : Int) := by omega
    rw [show ((l.length : Nat) : Int).toNat = l.length by omega, List.take_length, ← hl, List.take_length] at ht
    rw [ht]

theorem vc_num : VC Tryd.prog Tryd.f89 (bodyOf Tryd.f89) S_num [(93, S_scl), (88, S_cpi)] (fun _ _ => none) = (∀ (x : (Int × List (Int × List Int × Int × Unit) × List (List Int) × Unit) × List Int × Int × Unit), List.length x.1.snd.fst ≤ (2000000000 : Nat) ∧ List.length x.2.fst ≤ big →
  List.length x.1.snd.fst ≤ (9223372036854775807 : Nat) →
  List.length x.1.snd.snd.fst ≤ (9223372036854775807 : Nat) →
  List.length x.2.fst ≤ (9223372036854775807 : Nat) →
  List.length x.2.fst ≤ (1000000000000 : Nat) ∧ (List.length x.1.snd.fst + List.length [(x.1.fst, x.2)]) * (40 : Nat) ≤ (140737488351232 : Nat) ∧ List.length x.2.fst ≤ (1000000000000 : Nat) ∧ ((x.1.fst, x.2), (IntKind.wrap IntKind.i64 (x.1.fst + (1 : Int)), x.1.snd.fst ++ [(x.1.fst, x.2)], x.1.snd.snd), ()) = (itm x.1.fst x.2.fst x.2.snd.fst, (i64 (x.1.fst + (1 : Int)), x.1.snd.fst ++ [itm x.1.fst x.2.fst x.2.snd.fst], x.1.snd.snd), ())) := by kernel_rfl
theorem en_num (us : Array Value) (u : World) : (callFunc 89 us).run Tryd.prog u = .ok (.enter 89 us) u := by kernel_rfl
theorem sc_num : SC Tryd.prog 89 S_num := by
  refine SC.of Tryd.func89 (c := bodyOf Tryd.f89) (by kernel_rfl) (by kernel_rfl) (fun x => (by decide : (3:Nat) ≤ Tryd.f89.ntmps)) (DOk.cons sc_scl en_scl (DOk.cons sc_cpi en_cpi DOk.nil)) (Eq.mpr vc_num ?_)
  rintro ⟨⟨n, s, w, ⟨⟩⟩, b, now, ⟨⟩⟩ ⟨h1, h2⟩ - - -
  dsimp only at h1 h2 ⊢
  have h3 : b.length ≤ 1000000000 := h2
  refine ⟨by omega, ?_, by omega, rfl⟩
  rw [List.length_cons, List.length_nil]
  omega

theorem vc_lsend : VC Tryd.prog Tryd.f60 (bodyOf Tryd.f60) S_lsend [(93, S_scl), (91, S_cpis), (90, S_cpbs), (89, S_num)] (fun _ _ => none) = (∀ (x : (Int × List (Int × List Int × Int × Unit) × List (List Int) × Unit) × List Int × Int × Int × Unit), okOut x.1 ∧ List.length x.2.fst ≤ big →
  List.length x.1.snd.fst ≤ (9223372036854775807 : Nat) →
  List.length x.1.snd.snd.fst ≤ (9223372036854775807 : Nat) →
  List.length x.2.fst ≤ (9223372036854775807 : Nat) →
  okIts x.1.snd.fst ∧ okBs x.1.snd.snd.fst ∧ bif decide (x.2.snd.fst ≤ (↑(List.length x.1.snd.fst) : Int)) then List.length x.2.fst ≤ (1000000000000 : Nat) ∧ (List.length x.1.snd.snd.fst + List.length [x.2.fst]) * (24 : Nat) ≤ (140737488351232 : Nat) ∧ (((x.1.fst, x.1.snd.fst, x.1.snd.snd.fst ++ [x.2.fst], ()), [], ()), ()) = (sendF x.1 x.2.fst x.2.snd.fst x.2.snd.snd.fst, ()) else (List.length x.1.snd.fst ≤ (2000000000 : Nat) ∧ List.length x.2.fst ≤ big) ∧ (((i64 (x.1.fst + (1 : Int)), x.1.snd.fst ++ [itm x.1.fst x.2.fst x.2.snd.snd.fst], x.1.snd.snd), [(x.1.fst, x.2.fst, x.2.snd.snd)], ()), ()) = (sendF x.1 x.2.fst x.2.snd.fst x.2.snd.snd.fst, ())) := by kernel_rfl
theorem en_lsend (us : Array Value) (u : World) : (callFunc 60 us).run Tryd.prog u = .ok (.enter 60 us) u := by kernel_rfl
theorem sc_lsend : SC Tryd.prog 60 S_lsend := by
  refine SC.of Tryd.func60 (c := bodyOf Tryd.f60) (by kernel_rfl) (by kernel_rfl) (fun x => (by decide : (4:Nat) ≤ Tryd.f60.ntmps)) (DOk.cons sc_scl en_scl (DOk.cons sc_cpis en_cpis (DOk.cons sc_cpbs en_cpbs (DOk.cons sc_num en_num DOk.nil)))) (Eq.mpr vc_lsend ?_)
  rintro ⟨⟨n, s, q, ⟨⟩⟩, b, w, now, ⟨⟩⟩ ⟨⟨h1, h2⟩, h3⟩ - - -
  dsimp only at h1 h2 h3 ⊢
  refine ⟨h1, h2, ?_⟩
  have e1 : s.length ≤ 1000000000 := h1.1
  have e2 : q.length ≤ 1000000000 := h2.1
  have e3 : b.length ≤ 1000000000 := h3
  by_cases hw : w ≤ (s.length : Int)
  · rw [decide_eq_true hw, cond_true]
    refine ⟨by omega, by rw [List.length_cons, List.length_nil]; omega, ?_⟩
    rw [sendF, if_pos hw]
  · rw [decide_eq_false hw, cond_false]
    refine ⟨⟨by omega, h3⟩, ?_⟩
    rw [sendF, if_neg hw]
    rfl

theorem vc_lack : VC Tryd.prog Tryd.f47 (bodyOf Tryd.f47) S_lack [(88, S_cpi), (90, S_cpbs), (89, S_num)] A_lack = (∀ (x : (Int × List (Int × List Int × Int × Unit) × List (List Int) × Unit) × Int × Int × Int × Unit), okOut x.1 →
  List.length x.1.snd.fst ≤ (9223372036854775807 : Nat) →
  List.length x.1.snd.snd.fst ≤ (9223372036854775807 : Nat) →
  List.length x.1.snd.fst ≤ (9223372036854775807 : Nat) →
  ((0 : Int) ≤ (0 : Int) ∧ (0 : Int) ≤ (↑(List.length x.1.snd.fst) : Int) ∧ x.1.fst = x.1.fst ∧ [] = ackS (List.take (Int.toNat (0 : Int)) x.1.snd.fst) x.2.fst ∧ ([] : List (List Int)) = []) ∧ ∀ (v : Int × (Int × List (Int × List Int × Int × Unit) × List (List Int) × Unit) × Unit), (0 : Int) ≤ v.fst ∧ v.fst ≤ (↑(List.length x.1.snd.fst) : Int) ∧ v.2.fst.fst = x.1.fst ∧ v.2.fst.snd.fst = ackS (List.take (Int.toNat v.fst) x.1.snd.fst) x.2.fst ∧ v.2.fst.snd.snd.fst = [] →
  bif decide (v.fst < (↑(List.length x.1.snd.fst) : Int)) then (0 : Int) ≤ v.fst ∧ v.fst < (↑(List.length x.1.snd.fst) : Int) ∧ ∀ (c0 : Int × List Int × Int × Unit), x.1.snd.fst[Int.toNat v.fst]? = some c0 →
  bif decide (x.2.fst ≤ c0.fst) then List.length c0.2.fst ≤ (1000000000000 : Nat) ∧ (List.length v.2.fst.snd.fst + List.length [c0]) * (40 : Nat) ≤ (140737488351232 : Nat) ∧ ((0 : Int) ≤ IntKind.wrap IntKind.i64 (v.fst + (1 : Int)) ∧ IntKind.wrap IntKind.i64 (v.fst + (1 : Int)) ≤ (↑(List.length x.1.snd.fst) : Int) ∧ v.2.fst.fst = x.1.fst ∧ v.2.fst.snd.fst ++ [c0] = ackS (List.take (Int.toNat (IntKind.wrap IntKind.i64 (v.fst + (1 : Int)))) x.1.snd.fst) x.2.fst ∧ v.2.fst.snd.snd.fst = []) ∧ Int.toNat ((↑(List.length x.1.snd.fst) : Int) - IntKind.wrap IntKind.i64 (v.fst + (1 : Int))) < Int.toNat ((↑(List.length x.1.snd.fst) : Int) - v.fst) else ((0 : Int) ≤ IntKind.wrap IntKind.i64 (v.fst + (1 : Int)) ∧ IntKind.wrap IntKind.i64 (v.fst + (1 : Int)) ≤ (↑(List.length x.1.snd.fst) : Int) ∧ v.2.fst.fst = x.1.fst ∧ v.2.fst.snd.fst = ackS (List.take (Int.toNat (IntKind.wrap IntKind.i64 (v.fst + (1 : Int)))) x.1.snd.fst) x.2.fst ∧ v.2.fst.snd.snd.fst = []) ∧ Int.toNat ((↑(List.length x.1.snd.fst) : Int) - IntKind.wrap IntKind.i64 (v.fst + (1 : Int))) < Int.toNat ((↑(List.length x.1.snd.fst) : Int) - v.fst) else ((0 : Int) ≤ (0 : Int) ∧ (0 : Int) ≤ (↑(List.length x.1.snd.snd.fst) : Int) ∧ List.length v.2.fst.snd.fst ≤ big + Int.toNat (0 : Int) ∧ List.length ([] : List Itm) ≤ Int.toNat (0 : Int) ∧ v.2.fst.snd.snd.fst = [] ∧ ackF x.1 x.2.fst x.2.snd.fst x.2.snd.snd.fst = ackGo x.2.snd.fst x.2.snd.snd.fst v.2.fst.fst v.2.fst.snd.fst [] (List.drop (Int.toNat (0 : Int)) x.1.snd.snd.fst)) ∧ ∀ (v : Int × (Int × List (Int × List Int × Int × Unit) × List (List Int) × Unit) × List (Int × List Int × Int × Unit) × Unit), (0 : Int) ≤ v.fst ∧ v.fst ≤ (↑(List.length x.1.snd.snd.fst) : Int) ∧ List.length v.2.fst.snd.fst ≤ big + Int.toNat v.fst ∧ List.length v.2.snd.fst ≤ Int.toNat v.fst ∧ v.2.fst.snd.snd.fst = [] ∧ ackF x.1 x.2.fst x.2.snd.fst x.2.snd.snd.fst = ackGo x.2.snd.fst x.2.snd.snd.fst v.2.fst.fst v.2.fst.snd.fst v.2.snd.fst (List.drop (Int.toNat v.fst) x.1.snd.snd.fst) →
  List.length x.1.snd.snd.fst ≤ (9223372036854775807 : Nat) →
  bif decide (v.fst < (↑(List.length x.1.snd.snd.fst) : Int)) then bif decide ((↑(List.length v.2.fst.snd.fst) : Int) < x.2.snd.fst) then (0 : Int) ≤ v.fst ∧ v.fst < (↑(List.length x.1.snd.snd.fst) : Int) ∧ ∀ (c0 : List Int), x.1.snd.snd.fst[Int.toNat v.fst]? = some c0 →
  (List.length v.2.fst.snd.fst ≤ (2000000000 : Nat) ∧ List.length c0 ≤ big) ∧ (List.length v.2.snd.fst + List.length [(v.2.fst.fst, c0, x.2.snd.snd)]) * (40 : Nat) ≤ (140737488351232 : Nat) ∧ ((0 : Int) ≤ IntKind.wrap IntKind.i64 (v.fst + (1 : Int)) ∧ IntKind.wrap IntKind.i64 (v.fst + (1 : Int)) ≤ (↑(List.length x.1.snd.snd.fst) : Int) ∧ List.length (v.2.fst.snd.fst ++ [itm v.2.fst.fst c0 x.2.snd.snd.fst]) ≤ big + Int.toNat (IntKind.wrap IntKind.i64 (v.fst + (1 : Int))) ∧ List.length (v.2.snd.fst ++ [(v.2.fst.fst, c0, x.2.snd.snd)]) ≤ Int.toNat (IntKind.wrap IntKind.i64 (v.fst + (1 : Int))) ∧ v.2.fst.snd.snd.fst = [] ∧ ackF x.1 x.2.fst x.2.snd.fst x.2.snd.snd.fst = ackGo x.2.snd.fst x.2.snd.snd.fst (i64 (v.2.fst.fst + (1 : Int))) (v.2.fst.snd.fst ++ [itm v.2.fst.fst c0 x.2.snd.snd.fst]) (v.2.snd.fst ++ [(v.2.fst.fst, c0, x.2.snd.snd)]) (List.drop (Int.toNat (IntKind.wrap IntKind.i64 (v.fst + (1 : Int)))) x.1.snd.snd.fst)) ∧ Int.toNat ((↑(List.length x.1.snd.snd.fst) : Int) - IntKind.wrap IntKind.i64 (v.fst + (1 : Int))) < Int.toNat ((↑(List.length x.1.snd.snd.fst) : Int) - v.fst) else (0 : Int) ≤ v.fst ∧ v.fst ≤ (↑(List.length x.1.snd.snd.fst) : Int) ∧ (↑(List.length x.1.snd.snd.fst) : Int) ≤ (↑(List.length x.1.snd.snd.fst) : Int) ∧ okBs (List.take (Int.toNat (↑(List.length x.1.snd.snd.fst) : Int) - Int.toNat v.fst) (List.drop (Int.toNat v.fst) x.1.snd.snd.fst)) ∧ (((v.2.fst.fst, v.2.fst.snd.fst, List.take (Int.toNat (↑(List.length x.1.snd.snd.fst) : Int) - Int.toNat v.fst) (List.drop (Int.toNat v.fst) x.1.snd.snd.fst), ()), v.2.snd), ()) = (ackF x.1 x.2.fst x.2.snd.fst x.2.snd.snd.fst, ()) else (0 : Int) ≤ v.fst ∧ v.fst ≤ (↑(List.length x.1.snd.snd.fst) : Int) ∧ (↑(List.length x.1.snd.snd.fst) : Int) ≤ (↑(List.length x.1.snd.snd.fst) : Int) ∧ okBs (List.take (Int.toNat (↑(List.length x.1.snd.snd.fst) : Int) - Int.toNat v.fst) (List.drop (Int.toNat v.fst) x.1.snd.snd.fst)) ∧ (((v.2.fst.fst, v.2.fst.snd.fst, List.take (Int.toNat (↑(List.length x.1.snd.snd.fst) : Int) - Int.toNat v.fst) (List.drop (Int.toNat v.fst) x.1.snd.snd.fst), ()), v.2.snd), ()) = (ackF x.1 x.2.fst x.2.snd.fst x.2.snd.snd.fst, ())) := by kernel_rfl
theorem en_lack (us : Array Value) (u : World) : (callFunc 47 us).run Tryd.prog u = .ok (.enter 47 us) u := by kernel_rfl
theorem sc_lack : SC Tryd.prog 47 S_lack := by
  refine SC.of Tryd.func47 (c := bodyOf Tryd.f47) (by kernel_rfl) (by kernel_rfl) (fun x => (by decide : (4:Nat) ≤ Tryd.f47.ntmps)) (DOk.cons sc_cpi en_cpi (DOk.cons sc_cpbs en_cpbs (DOk.cons sc_num en_num DOk.nil))) (Eq.mpr vc_lack ?_)
  rintro ⟨⟨nx, l, q, ⟨⟩⟩, n, w, now, ⟨⟩⟩ ⟨⟨h1, h1b⟩, ⟨h2, h2b⟩⟩ - - -
  dsimp only at h1 h1b h2 h2b ⊢
  have e1 : l.length ≤ 1000000000 := h1
  have e2 : q.length ≤ 1000000000 := h2
  refine ⟨⟨Int.le_refl 0, by omega, rfl, rfl, rfl⟩, ?_⟩
  rintro ⟨i, ⟨o1, o2, o3, ⟨⟩⟩, ⟨⟩⟩ ⟨q0, q1, ho1, ho2, ho3⟩
  dsimp only at q0 q1 ho1 ho2 ho3
  subst ho1
  subst ho2
  subst ho3
  dsimp only
  have wi : IntKind.i64.wrap (i + 1) = i + 1 := IntWalk.i64_in _ (by omega)
  have al : (ackS (l.take i.toNat) n).length ≤ i.toNat := by
    have := List.length_filter_le (fun x : Itm => decide (n ≤ x.1)) (l.take i.toNat)
    rw [List.length_take] at this
    show (List.filter _ _).length ≤ _
    omega
  by_cases hi : i < (l.length : Int)
  · rw [decide_eq_true hi, cond_true, wi]
    refine ⟨q0, hi, fun c hc => ?_⟩
    have hbc : c.2.1.length ≤ 1000000000 := h1b c (List.mem_of_getElem? hc)
    have hs : ackS (l.take (i + 1).toNat) n = ackS (l.take i.toNat) n ++ (if n ≤ c.1 then [c] else []) := by
      rw [show (i + 1).toNat = i.toNat + 1 by omega, take_snoc hc]
      simp only [ackS, List.filter_append, List.filter_cons, List.filter_nil, decide_eq_true_eq]
    rw [hs]
    by_cases hn : n ≤ c.1
    · rw [decide_eq_true hn, cond_true, if_pos hn]
      exact ⟨by omega, by rw [List.length_cons, List.length_nil]; omega, ⟨by omega, by omega, rfl, rfl, rfl⟩, by omega⟩
    · rw [decide_eq_false hn, cond_false, if_neg hn, List.append_nil]
      exact ⟨⟨by omega, by omega, rfl, rfl, rfl⟩, by omega⟩
  rw [decide_eq_false hi, cond_false]
  obtain rfl : i = (l.length : Int) := by omega
  rw [show ((l.length : Nat) : Int).toNat = l.length by omega, List.take_length] at al ⊢
  refine ⟨⟨Int.le_refl 0, by omega, by show _ ≤ 1000000000 + _; omega, Nat.zero_le _, rfl, rfl⟩, ?_⟩
  rintro ⟨k, ⟨m, s, z, ⟨⟩⟩, t, ⟨⟩⟩ ⟨k0, k1, k2, k3, k4, k5⟩ -
  dsimp only at k0 k1 k2 k3 k4 k5 ⊢
  have k2' : s.length ≤ 1000000000 + k.toNat := k2
  have wk : IntKind.i64.wrap (k + 1) = k + 1 := IntWalk.i64_in _ (by omega)
  subst k4
  have fin : (k < (q.length : Int) → ¬ (s.length : Int) < w) → (((m, s, List.take (Int.toNat (q.length : Int) - k.toNat) (q.drop k.toNat), ()), t, ()), ()) = (ackF (o1, l, q, ()) n w now, ()) := fun hh => by
    rw [dropU, k5]
    by_cases hk : k < (q.length : Int)
    · have hlt : k.toNat < q.length := by omega
      rw [List.drop_eq_getElem_cons hlt, ackGo, if_neg (hh hk)]
    · rw [List.drop_eq_nil_of_le (by omega), ackGo]
  have okb : okBs (List.take (Int.toNat (q.length : Int) - k.toNat) (q.drop k.toNat)) := by
    rw [dropU]
    exact ⟨by rw [List.length_drop]; show _ ≤ 1000000000; omega, fun x hx => h2b x (List.mem_of_mem_drop hx)⟩
  by_cases hk : k < (q.length : Int)
  · rw [decide_eq_true hk, cond_true]
    by_cases hw : (s.length : Int) < w
    · rw [decide_eq_true hw, cond_true, wk]
      refine ⟨k0, hk, fun c hc => ?_⟩
      have hbc : c.length ≤ big := h2b c (List.mem_of_getElem? hc)
      refine ⟨⟨by omega, hbc⟩, by rw [List.length_cons, List.length_nil]; omega, ⟨by omega, by omega, ?_, ?_, rfl, ?_⟩, by omega⟩
      · rw [List.length_append, List.length_cons, List.length_nil]
        show _ ≤ 1000000000 + _
        omega
      · rw [List.length_append, List.length_cons, List.length_nil]
        omega
      · rw [k5, drop_of hc, ackGo, if_pos hw, show (k + 1).toNat = k.toNat + 1 by omega]
        rfl
    · rw [decide_eq_false hw, cond_false]
      exact ⟨k0, k1, Int.le_refl _, okb, fin fun _ => hw⟩
  · rw [decide_eq_false hk, cond_false]
    exact ⟨k0, k1, Int.le_refl _, okb, fin fun h => absurd h hk⟩

theorem vc_fp : VC Tryd.prog Tryd.f92 (bodyOf Tryd.f92) S_fp [] A_fp = (∀ (x : List (Int × List Int × Int × Unit) × Unit), List.length x.fst ≤ (2000000000 : Nat) →
  List.length x.fst ≤ (9223372036854775807 : Nat) →
  List.length x.fst ≤ (9223372036854775807 : Nat) →
  List.length x.fst ≤ (9223372036854775807 : Nat) →
  ((0 : Int) ≤ (0 : Int) ∧ (0 : Int) ≤ (↑(List.length x.fst) : Int) ∧ fpGo (0 : Int) (List.drop (Int.toNat (0 : Int)) x.fst) [] = fpF x.fst) ∧ ∀ (v : Int × List (Int × Int) × Unit), (0 : Int) ≤ v.fst ∧ v.fst ≤ (↑(List.length x.fst) : Int) ∧ fpGo v.fst (List.drop (Int.toNat v.fst) x.fst) v.2.fst = fpF x.fst →
  bif decide (v.fst < (↑(List.length x.fst) : Int)) then (0 : Int) ≤ v.fst ∧ v.fst < (↑(List.length x.fst) : Int) ∧ ∀ (c0 : Int × List Int × Int × Unit), x.fst[Int.toNat v.fst]? = some c0 →
  bif !mhas v.2.fst c0.fst then ((0 : Int) ≤ IntKind.wrap IntKind.i64 (v.fst + (1 : Int)) ∧ IntKind.wrap IntKind.i64 (v.fst + (1 : Int)) ≤ (↑(List.length x.fst) : Int) ∧ fpGo (IntKind.wrap IntKind.i64 (v.fst + (1 : Int))) (List.drop (Int.toNat (IntKind.wrap IntKind.i64 (v.fst + (1 : Int)))) x.fst) (mput v.2.fst c0.fst v.fst) = fpF x.fst) ∧ Int.toNat ((↑(List.length x.fst) : Int) - IntKind.wrap IntKind.i64 (v.fst + (1 : Int))) < Int.toNat ((↑(List.length x.fst) : Int) - v.fst) else ((0 : Int) ≤ IntKind.wrap IntKind.i64 (v.fst + (1 : Int)) ∧ IntKind.wrap IntKind.i64 (v.fst + (1 : Int)) ≤ (↑(List.length x.fst) : Int) ∧ fpGo (IntKind.wrap IntKind.i64 (v.fst + (1 : Int))) (List.drop (Int.toNat (IntKind.wrap IntKind.i64 (v.fst + (1 : Int)))) x.fst) v.2.fst = fpF x.fst) ∧ Int.toNat ((↑(List.length x.fst) : Int) - IntKind.wrap IntKind.i64 (v.fst + (1 : Int))) < Int.toNat ((↑(List.length x.fst) : Int) - v.fst) else v.2 = (fpF x.fst, ())) := by kernel_rfl
theorem en_fp (us : Array Value) (u : World) : (callFunc 92 us).run Tryd.prog u = .ok (.enter 92 us) u := by kernel_rfl
theorem sc_fp : SC Tryd.prog 92 S_fp := by
  refine SC.of Tryd.func92 (c := bodyOf Tryd.f92) (by kernel_rfl) (by kernel_rfl) (fun x => (by decide : (1:Nat) ≤ Tryd.f92.ntmps)) DOk.nil (Eq.mpr vc_fp ?_)
  rintro ⟨l, ⟨⟩⟩ h - - -
  dsimp only at h ⊢
  refine ⟨⟨Int.le_refl 0, by omega, rfl⟩, ?_⟩
  rintro ⟨i, m, ⟨⟩⟩ ⟨q0, q1, hg⟩
  dsimp only at q0 q1 hg ⊢
  have wi : IntKind.i64.wrap (i + 1) = i + 1 := IntWalk.i64_in _ (by omega)
  by_cases hi : i < (l.length : Int)
  · rw [decide_eq_true hi, cond_true, wi]
    refine ⟨q0, hi, fun c hc => ?_⟩
    rw [drop_of hc, fpGo] at hg
    rw [show (i + 1).toNat = i.toNat + 1 by omega]
    cases hm : mhas m c.1
    · rw [hm, cond_false] at hg
      rw [Bool.not_false, cond_true]
      exact ⟨⟨by omega, by omega, hg⟩, by omega⟩
    · rw [hm, cond_true] at hg
      rw [Bool.not_true, cond_false]
      exact ⟨⟨by omega, by omega, hg⟩, by omega⟩
  · rw [decide_eq_false hi, cond_false]
    rw [List.drop_eq_nil_of_le (by omega), fpGo] at hg
    rw [hg]

def TkRest (x : Inq × Int × List Int × Int × Unit) (M : List (Int × Int)) (L : List Itm) : Prop := (0 : Int) ≤ (↑(List.length L) : Int) ∧ (↑(List.length L) : Int) ≤ (↑(List.length L) : Int) ∧ (1 : Int) * (↑(List.length L) : Int) ≤ (281474976710656 : Int) ∧ (↑(List.length L) : Int) ≤ (140737488351232 : Int) ∧ (List.length ([] : List Itm) = (0 : Nat) ∧ tkInv x.fst x.snd.fst x.snd.snd.fst x.snd.snd.snd.fst x.fst.fst (List.replicate (Int.toNat (↑(List.length L) : Int)) false) []) ∧ ∀ (v : (Int × List (Int × List Int × Int × Unit) × Unit) × List Bool × List (List Int) × Unit), List.length v.fst.snd.fst = (0 : Nat) ∧ tkInv x.fst x.snd.fst x.snd.snd.fst x.snd.snd.snd.fst v.fst.fst v.snd.fst v.snd.snd.fst →
  bif !mhas M v.fst.fst then tkInv2 x.fst x.snd.fst x.snd.snd.fst x.snd.snd.snd.fst (0 : Int) v.fst.fst v.fst.snd.fst ∧ ∀ (v_1 : Int × (Int × List (Int × List Int × Int × Unit) × Unit) × Unit), tkInv2 x.fst x.snd.fst x.snd.snd.fst x.snd.snd.snd.fst v_1.fst v_1.snd.fst.fst v_1.snd.fst.snd.fst →
  bif decide (v_1.fst < (↑(List.length L) : Int)) then (0 : Int) ≤ v_1.fst ∧ v_1.fst < (↑(List.length L) : Int) ∧ Int.toNat v_1.fst < List.length L ∧ ∀ (x_1 : Int × List Int × Int × Unit), L[Int.toNat v_1.fst]? = some x_1 →
  (0 : Int) ≤ v_1.fst ∧ v_1.fst < (↑(List.length v.snd.fst) : Int) ∧ Int.toNat v_1.fst < List.length v.snd.fst ∧ ∀ (x_2 : Bool), v.snd.fst[Int.toNat v_1.fst]? = some x_2 →
  bif !x_2 then (List.length v_1.snd.fst.snd.fst + List.length [x_1]) * (40 : Nat) ≤ (140737488351232 : Nat) ∧ tkInv2 x.fst x.snd.fst x.snd.snd.fst x.snd.snd.snd.fst (IntKind.wrap IntKind.i64 (v_1.fst + (1 : Int))) v_1.snd.fst.fst (v_1.snd.fst.snd.fst ++ [x_1]) ∧ Int.toNat ((↑(List.length (tkL x.fst x.snd.fst x.snd.snd.fst x.snd.snd.snd.fst)) : Int) - IntKind.wrap IntKind.i64 (v_1.fst + (1 : Int))) < Int.toNat ((↑(List.length (tkL x.fst x.snd.fst x.snd.snd.fst x.snd.snd.snd.fst)) : Int) - v_1.fst) else tkInv2 x.fst x.snd.fst x.snd.snd.fst x.snd.snd.snd.fst (IntKind.wrap IntKind.i64 (v_1.fst + (1 : Int))) v_1.snd.fst.fst v_1.snd.fst.snd.fst ∧ Int.toNat ((↑(List.length (tkL x.fst x.snd.fst x.snd.snd.fst x.snd.snd.snd.fst)) : Int) - IntKind.wrap IntKind.i64 (v_1.fst + (1 : Int))) < Int.toNat ((↑(List.length (tkL x.fst x.snd.fst x.snd.snd.fst x.snd.snd.snd.fst)) : Int) - v_1.fst) else ((v_1.snd.fst, v.snd.snd.fst, v_1.snd.fst.fst, ()), ()) = (takF x.fst x.snd.fst x.snd.snd.fst x.snd.snd.snd.fst, ()) else (0 : Int) ≤ mget M v.fst.fst ∧ mget M v.fst.fst < (↑(List.length v.snd.fst) : Int) ∧ Int.toNat (mget M v.fst.fst) < List.length v.snd.fst ∧ ∀ (x0 : Bool), v.snd.fst[Int.toNat (mget M v.fst.fst)]? = some x0 →
  (0 : Int) ≤ mget M v.fst.fst ∧ mget M v.fst.fst < (↑(List.length L) : Int) ∧ Int.toNat (mget M v.fst.fst) < List.length L ∧ ∀ (x_1 : Int × List Int × Int × Unit), L[Int.toNat (mget M v.fst.fst)]? = some x_1 →
  (List.length v.snd.snd.fst + List.length [x_1.snd.fst]) * (24 : Nat) ≤ (140737488351232 : Nat) ∧ (List.length v.fst.snd.fst = (0 : Nat) ∧ tkInv x.fst x.snd.fst x.snd.snd.fst x.snd.snd.snd.fst (IntKind.wrap IntKind.i64 (v.fst.fst + (1 : Int))) (List.set v.snd.fst (Int.toNat (mget M v.fst.fst)) true) (v.snd.snd.fst ++ [x_1.snd.fst])) ∧ List.length (tkL x.fst x.snd.fst x.snd.snd.fst x.snd.snd.snd.fst) + (1 : Nat) - cnt (List.set v.snd.fst (Int.toNat (mget M v.fst.fst)) true) < List.length (tkL x.fst x.snd.fst x.snd.snd.fst x.snd.snd.snd.fst) + (1 : Nat) - cnt v.snd.fst

theorem tkRest_ok (i : Inq) (q : Int) (b : List Int) (w : Int) (M : List (Int × Int)) (L : List Itm) (hM : tkM i q w = M) (hL : tkL i q b w = L) (hok : mOk M L) (hb : L.length ≤ 2000000000) : TkRest (i, q, b, w, ()) M L := by
  have I : ∀ e g bs, tkInv i q b w e g bs ↔ (g.length = L.length ∧ bs.length = cnt g ∧ (e - i.1 - (cnt g : Nat)) % 18446744073709551616 = 0 ∧ (∀ (j : Nat) (x : Itm), g[j]? = some true → L[j]? = some x → ∃ k : Nat, k < cnt g ∧ (x.1 - i.1 - k) % 18446744073709551616 = 0) ∧ tkGo M L (L.length + 1 - cnt g) e g bs = tkE i q b w) := by
    intro e g bs
    subst hM
    subst hL
    exact Iff.rfl
  unfold TkRest
  dsimp only
  rw [Int.toNat_natCast]
  refine ⟨by omega, Int.le_refl _, by omega, by omega, ⟨rfl, (I _ _ _).2 ⟨by rw [List.length_replicate], by rw [cnt_rep]; rfl, by rw [cnt_rep]; omega, fun j x hj => ?_, ?_⟩⟩, ?_⟩
  · rw [List.getElem?_replicate] at hj
    split at hj <;> cases hj
  · rw [cnt_rep, Nat.sub_zero, tkE, hM, hL]
  rintro ⟨⟨e, hh, ⟨⟩⟩, g, bs, ⟨⟩⟩ ⟨h0, hi⟩
  dsimp only at h0 hi ⊢
  obtain ⟨g1, g2, g3, g4, g5⟩ := (I _ _ _).1 hi
  have c1 := cnt_le g
  obtain ⟨f, hf⟩ : ∃ f, L.length + 1 - cnt g = f + 1 := ⟨L.length - cnt g, by omega⟩
  rw [hf, tkGo] at g5
  rw [hL]
  cases hm : mhas M e
  · rw [if_neg (by rw [hm]; decide)] at g5
    rw [Bool.not_false, cond_true]
    have J : ∀ k e' l, tkInv2 i q b w k e' l ↔ (0 ≤ k ∧ k ≤ (L.length : Nat) ∧ l.length ≤ k.toNat ∧ e' = e ∧ l ++ tkK (L.drop k.toNat) (g.drop k.toNat) = tkK L g) := by
      intro k e' l
      unfold tkInv2
      rw [hL, ← g5]
    obtain rfl := List.eq_nil_of_length_eq_zero h0
    refine ⟨(J _ _ _).2 ⟨Int.le_refl 0, by omega, Nat.le_refl 0, rfl, rfl⟩, ?_⟩
    rintro ⟨k, ⟨e', l, ⟨⟩⟩, ⟨⟩⟩ hj
    obtain ⟨j0, j1, j2, j3, j4⟩ := (J _ _ _).1 hj
    dsimp only at j0 j1 j2 j3 j4 ⊢
    have wi : IntKind.i64.wrap (k + 1) = k + 1 := IntWalk.i64_in _ (by omega)
    by_cases hk : k < (L.length : Int)
    · rw [decide_eq_true hk, cond_true, wi]
      refine ⟨j0, hk, by omega, fun c hc => ⟨j0, by omega, by omega, fun y hy => ?_⟩⟩
      rw [drop_of hc, drop_of hy, tkK] at j4
      cases y
      · rw [if_neg (by decide)] at j4
        rw [Bool.not_false, cond_true]
        refine ⟨by rw [List.length_cons, List.length_nil]; omega, (J _ _ _).2 ⟨by omega, by omega, by rw [List.length_append, List.length_cons, List.length_nil]; omega, j3, ?_⟩, by omega⟩
        rw [show (k + 1).toNat = k.toNat + 1 by omega, List.append_assoc]
        exact j4
      · rw [if_pos rfl] at j4
        rw [Bool.not_true, cond_false]
        refine ⟨(J _ _ _).2 ⟨by omega, by omega, by omega, j3, ?_⟩, by omega⟩
        rw [show (k + 1).toNat = k.toNat + 1 by omega]
        exact j4
    · rw [decide_eq_false hk, cond_false]
      rw [List.drop_eq_nil_of_le (by omega : L.length ≤ k.toNat)] at j4
      simp only [tkK, List.append_nil] at j4
      rw [takF, ← g5, hL, j4, j3]
  · rw [if_pos hm] at g5
    rw [Bool.not_true, cond_false]
    obtain ⟨a0, y, hy, hye⟩ := hok e hm
    have alt : (mget M e).toNat < L.length := (List.getElem?_eq_some_iff.1 hy).1
    refine ⟨a0, by omega, by omega, fun x0 hx0 => ⟨a0, by omega, alt, fun c hc => ?_⟩⟩
    rw [hy] at hc
    cases hc
    have hx : x0 = false := by
      cases x0
      · rfl
      · obtain ⟨k, k1, k2⟩ := g4 _ y hx0 hy
        rw [hye] at k2
        omega
    subst hx
    have cs := cnt_set hx0
    have ww := wrap_mod (e + 1)
    refine ⟨by rw [g2, List.length_cons, List.length_nil]; omega, ⟨h0, (I _ _ _).2 ⟨by rw [List.length_set, g1], by rw [List.length_append, cs, g2]; rfl, by rw [cs]; omega, fun j x hj hx => ?_, ?_⟩⟩, by rw [cs]; omega⟩
    · rw [cs]
      by_cases ej : (mget M e).toNat = j
      · subst ej
        rw [hy] at hx
        cases hx
        exact ⟨cnt g, by omega, by rw [hye]; exact g3⟩
      · rw [List.getElem?_set_ne ej] at hj
        obtain ⟨k, k1, k2⟩ := g4 j x hj hx
        exact ⟨k, by omega, k2⟩
    · rw [cs, ← g5, show L.length + 1 - (cnt g + 1) = f by omega, List.getD_eq_getElem?_getD, hy]
      rfl

theorem vc_ltake : VC Tryd.prog Tryd.f49 (bodyOf Tryd.f49) S_ltake [(93, S_scl), (91, S_cpis), (92, S_fp)] A_ltake = (∀ (x : (Int × List (Int × List Int × Int × Unit) × Unit) × Int × List Int × Int × Unit), okIn x.fst ∧ List.length x.snd.snd.fst ≤ big →
  List.length x.fst.snd.fst ≤ (9223372036854775807 : Nat) →
  List.length x.snd.snd.fst ≤ (9223372036854775807 : Nat) →
  okIts x.fst.snd.fst ∧ List.length x.fst.snd.fst ≤ (2000000000 : Nat) ∧ bif decide (x.fst.fst ≤ x.snd.fst) then bif decide (x.snd.fst < IntKind.wrap IntKind.i64 (x.fst.fst + x.snd.snd.snd.fst)) then bif !mhas (fpF x.fst.snd.fst) x.snd.fst then List.length x.snd.snd.fst ≤ (1000000000000 : Nat) ∧ (List.length x.fst.snd.fst + List.length [(x.snd.fst, x.snd.snd.fst, (0 : Int), ())]) * (40 : Nat) ≤ (140737488351232 : Nat) ∧ TkRest x (mput (fpF x.fst.snd.fst) x.snd.fst (↑(List.length x.fst.snd.fst) : Int)) (x.fst.snd.fst ++ [(x.snd.fst, x.snd.snd.fst, (0 : Int), ())]) else TkRest x (fpF x.fst.snd.fst) x.fst.snd.fst else TkRest x (fpF x.fst.snd.fst) x.fst.snd.fst else TkRest x (fpF x.fst.snd.fst) x.fst.snd.fst) := by kernel_rfl
theorem en_ltake (us : Array Value) (u : World) : (callFunc 49 us).run Tryd.prog u = .ok (.enter 49 us) u := by kernel_rfl
theorem sc_ltake : SC Tryd.prog 49 S_ltake := by
  refine SC.of Tryd.func49 (c := bodyOf Tryd.f49) (by kernel_rfl) (by kernel_rfl) (fun x => (by decide : (4:Nat) ≤ Tryd.f49.ntmps)) (DOk.cons sc_scl en_scl (DOk.cons sc_cpis en_cpis (DOk.cons sc_fp en_fp DOk.nil))) (Eq.mpr vc_ltake ?_)
  rintro ⟨⟨e0, h, ⟨⟩⟩, q, b, w, ⟨⟩⟩ ⟨h1, h2⟩ - -
  dsimp only at h1 h2 ⊢
  have e1 : h.length ≤ 1000000000 := h1.1
  have e2 : b.length ≤ 1000000000 := h2
  refine ⟨h1, by omega, ?_⟩
  have no : tkH (e0, h, ()) q w = false → TkRest ((e0, h, ()), q, b, w, ()) (fpF h) h := fun hn =>
    tkRest_ok (e0, h, ()) q b w _ _ (by rw [tkM, hn]; rfl) (by rw [tkL, hn]; rfl) (fpF_ok h) (by omega)
  by_cases c1 : e0 ≤ q
  rotate_left 1
  · rw [decide_eq_false c1, cond_false]
    exact no (by unfold tkH; rw [decide_eq_false c1]; rfl)
  rw [decide_eq_true c1, cond_true]
  by_cases c2 : q < IntKind.i64.wrap (e0 + w)
  rotate_left 1
  · rw [decide_eq_false c2, cond_false]
    exact no (by unfold tkH i64; rw [decide_eq_false c2]; simp)
  rw [decide_eq_true c2, cond_true]
  cases c3 : mhas (fpF h) q
  rotate_left 1
  · rw [Bool.not_true, cond_false]
    exact no (by unfold tkH; rw [c3]; simp)
  rw [Bool.not_false, cond_true]
  have yes : tkH (e0, h, ()) q w = true := by unfold tkH i64; rw [decide_eq_true c1, decide_eq_true c2, c3]; rfl
  refine ⟨by omega, by rw [List.length_cons, List.length_nil]; omega, ?_⟩
  have hm := tkM_ok (e0, h, ()) q b w
  have eM : tkM (e0, h, ()) q w = mput (fpF h) q (h.length : Nat) := by rw [tkM, yes]; rfl
  have eL : tkL (e0, h, ()) q b w = h ++ [(q, b, 0, ())] := by rw [tkL, yes]; rfl
  rw [eM, eL] at hm
  exact tkRest_ok (e0, h, ()) q b w _ _ eM eL hm (by rw [List.length_append, List.length_cons, List.length_nil]; omega)
end Go.Proofs.YtjkbkhjalimebaaDoor
