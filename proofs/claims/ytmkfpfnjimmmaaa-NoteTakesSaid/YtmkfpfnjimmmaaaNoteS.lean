/- The walks of bytes.Equal, slices.EqualFunc, SameParts, note.Same, and its reference. -/
import Derived.Test.YtmkfpfnjimmmaaaNoteR
import Derived.BigQuiet
namespace Go.Proofs.Ytmkfpfnjimmmaaa
open Go.RowKit

set_option maxRecDepth 100000 in
set_option maxHeartbeats 400000 in
theorem bequal_any {w : World} {a a' : Option Addr} {n n' cap cap' : Nat} {l m : List UInt8} (h : Bytes w a n cap l) (h' : Bytes w a' n' cap' m) :
    Calls Try.prog 74 #[.slice a n cap, .slice a' n' cap'] w fun e w' => e = .returned (.bool (l == m)) ∧ w = w' := by
  have k1 := h.toStr (P := Try.prog) 24 9 5 Try.underlying24 Try.underlying5 Try.underlying9
  have k2 := h'.toStr (P := Try.prog) 24 9 5 Try.underlying24 Try.underlying5 Try.underlying9
  clear h h'
  go_enter Try.func74, Try.ntmps74
  go_wp2
  go_ret
  exact ⟨rfl, rfl⟩

theorem list_ne_at {a b : List (List UInt8)} {k : Nat} {x y : List UInt8} (hx : a[k]? = some x) (hy : b[k]? = some y) (h : (x == y) = false) : (a == b) = false := by
  rw [beq_eq_false_iff_ne] at h ⊢
  rintro rfl
  rw [hx] at hy
  exact h (Option.some.inj hy)

theorem list_eq_of {a b : List (List UInt8)} (hl : a.length = b.length) (h : a.take a.length = b.take a.length) : (a == b) = true := by
  rw [beq_iff_eq]
  rw [List.take_length, hl, List.take_length] at h
  exact h

theorem list_ne_len {a b : List (List UInt8)} (hl : a.length ≠ b.length) : (a == b) = false := by
  rw [beq_eq_false_iff_ne]; rintro rfl; exact hl rfl

set_option maxRecDepth 100000 in
set_option maxHeartbeats 400000 in
theorem sameparts_any {pa pa' : Option Addr} {pn pn' pc pc' : Nat} {pp qq : List (List UInt8)} {w : World} (hp : Parts w pa pn pc pp) (hq : Parts w pa' pn' pc' qq) :
    Calls Try.prog 75 #[.slice pa pn pc, .slice pa' pn' pc'] w fun e w' => e = .returned (.bool (pp == qq)) ∧ Below w.heap.size w w' := by
  have hpl := Lib.hid hp.len
  have hql := Lib.hid hq.len
  have hmx := hp.le_i64
  have hmx' := hq.le_i64
  by_cases hnn : pn = pn'
  · subst hnn
    have HP := Lib.hid hp
    have HQ := Lib.hid hq
    clear hp hq
    go_enter Try.func75, Try.ntmps75
    go_wp2
    go_loopw [13] (fun i wr => ∃ k : Nat, k ≤ pn ∧ i = .int .i64 k ∧ Hid (pp.take k = qq.take k) ∧ Hid (Below w.heap.size w wr)) (fun i _ => pn - (intOf i).toNat)
    case atStart => exact ⟨0, Nat.zero_le _, rfl, rfl, Below.refl _ _⟩
    case round =>
      obtain ⟨k, hk, rfl, ht, hb⟩ := hrel
      by_cases hlt : k < pn
      · obtain ⟨l, hl⟩ : ∃ l, pp[k]? = some l := ⟨_, List.getElem?_eq_getElem (by rw [hpl.out]; exact hlt)⟩
        obtain ⟨m, hm⟩ : ∃ m, qq[k]? = some m := ⟨_, List.getElem?_eq_getElem (by rw [hql.out]; exact hlt)⟩
        obtain ⟨b, off, hpa, a', c', hc, hby⟩ := (HP.out.keep hb.out).part k l hl
        obtain ⟨b2, off2, hpa2, a2, c2, hc2, hby2⟩ := (HQ.out.keep hb.out).part k m hm
        subst hpa hpa2
        have HL := Lib.hid hl
        have HM := Lib.hid hm
        have hS : ∀ n, Calls Try.prog 26 #[.slice a' l.length c', .slice a2 m.length c2] (wr.drewN n) fun e w' => e = .returned (.bool (l == m)) ∧ w' = wr.drewN n := fun n => by
          refine (same_any (hby.keep (below_drewN (Below.refl _ _) n)) (hby2.keep (below_drewN (Below.refl _ _) n))).mono ?_
          rintro e w3 ⟨rfl, rfl⟩; exact ⟨rfl, rfl⟩
        clear hl hm hby hby2
        cases hlm : (l == m) with
        | true =>
          rw [hlm] at hS
          have ht' : Hid (pp.take (k + 1) = qq.take (k + 1)) := by
            show _ = _
            rw [take_snoc HL.out, take_snoc HM.out, ht.out, (beq_iff_eq.1 hlm)]
          go_wp2
          go_quiet (exact Calls.quiet_of_same (hS _))
          go_wp2
          exact ⟨⟨k + 1, by omega, by go_num, ht', below_drewN hb.out _⟩, by simp [intOf]; omega⟩
        | false =>
          rw [hlm] at hS
          have hne := Lib.hid (list_ne_at HL.out HM.out hlm)
          go_wp2
          go_quiet (exact Calls.quiet_of_same (hS _))
          go_wp2
          go_ret
          exact ⟨ret_bool hne.out.symm, below_drewN hb.out _⟩
      · have hkn : k = pn := by omega
        have he := Lib.hid (list_eq_of (a := pp) (b := qq) (by rw [hpl.out, hql.out]) (by rw [hpl.out, ← hkn]; exact ht.out))
        go_wp2
        go_ret
        exact ⟨ret_bool he.out.symm, hb.out⟩
  · have he := Lib.hid (list_ne_len (a := pp) (b := qq) (by rw [hpl.out, hql.out]; exact hnn))
    have hnn' : ((pn : Int) != (pn' : Int)) = true := by rw [bne_iff_ne]; omega
    clear hp hq
    go_enter Try.func75, Try.ntmps75
    go_wp2
    go_ret
    exact ⟨ret_bool he.out.symm, Below.refl _ _⟩

set_option maxRecDepth 100000 in
set_option maxHeartbeats 400000 in
theorem equalfunc_any {pa pa' : Option Addr} {pn pn' pc pc' : Nat} {pp qq : List (List UInt8)} {w : World} (hp : Parts w pa pn pc pp) (hq : Parts w pa' pn' pc' qq) :
    Calls Try.prog 73 #[.slice pa pn pc, .slice pa' pn' pc', .func (.func 74) #[] #[]] w fun e w' => e = .returned (.bool (pp == qq)) ∧ w = w' := by
  have hpl := Lib.hid hp.len
  have hql := Lib.hid hq.len
  have hmx := hp.le_i64
  have hmx' := hq.le_i64
  by_cases hnn : pn = pn'
  · subst hnn
    have HP := Lib.hid hp
    have HQ := Lib.hid hq
    clear hp hq
    go_enter Try.func73, Try.ntmps73
    go_wp2
    go_loop [17] (fun i => ∃ k : Nat, k ≤ pn ∧ i = .int .i64 k ∧ Hid (pp.take k = qq.take k)) (fun i => pn - (intOf i).toNat)
    case atStart => exact ⟨0, Nat.zero_le _, rfl, rfl⟩
    case round =>
      obtain ⟨k, hk, rfl, ht⟩ := hrel
      by_cases hlt : k < pn
      · obtain ⟨l, hl⟩ : ∃ l, pp[k]? = some l := ⟨_, List.getElem?_eq_getElem (by rw [hpl.out]; exact hlt)⟩
        obtain ⟨m, hm⟩ : ∃ m, qq[k]? = some m := ⟨_, List.getElem?_eq_getElem (by rw [hql.out]; exact hlt)⟩
        obtain ⟨b, off, hpa, a', c', hc, hby⟩ := HP.out.part k l hl
        obtain ⟨b2, off2, hpa2, a2, c2, hc2, hby2⟩ := HQ.out.part k m hm
        subst hpa hpa2
        have HL := Lib.hid hl
        have HM := Lib.hid hm
        have hS := bequal_any hby hby2
        clear hl hm hby hby2
        cases hlm : (l == m) with
        | true =>
          rw [hlm] at hS
          have ht' : Hid (pp.take (k + 1) = qq.take (k + 1)) := by
            show _ = _
            rw [take_snoc HL.out, take_snoc HM.out, ht.out, (beq_iff_eq.1 hlm)]
          go_wp2_with fail
          refine hS.mono ?_
          rintro e w3 ⟨rfl, rfl⟩
          go_wp2
          exact ⟨⟨k + 1, by omega, by go_num, ht'⟩, by simp [intOf]; omega⟩
        | false =>
          rw [hlm] at hS
          have hne := Lib.hid (list_ne_at HL.out HM.out hlm)
          go_wp2_with fail
          refine hS.mono ?_
          rintro e w3 ⟨rfl, rfl⟩
          go_wp2
          go_ret
          exact ⟨ret_bool hne.out.symm, rfl⟩
      · have hkn : k = pn := by omega
        have he := Lib.hid (list_eq_of (a := pp) (b := qq) (by rw [hpl.out, hql.out]) (by rw [hpl.out, ← hkn]; exact ht.out))
        go_wp2
        go_ret
        exact ⟨ret_bool he.out.symm, rfl⟩
  · have he := Lib.hid (list_ne_len (a := pp) (b := qq) (by rw [hpl.out, hql.out]; exact hnn))
    have hnn' : ((pn : Int) != (pn' : Int)) = true := by rw [bne_iff_ne]; omega
    clear hp hq
    go_enter Try.func73, Try.ntmps73
    go_wp2
    go_ret
    exact ⟨ret_bool he.out.symm, rfl⟩
end Go.Proofs.Ytmkfpfnjimmmaaa
