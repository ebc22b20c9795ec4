/- The words of the reference's Same of bytes. -/
import Derived.Test.YtmkfpfnjimmmaaaEA
import Derived.Laws.Small
namespace Go.Proofs.Ytmkfpfnjimmmaaa
open Go.RowKit
set_option linter.unusedVariables false
set_option linter.unusedSimpArgs false

def eByte' (b : UInt8) : List D := [.int .u8 (b.toNat : Int)]
theorem bytes_of_lent2 {E : Env} {w : World} {F U : Nat → Prop} {base : Nat} {l : List UInt8} {v : Value} (h : VA E w F U base (.lent 1 (l.map eByte')) v) : ∃ a n cap, v = .slice a n cap ∧ Bytes w a n cap l := by
  cases h with
  | lent u hl hc hm hz hsz hat hV =>
    refine ⟨_, _, _, rfl, by simpa using hl, hc, hm, hz, ⟨fun i v hv => ?_⟩⟩
    rw [List.getElem?_map] at hv
    cases hx : l[i]? with
    | none => rw [hx] at hv; cases hv
    | some x =>
      rw [hx] at hv
      obtain rfl : B x = v := by simpa using hv
      have hx' : (l.map eByte')[i]? = some (eByte' x) := by rw [List.getElem?_map, hx]; rfl
      obtain ⟨b, off, ha, _, hc⟩ := hat i _ hx'
      refine ⟨b, off, ha, ?_⟩
      have h1 := hc 0 (by decide)
      rw [Nat.mul_one, Nat.add_zero] at h1
      have h2 := hV i _ 0 _ hx' rfl
      rw [h1]
      generalize u i 0 = q at h2
      cases h2
      rfl

set_option maxRecDepth 100000 in
set_option maxHeartbeats 400000 in
theorem same_any {w : World} {a a' : Option Addr} {n n' cap cap' : Nat} {l m : List UInt8} (h : Bytes w a n cap l) (h' : Bytes w a' n' cap' m) :
    Calls Try.prog 26 #[.slice a n cap, .slice a' n' cap'] w fun e w' => e = .returned (.bool (l == m)) ∧ w = w' := by
  have k1 := h.toStr (P := Try.prog) 24 9 5 Try.underlying24 Try.underlying5 Try.underlying9
  have k2 := h'.toStr (P := Try.prog) 24 9 5 Try.underlying24 Try.underlying5 Try.underlying9
  clear h h'
  go_enter Try.func26, Try.ntmps26
  go_wp2
  go_ret
  exact ⟨rfl, rfl⟩

theorem bytes_list : ∀ {l : List Int}, (∀ x ∈ l, 0 ≤ x ∧ x < 256) → ∃ m : List UInt8, l = m.map fun b => (b.toNat : Int)
  | [], _ => ⟨[], rfl⟩
  | x :: l, h => by
    obtain ⟨m, hm⟩ := bytes_list fun y hy => h y (List.mem_cons_of_mem _ hy)
    have h1 := h x (List.mem_cons_self ..)
    refine ⟨UInt8.ofNat x.toNat :: m, ?_⟩
    rw [List.map_cons, ← hm]
    congr 1
    have : (UInt8.ofNat x.toNat).toNat = x.toNat := by rw [UInt8.toNat_ofNat']; omega
    rw [this]; omega
theorem denS_bytes : ∀ (m : List UInt8), denS (T := tY) (m.map fun b => (b.toNat : Int)) = m.map eByte'
  | [] => rfl
  | b :: m => congrArg (eByte' b :: ·) (denS_bytes m)
theorem bytes_inj : ∀ {a b : List UInt8}, (a.map fun b => (b.toNat : Int)) = (b.map fun b => (b.toNat : Int)) → a = b
  | [], [], _ => rfl
  | [], _ :: _, h => by cases h
  | _ :: _, [], h => by cases h
  | x :: a, y :: b, h => by
    simp only [List.map_cons, List.cons.injEq] at h
    rw [bytes_inj h.2, UInt8.toNat_inj.1 (Int.ofNat_inj.1 h.1)]

def DoorU.byt (l : List Int) : Prop := ∀ x ∈ l, 0 ≤ x ∧ x < 256
def S_same : Spec := ⟨.pair (.view true tY) (.pair (.view true tY) .unit), .pair .bool .unit, fun (x : List Int × List Int × Unit) => DoorU.byt x.1 ∧ DoorU.byt x.2.1, fun (x : List Int × List Int × Unit) => ((x.1 == x.2.1, ()) : Bool × Unit)⟩
theorem en_same (us : Array Value) (u : World) : (callFunc 26 us).run Try.prog u = .ok (.enter 26 us) u := by kernel_rfl
theorem sc_same : SC Try.prog 26 S_same := by
  rintro - ⟨a, b, u⟩ ⟨ha, hb⟩ w U E vs hm hk hl hv
  obtain ⟨a', rfl⟩ := bytes_list ha
  obtain ⟨b', rfl⟩ := bytes_list hb
  match vs, hl with
  | [v0, v1], _ =>
    have h0 : VA E w _ U w.heap.size (.lent 1 (denS (T := tY) (a'.map fun b => (b.toNat : Int)))) v0 := hv 0 _ v0 rfl rfl
    have h1 : VA E w _ U w.heap.size (.lent 1 (denS (T := tY) (b'.map fun b => (b.toNat : Int)))) v1 := hv 1 _ v1 rfl rfl
    rw [denS_bytes] at h0 h1
    obtain ⟨p, n, cap, rfl, b0⟩ := bytes_of_lent2 h0
    obtain ⟨p', n', cap', rfl, b1⟩ := bytes_of_lent2 h1
    refine (same_any b0 b1).mono fun e w' ⟨he, hw⟩ => ?_
    subst hw
    refine ⟨_, _, _, E, ⟨rfl, rfl⟩, he, hm, ?_⟩
    have : ((a'.map fun b => (b.toNat : Int)) == (b'.map fun b => (b.toNat : Int))) = (a' == b') := by
      rw [Bool.eq_iff_iff]
      simp only [beq_iff_eq]
      exact ⟨bytes_inj, fun h => by rw [h]⟩
    show VA _ _ _ _ _ (.d (.bool ((a'.map fun b => (b.toNat : Int)) == (b'.map fun b => (b.toNat : Int))))) _
    rw [this]
    exact .d (.bool _)
end Go.Proofs.Ytmkfpfnjimmmaaa
