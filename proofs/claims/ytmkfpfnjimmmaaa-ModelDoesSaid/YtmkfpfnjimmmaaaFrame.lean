/- How the arguments of a law are read: out of the row's own reader into the words of the walks. -/
import Derived.Test.YtmkfpfnjimmmaaaLib
import Derived.ProofKit
import Derived.OpenShut
import Derived.ShutString
import Derived.ChangeOld
import Derived.Below
import Derived.SizedLaws
import Derived.Deep.Slices
import Derived.Lib.SmallJoins
namespace Go.Proofs.Ytmkfpfnjimmmaaa
open Go.ChangeShapes Go.WideShapes Go.ChangeAt Go.RowKit

section
variable {H : Type} {enc : TypeId × Value → H} {P : Program} {w : World} {base : Nat} {spare : Nat → Bool} {held : Bool}

theorem nat_of_u64 {a : Int} (h : (Lit.int .u64 a).wf = true) : ∃ n : Nat, a = (n : Int) ∧ n < 18446744073709551616 := by
  simp [Lit.wf, IntKind.min, IntKind.max, IntKind.signed, IntKind.bits] at h
  exact ⟨a.toNat, by omega, by omega⟩

theorem byte_of_wf {z : Int} (h : (Lit.int .u8 z).wf = true) : B (UInt8.ofNat z.toNat) = .int .u8 z := by
  have hb := bounds_u8 h
  rw [B, UInt8.toNat_ofNat']
  congr 1
  omega

theorem bytes_of_ints {x : Addr} {len0 cap0 : Nat} {zs : List Int} (hz' : len0 ≤ zs.length) (hl : len0 ≤ cap0) (hm : cap0 ≤ maxLen) (hcell : ∀ i, i < zs.length → w.cell? (x.add i) = some (.int .u8 (zs.getD i 0))) (hwz : ∀ n ∈ zs, (Lit.int .u8 n).wf = true) :
    Bytes w (some x) len0 cap0 ((zs.take len0).map fun z => UInt8.ofNat z.toNat) := by
  refine ⟨by simp; omega, hl, hm, fun h => (by cases h), ⟨fun i u hu => ?_⟩⟩
  have hi : i < len0 := by
    have := (List.getElem?_eq_some_iff.1 hu).1
    simp at this
    omega
  have hcl := hcell i (by omega)
  obtain ⟨b, off, spot⟩ := x
  have hs := World.cell?_spot hcl
  have hspot : spot = none := by
    have e : ((⟨b, off, spot⟩ : Addr).add i).spot = none := hs
    unfold Addr.add at e hcl
    by_cases h0 : i = 0
    · simpa [h0] using e
    · have := hcell 0 (by omega)
      have hs0 := World.cell?_spot this
      simpa [Addr.add] using hs0
  subst hspot
  refine ⟨b, off, rfl, ?_⟩
  rw [Addr.add_lit] at hcl
  rw [hcl]
  have e1 : zs.getD i 0 = zs[i]'(by omega) := by simp [List.getD, show i < zs.length by omega]
  have e2 : u = B (UInt8.ofNat (zs[i]'(by omega)).toNat) := by
    have h3 : i < zs.length := by omega
    simp [hi, h3] at hu
    exact hu.symm
  rw [e1, e2, byte_of_wf (hwz _ (List.getElem_mem _))]

theorem open_bytes {r : Reach} {b0 : Nat} {t e : TypeId} {v : Value} {d : DataW H} {ps : List MemPlace} (ht : P.underlying t = some (.slice e)) (he : P.underlying e = some (.int .u8)) (hc : P.cellsOf e = 1)
    (hval : Value.okWide P w r b0 t v) (hd : DataW.Trod enc P w base spare held t v d ps) : ∃ a n cap l, v = .slice a n cap ∧ Bytes w a n cap l := by
  obtain ⟨a0, len0, cap0, rfl⟩ := okWide_slice ht hval
  obtain ⟨fuel, hf⟩ := hd
  rcases open_ints ht he hc hf with ⟨hcs, _⟩ | ⟨x, l, c, zs, hcs, _, hl, hm, hz, _, hcell, hwz⟩
  · simp [Value.cells] at hcs
    obtain ⟨rfl, rfl, rfl⟩ := hcs
    exact ⟨none, 0, 0, [], rfl, Bytes.nil w⟩
  · simp [Value.cells] at hcs
    obtain ⟨rfl, rfl, rfl⟩ := hcs
    have hz' : len0 ≤ zs.length := by
      rw [hz]
      split <;> omega
    exact ⟨some x, len0, cap0, _, rfl, bytes_of_ints hz' hl hm hcell hwz⟩

/-- A cell that is a slice of bytes. -/
theorem open_bytes_cell {t e : TypeId} {fuel : Nat} {c : Value} {x : DataW H × List MemPlace} (ht : P.underlying t = some (.slice e)) (he : P.underlying e = some (.int .u8)) (hc : P.cellsOf e = 1)
    (h : DataW.trod enc P w base spare held fuel t [c] = some x) : ∃ a n cap l, c = .slice a n cap ∧ Bytes w a n cap l ∧ ∀ R, (∀ k ∈ x.1.weights P t, k ≤ R) → n * P.bytesOf e ≤ R := by
  have hd : DataW.Trod enc P w base spare held t c x.1 x.2 ∨ c.cells ≠ #[c] := by
    by_cases hcc : c.cells = #[c]
    · exact .inl ⟨fuel, by rw [hcc]; exact h⟩
    · exact .inr hcc
  rcases open_ints ht he hc h with ⟨hcs, hx⟩ | ⟨y, l, cp, zs, hcs, _, hl, hm, hz, hx, hcell, hwz⟩
  · simp at hcs
    subst hcs
    exact ⟨none, 0, 0, [], rfl, Bytes.nil w, fun R _ => by omega⟩
  · simp at hcs
    subst hcs
    obtain ⟨a, n, cap, L, hv, hb⟩ : ∃ a n cap L, Value.slice (some y) l cp = .slice a n cap ∧ Bytes w a n cap L := by
      rcases hd with hd | hd
      · obtain ⟨fuel', hf⟩ := hd
        have hz' : l ≤ zs.length := by rw [hz]; split <;> omega
        refine ⟨some y, l, cp, (zs.take l).map fun z => UInt8.ofNat z.toNat, rfl, ?_⟩
        exact bytes_of_ints hz' hl hm hcell hwz
      · exact absurd rfl hd
    cases hv
    refine ⟨_, _, _, L, rfl, hb, fun R hR => ?_⟩
    have := hR ((List.length ((x.1 : DataW H) |> fun d => match d with | .slice es _ => es | _ => []) + List.length ((x.1 : DataW H) |> fun d => match d with | .slice _ sp => sp | _ => [])) * P.bytesOf e) ?_
    · rw [hx] at this
      simp [lits] at this
      refine Nat.le_trans (Nat.mul_le_mul_right _ ?_) this
      have hz' : l ≤ zs.length := by rw [hz]; split <;> omega
      omega
    · rw [hx]
      simp [DataW.weights, ht]

theorem weights_all_mem {t : TypeId} : ∀ {ds : List (DataW H)} {d : DataW H}, d ∈ ds → ∀ k ∈ d.weights P t, k ∈ DataW.weightsAll P t ds
  | d0 :: ds, d, hd, k, hk => by
    rw [DataW.weightsAll, List.mem_append]
    rcases List.mem_cons.1 hd with rfl | hd
    · exact .inl hk
    · exact .inr (weights_all_mem hd k hk)

/-- A slice whose elements are one cell: each is read by what reads its cell. -/
theorem open_slice_cells {α : Type} [Inhabited α] {t e : TypeId} {fuel : Nat} {c : Value} {x : DataW H × List MemPlace} (R : Value → α → (List Nat) → Prop) (ht : P.underlying t = some (.slice e)) (hc : P.cellsOf e = 1)
    (hR : ∀ n v y, DataW.trod enc P w base spare held n e [v] = some y → ∃ l, R v l (y.1.weights P e))
    (h : DataW.trod enc P w base spare held fuel t [c] = some x) :
    ∃ (a : Option Addr) (n cap : Nat) (pp : List α), c = .slice a n cap ∧ pp.length = n ∧ n ≤ cap ∧ cap ≤ maxLen ∧ (a = none → cap = 0) ∧ (∀ M, (∀ k ∈ x.1.weights P t, k ≤ M) → n * P.bytesOf e ≤ M) ∧
      ∀ i l, pp[i]? = some l → ∃ b off, a = some ⟨b, off, none⟩ ∧ ∃ v ws, w.cell? ⟨b, off + i, none⟩ = some v ∧ R v l ws ∧ ∀ k ∈ ws, k ∈ x.1.weights P t := by
  rcases Go.Deep.open_slice1 ht hc h with ⟨hcs, hx⟩ | ⟨a, len, cap, m, n, V, D, Pl, hcs, _, hl, hm, hmm, hx, hel⟩
  · simp at hcs
    subst hcs
    exact ⟨none, 0, 0, [], rfl, rfl, Nat.le_refl _, Nat.zero_le _, fun _ => rfl, fun M _ => by omega, fun i l hl => by simp at hl⟩
  · simp at hcs
    subst hcs
    have hlm : len ≤ m := by rw [hmm]; split <;> omega
    obtain ⟨f, hf⟩ := Go.Deep.choose_lt (n := m) (p := fun i l => R (V i) l ((D i).weights P e)) fun i hi => hR n (V i) (D i, Pl i) (hel i hi).2
    refine ⟨some a, len, cap, (List.range len).map f, rfl, by simp, hl, hm, fun h => (by cases h), ?_, ?_⟩
    · intro M hM
      refine Nat.le_trans ?_ (hM ((((List.range len).map D).length + ((List.range (m - len)).map fun j => D (len + j)).length) * P.bytesOf e) ?_)
      · exact Nat.mul_le_mul_right _ (by simp)
      · rw [hx]; simp [DataW.weights, ht]
    · intro i l hil
      have hi : i < len := by have := (List.getElem?_eq_some_iff.1 hil).1; simpa using this
      have hl' : l = f i := by
        rw [List.getElem?_map, List.getElem?_range hi] at hil
        simpa using hil.symm
      subst hl'
      have hcl := (hel i (by omega)).1
      have h0 := (hel 0 (by omega)).1
      obtain ⟨b, off, spot⟩ := a
      have hs0 := World.cell?_spot h0
      have hspot : spot = none := by simpa [Addr.add] using hs0
      subst hspot
      rw [Addr.add_lit] at hcl
      refine ⟨b, off, rfl, V i, _, hcl, hf i (by omega), fun k hk => ?_⟩
      rw [hx]
      simp only [DataW.weights, ht, List.mem_cons, List.mem_append]
      exact .inr (.inl (weights_all_mem (List.mem_map.2 ⟨i, List.mem_range.2 hi, rfl⟩) k hk))

/-- A cell that is a slice of slices of bytes. -/
theorem open_parts_cell {t u e : TypeId} {fuel : Nat} {c : Value} {x : DataW H × List MemPlace} (ht : P.underlying t = some (.slice u)) (hu : P.underlying u = some (.slice e)) (he : P.underlying e = some (.int .u8)) (hcu : P.cellsOf u = 1) (hc : P.cellsOf e = 1) (hby : P.bytesOf e = 1)
    (h : DataW.trod enc P w base spare held fuel t [c] = some x) : ∃ a n cap pp, c = .slice a n cap ∧ Parts w a n cap pp ∧ ∀ M, (∀ k ∈ x.1.weights P t, k ≤ M) → n * P.bytesOf u ≤ M ∧ ∀ l ∈ pp, l.length ≤ M := by
  obtain ⟨a, n, cap, pp, rfl, h1, h2, h3, h4, h5, h6⟩ := open_slice_cells (α := List UInt8)
    (fun v l ws => ∃ a' n' c', v = .slice a' n' c' ∧ Bytes w a' n' c' l ∧ ∀ M, (∀ k ∈ ws, k ≤ M) → n' * P.bytesOf e ≤ M) ht hcu
    (fun n v y hy => by
      obtain ⟨a', n', c', l, rfl, hb, hw⟩ := open_bytes_cell hu he hc hy
      exact ⟨l, a', n', c', rfl, hb, hw⟩) h
  refine ⟨a, n, cap, pp, rfl, ⟨h1, h2, h3, h4, fun i l hl => ?_⟩, fun M hM => ⟨h5 M hM, fun l hl => ?_⟩⟩
  · obtain ⟨b, off, ha, v, ws, hcl, ⟨a', n', c', rfl, hb, _⟩, _⟩ := h6 i l hl
    have := hb.len
    subst this
    exact ⟨b, off, ha, a', c', hcl, hb⟩
  · obtain ⟨i, hi⟩ := List.getElem?_of_mem hl
    obtain ⟨b, off, ha, v, ws, hcl, ⟨a', n', c', rfl, hb, hw⟩, hm⟩ := h6 i l hi
    have := hw M fun k hk => hM k (hm k hk)
    rw [hby, Nat.mul_one] at this
    rw [hb.len]
    exact this
end
end Go.Proofs.Ytmkfpfnjimmmaaa
