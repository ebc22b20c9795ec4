/- How the arguments of a law are read: out of the row's own reader into the words of the walks. -/
import Derived.Test.YtmkfpfnjimmmaaaLib
import Derived.ProofKit
import Derived.OpenShut
import Derived.ShutString
import Derived.ChangeOld
import Derived.Below
namespace Go.Proofs.Ytmkfpfnjimmmaaa
open Go.ChangeShapes Go.WideShapes Go.ChangeAt Go.RowKit

section
variable {H : Type} {enc : TypeId × Value → H} {P : Program} {w : World} {base : Nat} {spare : Nat → Bool} {held : Bool}

theorem nat_of_u64 {a : Int} (h : (Lit.int .u64 a).wf = true) : ∃ n : Nat, a = (n : Int) ∧ n < 18446744073709551616 := by
  simp [Lit.wf, IntKind.min, IntKind.max, IntKind.signed, IntKind.bits] at h
  exact ⟨a.toNat, by omega, by omega⟩

theorem byte_of_wf {z : Int} (h : (Lit.int .u8 z).wf = true) : B (UInt8.ofNat z.toNat) = .int .u8 z := by
  have hb := bounds_u8 h
  rw [B, UInt8.toNat_ofNat']
  congr 1
  omega

theorem open_bytes {r : Reach} {b0 : Nat} {t e : TypeId} {v : Value} {d : DataW H} {ps : List MemPlace} (ht : P.underlying t = some (.slice e)) (he : P.underlying e = some (.int .u8)) (hc : P.cellsOf e = 1)
    (hval : Value.okWide P w r b0 t v) (hd : DataW.Trod enc P w base spare held t v d ps) : ∃ a n cap l, v = .slice a n cap ∧ Bytes w a n cap l := by
  obtain ⟨a0, len0, cap0, rfl⟩ := okWide_slice ht hval
  obtain ⟨fuel, hf⟩ := hd
  rcases open_ints ht he hc hf with ⟨hcs, _⟩ | ⟨x, l, c, zs, hcs, _, hl, hm, hz, _, hcell, hwz⟩
  · simp [Value.cells] at hcs
    obtain ⟨rfl, rfl, rfl⟩ := hcs
    exact ⟨none, 0, 0, [], rfl, Bytes.nil w⟩
  · simp [Value.cells] at hcs
    obtain ⟨rfl, rfl, rfl⟩ := hcs
    have hz' : len0 ≤ zs.length := by
      rw [hz]
      split <;> omega
    refine ⟨some x, len0, cap0, (zs.take len0).map fun z => UInt8.ofNat z.toNat, rfl, by simp; omega, hl, hm, fun h => (by cases h), ⟨fun i u hu => ?_⟩⟩
    have hi : i < len0 := by
      have := (List.getElem?_eq_some_iff.1 hu).1
      simp at this
      omega
    have hcl := hcell i (by omega)
    obtain ⟨b, off, spot⟩ := x
    have hs := World.cell?_spot hcl
    have hspot : spot = none := by
      have e : ((⟨b, off, spot⟩ : Addr).add i).spot = none := hs
      unfold Addr.add at e hcl
      by_cases h0 : i = 0
      · simpa [h0] using e
      · have := hcell 0 (by omega)
        have hs0 := World.cell?_spot this
        simpa [Addr.add] using hs0
    subst hspot
    refine ⟨b, off, rfl, ?_⟩
    rw [Addr.add_lit] at hcl
    rw [hcl]
    have e1 : zs.getD i 0 = zs[i]'(by omega) := by simp [List.getD, show i < zs.length by omega]
    have e2 : u = B (UInt8.ofNat (zs[i]'(by omega)).toNat) := by
      have h3 : i < zs.length := by omega
      simp [hi, h3] at hu
      exact hu.symm
    rw [e1, e2, byte_of_wf (hwz _ (List.getElem_mem _))]
end
end Go.Proofs.Ytmkfpfnjimmmaaa
