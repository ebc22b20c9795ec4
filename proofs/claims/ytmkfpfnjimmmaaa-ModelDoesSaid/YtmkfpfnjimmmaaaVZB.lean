/- A function's word out of a contract that tells worlds: where all that comes in is read only, and what comes back is fresh. Nothing of the dump stands here. -/
import Derived.Test.YtmkfpfnjimmmaaaVZ
namespace Go.Proofs.Ytmkfpfnjimmmaaa
open Go.RowKit
set_option linter.unusedVariables false
set_option linter.unusedSimpArgs false

abbrev NoF : Nat → Prop := fun _ => False
theorem SC.pure {P : Program} {f : FuncId} {S : Spec} (hnv : S.sig.nv = 0) (hbs : ∀ x, (S.inU x).bs = []) (hb2 : ∀ x, (S.outU (S.fn x)).bs = [])
    (h : ∀ x, S.pre x → ∀ (w : World) (U : Nat → Prop) (E : Env) (vs : List Value), TabIn w → vs.length = (S.inU x).cs.length → (∀ (i : Nat) (y : TV) (v : Value), (S.inU x).cs[i]? = some y → vs[i]? = some v → VA E w NoF U w.heap.size (denV (fun _ => .free) y) v) →
      Calls P f vs.toArray w fun e w' => ∃ v, e = .returned v ∧ Below w.heap.size w w' ∧ VA E w' NoF U w.heap.size (denV (fun _ => .free) ((S.outU (S.fn x)).cs.headD .und)) v) : SC P f S := fun _ x hx w U E vs hm hkn hl hv => by
  have hB : bsOf (S.inU x).bs = fun _ => TB.free := by rw [hbs]; rfl
  have hB2 : bsOf (S.outU (S.fn x)).bs = fun _ => TB.free := by rw [hb2]; rfl
  have hF : Fof E (fun g => denB (bsOf (S.inU x).bs) (bsOf (S.inU x).bs g)) = NoF := by
    rw [hB]
    funext b
    exact propext ⟨fun ⟨g, q1, _⟩ => q1, False.elim⟩
  rw [List.length_map] at hl
  refine (h x hx w U E vs hm.below.tabIn hl fun i y v hy hv' => ?_).mono ?_
  · have := hv i (denV (bsOf (S.inU x).bs) y) v (by rw [List.getElem?_map, hy]; rfl) hv'
    rw [hF, hB] at this
    exact this
  · rintro e w' ⟨v, rfl, hbl, hva⟩
    refine ⟨_, _, v, E, ⟨rfl, rfl⟩, rfl, ⟨⟨⟨hbl.os, hbl.tape, hbl.output, hbl.size, fun k hk => absurd hk (Nat.not_lt_zero _)⟩, fun b hb _ => hbl.block b hb, hm.below.pl, hm.below.tab, hm.below.tabh⟩, hm.pins, fun g => ?_, fun g g' hg => ?_⟩, ?_⟩
    · rw [hB2]
      have := hm.blk g
      rw [hB] at this
      exact this
    · rw [hB2] at hg; exact hg.elim
    · have hF2 : Fof E (fun g => denB (bsOf (S.outU (S.fn x)).bs) (bsOf (S.outU (S.fn x)).bs g)) = NoF := by
        rw [hB2]
        funext b
        exact propext ⟨fun ⟨g, q1, _⟩ => q1, False.elim⟩
      rw [hF2, hB2]
      exact hva

def eByt (b : UInt8) : List D := [.int .u8 (b.toNat : Int)]
def bI (m : List UInt8) : List Int := m.map fun b => (b.toNat : Int)
theorem bI_len (m : List UInt8) : (bI m).length = m.length := List.length_map _
theorem denS_bI : ∀ (m : List UInt8), denS (T := .int .u8) (bI m) = m.map eByt
  | [] => rfl
  | b :: m => congrArg (eByt b :: ·) (denS_bI m)
theorem bI_inj : ∀ {a b : List UInt8}, bI a = bI b → a = b
  | [], [], _ => rfl
  | [], _ :: _, h => by cases h
  | _ :: _, [], h => by cases h
  | x :: a, y :: b, h => by
    simp only [bI, List.map_cons, List.cons.injEq] at h
    rw [bI_inj h.2, UInt8.toNat_inj.1 (Int.ofNat_inj.1 h.1)]
theorem bI_of : ∀ {l : List Int}, (∀ x ∈ l, 0 ≤ x ∧ x < 256) → ∃ m : List UInt8, l = bI m
  | [], _ => ⟨[], rfl⟩
  | x :: l, h => by
    obtain ⟨m, hm⟩ := bI_of fun y hy => h y (List.mem_cons_of_mem _ hy)
    have h1 := h x (List.mem_cons_self ..)
    refine ⟨UInt8.ofNat x.toNat :: m, ?_⟩
    simp only [bI, List.map_cons]
    congr 1
    have : (UInt8.ofNat x.toNat).toNat = x.toNat := by rw [UInt8.toNat_ofNat']; omega
    rw [this]; omega
theorem bI_byt (m : List UInt8) : ∀ x ∈ bI m, 0 ≤ x ∧ x < 256 := fun x hx => by
  obtain ⟨b, _, rfl⟩ := List.mem_map.1 hx
  have := b.toNat_lt
  omega

theorem bytes_of_lent {E : Env} {w : World} {F U : Nat → Prop} {base : Nat} {l : List UInt8} {v : Value} (h : VA E w F U base (.lent 1 (l.map eByt)) v) : ∃ a n cap, v = .slice a n cap ∧ Bytes w a n cap l := by
  cases h with
  | lent u hl hc hm hz hsz hat hV =>
    refine ⟨_, _, _, rfl, by simpa using hl, hc, hm, hz, ⟨fun i v hv => ?_⟩⟩
    rw [List.getElem?_map] at hv
    cases hx : l[i]? with
    | none => rw [hx] at hv; cases hv
    | some x =>
      rw [hx] at hv
      obtain rfl : B x = v := by simpa using hv
      have hx' : (l.map eByt)[i]? = some (eByt x) := by rw [List.getElem?_map, hx]; rfl
      obtain ⟨b, off, ha, _, hc⟩ := hat i _ hx'
      refine ⟨b, off, ha, ?_⟩
      have h1 := hc 0 (by decide)
      rw [Nat.mul_one, Nat.add_zero] at h1
      have h2 := hV i _ 0 _ hx' rfl
      rw [h1]
      generalize u i 0 = q at h2
      cases h2
      rfl

/-- Fresh bytes may be given back. -/
theorem given_bytes {e : TypeId} {w w' : World} {a : Option Addr} {n cap : Nat} {l : List UInt8} {U : Nat → Prop} (h : Bytes w' a n cap l) (hb : ∀ b off, a = some ⟨b, off, none⟩ → 0 < n → w.heap.size ≤ b) : VD w' NoF U w.heap.size (.view 1 (l.map eByt)) (.slice a n cap) := by
  refine .view (fun i j => B (l.getD i 0)) (by rw [List.length_map]; exact h.len) h.le h.max h.zero (fun i x hx => ?_) (fun i x hx => ?_) (fun i x j d hx hd => ?_)
  · obtain ⟨y, _, rfl⟩ := List.mem_map.1 (List.mem_of_getElem? hx); rfl
  · rw [List.getElem?_map] at hx
    cases hy : l[i]? with
    | none => rw [hy] at hx; cases hx
    | some y =>
      obtain ⟨b, off, ha, hc⟩ := h.row.cell i (B y) (by rw [List.getElem?_map, hy]; rfl)
      have hn : 0 < n := by have := (List.getElem?_eq_some_iff.1 hy).1; have := h.len; omega
      refine ⟨b, off, ha, ⟨World.block_lt_of_cell? _ _ hc, fun h => h, fun _ => .inr (hb b off ha hn)⟩, fun j hj => ?_⟩
      obtain rfl : j = 0 := by omega
      rw [Nat.mul_one, Nat.add_zero, hc, List.getD_eq_getElem?_getD, hy]
      rfl
  · rw [List.getElem?_map] at hx
    cases hy : l[i]? with
    | none => rw [hy] at hx; cases hx
    | some y =>
      rw [hy] at hx
      obtain rfl : eByt y = x := by simpa using hx
      cases j with
      | zero =>
        obtain rfl : D.int .u8 (y.toNat : Int) = d := by simpa [eByt] using hd
        show VD _ _ _ _ _ (B (l.getD i 0))
        rw [List.getD_eq_getElem?_getD, hy]
        exact .int _ _
      | succ j => simp [eByt] at hd
theorem FreshB.given {e : TypeId} {w w' : World} {a : Option Addr} {n cap : Nat} {l : List UInt8} {U : Nat → Prop} (h : FreshB e w w' a n cap l) : VD w' NoF U w.heap.size (.view 1 (l.map eByt)) (.slice a n cap) :=
  given_bytes (e := e) h.bytes fun b off ha hn => by
    obtain ⟨_, ⟨h1, h2⟩ | ⟨g, cap', cur, h1, h2, _⟩⟩ := h.owns
    · omega
    · rw [ha] at h1
      cases h1
      exact h2
theorem VA.given {E : Env} {w' : World} {F U : Nat → Prop} {base : Nat} {l : List UInt8} {v : Value} (h : VD w' F U base (.view 1 (l.map eByt)) v) : VA E w' F U base (denV (fun _ => .free) (.view false (.int .u8) (bI l))) v := by
  show VA E w' F U base (.d (.view 1 (denS (T := .int .u8) (bI l)))) v
  rw [denS_bI]
  exact .d h
theorem VA.taken {E : Env} {w' : World} {F U : Nat → Prop} {base : Nat} {l : List UInt8} {v : Value} (h : VA E w' F U base (denV (fun _ => .free) (.view true (.int .u8) (bI l))) v) : ∃ a n cap, v = .slice a n cap ∧ Bytes w' a n cap l := by
  have h1 : VA E w' F U base (.lent 1 (denS (T := .int .u8) (bI l))) v := h
  rw [denS_bI] at h1
  exact bytes_of_lent h1
end Go.Proofs.Ytmkfpfnjimmmaaa
