/- Plain data as the calculus has them: bytes, numbers, letters, queues, models. Nothing of the dump stands here. -/
import Derived.Test.YtmkfpfnjimmmaaaSepK
import Derived.Laws.Small
import Derived.Lib.UnsafeStr
namespace Go.Proofs.Ytmkfpfnjimmmaaa
open Go.RowKit
set_option linter.unusedVariables false

def dInt (x : Int) : List D := [.int .i64 x]
def dByte (b : UInt8) : List D := [.int .u8 (b.toNat : Int)]
def dBytes (l : List UInt8) : D := .view 1 (l.map dByte)
def dInts (l : List Int) : D := .view 1 (l.map dInt)
def dParts (l : List (List UInt8)) : D := .view 1 (l.map fun x => [dBytes x])
def avD (l : List D) : AV := .agg (l.map .d)

theorem map_at {α β : Type} {f : α → β} {l : List α} {i : Nat} {x : α} (h : l[i]? = some x) : (l.map f)[i]? = some (f x) := by rw [List.getElem?_map, h]; rfl
theorem map_set {α β : Type} (f : α → β) (l : List α) (i : Nat) (x : α) : (l.map f).set i (f x) = (l.set i x).map f := by rw [List.map_set]
section
variable {P : Program} {nt : Nat} {o : Oper} {σ : St}
theorem B.boolEql {t ty : TypeId} {x y : Operand} {a b : Bool} (ho : o.op = .binOp .eql t x y ty) (ht : P.underlying t = some .bool) (hx : σ.eval x = .d (.bool a)) (hy : σ.eval y = .d (.bool b)) (hd : dstOk o nt = true) : DoesB P nt o σ ⟨tmpsIn [x, y], [], .d (.bool (a == b)), []⟩ := fun σ' ha =>
  Does.value hd fun w0 U E c w hrel => by
    have h1 := hrel.eval x
    rw [ha.eval (x := x) (by simp), hx] at h1
    have h2 := hrel.eval y
    rw [ha.eval (x := y) (by simp), hy] at h2
    refine ⟨.bool (a == b), ?_, .d (.bool _)⟩
    rw [execOp, ho]
    simp only [bool_of h1, bool_of h2]
    have hg : (eqGuard .eql t x y (.bool a) (.bool b)).run P w = .ok () w := rfl
    simp [Sem.run_bind, hg, run_eql_bool w t a b ht]
theorem B.boolNeq {t ty : TypeId} {x y : Operand} {a b : Bool} (ho : o.op = .binOp .neq t x y ty) (ht : P.underlying t = some .bool) (hx : σ.eval x = .d (.bool a)) (hy : σ.eval y = .d (.bool b)) (hd : dstOk o nt = true) : DoesB P nt o σ ⟨tmpsIn [x, y], [], .d (.bool (a != b)), []⟩ := fun σ' ha =>
  Does.value hd fun w0 U E c w hrel => by
    have h1 := hrel.eval x
    rw [ha.eval (x := x) (by simp), hx] at h1
    have h2 := hrel.eval y
    rw [ha.eval (x := y) (by simp), hy] at h2
    refine ⟨.bool (a != b), ?_, .d (.bool _)⟩
    rw [execOp, ho]
    simp only [bool_of h1, bool_of h2]
    have hg : (eqGuard .neq t x y (.bool a) (.bool b)).run P w = .ok () w := rfl
    simp [Sem.run_bind, hg, binOp, run_equal_bool w t a b ht, bne]
theorem B.quo64 {t ty : TypeId} {x y : Operand} {a b : Int} (ho : o.op = .binOp .quo t x y ty) (hx : σ.eval x = .d (.int .i64 a)) (hy : σ.eval y = .d (.int .i64 b)) (h : 0 ≤ a ∧ a ≤ 9223372036854775807 ∧ 1 ≤ b) (hd : dstOk o nt = true) :
    DoesB P nt o σ ⟨tmpsIn [x, y], [], .d (.int .i64 (a / b)), []⟩ := B.bin (r := .int .i64 (a / b)) ho hx hy (rv := .int .i64 (a / b)) (fun w => by
      have hb : b ≠ 0 := by omega
      simp [binOp, Op.intDiv, hb, IntWalk.i64_quo a b h]) rfl hd
theorem B.rem64 {t ty : TypeId} {x y : Operand} {a b : Int} (ho : o.op = .binOp .rem t x y ty) (hx : σ.eval x = .d (.int .i64 a)) (hy : σ.eval y = .d (.int .i64 b)) (h : 0 ≤ a ∧ 1 ≤ b) (hd : dstOk o nt = true) :
    DoesB P nt o σ ⟨tmpsIn [x, y], [], .d (.int .i64 (a % b)), []⟩ := B.bin (r := .int .i64 (a % b)) ho hx hy (rv := .int .i64 (a % b)) (fun w => by
      have hb : b ≠ 0 := by omega
      simp [binOp, Op.intDiv, hb, Int.tmod_eq_emod_of_nonneg h.1]) rfl hd
end

theorem VD.cells {w w' : World} {F U : Nat → Prop} {base : Nat} (hs : w.heap.size ≤ w'.heap.size) (hc : ∀ p v, w.cell? p = some v → w'.cell? p = some v) {x : D} {v : Value} (h : VD w F U base x v) : VD w' F U base x v := by
  induction h with
  | int => exact .int _ _
  | bool => exact .bool _
  | view u hl hcp hm hz hsz hat hV ih =>
    refine .view u hl hcp hm hz hsz (fun i x hx => ?_) ih
    obtain ⟨b, off, ha, ⟨h1, h2, h3⟩, h5⟩ := hat i x hx
    exact ⟨b, off, ha, ⟨Nat.lt_of_lt_of_le h1 hs, h2, h3⟩, fun j hj => hc _ _ (h5 j hj)⟩
theorem VA.cells {E : Env} {w w' : World} {F U : Nat → Prop} {base : Nat} (hs : w.heap.size ≤ w'.heap.size) (hc : ∀ p v, w.cell? p = some v → w'.cell? p = some v) {x : AV} {v : Value} (h : VA E w F U base x v) : VA E w' F U base x v := by
  induction h with
  | d h => exact .d (h.cells hs hc)
  | agg hl _ ih => exact .agg hl ih
  | tup hl _ ih => exact .tup hl ih
  | ptr hk => exact .ptr hk
  | vptr u hok hcl hv => exact .vptr u ⟨Nat.lt_of_lt_of_le hok.1 hs, hok.2⟩ (fun j hj => hc _ _ (hcl j hj)) (fun j d hd => (hv j d hd).cells hs hc)
  | lent u hl hcp hm hz hsz hat hV =>
    refine .lent u hl hcp hm hz hsz (fun i x hx => ?_) (fun i x j d hx hd => (hV i x j d hx hd).cells hs hc)
    obtain ⟨b, off, ha, ⟨h1, h2, h3⟩, h5⟩ := hat i x hx
    exact ⟨b, off, ha, ⟨Nat.lt_of_lt_of_le h1 hs, h2, h3⟩, fun j hj => hc _ _ (h5 j hj)⟩
  | own hk hvr hn hm ha => exact .own hk hvr hn hm ha
  | onil hk hv => exact .onil hk hv
  | nsl => exact .nsl
  | nptr => exact .nptr
  | fn hl _ ih => exact .fn hl ih
  | und => exact .und _

/-- A block that nobody writes gets marks. -/
theorem Rel.marked {nt : Nat} {σ : St} {w0 : World} {U : Nat → Prop} {E : Env} {a : Act} {w w' : World} (hr : Rel w0 U nt σ E a w) {k : Nat} (hk : ∀ g, Hot E g (σ.blk g) → E.β g ≠ k) (hs : w'.heap.size = w.heap.size) (hb : ∀ b, b ≠ k → w'.heap[b]? = w.heap[b]?) (hc : ∀ p v, w.cell? p = some v → w'.cell? p = some v) (hw : Below w0.heap.size w0 w') : Rel w0 U nt σ E a w' := by
  refine ⟨⟨hw, fun g => ?_, hr.mem.inj⟩, hr.size, hr.defers, fun t => (hr.tmp t).cells (Nat.le_of_eq hs.symm) hc⟩
  have h1 := hr.mem.blk g
  have h2 := hk g
  generalize σ.blk g = x at h1 h2
  cases x with
  | row sz e es =>
    obtain ⟨r1, r2, r3, r4, r5, r6, r7⟩ := h1
    refine ⟨r1, r2, r3, r4, r5, r6, fun hv => ?_⟩
    obtain ⟨s1, cur, s2, s3, s4⟩ := r7 hv
    refine ⟨s1, cur, (hb _ (h2 hv)).trans s2, s3, fun i x hx => ⟨(s4 i x hx).1, fun j d hd => ?_⟩⟩
    obtain ⟨u, t1, t2⟩ := (s4 i x hx).2 j d hd
    exact ⟨u, t1, t2.cells (Nat.le_of_eq hs.symm) hc⟩
  | var e cs =>
    obtain ⟨r1, r2, cur, r3, r4, r5⟩ := h1
    refine ⟨r1, r2, cur, (hb _ (h2 trivial)).trans r3, r4, fun j x hx => ⟨(r5 j x hx).1, ?_⟩⟩
    obtain ⟨_, u, t1, t2⟩ := r5 j x hx
    exact ⟨u, t1, t2.cells (Nat.le_of_eq hs.symm) hc⟩
  | dead => exact h1
  | free => exact h1

theorem freeze_heap {w : World} {a : Addr} {n b : Nat} (h : b ≠ a.block) : (w.freeze a n).heap[b]? = w.heap[b]? := by
  unfold World.freeze
  split
  · rfl
  · simp only [Array.getElem?_modify]
    rw [if_neg (by omega)]
theorem freeze_size {w : World} {a : Addr} {n : Nat} : (w.freeze a n).heap.size = w.heap.size := by
  unfold World.freeze
  split <;> simp
theorem freeze_cell {w : World} {a p : Addr} {n : Nat} {v : Value} (h : w.cell? p = some v) : (w.freeze a n).cell? p = some v := by
  by_cases hp : p.block = a.block
  · unfold World.freeze
    split
    · exact h
    · unfold World.cell? at h ⊢
      simp only [Array.getElem?_modify]
      rw [if_pos hp.symm]
      revert h
      cases w.heap[p.block]? with
      | none => intro h; cases h
      | some ob =>
        intro h
        cases ob <;> first | cases h | exact h
  · unfold World.cell? at h ⊢
    rw [freeze_heap hp]
    exact h

section
variable {P : Program} {nt : Nat} {o : Oper} {σ : St}
/-- A literal that is turned into a slice of its own type is read from then on. -/
theorem B.mark {s e : TypeId} {x : Operand} {g n sz : Nat} {e' : TypeId} {es : List (List D)} (ho : o.op = .convert s s x) (hs : P.underlying s = some (.slice e)) (he : P.underlying e = some (.int .u8)) (hx : σ.eval x = .own g 0 n) (hb : σ.blk g = .row sz e' es) (hn : n = es.length) (hpos : 0 < n) (hd : dstOk o nt = true) :
    DoesB P nt o σ ⟨tmpsIn [x], [g], .d (.view sz es), [(g, .dead)]⟩ := fun σ' ha w0 U E a w N Q hr hN => by
  have hb' : σ'.blk g = .row sz e' es := (ha.2 g (by simp)).trans hb
  have ex : σ'.eval x = .own g 0 n := (ha.eval (by simp)).trans hx
  have hv := hr.eval x
  rw [ex] at hv
  have hfz := hv.weak hr (gs := [g]) (x' := .d (.view sz es)) (.fz0 (by simp) hb' hn)
  have hrf := hr.weaken [g] (fun k hk => by have hkg : k = g := (by simpa using hk); rw [hkg]; exact ⟨_, _, _, hb'⟩) ⟨σ'.tmp, upd σ'.blk g .dead⟩ (fun t => .refl _) (fun k => .inl (by
    show upd σ'.blk g _ k = _
    by_cases hk : k = g
    · subst hk; rw [upd_same, killed_in (by simp)]
    · rw [upd_other _ _ _ hk, killed_out (by simpa using hk)]))
  have hkd : killed σ'.blk [g] = upd σ'.blk g .dead := by
    funext k
    by_cases hk : k = g
    · subst hk; rw [upd_same, killed_in (by simp)]
    · rw [upd_other _ _ _ hk, killed_out (by simpa using hk)]
  rw [hkd] at hfz
  generalize hav : a.eval x = v at hv hfz
  have hbl := hr.mem.blk g
  rw [hb'] at hbl
  obtain ⟨r1, r2, r3, r4, r5, r6, r7⟩ := hbl
  cases hv with
  | onil hk hv => omega
  | @own _ _ _ ad cap hk hvr hn' hm had =>
    obtain ⟨e1, e2⟩ := had (.inl rfl)
    obtain ⟨s1, cur, s2, s3, s4⟩ := r7 hvr
    have hsh : w.shape? ad.block = some (e', cur.size) := by
      rw [e1]
      unfold World.shape?
      rw [s2]
    have hrun : (execOp a.eval o).run P w = .ok (.value (.slice (some ad) n cap)) (w.freeze ⟨ad.block, cur.size, none⟩ 1) := by
      rw [execOp, ho]
      simp only [hav]
      simp [convert, Sem.run_bind, run_underlying hs w, run_underlying he w, markStringish, hsh]
    unfold Oper.wp
    rw [hrun]
    have hblk : ad.block = E.β g := by rw [e1]
    have hlow : w0.heap.size ≤ ad.block := by rw [hblk]; exact s1
    have hr2 := hrf.marked (w' := w.freeze ⟨ad.block, cur.size, none⟩ 1) (k := ad.block) (fun g' hg' => ?_) freeze_size (fun b hb => freeze_heap hb) (fun p v h => freeze_cell h) (Go.Lib.below_freeze (p := ⟨ad.block, cur.size, none⟩) hr.mem.below hlow _)
    · exact hN E _ _ (hr2.undef (dstOk_lt hd) (hfz.cells (Nat.le_of_eq freeze_size.symm) (fun p v h => freeze_cell h)))
    · rw [hblk]
      intro hbe
      have hg1 : Hot E g' (σ'.blk g') := by
        have : upd σ'.blk g .dead g' = σ'.blk g' := by
          by_cases hk : g' = g
          · subst hk; rw [show ({ tmp := σ'.tmp, blk := upd σ'.blk g' Blk.dead } : St).blk g' = .dead from upd_same _ _ _] at hg'; cases hg'
          · exact upd_other _ _ _ hk
        rw [← this]; exact hg'
      have := hr.mem.inj g' g hg1 (by rw [hb']; exact hvr) hbe
      subst this
      rw [show ({ tmp := σ'.tmp, blk := upd σ'.blk g' Blk.dead } : St).blk g' = .dead from upd_same _ _ _] at hg'
      cases hg'
end
end Go.Proofs.Ytmkfpfnjimmmaaa
