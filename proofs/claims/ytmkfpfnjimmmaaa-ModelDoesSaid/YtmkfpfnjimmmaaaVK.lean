/- The operations, computed: those of numbers' least and greatest, functions as values, literals turned into their own type. Nothing of the dump stands here. -/
import Derived.Test.YtmkfpfnjimmmaaaVR
import Derived.Lib.UnsafeStr
namespace Go.Proofs.Ytmkfpfnjimmmaaa
open Go.RowKit
set_option linter.unusedVariables false
set_option linter.unusedSimpArgs false

theorem VD.cells {w w' : World} {F U : Nat → Prop} {base : Nat} (hs : w.heap.size ≤ w'.heap.size) (hc : ∀ p v, w.cell? p = some v → w'.cell? p = some v) {x : D} {v : Value} (h : VD w F U base x v) : VD w' F U base x v := by
  induction h with
  | int => exact .int _ _
  | bool => exact .bool _
  | view u hl hcp hm hz hsz hat hV ih =>
    refine .view u hl hcp hm hz hsz (fun i x hx => ?_) ih
    obtain ⟨b, off, ha, ⟨h1, h2, h3⟩, h5⟩ := hat i x hx
    exact ⟨b, off, ha, ⟨Nat.lt_of_lt_of_le h1 hs, h2, h3⟩, fun j hj => hc _ _ (h5 j hj)⟩
theorem VA.cells {E : Env} {w w' : World} {F U : Nat → Prop} {base : Nat} (hs : w.heap.size ≤ w'.heap.size) (hc : ∀ p v, w.cell? p = some v → w'.cell? p = some v) {x : AV} {v : Value} (h : VA E w F U base x v) : VA E w' F U base x v := by
  induction h with
  | d h => exact .d (h.cells hs hc)
  | agg hl _ ih => exact .agg hl ih
  | tup hl _ ih => exact .tup hl ih
  | ptr hk => exact .ptr hk
  | vptr u hok hcl hv => exact .vptr u ⟨Nat.lt_of_lt_of_le hok.1 hs, hok.2⟩ (fun j hj => hc _ _ (hcl j hj)) (fun j d hd => (hv j d hd).cells hs hc)
  | lent u hl hcp hm hz hsz hat hV =>
    refine .lent u hl hcp hm hz hsz (fun i x hx => ?_) (fun i x j d hx hd => (hV i x j d hx hd).cells hs hc)
    obtain ⟨b, off, ha, ⟨h1, h2, h3⟩, h5⟩ := hat i x hx
    exact ⟨b, off, ha, ⟨Nat.lt_of_lt_of_le h1 hs, h2, h3⟩, fun j hj => hc _ _ (h5 j hj)⟩
  | own hk hvr hn hm ha => exact .own hk hvr hn hm ha
  | part hk hvr hn hm ha => exact .part hk hvr hn hm ha
  | onil hk hv => exact .onil hk hv
  | nsl => exact .nsl
  | nptr => exact .nptr
  | fn hl _ ih => exact .fn hl ih
  | mp hk => exact .mp hk
  | nmp => exact .nmp
  | und => exact .und _

/-- A block that nobody writes turns into something else that is no cells. -/
theorem Mem.marked {c : Cx} {B : Nat → Blk} {U : Nat → Prop} {E : Env} {w w' : World} (hr : Mem c U B E w) {k : Nat} (hk : ∀ g, Hot E g (B g) → E.β g ≠ k) (hs : w'.heap.size = w.heap.size) (hb : ∀ b, b ≠ k → w'.heap[b]? = w.heap[b]?) (hc : ∀ p v, w.cell? p = some v → w'.cell? p = some v) (hw : Kept c w') : Mem c U B E w' := by
  refine ⟨hw, hr.pins, fun g => ?_, hr.inj⟩
  have h1 := hr.blk g
  have h2 := hk g
  generalize B g = x at h1 h2
  cases x with
  | row sz e es =>
    obtain ⟨r1, r2, r3, r4, r5, r6, r7⟩ := h1
    refine ⟨r1, r2, r3, r4, r5, r6, fun hv => ?_⟩
    obtain ⟨s1, cur, s2, s3, s4⟩ := r7 hv
    refine ⟨s1, cur, (hb _ (h2 hv)).trans s2, s3, fun i x hx => ⟨(s4 i x hx).1, fun j d hd => ?_⟩⟩
    obtain ⟨u, t1, t2⟩ := (s4 i x hx).2 j d hd
    exact ⟨u, t1, t2.cells (Nat.le_of_eq hs.symm) hc⟩
  | var e cs =>
    obtain ⟨r1, r2, cur, r3, r4, r5⟩ := h1
    refine ⟨r1, r2, cur, (hb _ (h2 trivial)).trans r3, r4, fun j x hx => ⟨(r5 j x hx).1, ?_⟩⟩
    obtain ⟨_, u, t1, t2⟩ := r5 j x hx
    exact ⟨u, t1, t2.cells (Nat.le_of_eq hs.symm) hc⟩
  | mp ik m =>
    obtain ⟨r1, r2, es, n, r3, r4, r5⟩ := h1
    exact ⟨r1, r2, es, n, (hb _ (h2 trivial)).trans r3, r4, fun i x e hx he => ⟨(r5 i x e hx he).1, (r5 i x e hx he).2.cells (Nat.le_of_eq hs.symm) hc⟩⟩
  | dead => exact h1
  | free => exact h1
/-- A block that nobody writes gets marks. -/
theorem Rel.marked {c : Cx} {nt : Nat} {σ : St} {U : Nat → Prop} {E : Env} {a : Act} {w w' : World} (hr : Rel c U nt σ E a w) {k : Nat} (hk : ∀ g, Hot E g (σ.blk g) → E.β g ≠ k) (hs : w'.heap.size = w.heap.size) (hb : ∀ b, b ≠ k → w'.heap[b]? = w.heap[b]?) (hc : ∀ p v, w.cell? p = some v → w'.cell? p = some v) (hw : Kept c w') (hko : ∀ ds, w.heap[k]? ≠ some (.deferred ds)) : Rel c U nt σ E a w' :=
  ⟨hr.mem.marked hk hs hb hc hw, hr.size, ⟨hr.defers.1, fun D hD => (hb D (by rintro rfl; exact hko _ (hr.defers.2 D hD))).trans (hr.defers.2 D hD)⟩, fun t => (hr.tmp t).cells (Nat.le_of_eq hs.symm) hc⟩

theorem freeze_heap {w : World} {a : Addr} {n b : Nat} (h : b ≠ a.block) : (w.freeze a n).heap[b]? = w.heap[b]? := by
  unfold World.freeze
  split
  · rfl
  · simp only [Array.getElem?_modify]
    rw [if_neg (by omega)]
theorem freeze_size {w : World} {a : Addr} {n : Nat} : (w.freeze a n).heap.size = w.heap.size := by
  unfold World.freeze
  split <;> simp
theorem freeze_cell {w : World} {a p : Addr} {n : Nat} {v : Value} (h : w.cell? p = some v) : (w.freeze a n).cell? p = some v := by
  by_cases hp : p.block = a.block
  · unfold World.freeze
    split
    · exact h
    · unfold World.cell? at h ⊢
      simp only [Array.getElem?_modify]
      rw [if_pos hp.symm]
      revert h
      cases w.heap[p.block]? with
      | none => intro h; cases h
      | some ob =>
        intro h
        cases ob <;> first | cases h | exact h
  · unfold World.cell? at h ⊢
    rw [freeze_heap hp]
    exact h

section
variable {P : Program} {nt : Nat} {o : Oper} {σ : TS}

theorem TRel.putv {c : Cx} {U : Nat → Prop} {E : Env} {a : Act} {w : World} (hr : TRel c U nt σ E a w) {dst : Option Tmp} (hd : ∀ t, dst = some t → t < nt) {x : TV} {v : Value} (hv : VA E w (Fof E σ.den.blk) U c.heap.size (denV σ.blk x) v) : TRel c U nt (σ.step dst ⟨x, []⟩) E (a.put dst v) w := by
  have h := Rel.undef hr hd hv
  have e : (σ.step dst ⟨x, []⟩).den = σ.den.step dst ⟨denV σ.blk x, []⟩ := by
    unfold St.step TS.step TS.den
    simp only
    congr 1
    funext t
    unfold putOf tputOf
    cases dst with
    | none => rfl
    | some d =>
      show denV _ (upd _ d _ t) = upd _ d _ t
      by_cases hd : t = d
      · subst hd; rw [upd_same, upd_same]; rfl
      · rw [upd_other _ _ _ hd, upd_other _ _ _ hd]; rfl
  show Rel _ _ _ _ _ _ _
  rw [e]
  exact h

/-- A literal that is turned into a slice of its own type is read from then on. -/
theorem T.mark {s e e' : TypeId} {x : Operand} {g : Nat} {T : Ty} {l : List (Val T)} (ho : o.op = .convert s s x) (hs : P.underlying s = some (.slice e)) (he : P.underlying e = some (.int .u8)) (hx : σ.eval x = .own g) (hb : σ.blk g = .row T e' l) (hpos : 0 < l.length) (hd : dstOk o nt = true) :
    TDoesB P nt o σ ⟨tmpsIn [x], [g], .own g, [(g, .frz T l)]⟩ := fun σ' ha c U E a w N Q hr hN => by
  have hb' : σ'.blk g = .row T e' l := (ha.2 g (by simp)).trans hb
  have hv := Rel.eval hr x
  rw [ha.dev (x := x) (by simp), hx] at hv
  have hrf := hr.frz hb'
  have hvf := Rel.eval hrf x
  rw [show (TS.den ⟨σ'.tmp, upd σ'.blk g (.frz T l)⟩).eval x = denV (upd σ'.blk g (.frz T l)) (.own g) by
    rw [TS.eval_den]
    have : TS.eval ⟨σ'.tmp, upd σ'.blk g (.frz T l)⟩ x = σ'.eval x := by cases x <;> rfl
    rw [this, ha.ev (x := x) (by simp), hx]] at hvf
  have hbl := hr.mem.blk g
  rw [show σ'.den.blk g = .row T.size e' (denS l) by show denB _ _ = _; rw [hb']; rfl] at hbl
  rw [show denV σ'.blk (.own g) = .own g 0 l.length by show denO g (σ'.blk g) = _; rw [hb']; rfl] at hv
  generalize hav : a.eval x = v at hv hvf
  obtain ⟨r1, r2, r3, r4, r5, r6, r7⟩ := hbl
  have r51 := r5.1
  generalize hll : l.length = n at hv
  cases hv with
  | onil hk hv => omega
  | @own _ _ _ ad cap hk hvr hn' hm had =>
    obtain ⟨e1, e2⟩ := had (.inl rfl)
    obtain ⟨s1, cur, s2, s3, s4⟩ := r7 hvr
    have hsh : w.shape? ad.block = some (rty e', cur.size) := by
      rw [e1]
      unfold World.shape?
      rw [s2]
    have hrun : (execOp a.eval o).run P w = .ok (.value (.slice (some ad) n cap)) (w.freeze ⟨ad.block, cur.size, none⟩ 1) := by
      rw [execOp, ho]
      simp only [hav]
      simp [convert, Sem.run_bind, run_underlying hs w, run_underlying he w, markStringish, hsh]
    unfold Oper.wp
    rw [hrun]
    have hblk : ad.block = E.β g := by rw [e1]
    have hkw : Kept c (w.freeze ⟨ad.block, cur.size, none⟩ 1) := by
      have hq := Go.Lib.below_freeze (p := ⟨ad.block, cur.size, none⟩) (n := 1) hr.mem.below.below (Nat.zero_le _)
      refine ⟨hq, fun b hbs hnh => ?_, hr.mem.below.pl, hr.mem.below.tab, hr.mem.below.tabh⟩
      rw [freeze_heap]
      · exact hr.mem.below.keep b hbs hnh
      · show b ≠ ad.block
        rintro rfl
        rw [hblk] at hbs hnh
        rcases s1 with q | q
        · omega
        · exact hnh q
    have hr2 := Rel.marked (w' := w.freeze ⟨ad.block, cur.size, none⟩ 1) hrf (k := ad.block) (fun g' hg' => ?_) freeze_size (fun b hb => freeze_heap hb) (fun p v h => freeze_cell h) hkw (fun ds => by rw [hblk, s2]; simp)
    · exact hN E _ _ (TRel.putv hr2 (dstOk_lt hd) (hvf.cells (Nat.le_of_eq freeze_size.symm) (fun p v h => freeze_cell h)))
    · rw [hblk]
      intro hbe
      by_cases hk : g' = g
      · subst hk
        rw [show (TS.den ⟨σ'.tmp, upd σ'.blk g' (.frz T l)⟩).blk g' = .dead by show denB _ (upd _ _ _ _) = _; rw [upd_same]; rfl] at hg'
        cases hg'
      · have hg1 : Hot E g' (σ'.den.blk g') := by
          have h3 : (TS.den ⟨σ'.tmp, upd σ'.blk g (.frz T l)⟩).blk g' = denB (upd σ'.blk g (.frz T l)) (σ'.blk g') := by
            show denB _ (upd _ _ _ _) = _
            rw [upd_other _ _ _ hk]
          rw [h3] at hg'
          show Hot E g' (denB σ'.blk (σ'.blk g'))
          cases hq : σ'.blk g' <;> rw [hq] at hg' <;> exact hg'
        exact hk (hr.mem.inj g' g hg1 (by rw [show σ'.den.blk g = .row T.size e' (denS l) by show denB _ _ = _; rw [hb']; rfl]; exact hvr) hbe)

/-- The least and the greatest of two numbers. -/
theorem T.min {x y : Operand} {ts : Array TypeId} {k : IntKind} {a b : Int} (ho : o.op = .call ⟨.builtin .min, #[x, y], ts⟩) (hx : σ.eval x = .int k a) (hy : σ.eval y = .int k b) (hd : dstOk o nt = true) : TDoesB P nt o σ ⟨tmpsIn [x, y], [], .int k (if b < a then b else a), []⟩ := fun σ' ha =>
  TDoes.val (Does.value hd fun w0 U E c w hrel => by
    have h1 := hrel.eval x
    rw [ha.dev (x := x) (by simp), hx] at h1
    have h2 := hrel.eval y
    rw [ha.dev (x := y) (by simp), hy] at h2
    refine ⟨.int k (if b < a then b else a), ?_, .d (.int _ _)⟩
    rw [execOp, ho]
    have e1 := int_of h1
    have e2 := int_of h2
    simp [resolve, invoke, builtin, Builtin.min_, Builtin.min2, e1, e2])
theorem T.max {x y : Operand} {ts : Array TypeId} {k : IntKind} {a b : Int} (ho : o.op = .call ⟨.builtin .max, #[x, y], ts⟩) (hx : σ.eval x = .int k a) (hy : σ.eval y = .int k b) (hd : dstOk o nt = true) : TDoesB P nt o σ ⟨tmpsIn [x, y], [], .int k (if a < b then b else a), []⟩ := fun σ' ha =>
  TDoes.val (Does.value hd fun w0 U E c w hrel => by
    have h1 := hrel.eval x
    rw [ha.dev (x := x) (by simp), hx] at h1
    have h2 := hrel.eval y
    rw [ha.dev (x := y) (by simp), hy] at h2
    refine ⟨.int k (if a < b then b else a), ?_, .d (.int _ _)⟩
    rw [execOp, ho]
    have e1 := int_of h1
    have e2 := int_of h2
    simp [resolve, invoke, builtin, Builtin.max_, Builtin.max2, e1, e2])
/-- A function as a value, with what it holds. -/
theorem T.mkfn {f : FuncId} {xs : Array Operand} (ho : o.op = .makeFunc (.func f) #[] xs) (hd : dstOk o nt = true) : TDoesB P nt o σ ⟨tmpsIn xs.toList, [], .fn f (xs.toList.map σ.eval), []⟩ := fun σ' ha =>
  TDoes.val (Does.value hd fun w0 U E c w hrel => by
    refine ⟨.func (.func f) #[] (xs.map c.eval), by rw [execOp, ho]; simp [Instr.makeFunc], ?_⟩
    show VA _ _ _ _ _ (denV σ'.blk (.fn f (xs.toList.map σ.eval))) _
    simp only [denV]
    have e : xs.map c.eval = (xs.toList.map c.eval).toArray := by apply Array.ext'; simp
    rw [e]
    refine .fn (by simp [denVs_map]) fun i x u hx hu => ?_
    rw [denVs_map, List.map_map, List.getElem?_map] at hx
    obtain ⟨y, hy, rfl⟩ := Option.map_eq_some_iff.1 hx
    rw [List.getElem?_map, hy] at hu
    obtain rfl : c.eval y = u := by simpa using hu
    have := hrel.eval y
    rw [ha.dev (x := y) (List.mem_of_getElem? hy)] at this
    exact this)
end
end Go.Proofs.Ytmkfpfnjimmmaaa
