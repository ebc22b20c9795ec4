/- Plain data as the calculus has them: bytes, numbers, letters, queues, models. Nothing of the dump stands here. -/
import Derived.Test.YtmkfpfnjimmmaaaSepK
import Derived.Laws.Small
import Derived.Lib.UnsafeStr
namespace Go.Proofs.Ytmkfpfnjimmmaaa
open Go.RowKit
set_option linter.unusedVariables false

def dInt (x : Int) : List D := [.int .i64 x]
def dByte (b : UInt8) : List D := [.int .u8 (b.toNat : Int)]
def dBytes (l : List UInt8) : D := .view 1 (l.map dByte)
def dInts (l : List Int) : D := .view 1 (l.map dInt)
def dParts (l : List (List UInt8)) : D := .view 1 (l.map fun x => [dBytes x])
def avD (l : List D) : AV := .agg (l.map .d)

theorem map_at {α β : Type} {f : α → β} {l : List α} {i : Nat} {x : α} (h : l[i]? = some x) : (l.map f)[i]? = some (f x) := by rw [List.getElem?_map, h]; rfl
theorem map_set {α β : Type} (f : α → β) (l : List α) (i : Nat) (x : α) : (l.map f).set i (f x) = (l.set i x).map f := by rw [List.map_set]
section
variable {P : Program} {nt : Nat} {o : Oper} {σ : St}
theorem B.boolEql {t ty : TypeId} {x y : Operand} {a b : Bool} (ho : o.op = .binOp .eql t x y ty) (ht : P.underlying t = some .bool) (hx : σ.eval x = .d (.bool a)) (hy : σ.eval y = .d (.bool b)) (hd : dstOk o nt = true) : DoesB P nt o σ ⟨tmpsIn [x, y], [], .d (.bool (a == b)), []⟩ := fun σ' ha =>
  Does.value hd fun w0 U E c w hrel => by
    have h1 := hrel.eval x
    rw [ha.eval (x := x) (by simp), hx] at h1
    have h2 := hrel.eval y
    rw [ha.eval (x := y) (by simp), hy] at h2
    refine ⟨.bool (a == b), ?_, .d (.bool _)⟩
    rw [execOp, ho]
    simp only [bool_of h1, bool_of h2]
    have hg : (eqGuard .eql t x y (.bool a) (.bool b)).run P w = .ok () w := rfl
    simp [Sem.run_bind, hg, run_eql_bool w t a b ht]
theorem B.boolNeq {t ty : TypeId} {x y : Operand} {a b : Bool} (ho : o.op = .binOp .neq t x y ty) (ht : P.underlying t = some .bool) (hx : σ.eval x = .d (.bool a)) (hy : σ.eval y = .d (.bool b)) (hd : dstOk o nt = true) : DoesB P nt o σ ⟨tmpsIn [x, y], [], .d (.bool (a != b)), []⟩ := fun σ' ha =>
  Does.value hd fun w0 U E c w hrel => by
    have h1 := hrel.eval x
    rw [ha.eval (x := x) (by simp), hx] at h1
    have h2 := hrel.eval y
    rw [ha.eval (x := y) (by simp), hy] at h2
    refine ⟨.bool (a != b), ?_, .d (.bool _)⟩
    rw [execOp, ho]
    simp only [bool_of h1, bool_of h2]
    have hg : (eqGuard .neq t x y (.bool a) (.bool b)).run P w = .ok () w := rfl
    simp [Sem.run_bind, hg, binOp, run_equal_bool w t a b ht, bne]
theorem B.quo64 {t ty : TypeId} {x y : Operand} {a b : Int} (ho : o.op = .binOp .quo t x y ty) (hx : σ.eval x = .d (.int .i64 a)) (hy : σ.eval y = .d (.int .i64 b)) (h : 0 ≤ a ∧ a ≤ 9223372036854775807 ∧ 1 ≤ b) (hd : dstOk o nt = true) :
    DoesB P nt o σ ⟨tmpsIn [x, y], [], .d (.int .i64 (a / b)), []⟩ := B.bin (r := .int .i64 (a / b)) ho hx hy (rv := .int .i64 (a / b)) (fun w => by
      have hb : b ≠ 0 := by omega
      simp [binOp, Op.intDiv, hb, IntWalk.i64_quo a b h]) rfl hd
theorem B.rem64 {t ty : TypeId} {x y : Operand} {a b : Int} (ho : o.op = .binOp .rem t x y ty) (hx : σ.eval x = .d (.int .i64 a)) (hy : σ.eval y = .d (.int .i64 b)) (h : 0 ≤ a ∧ 1 ≤ b) (hd : dstOk o nt = true) :
    DoesB P nt o σ ⟨tmpsIn [x, y], [], .d (.int .i64 (a % b)), []⟩ := B.bin (r := .int .i64 (a % b)) ho hx hy (rv := .int .i64 (a % b)) (fun w => by
      have hb : b ≠ 0 := by omega
      simp [binOp, Op.intDiv, hb, Int.tmod_eq_emod_of_nonneg h.1]) rfl hd
end

theorem VD.cells {w w' : World} {F U : Nat → Prop} {base : Nat} (hs : w.heap.size ≤ w'.heap.size) (hc : ∀ p v, w.cell? p = some v → w'.cell? p = some v) {x : D} {v : Value} (h : VD w F U base x v) : VD w' F U base x v := by
  induction h with
  | int => exact .int _ _
  | bool => exact .bool _
  | view u hl hcp hm hz hsz hat hV ih =>
    refine .view u hl hcp hm hz hsz (fun i x hx => ?_) ih
    obtain ⟨b, off, ha, ⟨h1, h2, h3⟩, h5⟩ := hat i x hx
    exact ⟨b, off, ha, ⟨Nat.lt_of_lt_of_le h1 hs, h2, h3⟩, fun j hj => hc _ _ (h5 j hj)⟩
theorem VA.cells {E : Env} {w w' : World} {F U : Nat → Prop} {base : Nat} (hs : w.heap.size ≤ w'.heap.size) (hc : ∀ p v, w.cell? p = some v → w'.cell? p = some v) {x : AV} {v : Value} (h : VA E w F U base x v) : VA E w' F U base x v := by
  induction h with
  | d h => exact .d (h.cells hs hc)
  | agg hl _ ih => exact .agg hl ih
  | tup hl _ ih => exact .tup hl ih
  | ptr hk => exact .ptr hk
  | vptr u hok hcl hv => exact .vptr u ⟨Nat.lt_of_lt_of_le hok.1 hs, hok.2⟩ (fun j hj => hc _ _ (hcl j hj)) (fun j d hd => (hv j d hd).cells hs hc)
  | lent u hl hcp hm hz hsz hat hV =>
    refine .lent u hl hcp hm hz hsz (fun i x hx => ?_) (fun i x j d hx hd => (hV i x j d hx hd).cells hs hc)
    obtain ⟨b, off, ha, ⟨h1, h2, h3⟩, h5⟩ := hat i x hx
    exact ⟨b, off, ha, ⟨Nat.lt_of_lt_of_le h1 hs, h2, h3⟩, fun j hj => hc _ _ (h5 j hj)⟩
  | own hk hvr hn hm ha => exact .own hk hvr hn hm ha
  | onil hk hv => exact .onil hk hv
  | nsl => exact .nsl
  | nptr => exact .nptr
  | fn hl _ ih => exact .fn hl ih
  | und => exact .und _

/-- A block that nobody writes gets marks. -/
theorem Rel.marked {nt : Nat} {σ : St} {w0 : World} {U : Nat → Prop} {E : Env} {a : Act} {w w' : World} (hr : Rel w0 U nt σ E a w) {k : Nat} (hk : ∀ g, Hot E g (σ.blk g) → E.β g ≠ k) (hs : w'.heap.size = w.heap.size) (hb : ∀ b, b ≠ k → w'.heap[b]? = w.heap[b]?) (hc : ∀ p v, w.cell? p = some v → w'.cell? p = some v) (hw : Below w0.heap.size w0 w') : Rel w0 U nt σ E a w' := by
  refine ⟨⟨hw, fun g => ?_, hr.mem.inj⟩, hr.size, hr.defers, fun t => (hr.tmp t).cells (Nat.le_of_eq hs.symm) hc⟩
  have h1 := hr.mem.blk g
  have h2 := hk g
  generalize σ.blk g = x at h1 h2
  cases x with
  | row sz e es =>
    obtain ⟨r1, r2, r3, r4, r5, r6, r7⟩ := h1
    refine ⟨r1, r2, r3, r4, r5, r6, fun hv => ?_⟩
    obtain ⟨s1, cur, s2, s3, s4⟩ := r7 hv
    refine ⟨s1, cur, (hb _ (h2 hv)).trans s2, s3, fun i x hx => ⟨(s4 i x hx).1, fun j d hd => ?_⟩⟩
    obtain ⟨u, t1, t2⟩ := (s4 i x hx).2 j d hd
    exact ⟨u, t1, t2.cells (Nat.le_of_eq hs.symm) hc⟩
  | var e cs =>
    obtain ⟨r1, r2, cur, r3, r4, r5⟩ := h1
    refine ⟨r1, r2, cur, (hb _ (h2 trivial)).trans r3, r4, fun j x hx => ⟨(r5 j x hx).1, ?_⟩⟩
    obtain ⟨_, u, t1, t2⟩ := r5 j x hx
    exact ⟨u, t1, t2.cells (Nat.le_of_eq hs.symm) hc⟩
  | dead => exact h1
  | free => exact h1

theorem freeze_heap {w : World} {a : Addr} {n b : Nat} (h : b ≠ a.block) : (w.freeze a n).heap[b]? = w.heap[b]? := by
  unfold World.freeze
  split
  · rfl
  · simp only [Array.getElem?_modify]
    rw [if_neg (by omega)]
theorem freeze_size {w : World} {a : Addr} {n : Nat} : (w.freeze a n).heap.size = w.heap.size := by
  unfold World.freeze
  split <;> simp
theorem freeze_cell {w : World} {a p : Addr} {n : Nat} {v : Value} (h : w.cell? p = some v) : (w.freeze a n).cell? p = some v := by
  by_cases hp : p.block = a.block
  · unfold World.freeze
    split
    · exact h
    · unfold World.cell? at h ⊢
      simp only [Array.getElem?_modify]
      rw [if_pos hp.symm]
      revert h
      cases w.heap[p.block]? with
      | none => intro h; cases h
      | some ob =>
        intro h
        cases ob <;> first | cases h | exact h
  · unfold World.cell? at h ⊢
    rw [freeze_heap hp]
    exact h

section
variable {P : Program} {nt : Nat} {o : Oper} {σ : St}
/-- A literal that is turned into a slice of its own type is read from then on. -/
theorem B.mark {s e : TypeId} {x : Operand} {g n sz : Nat} {e' : TypeId} {es : List (List D)} (ho : o.op = .convert s s x) (hs : P.underlying s = some (.slice e)) (he : P.underlying e = some (.int .u8)) (hx : σ.eval x = .own g 0 n) (hb : σ.blk g = .row sz e' es) (hn : n = es.length) (hpos : 0 < n) (hd : dstOk o nt = true) :
    DoesB P nt o σ ⟨tmpsIn [x], [g], .d (.view sz es), [(g, .dead)]⟩ := fun σ' ha w0 U E a w N Q hr hN => by
  have hb' : σ'.blk g = .row sz e' es := (ha.2 g (by simp)).trans hb
  have ex : σ'.eval x = .own g 0 n := (ha.eval (by simp)).trans hx
  have hv := hr.eval x
  rw [ex] at hv
  have hfz := hv.weak hr (gs := [g]) (x' := .d (.view sz es)) (.fz0 (by simp) hb' hn)
  have hrf := hr.weaken [g] (fun k hk => by have hkg : k = g := (by simpa using hk); rw [hkg]; exact ⟨_, _, _, hb'⟩) ⟨σ'.tmp, upd σ'.blk g .dead⟩ (fun t => .refl _) (fun k => .inl (by
    show upd σ'.blk g _ k = _
    by_cases hk : k = g
    · subst hk; rw [upd_same, killed_in (by simp)]
    · rw [upd_other _ _ _ hk, killed_out (by simpa using hk)]))
  have hkd : killed σ'.blk [g] = upd σ'.blk g .dead := by
    funext k
    by_cases hk : k = g
    · subst hk; rw [upd_same, killed_in (by simp)]
    · rw [upd_other _ _ _ hk, killed_out (by simpa using hk)]
  rw [hkd] at hfz
  generalize hav : a.eval x = v at hv hfz
  have hbl := hr.mem.blk g
  rw [hb'] at hbl
  obtain ⟨r1, r2, r3, r4, r5, r6, r7⟩ := hbl
  cases hv with
  | onil hk hv => omega
  | @own _ _ _ ad cap hk hvr hn' hm had =>
    obtain ⟨e1, e2⟩ := had (.inl rfl)
    obtain ⟨s1, cur, s2, s3, s4⟩ := r7 hvr
    have hsh : w.shape? ad.block = some (e', cur.size) := by
      rw [e1]
      unfold World.shape?
      rw [s2]
    have hrun : (execOp a.eval o).run P w = .ok (.value (.slice (some ad) n cap)) (w.freeze ⟨ad.block, cur.size, none⟩ 1) := by
      rw [execOp, ho]
      simp only [hav]
      simp [convert, Sem.run_bind, run_underlying hs w, run_underlying he w, markStringish, hsh]
    unfold Oper.wp
    rw [hrun]
    have hblk : ad.block = E.β g := by rw [e1]
    have hlow : w0.heap.size ≤ ad.block := by rw [hblk]; exact s1
    have hr2 := hrf.marked (w' := w.freeze ⟨ad.block, cur.size, none⟩ 1) (k := ad.block) (fun g' hg' => ?_) freeze_size (fun b hb => freeze_heap hb) (fun p v h => freeze_cell h) (Go.Lib.below_freeze (p := ⟨ad.block, cur.size, none⟩) hr.mem.below hlow _)
    · exact hN E _ _ (hr2.undef (dstOk_lt hd) (hfz.cells (Nat.le_of_eq freeze_size.symm) (fun p v h => freeze_cell h)))
    · rw [hblk]
      intro hbe
      have hg1 : Hot E g' (σ'.blk g') := by
        have : upd σ'.blk g .dead g' = σ'.blk g' := by
          by_cases hk : g' = g
          · subst hk; rw [show ({ tmp := σ'.tmp, blk := upd σ'.blk g' Blk.dead } : St).blk g' = .dead from upd_same _ _ _] at hg'; cases hg'
          · exact upd_other _ _ _ hk
        rw [← this]; exact hg'
      have := hr.mem.inj g' g hg1 (by rw [hb']; exact hvr) hbe
      subst this
      rw [show ({ tmp := σ'.tmp, blk := upd σ'.blk g' Blk.dead } : St).blk g' = .dead from upd_same _ _ _] at hg'
      cases hg'
end
theorem Loc.d' {B : Nat → Blk} {gs ks : List Nat} {x y : D} (h : x = y) : Loc B gs ks (.d x) (.d y) := by subst h; exact .d _
theorem Loc.fz' {B : Nat → Blk} {gs ks : List Nat} {g n sz : Nat} {e : TypeId} {es es' : List (List D)} (hg : g ∈ gs) (hb : B g = .row sz e es) (hn : n = es.length) (he : es = es') : Loc B gs ks (.own g 0 n) (.d (.view sz es')) := by subst he; exact .fz hg hb hn

/-! Rules whose premises are looked for. -/
section
variable {P : Program} {nt : Nat} {o : Oper} {σ : St}
theorem B.mA {x : Operand} {v : AV} (ho : o.op = .move x ∨ o.op = .assign x := by first | exact .inl rfl | exact .inr rfl) (hv : IsV (σ.eval x) v := by first | exact .d _ | exact .own _ _ _ | exact .ptr _ _ _ | exact .agg _ | exact .nsl | exact .lent _ _ | exact .vptr _ _ _ | exact .tup _ | exact .nptr | exact .fn _ _ | exact .und) (hd : dstOk o nt = true := by rfl) : DoesB P nt o σ ⟨tmpsIn [x], [], v, []⟩ := B.mv ho hv hd
theorem B.fA {s f off n g i j : Nat} {b : Bool} {x : Operand} (hf : fldOf P s f = some (off, b, n)) (ho : o.op = .fieldAddr s x f := by rfl) (hn : n ≠ 0 := by decide) (hx : σ.eval x = .ptr g i j := by rfl) (hd : dstOk o nt = true := by rfl) : DoesB P nt o σ ⟨tmpsIn [x], [], .ptr g i (j + off), []⟩ := B.fld ho hf hn hx hd
theorem B.gA {s f off n : Nat} {b fr : Bool} {cs : List D} {j : Nat} {x : Operand} (hf : fldOf P s f = some (off, b, n)) (ho : o.op = .fieldAddr s x f := by rfl) (hn : n ≠ 0 := by decide) (hx : σ.eval x = .vptr fr cs j := by rfl) (hd : dstOk o nt = true := by rfl) : DoesB P nt o σ ⟨tmpsIn [x], [], .vptr fr cs (j + off), []⟩ := B.vfld ho hf hn hx hd
theorem B.l1 {t : TypeId} {n : Nat} {x : Operand} {rb : List Nat} {v : AV} {cs : List AV} (ht : tyOf P t = some (false, n)) (ho : o.op = .load t x := by rfl) (hx : Reads σ (σ.eval x) rb (v :: cs) := by first | exact .v rfl rfl rfl | exact .w rfl rfl | exact .r rfl rfl (by assumption) rfl) (hd : dstOk o nt = true := by rfl) : DoesB P nt o σ ⟨tmpsIn [x], rb, v, []⟩ := B.load1 ho ht hx hd
theorem B.lN {t : TypeId} {n : Nat} {x : Operand} {rb : List Nat} {cs vs : List AV} (ht : tyOf P t = some (true, n)) (ho : o.op = .load t x := by rfl) (hx : Reads σ (σ.eval x) rb cs := by first | exact .v rfl rfl rfl | exact .w rfl rfl | exact .r rfl rfl (by assumption) rfl) (hvo : takeO n cs = some vs := by rfl) (hd : dstOk o nt = true := by rfl) : DoesB P nt o σ ⟨tmpsIn [x], rb, .agg vs, []⟩ := B.loadN ho ht hx hvo hd
theorem B.xA {x : Operand} {i : Nat} {vs : List AV} {v : AV} (ho : o.op = .extract x i := by rfl) (hx : σ.eval x = .tup vs := by rfl) (hv : vs[i]? = some v := by rfl) (hd : dstOk o nt = true := by rfl) : DoesB P nt o σ ⟨tmpsIn [x], [], v, []⟩ := B.extract ho hx hv hd
theorem B.nA {x : Operand} {t e : TypeId} {n : Nat} (ht : P.underlying t = some (.slice e)) (ho : o.op = .call { callee := .builtin .len, args := #[x], argTypes := #[t] } := by rfl) (hx : lenAV (σ.eval x) = some n := by rfl) (hd : dstOk o nt = true := by rfl) : DoesB P nt o σ ⟨tmpsIn [x], [], .d (.int .i64 n), []⟩ := B.len ho ht hx hd
theorem B.bA {t : TypeId} {x : Operand} {g : Nat} {cs : List AV} (ho : o.op = .box t x := by rfl) (hx : FlatV (σ.eval x) cs := by first | exact .agg _ | exact .d _ | exact .own _ _ _ | exact .nsl | exact .ptr _ _ _) (hl : leaves cs = true := by rfl) (hg : σ.blk g = .free := by rfl) (hd : dstOk o nt = true := by rfl) : DoesB P nt o σ ⟨tmpsIn [x], [g], .ptr g 0 0, [(g, .var t cs)]⟩ := B.box ho hx.eq hl hg hd
theorem B.aA {t : TypeId} {g : Nat} {cs : List AV} (hz : zeroAV P t = some cs) (ho : o.op = .alloc t := by rfl) (hl : leaves cs = true := by rfl) (hg : σ.blk g = .free := by rfl) (hd : dstOk o nt = true := by rfl) : DoesB P nt o σ ⟨[], [g], .ptr g 0 0, [(g, .var t cs)]⟩ := B.alloc ho hz hl hg hd
theorem B.sA {t n g j : Nat} {e : TypeId} {x y : Operand} {b : Bool} {cs ws cs' : List AV} (ht : tyOf P t = some (b, n)) (ho : o.op = .store t x y := by rfl) (hx : σ.eval x = .ptr g 0 j := by rfl) (hb : σ.blk g = .var e cs := by rfl) (hy : FlatV (σ.eval y) ws := by first | exact .agg _ | exact .d _ | exact .own _ _ _ | exact .nsl | exact .ptr _ _ _) (hl : leaves ws = true := by rfl) (hn : ws.length = n := by rfl) (hs : splice cs j ws = some cs' := by rfl) (hd : o.dst = none := by rfl) :
    DoesB P nt o σ ⟨tmpsIn [x, y], [g], .und, [(g, .var e cs')]⟩ := B.storeVar ho ht hx hb hy.eq hl hn hs hd
theorem B.pT {c x y : Operand} {v : AV} (ho : o.op = .pick c x y := by rfl) (hc : σ.eval c = .d (.bool true) := by rfl) (hv : IsV (σ.eval x) v := by first | exact .d _ | exact .own _ _ _ | exact .ptr _ _ _ | exact .agg _ | exact .nsl | exact .lent _ _ | exact .vptr _ _ _ | exact .tup _ | exact .nptr | exact .fn _ _ | exact .und) (hd : dstOk o nt = true := by rfl) : DoesB P nt o σ ⟨tmpsIn [c, x, y], [], v, []⟩ := B.pickT ho hc hv hd
theorem B.pF {c x y : Operand} {v : AV} (ho : o.op = .pick c x y := by rfl) (hc : σ.eval c = .d (.bool false) := by rfl) (hv : IsV (σ.eval y) v := by first | exact .d _ | exact .own _ _ _ | exact .ptr _ _ _ | exact .agg _ | exact .nsl | exact .lent _ _ | exact .vptr _ _ _ | exact .tup _ | exact .nptr | exact .fn _ _ | exact .und) (hd : dstOk o nt = true := by rfl) : DoesB P nt o σ ⟨tmpsIn [c, x, y], [], v, []⟩ := B.pickF ho hc hv hd
theorem ArgsA.c {rb : List Nat} {x y : AV} {xs ys : List AV} (hs : ArgsA σ rb xs ys) (h : ArgA σ rb x y := by first | exact .d _ | exact .lent _ _ | exact .nv _ | exact .nlent _ | exact .nsl | exact .lnd _ _ | exact .own (by simp) rfl rfl | exact .aggL (by repeat (first | exact L2.nil | (apply L2.cons; focus (first | exact .d _ | exact .lent _ _ | exact .nv _ | exact .nlent _ | exact .nsl | exact .lnd _ _ | exact .own (by simp) rfl rfl))))) : ArgsA σ rb (x :: xs) (y :: ys) := .cons h hs
theorem B.call0 {f : FuncId} {xs : Array Operand} {ts : Array TypeId} {as' : List AV} {r r' : AV} {k : Nat} (ho : o.op = .call { callee := .value (.func f), args := xs, argTypes := ts }) (hf : ∀ (us : Array Value) (u : World), (callFunc f us).run P u = .ok (.enter f us) u) (hc : ACalls P f as' fun q qs => q = r ∧ qs = []) (hargs : ArgsA σ [] (xs.toList.map σ.eval) as')
    (hren : Ren (fun g g' => g < ([] : List RB).length ∧ g' = k + g) r r' := by first | exact .d _ | exact .nsl | exact .aggL (by repeat (first | exact L2.nil | (apply L2.cons; focus (first | exact .d _ | exact .nsl)))) | exact .tupL (by repeat (first | exact L2.nil | (apply L2.cons; focus (first | exact .aggL (by repeat (first | exact L2.nil | (apply L2.cons; focus (first | exact .d _ | exact .nsl)))) | exact .d _ | exact .nsl))))) (hd : dstOk o nt = true := by rfl) : DoesB P nt o σ ⟨tmpsIn xs.toList, List.range' k ([] : List RB).length ++ [], r', rowsAt k []⟩ := B.call ho hf hargs hc rfl hren hd
theorem ResL.t {t : Nat} {v : AV} {xs : List ResultVar} {ys : List AV} (hs : ResL P σ xs ys) (h : IsV (σ.tmp t) v := by first | exact .d _ | exact .own _ _ _ | exact .ptr _ _ _ | exact .agg _ | exact .nsl | exact .lent _ _ | exact .vptr _ _ _ | exact .tup _ | exact .nptr | exact .fn _ _ | exact .und) : ResL P σ (.tmp t :: xs) (v :: ys) := .cons (.t h) hs
theorem ResL.u {t n : Nat} {ty : TypeId} {rb : List Nat} {v : AV} {cs : List AV} {xs : List ResultVar} {ys : List AV} (ht : tyOf P ty = some (false, n)) (hs : ResL P σ xs ys) (hx : Reads σ (σ.tmp t) rb (v :: cs) := by first | exact .v rfl rfl rfl) : ResL P σ (.cell t ty :: xs) (v :: ys) := .cons (.one ht hx) hs
theorem ResL.m {t n : Nat} {ty : TypeId} {rb : List Nat} {vs cs : List AV} {xs : List ResultVar} {ys : List AV} (ht : tyOf P ty = some (true, n)) (hs : ResL P σ xs ys) (hx : Reads σ (σ.tmp t) rb cs := by first | exact .v rfl rfl rfl) (hv : takeO n cs = some vs := by rfl) : ResL P σ (.cell t ty :: xs) (.agg vs :: ys) := .cons (.many ht hx hv) hs
/-- All that is handed back is plain; what it is, is not said yet. -/
theorem Ret.a1 {fn : Func} {post : AV → List RB → Prop} {rs : List ResultVar} {vs : List AV} {r1 r : AV} (gs : List Nat) (hrs : fn.results.toList = rs) (h : ResL P σ rs vs) (hgs : ∀ g ∈ gs, ∃ sz e es, σ.blk g = .row sz e es) (hp : post r []) (hw : Weak σ.blk (· ∈ gs) (resVal vs) r1 := by first | exact .aggL (by repeat (first | exact L2.nil | (apply L2.cons; focus (first | exact .fz0 (by simp) (by rfl) (by first | rfl | (simp; done) | assumption | omega | (simp; omega)) | exact .nsl (sz := 1) | exact .refl _)))) | exact .tupL (by repeat (first | exact L2.nil | (apply L2.cons; focus (first | exact .aggL (by repeat (first | exact L2.nil | (apply L2.cons; focus (first | exact .fz0 (by simp) (by rfl) (by first | rfl | (simp; done) | assumption | omega | (simp; omega)) | exact .nsl (sz := 1) | exact .refl _)))) | exact .fz0 (by simp) (by rfl) (by first | rfl | (simp; done) | assumption | omega | (simp; omega)) | exact .nsl (sz := 1) | exact .refl _)))) | exact .fz0 (by simp) (by rfl) (by first | rfl | (simp; done) | assumption | omega | (simp; omega)) | exact .nsl (sz := 1) | exact .refl _) (hn : Ren (fun _ _ => False) r1 r := by first | exact .d _ | exact .aggL (by repeat (first | exact L2.nil | (apply L2.cons; focus (first | exact .d _)))) | exact .tupL (by repeat (first | exact L2.nil | (apply L2.cons; focus (first | exact .aggL (by repeat (first | exact L2.nil | (apply L2.cons; focus (first | exact .d _)))) | exact .d _))))) : Ret P fn σ post := .all gs hrs h hgs hw hn hp
/-- All that is handed back is plain, and known. -/
theorem Ret.a2 {fn : Func} {post : AV → List RB → Prop} {rs : List ResultVar} {vs : List AV} (gs : List Nat) (r1 : AV) {r : AV} (hrs : fn.results.toList = rs) (h : ResL P σ rs vs) (hgs : ∀ g ∈ gs, ∃ sz e es, σ.blk g = .row sz e es) (hp : post r []) (hw : Weak σ.blk (· ∈ gs) (resVal vs) r1 := by first | exact .aggL (by repeat (first | exact L2.nil | (apply L2.cons; focus (first | exact .fz0 (by simp) (by rfl) (by first | rfl | (simp; done) | assumption | omega | (simp; omega)) | exact .nsl _ | exact .refl _)))) | exact .tupL (by repeat (first | exact L2.nil | (apply L2.cons; focus (first | exact .aggL (by repeat (first | exact L2.nil | (apply L2.cons; focus (first | exact .fz0 (by simp) (by rfl) (by first | rfl | (simp; done) | assumption | omega | (simp; omega)) | exact .nsl _ | exact .refl _)))) | exact .fz0 (by simp) (by rfl) (by first | rfl | (simp; done) | assumption | omega | (simp; omega)) | exact .nsl _ | exact .refl _)))) | exact .fz0 (by simp) (by rfl) (by first | rfl | (simp; done) | assumption | omega | (simp; omega)) | exact .nsl _ | exact .refl _) (hn : Ren (fun _ _ => False) r1 r := by first | exact .d _ | exact .aggL (by repeat (first | exact L2.nil | (apply L2.cons; focus (first | exact .d _)))) | exact .tupL (by repeat (first | exact L2.nil | (apply L2.cons; focus (first | exact .aggL (by repeat (first | exact L2.nil | (apply L2.cons; focus (first | exact .d _)))) | exact .d _))))) : Ret P fn σ post := .all gs hrs h hgs hw hn hp
/-- Where ways meet. -/
theorem Aw.meet {c : Code} {AQ : Exit → St → Prop} {M : St → Prop} (M' : St → Prop) (h : Aw P nt c (AThen M' AQ) σ) (hm : ∀ σ, M' σ → M σ) : Aw P nt c (AThen M AQ) σ := h.mono fun e σ hq => by cases e <;> first | exact hm _ hq | exact hq
end
theorem loc_u {B : Nat → Blk} {gs ks : List Nat} {T T' : Nat → AV} {t : Nat} {v : AV} (hs : ∀ t, Loc B gs ks (T t) (T' t)) (h : Loc B gs ks (T t) v := by first | exact .d _ | exact .ptr rfl | exact .own rfl | exact .nsl | exact .nv _ | exact .lent _ _ | exact .fz (by simp) (by rfl) (by first | rfl | (simp; done) | assumption | omega | (simp; omega)) | exact .aggL (by repeat (first | exact L2.nil | (apply L2.cons; focus (first | exact .d _ | exact .ptr rfl | exact .own rfl | exact .nsl | exact .nv _ | exact .lent _ _ | exact .fz (by simp) (by rfl) (by first | rfl | (simp; done) | assumption | omega | (simp; omega))))))) : ∀ k, Loc B gs ks (T k) (upd T' t v k) := loc_upd h hs
theorem LocB.va {B : Nat → Blk} {gs ks : List Nat} {e : TypeId} {cs cs' : List AV} (hl : cs.length = cs'.length := by rfl) (hlv : leaves cs' = true := by rfl) (h : ∀ (i : Nat) (x y : AV), cs[i]? = some x → cs'[i]? = some y → Loc B gs ks x y := by repeat (first | exact at_nil | refine at_cons (by first | exact .d _ | exact .ptr rfl | exact .own rfl | exact .nsl | exact .nv _ | exact .lent _ _ | exact .fz (by simp) (by rfl) (by first | rfl | (simp; done) | assumption | omega | (simp; omega)) | exact .aggL (by repeat (first | exact L2.nil | (apply L2.cons; focus (first | exact .d _ | exact .ptr rfl | exact .own rfl | exact .nsl | exact .nv _ | exact .lent _ _ | exact .fz (by simp) (by rfl) (by first | rfl | (simp; done) | assumption | omega | (simp; omega))))))) ?_)) : LocB B gs ks (.var e cs) (.var e cs') := .var hl hlv h
end Go.Proofs.Ytmkfpfnjimmmaaa
