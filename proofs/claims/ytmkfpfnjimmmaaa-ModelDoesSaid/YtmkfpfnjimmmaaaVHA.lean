/- Arrays: variables that are rows, their elements, slices of them, copy; slices of rows of the call's own; tables. Nothing of the dump stands here. -/
import Derived.Test.YtmkfpfnjimmmaaaVH
namespace Go.Proofs.Ytmkfpfnjimmmaaa
open Go.RowKit
set_option linter.unusedVariables false
set_option linter.unusedSimpArgs false

section
variable {P : Program} {nt : Nat} {o : Oper} {σ : St}

theorem new_arr {e0 : TypeId} {w0 : Cx} {U : Nat → Prop} {E : Env} {a : Act} {w : World} (hr : Rel w0 U nt σ E a w) {g sz : Nat} {e : TypeId} {es : List (List D)} (he0 : rty e = e0) (hg : σ.blk g = .free) (hpos : 0 < sz) (hm : es.length ≤ maxLen) {us : List Value} (hl : us.length = es.length * sz) (hsz : ∀ x ∈ es, x.length = sz)
    (h : ∀ (i : Nat) (y : AV) (u : Value), (es.flatten.map AV.d)[i]? = some y → us[i]? = some u → VA E w (Fof E σ.blk) U w0.heap.size y u) :
    BlkOk (E.add g w.heap.size sz es.length) (w.alloc (.cells us.toArray e0)) (Fof (E.add g w.heap.size sz es.length) (upd σ.blk g (.row sz e es))) U w0 g (.row sz e es) := by
  subst he0
  have hb : (E.add g w.heap.size sz es.length).β g = w.heap.size := upd_same _ _ _
  have hc : (E.add g w.heap.size sz es.length).cap g = es.length := upd_same _ _ _
  have hs : (E.add g w.heap.size sz es.length).sz g = sz := upd_same _ _ _
  have hv : (E.add g w.heap.size sz es.length).vr g = false := upd_same _ _ _
  refine ⟨.inl rfl, hs, hpos, by rw [hc]; exact hm, by rw [hc]; exact .self, (fun h1 => by rw [hv] at h1; cases h1), fun _ => ⟨by rw [hb]; exact hr.mem.below.mine (Nat.le_refl _), us.toArray, by rw [hb]; exact heap_new w _, by rw [hc]; simpa using hl, fun i x hx => ?_⟩⟩
  have hxl := hsz x (List.mem_of_getElem? hx)
  refine ⟨hxl, fun j d hd => ?_⟩
  have hj : j < sz := by rw [← hxl]; exact (List.getElem?_eq_some_iff.1 hd).1
  have hi : i < es.length := (List.getElem?_eq_some_iff.1 hx).1
  have hlt : i * sz + j < us.length := by
    rw [hl]
    have := Nat.mul_le_mul_right sz (show i + 1 ≤ es.length by omega)
    rw [Nat.add_mul] at this
    omega
  have hf : es.flatten[i * sz + j]? = some d := by rw [flat_at es i j hsz hj, hx]; exact hd
  have h1 := h (i * sz + j) (.d d) us[i * sz + j] (by rw [List.getElem?_map, hf]; rfl) (List.getElem?_eq_getElem hlt)
  refine ⟨us[i * sz + j], by simp [hlt], ?_⟩
  cases h1 with
  | d h2 => exact VD.added hr hg _ h2

theorem leaves_d (l : List D) : leaves (l.map AV.d) = true := List.all_eq_true.2 fun x hx => by
  obtain ⟨d, _, rfl⟩ := List.mem_map.1 hx
  rfl

/-- An array comes in by value. -/
theorem B.boxArr {t : TypeId} {x : Operand} {g sz : Nat} {es : List (List D)} (ho : o.op = .box t x) (hx : (σ.eval x).flat = es.flatten.map .d) (hpos : 0 < sz) (hm : es.length ≤ maxLen) (hsz : ∀ x ∈ es, x.length = sz) (he : Nat.blt t 1000 = true) (hg : σ.blk g = .free) (hd : dstOk o nt = true) : DoesB P nt o σ ⟨tmpsIn [x], [g], .ptr g 0 0, [(g, .row sz t es)]⟩ := fun σ' ha =>
  have hg' : σ'.blk g = .free := (ha.2 g (by simp)).trans hg
  Does.new (sz := sz) (cap := es.length) hd hg' fun w0 U E a w hr => by
    have h1 := hr.eval x
    rw [ha.eval (x := x) (by simp)] at h1
    obtain ⟨us, h2, h3, h4, h5⟩ := flat_of h1 (by rw [hx]; exact leaves_d _)
    rw [hx] at h3 h4
    have hul : us.length = es.length * sz := by rw [h3, List.length_map, flat_length es hsz]
    refine ⟨us.toArray, t, .pointer (some ⟨w.heap.size, 0, none⟩), ?_, new_arr hr (rty_of he) hg' hpos hm hul hsz h4, ?_⟩
    · rw [execOp, ho]
      simp [Instr.box, newVar, newRow, h2]
    · have := VA.ptr (E := E.add g w.heap.size sz es.length) (w := w.alloc (.cells us.toArray t)) (F := Fof (E.add g w.heap.size sz es.length) (upd σ'.blk g (.row sz t es))) (U := U) (base := w0.heap.size) (g := g) (i := 0) (j := 0) (.inl rfl)
      simpa [Env.add, upd_same] using this

/-- An array variable of noughts. -/
theorem B.allocArr {t : TypeId} {g sz : Nat} {es : List (List D)} (ho : o.op = .alloc t) (hz : zeroAV P t = some (es.flatten.map .d)) (hpos : 0 < sz) (hm : es.length ≤ maxLen) (hsz : ∀ x ∈ es, x.length = sz) (he : Nat.blt t 1000 = true) (hg : σ.blk g = .free) (hd : dstOk o nt = true) : DoesB P nt o σ ⟨[], [g], .ptr g 0 0, [(g, .row sz t es)]⟩ := fun σ' ha =>
  have hg' : σ'.blk g = .free := (ha.2 g (by simp)).trans hg
  Does.new (sz := sz) (cap := es.length) hd hg' fun w0 U E a w hr => by
    obtain ⟨i, z, h1, h2, h3⟩ := zeroAV_run hz
    have hul : z.cells.toList.length = es.length * sz := by
      have := congrArg List.length h3
      rw [List.length_map, List.length_map, flat_length es hsz] at this
      exact this
    have hnr := new_arr hr (rty_of he) hg' (e := t) (us := z.cells.toList) hpos hm hul hsz fun i y u hy hu => by
      rw [← h3, List.getElem?_map, hu] at hy
      obtain rfl : constAV u = y := by simpa using hy
      exact .const u
    have e1 : z.cells.toList.toArray = z.cells := by simp
    rw [e1] at hnr
    refine ⟨z.cells, t, .pointer (some ⟨w.heap.size, 0, none⟩), ?_, hnr, ?_⟩
    · rw [execOp, ho]
      simp [Instr.alloc, zeroValue, typeInfo, h1, h2, newVar, newRow]
    · have := VA.ptr (E := E.add g w.heap.size sz es.length) (w := w.alloc (.cells z.cells t)) (F := Fof (E.add g w.heap.size sz es.length) (upd σ'.blk g (.row sz t es))) (U := U) (base := w0.heap.size) (g := g) (i := 0) (j := 0) (.inl rfl)
      simpa [Env.add, upd_same] using this

/-- What a row's block holds, cell by cell. -/
theorem row_cells {w0 : Cx} {U : Nat → Prop} {E : Env} {a : Act} {w : World} (hr : Rel w0 U nt σ E a w) {g sz : Nat} {e : TypeId} {es : List (List D)} (hb : σ.blk g = .row sz e es) (hne : es ≠ []) :
    E.kn g ∧ E.sz g = sz ∧ 0 < sz ∧ Fits e es.length (E.cap g) ∧ E.cap g ≤ maxLen ∧ E.vr g = false ∧ w0.Mine (E.β g) ∧ (∀ x ∈ es, x.length = sz) ∧ ∃ cur, w.heap[E.β g]? = some (.cells cur (rty e) (0, 0)) ∧ cur.size = E.cap g * sz ∧ ∀ (i : Nat) (d : D), es.flatten[i]? = some d → ∃ u : Value, cur[i]? = some u ∧ VD w (Fof E σ.blk) U w0.heap.size d u := by
  have hbl := hr.mem.blk g
  rw [hb] at hbl
  obtain ⟨hk, hsz, hpos, hcap, hle, hvz, hre⟩ := hbl
  have hle1 := hle.1
  have hlen : 0 < es.length := List.length_pos_iff.2 hne
  have hv : E.vr g = false := by
    cases hq : E.vr g with
    | false => rfl
    | true => have := hvz hq; omega
  obtain ⟨hbase, cur, hg, hcs, hcc⟩ := hre hv
  have hall : ∀ x ∈ es, x.length = sz := fun x hx => by
    obtain ⟨i, hi⟩ := List.getElem?_of_mem hx
    exact (hcc i x hi).1
  refine ⟨hk, hsz, hpos, hle, hcap, hv, hbase, hall, cur, hg, hcs, fun k d hd => ?_⟩
  have hk : k < es.length * sz := by rw [← flat_length es hall]; exact (List.getElem?_eq_some_iff.1 hd).1
  have e1 : k = k / sz * sz + k % sz := by rw [Nat.mul_comm]; exact (Nat.div_add_mod k sz).symm
  have hi : k / sz < es.length := (Nat.div_lt_iff_lt_mul hpos).2 hk
  have hj : k % sz < sz := Nat.mod_lt _ hpos
  rw [e1, flat_at es _ _ hall hj, List.getElem?_eq_getElem hi] at hd
  obtain ⟨u, h1, h2⟩ := (hcc _ _ (List.getElem?_eq_getElem hi)).2 _ d hd
  exact ⟨u, by rw [e1]; exact h1, h2⟩

theorem load_arr {w0 : Cx} {U : Nat → Prop} {E : Env} {a : Act} {w : World} (hr : Rel w0 U nt σ E a w) {g sz n : Nat} {e : TypeId} {es : List (List D)} (hb : σ.blk g = .row sz e es) (hne : es ≠ []) (hn : es.flatten.length = n) :
    ∃ us : List Value, us.length = n ∧ (loadCells ⟨E.β g, 0, none⟩ n).run P w = .ok us.toArray w ∧ VA E w (Fof E σ.blk) U w0.heap.size (.agg (es.flatten.map .d)) (.agg us.toArray) := by
  obtain ⟨_, hsz, hpos, hle, _, hv, _, hall, cur, hg, hcs, hcc⟩ := row_cells hr hb hne
  have hfl : ∀ k, k < n → ∃ u, cur[k]? = some u ∧ ∀ d, es.flatten[k]? = some d → VD w (Fof E σ.blk) U w0.heap.size d u := fun k hk => by
    obtain ⟨u, q1, q2⟩ := hcc k es.flatten[k] (List.getElem?_eq_getElem (by omega))
    refine ⟨u, q1, fun d hd => ?_⟩
    rw [List.getElem?_eq_getElem (by omega)] at hd
    cases hd
    exact q2
  have hsz' : n ≤ cur.size := by
    rcases Nat.eq_zero_or_pos n with h | h
    · omega
    · obtain ⟨u, q1, _⟩ := hfl (n - 1) (by omega)
      have := (Array.getElem?_eq_some_iff.1 q1).1
      omega
  have hl : (loadCells ⟨E.β g, 0, none⟩ n).run P w = .ok (cur.toList.take n).toArray w := by
    have := run_loadCells_list (P := P) (w := w) ⟨E.β g, 0, none⟩ (cur.toList.take n) fun j v hv => by
      have hj : j < n := by
        have := (List.getElem?_eq_some_iff.1 hv).1
        simp at this; omega
      rw [List.getElem?_take_of_lt hj] at hv
      rw [addr_add, cell_of_row w _ _ cur _ (0, 0) hg, Nat.zero_add]
      simpa using hv
    rw [show (cur.toList.take n).length = n by simp; omega] at this
    exact this
  refine ⟨cur.toList.take n, by simp; omega, hl, ?_⟩
  refine .agg (by have := Array.length_toList (xs := cur); rw [List.length_map, List.length_take, hn]; omega) fun i y u hy hu => ?_
  rw [List.getElem?_map] at hy
  obtain ⟨d, hd, rfl⟩ := Option.map_eq_some_iff.1 hy
  have hi : i < n := by rw [← hn]; exact (List.getElem?_eq_some_iff.1 hd).1
  obtain ⟨u', q1, q2⟩ := hfl i hi
  rw [List.getElem?_take_of_lt hi] at hu
  have : cur[i]? = some u := by simpa using hu
  rw [q1] at this
  cases this
  exact .d (q2 d hd)

/-- An array variable as a whole. -/
theorem B.loadArr {t : TypeId} {n g sz : Nat} {x : Operand} {e : TypeId} {es : List (List D)} (ho : o.op = .load t x) (ht : tyOf P t = some (true, n)) (hx : σ.eval x = .ptr g 0 0) (hb : σ.blk g = .row sz e es) (hne : es ≠ []) (hn : es.flatten.length = n) (hd : dstOk o nt = true) : DoesB P nt o σ ⟨tmpsIn [x], [g], .agg (es.flatten.map .d), []⟩ := fun σ' ha =>
  Does.value hd fun w0 U E c w hr => by
    have h1 := hr.eval x
    rw [ha.eval (x := x) (by simp), hx] at h1
    obtain ⟨h2, hk⟩ := ptr_of h1
    obtain ⟨us, _, hl, hva⟩ := load_arr (P := P) hr ((ha.2 g (by simp)).trans hb) hne hn
    refine ⟨.agg us.toArray, ?_, hva⟩
    rw [execOp, ho]
    simp [h2, Instr.loadAt, Instr.sureAddr, loadVar, Sem.run_bind, (tyOf_run ht w).1, (tyOf_run ht w).2, hl]

/-- An array variable gets another value. -/
theorem B.storeArr {t n g sz : Nat} {e : TypeId} {x y : Operand} {b : Bool} {es es' : List (List D)} (ho : o.op = .store t x y) (ht : tyOf P t = some (b, n)) (hx : σ.eval x = .ptr g 0 0) (hb : σ.blk g = .row sz e es) (hne : es ≠ []) (hy : (σ.eval y).flat = es'.flatten.map .d) (hn : es'.flatten.length = n) (hle : es'.length = es.length) (hsz' : ∀ x ∈ es', x.length = sz) (hd : o.dst = none) :
    DoesB P nt o σ ⟨tmpsIn [x, y], [g], .und, [(g, .row sz e es')]⟩ := fun σ' ha => by
  have hb' : σ'.blk g = .row sz e es := (ha.2 g (by simp)).trans hb
  have ey : σ'.eval y = σ.eval y := ha.eval (by simp)
  have ex : σ'.eval x = σ.eval x := ha.eval (by simp)
  refine Does.store ho ht (by rw [ey, hy]; exact leaves_d _) (by rw [ey, hy, List.length_map]; exact hn) (fun w0 U E a w hr us hus hV => ?_) hd
  have h1 := hr.eval x
  rw [ex, hx] at h1
  obtain ⟨h2, hk⟩ := ptr_of h1
  obtain ⟨hk, hsz, hpos, hlc, hcap, hv, hmine, hall, cur, hg, hcs, hcc⟩ := row_cells hr hb' hne
  have hlc1 := hlc.1
  have hlv : Hot E g (σ'.blk g) := by rw [hb']; exact hv
  have hnl : n = es'.length * sz := by rw [← hn, flat_length es' hsz']
  have hfit : 0 + n ≤ cur.size := by
    rw [hcs, hnl, Nat.zero_add]
    exact Nat.mul_le_mul_right _ (by omega)
  refine ⟨0, cur, _, hlv, by rw [h2]; simp, hg, hfit, ?_⟩
  rw [List.take_zero, List.nil_append]
  refine ⟨hk, hsz, hpos, hcap, hlc.same hle, (fun h => by rw [hv] at h; cases h), fun _ => ⟨hmine, _, setRow_same hg _, by simp; omega, fun i z hz => ?_⟩⟩
  have hzl := hsz' z (List.mem_of_getElem? hz)
  have hi : i < es'.length := (List.getElem?_eq_some_iff.1 hz).1
  refine ⟨hzl, fun j d hdj => ?_⟩
  have hj : j < sz := by rw [← hzl]; exact (List.getElem?_eq_some_iff.1 hdj).1
  have hf : es'.flatten[i * sz + j]? = some d := by rw [flat_at es' i j hsz' hj, hz]; exact hdj
  have hlt : i * sz + j < us.length := by rw [hus, ← hn]; exact (List.getElem?_eq_some_iff.1 hf).1
  have h3 := hV (i * sz + j) (.d d) us[i * sz + j] (by rw [ey, hy, List.getElem?_map, hf]; rfl) (List.getElem?_eq_getElem hlt)
  refine ⟨us[i * sz + j], by rw [List.getElem?_toArray, List.getElem?_append_left hlt]; exact List.getElem?_eq_getElem hlt, ?_⟩
  cases h3 with
  | d h4 => exact VD.changed hr hlv _ h4

/-- The place of an element of an array variable that is a row. -/
theorem B.idxRow {t e : TypeId} {m sz g : Nat} {x ix : Operand} {k : IntKind} {q : Int} {i : Nat} {es : List (List D)} {e' : TypeId} (ho : o.op = .indexAddr t x ix) (ht : arrOf P t = some (m, e, sz)) (hx : σ.eval x = .ptr g 0 0) (hq : σ.eval ix = .d (.int k q)) (hb : σ.blk g = .row sz e' es) (hi : q = (i : Int)) (hlt : i < m) (hd : dstOk o nt = true) :
    DoesB P nt o σ ⟨tmpsIn [x, ix], [g], .ptr g i 0, []⟩ := fun σ' ha =>
  Does.value hd fun w0 U E c w hrel => by
    have h1 := hrel.eval x
    rw [ha.eval (x := x) (by simp), hx] at h1
    have h2 := hrel.eval ix
    rw [ha.eval (x := ix) (by simp), hq] at h2
    have hbl := hrel.mem.blk g
    rw [ha.2 g (by simp), hb] at hbl
    have hsz : E.sz g = sz := hbl.2.1
    obtain ⟨hu, inf, hinf, hs⟩ := arrOf_run ht
    obtain ⟨h3, hk⟩ := ptr_of h1
    have hrun : (Instr.indexAt t (.pointer (some ⟨E.β g, 0 * E.sz g + 0, none⟩)) (.int k q)).run P w = .ok (.pointer (some ⟨E.β g, i * E.sz g + 0, none⟩)) w := by
      have h0 : 0 ≤ q ∧ q < (m : Int) := by omega
      simp [Instr.indexAt, asIntOf, run_underlying hu w, h0, run_sizeOf' hinf, int_toNat hi, addr_add, hs, hsz, Instr.sureAddr]
    exact ⟨.pointer (some ⟨E.β g, i * E.sz g + 0, none⟩), by rw [execOp, ho]; simp only [h3, int_of h2, Sem.run_bind, hrun, Result.andThen_ok]; rfl, .ptr hk⟩

/-- An element of an array by value. -/
theorem B.idxVal {t e : TypeId} {m : Nat} {x ix : Operand} {k : IntKind} {q : Int} {i : Nat} {vs : List AV} {v : AV} (ho : o.op = .index t x ix) (ht : arrOf P t = some (m, e, 1)) (hag : tyOf P e = some (false, 1)) (hx : σ.eval x = .agg vs) (hq : σ.eval ix = .d (.int k q)) (hi : q = (i : Int)) (hlt : i < m) (hv : vs[i]? = some v) (hd : dstOk o nt = true) :
    DoesB P nt o σ ⟨tmpsIn [x, ix], [], v, []⟩ := fun σ' ha =>
  Does.value hd fun w0 U E c w hrel => by
    have h1 := hrel.eval x
    rw [ha.eval (x := x) (by simp), hx] at h1
    have h2 := hrel.eval ix
    rw [ha.eval (x := ix) (by simp), hq] at h2
    obtain ⟨hu, inf, hinf, hs⟩ := arrOf_run ht
    generalize hcx : c.eval x = cx at h1
    cases h1 with
    | @agg _ us hl h =>
      have hil : i < us.length := by rw [← hl]; exact (List.getElem?_eq_some_iff.1 hv).1
      refine ⟨us[i], ?_, h i v us[i] hv (List.getElem?_eq_getElem hil)⟩
      have h0 : 0 ≤ q ∧ q < (m : Int) := by omega
      rw [execOp, ho]
      simp only [hcx, int_of h2]
      have hr1 := (tyOf_run hag w).1
      have hr2 := (tyOf_run hag w).2
      have htn : q.toNat = i := int_toNat hi
      simp [Instr.index, part, asIntOf, Sem.run_bind, run_underlying hu w, h0, hr1, hr2, htn, run_sizeOf' hinf, hs, hil]

/-- A slice of an array variable. -/
theorem B.sliceArr {t e : TypeId} {m sz g : Nat} {e' : TypeId} {es : List (List D)} {x : Operand} {lo hi : Option Operand} {l h : Nat} (ho : o.op = .slice t x lo hi none) (ht : arrOf P t = some (m, e, sz)) (hx : σ.eval x = .ptr g 0 0) (hb : σ.blk g = .row sz e' es) (hm : m ≤ es.length)
    (hlo : match lo with | none => l = 0 | some y => ∃ k q, σ.eval y = .d (.int k q) ∧ q = (l : Int)) (hhi : match hi with | none => h = m | some y => ∃ k q, σ.eval y = .d (.int k q) ∧ q = (h : Int)) (h1 : l ≤ h) (h2 : h ≤ m) (h3 : l < m) (hd : dstOk o nt = true) :
    DoesB P nt o σ ⟨tmpsIn (x :: (lo.toList ++ hi.toList)), [g], .part g l (h - l), []⟩ := fun σ' ha =>
  Does.value hd fun w0 U E c w hrel => by
    have hxv := hrel.eval x
    rw [ha.eval (x := x) (by simp), hx] at hxv
    obtain ⟨h4, hk⟩ := ptr_of hxv
    obtain ⟨_, hsz, hpos, hle, hcm, hvr, _⟩ := row_cells hrel ((ha.2 g (by simp)).trans hb) (by rintro rfl; simp at hm; omega)
    have hle1 := hle.1
    obtain ⟨hu, inf, hinf, hs⟩ := arrOf_run ht
    have hhb : match hi with | none => h = m | some y => ∃ k, c.eval y = .int k (h : Int) := by
      cases hi with
      | none => exact hhi
      | some y =>
        obtain ⟨k, q, hy, rfl⟩ := hhi
        have := hrel.eval y
        rw [ha.eval (x := y) (by simp), hy] at this
        exact ⟨k, int_of this⟩
    have hlb : match lo with | none => l = 0 | some y => ∃ k, c.eval y = .int k (l : Int) := by
      cases lo with
      | none => exact hlo
      | some y =>
        obtain ⟨k, q, hy, rfl⟩ := hlo
        have := hrel.eval y
        rw [ha.eval (x := y) (by simp), hy] at this
        exact ⟨k, int_of this⟩
    have hml : ¬ m = l := by omega
    have hrun : (Instr.sliceAt t (.pointer (some ⟨E.β g, 0 * E.sz g + 0, none⟩)) (lo.map c.eval) (hi.map c.eval) none).run P w = .ok (.slice (some ⟨E.β g, l * E.sz g, none⟩) (h - l) (m - l)) w := by
      have hm63 : m ≤ maxLen := by omega
      have hbh : ∀ k, (Instr.sliceBound (.int k (h : Int)) m .sliceAlen).run P w = .ok h w := fun k => by rw [run_sliceBound w k h m .sliceAlen (by omega) (by omega)]; simp
      have hbl : ∀ k, (Instr.sliceBound (.int k (l : Int)) h .sliceB).run P w = .ok l w := fun k => by rw [run_sliceBound w k l h .sliceB (by omega) (by omega)]; simp
      cases lo with
      | none =>
        have hl0 : l = 0 := hlb
        cases hi with
        | none =>
          have hhn : h = m := hhb
          subst hhn
          subst hl0
          simp [Instr.sliceAt, run_underlying hu w, Instr.sliceBounds, run_sizeOf' hinf, hs, Instr.sureAddr, hml, addr_add, hsz]
        | some y =>
          obtain ⟨k, hk⟩ := hhb
          subst hl0
          simp [Instr.sliceAt, run_underlying hu w, Instr.sliceBounds, run_sizeOf' hinf, hs, hk, hbh k, Instr.sureAddr, hml, addr_add, hsz]
      | some z =>
        obtain ⟨k', hk'⟩ := hlb
        cases hi with
        | none =>
          have hhn : h = m := hhb
          subst hhn
          simp [Instr.sliceAt, run_underlying hu w, Instr.sliceBounds, run_sizeOf' hinf, hs, hk', hbl k', Instr.sureAddr, hml, addr_add, hsz]
        | some y =>
          obtain ⟨k, hk⟩ := hhb
          simp [Instr.sliceAt, run_underlying hu w, Instr.sliceBounds, run_sizeOf' hinf, hs, hk, hbh k, hk', hbl k', Instr.sureAddr, hml, addr_add, hsz]
    exact ⟨.slice (some ⟨E.β g, l * E.sz g, none⟩) (h - l) (m - l), by rw [execOp, ho]; simp only [h4, Sem.run_bind, hrun, Result.andThen_ok, Option.map_none]; rfl, .part hk hvr (by omega) (by omega) ⟨rfl, by omega⟩⟩

/-- A slice of a row of the call's own. -/
theorem B.sliceOwn {t e : TypeId} {sz g i0 n : Nat} {x : Operand} {lo hi : Option Operand} {l h : Nat} (ho : o.op = .slice t x lo hi none) (ht : elOf P t = some (e, sz)) (hx : σ.eval x = .own g i0 n) {e' : TypeId} {es : List (List D)} (hb : σ.blk g = .row sz e' es)
    (hlo : match lo with | none => l = 0 | some y => ∃ k q, σ.eval y = .d (.int k q) ∧ q = (l : Int)) (hhi : match hi with | none => h = n | some y => ∃ k q, σ.eval y = .d (.int k q) ∧ q = (h : Int)) (h1 : l ≤ h) (h2 : h ≤ n) (hd : dstOk o nt = true) :
    DoesB P nt o σ ⟨tmpsIn (x :: (lo.toList ++ hi.toList)), [g], .own g (i0 + l) (h - l), []⟩ := fun σ' ha =>
  Does.value hd fun w0 U E c w hrel => by
    have hxv := hrel.eval x
    rw [ha.eval (x := x) (by simp), hx] at hxv
    obtain ⟨hu, inf, hinf, hs⟩ := elOf_run ht
    have hbl := hrel.mem.blk g
    rw [(ha.2 g (by simp)).trans hb] at hbl
    have hsz : E.sz g = sz := hbl.2.1
    have hhb : match hi with | none => h = n | some y => ∃ k, c.eval y = .int k (h : Int) := by
      cases hi with
      | none => exact hhi
      | some y =>
        obtain ⟨k, q, hy, rfl⟩ := hhi
        have := hrel.eval y
        rw [ha.eval (x := y) (by simp), hy] at this
        exact ⟨k, int_of this⟩
    have hlb : match lo with | none => l = 0 | some y => ∃ k, c.eval y = .int k (l : Int) := by
      cases lo with
      | none => exact hlo
      | some y =>
        obtain ⟨k, q, hy, rfl⟩ := hlo
        have := hrel.eval y
        rw [ha.eval (x := y) (by simp), hy] at this
        exact ⟨k, int_of this⟩
    have hrun : ∀ (a : Option Addr) (cap : Nat), n ≤ cap → cap ≤ maxLen → (Instr.sliceAt t (.slice a n cap) (lo.map c.eval) (hi.map c.eval) none).run P w = .ok (.slice (if cap = l then a else a.map (·.add (l * sz))) (h - l) (cap - l)) w := fun a cap h6 hcm => by
      have hbh : ∀ k, (Instr.sliceBound (.int k (h : Int)) cap .sliceAcap).run P w = .ok h w := fun k => by rw [run_sliceBound w k h cap .sliceAcap (by omega) (by omega)]; simp
      have hbl : ∀ k, (Instr.sliceBound (.int k (l : Int)) h .sliceB).run P w = .ok l w := fun k => by rw [run_sliceBound w k l h .sliceB (by omega) (by omega)]; simp
      cases lo with
      | none =>
        have hl0 : l = 0 := hlb
        cases hi with
        | none =>
          have hhn : h = n := hhb
          subst hhn
          subst hl0
          simp [Instr.sliceAt, run_underlying hu w, Instr.slice, Instr.sliceBounds, run_sizeOf' hinf, hs]
        | some y =>
          obtain ⟨k, hk⟩ := hhb
          subst hl0
          simp [Instr.sliceAt, run_underlying hu w, Instr.slice, Instr.sliceBounds, run_sizeOf' hinf, hs, hk, hbh k]
      | some z =>
        obtain ⟨k', hk'⟩ := hlb
        cases hi with
        | none =>
          have hhn : h = n := hhb
          subst hhn
          simp [Instr.sliceAt, run_underlying hu w, Instr.slice, Instr.sliceBounds, run_sizeOf' hinf, hs, hk', hbl k']
        | some y =>
          obtain ⟨k, hk⟩ := hhb
          simp [Instr.sliceAt, run_underlying hu w, Instr.slice, Instr.sliceBounds, run_sizeOf' hinf, hs, hk, hbh k, hk', hbl k']
    generalize hcx : c.eval x = cx at hxv
    cases hxv with
    | onil hk hv =>
      obtain rfl : h = 0 := by omega
      obtain rfl : l = 0 := by omega
      refine ⟨.slice none 0 0, ?_, .onil hk hv⟩
      rw [execOp, ho]
      simp only [hcx, Sem.run_bind, hrun none 0 (Nat.le_refl _) (by unfold maxLen; omega), Result.andThen_ok, Option.map_none]
      rfl
    | @own _ _ _ a cap hk hv hn hcm hadr =>
      have haddr : (some (if cap = l then a else a.add (l * sz))) = if cap = l then some a else (some a).map (·.add (l * sz)) := by split <;> rfl
      refine ⟨.slice (some (if cap = l then a else a.add (l * sz))) (h - l) (cap - l), ?_, .own hk hv (by omega) (by omega) fun hor => ?_⟩
      · rw [haddr, execOp, ho]
        simp only [hcx, Sem.run_bind, hrun (some a) cap hn hcm, Result.andThen_ok, Option.map_none]
        rfl
      · obtain ⟨q1, q2⟩ := hadr (by omega)
        subst q1
        refine ⟨?_, by omega⟩
        split
        · rename_i hcl
          obtain rfl : l = 0 := by omega
          simp
        · rw [addr_add, Nat.add_mul, hsz]

/-- Where a copy goes. -/
inductive Dst (g i n : Nat) : AV → Prop where
  | own : Dst g i n (.own g i n)
  | part : Dst g i n (.part g i n)

/-- Rows, one behind the other, by cells. -/
theorem copy_at {es ys : List (List D)} {sz i m : Nat} (hes : ∀ x ∈ es, x.length = sz) (hys : ∀ x ∈ ys, x.length = sz) (him : i + m ≤ es.length) (hm : m ≤ ys.length) {k j : Nat} (hj : j < sz) :
    ((es.take i ++ ys.take m ++ es.drop (i + m))[k]?).bind (fun x => x[j]?) = if i * sz ≤ k * sz + j ∧ k * sz + j < i * sz + m * sz then ys.flatten[k * sz + j - i * sz]? else es.flatten[k * sz + j]? := by
  have hl : (ys.take m).length = m := by rw [List.length_take]; omega
  have h1 := splice_at (cs := es) (ws := ys.take m) (j := i) (i := k) (by omega)
  rw [hl] at h1
  rw [h1]
  by_cases hk : i ≤ k ∧ k < i + m
  · have e1 : i * sz ≤ k * sz := Nat.mul_le_mul_right _ hk.1
    have e2 := Nat.mul_le_mul_right sz (show k + 1 ≤ i + m by omega)
    rw [Nat.add_mul, Nat.add_mul] at e2
    rw [if_pos hk, if_pos (by omega), show k * sz + j - i * sz = (k - i) * sz + j by rw [Nat.sub_mul]; omega, flat_at ys _ _ hys hj, List.getElem?_take_of_lt (by omega)]
  · rw [if_neg hk, flat_at es _ _ hes hj]
    split
    · rename_i h2
      exfalso
      apply hk
      have a1 : ¬ k < i := fun h => by
        have := Nat.mul_le_mul_right sz (show k + 1 ≤ i by omega)
        rw [Nat.add_mul] at this
        omega
      have a2 : ¬ i + m ≤ k := fun h => by
        have := Nat.mul_le_mul_right sz h
        rw [Nat.add_mul] at this
        omega
      omega
    · rfl

/-- 'copy' into a row of the call's own. -/
theorem B.copy {t t' e : TypeId} {sz g i n : Nat} {d s : Operand} {e' : TypeId} {es ys : List (List D)} (ho : o.op = .call { callee := .builtin .copy, args := #[d, s], argTypes := #[t, t'] }) (ht : elOf P t = some (e, sz))
    (hdv : Dst g i n (σ.eval d)) (hb : σ.blk g = .row sz e' es) (hin : i + n ≤ es.length) (hes : ∀ x ∈ es, x.length = sz) (hys : ∀ x ∈ ys, x.length = sz) (hel : ∀ (w0 : Cx) (U : Nat → Prop) (E : Env) (a : Act) (w : World) (v : Value), Rel w0 U nt σ E a w → VA E w (Fof E σ.blk) U w0.heap.size (σ.eval s) v → Elems w (Fof E σ.blk) U w0.heap.size sz v ys) (hd : dstOk o nt = true) :
    Does P nt o σ ⟨.d (.int .i64 (min n ys.length : Nat)), [(g, .row sz e' (es.take i ++ ys.take (min n ys.length) ++ es.drop (i + min n ys.length)))]⟩ := fun w0 U E a w N Q hr hN => by
  obtain ⟨hu, inf, hinf, hs⟩ := elOf_run ht
  have hb' : σ.blk g = .row sz e' es := hb
  have hsv := hr.eval s
  obtain ⟨ad, cap, news, hsl, h5, h6, h7, h8, h9, h10, h11⟩ := (hel w0 U E a w _ hr hsv).sl
  have hdv' := hr.eval d
  obtain ⟨da, dcap, hde, hdp⟩ : ∃ da dcap, a.eval d = .slice da n dcap ∧ (n ≠ 0 → da = some ⟨E.β g, i * E.sz g, none⟩) := by
    generalize hcd : a.eval d = cd at hdv'
    generalize hcs : σ.eval d = sd at hdv hdv'
    cases hdv with
    | own => cases hdv' with
      | onil => exact ⟨_, _, rfl, fun h => absurd rfl h⟩
      | own _ _ _ _ hadr => exact ⟨_, _, rfl, fun h => by rw [(hadr (.inr h)).1]⟩
    | part => cases hdv' with
      | part _ _ _ _ hadr => exact ⟨_, _, rfl, fun h => by rw [hadr.1]⟩
  have hmin : Nat.min ys.length n = min n ys.length := Nat.min_comm _ _
  by_cases h0 : min n ys.length = 0
  · have hsame : es.take i ++ ys.take (min n ys.length) ++ es.drop (i + min n ys.length) = es := by rw [h0]; simp
    have hrun : (Builtin.copy_ #[t, t'] o.type #[.slice da n dcap, .slice ad ys.length cap]).run P w = .ok (goInt 0) w := by
      have hm0 : Nat.min ys.length n = 0 := hmin.trans h0
      have hl0 : ∀ b : Addr, (loadCells b 0).run P w = .ok #[] w := fun b => by simpa using run_loadCells_list (P := P) (w := w) b [] (fun j v h => by simp at h)
      cases da <;> cases ad <;> simp [Builtin.copy_, run_underlying hu w, Builtin.lenOf, Builtin.firstCells, run_sizeOf' hinf, hm0, hl0, storeCells]
    have hex : (execOp a.eval o).run P w = .ok (.value (goInt 0)) w := by
      rw [execOp, ho]
      simp [resolve, invoke, builtin, hde, hsl, hrun]
    unfold Oper.wp
    rw [hex]
    have hp := hr.undef (dstOk_lt hd) (x := .d (.int .i64 ((0 : Nat) : Int))) (v := goInt 0) (.d (.int _ _))
    refine hN E _ _ ?_
    have e1 : σ.step o.dst ⟨.d (.int .i64 (min n ys.length : Nat)), [(g, .row sz e' (es.take i ++ ys.take (min n ys.length) ++ es.drop (i + min n ys.length)))]⟩ = σ.step o.dst ⟨.d (.int .i64 ((0 : Nat) : Int)), []⟩ := by
      rw [hsame, h0]
      unfold St.step upsOf
      congr 1
      funext q
      show upd σ.blk g _ q = σ.blk q
      by_cases hq : q = g
      · subst hq; rw [upd_same, hb']
      · rw [upd_other _ _ _ hq]
    rw [e1]
    exact hp
  · obtain rfl := hdp (by omega)
    obtain ⟨hk, hsz, hpos, hle, hcm, hv, hmine, hall, cur, hg, hcs, hcc⟩ := row_cells hr hb' (by rintro rfl; simp at hin; omega)
    have hle1 := hle.1
    cases ad with
    | none =>
      have := h7 rfl
      omega
    | some ad =>
      obtain ⟨m, hm⟩ : ∃ m, m = min n ys.length := ⟨_, rfl⟩
      have hmle : m ≤ n ∧ m ≤ ys.length := by omega
      have hml : m * sz ≤ ys.length * sz := Nat.mul_le_mul_right _ hmle.2
      have hnl : (news.take (m * sz)).length = m * sz := by rw [List.length_take]; omega
      have hload : (loadCells ad (m * sz)).run P w = .ok (news.take (m * sz)).toArray w := by
        have := run_loadCells_list (P := P) (w := w) ad (news.take (m * sz)) fun j v hv => by
          have hj : j < m * sz := by have := (List.getElem?_eq_some_iff.1 hv).1; omega
          rw [List.getElem?_take_of_lt hj] at hv
          obtain ⟨b, off, q1, _, q3⟩ := h9 j v hv
          cases q1
          rw [addr_add]
          exact q3
        rwa [hnl] at this
      have hie : i * sz + m * sz ≤ cur.size := by
        rw [hcs, ← Nat.add_mul]
        exact Nat.mul_le_mul_right _ (by omega)
      have hst := run_storeCells_at P (E.β g) (i * sz) _ (news.take (m * sz)) 0 cur w hg (by rw [hnl]; omega) (fun u hu' => h10 u (List.mem_of_mem_take hu'))
      rw [Nat.add_zero, hnl] at hst
      have hrun : (Builtin.copy_ #[t, t'] o.type #[.slice (some ⟨E.β g, i * E.sz g, none⟩) n dcap, .slice (some ad) ys.length cap]).run P w = .ok (goInt m) (w.setRow (E.β g) (cur.toList.take (i * sz) ++ news.take (m * sz) ++ cur.toList.drop (i * sz + m * sz)).toArray) := by
        have hm' : Nat.min ys.length n = m := hmin.trans hm.symm
        simp only [hsz]
        simp [Builtin.copy_, run_underlying hu w, Builtin.lenOf, Builtin.firstCells, run_sizeOf' hinf, hm', hs, hload, hst]
      have hex : (execOp a.eval o).run P w = .ok (.value (goInt m)) (w.setRow (E.β g) (cur.toList.take (i * sz) ++ news.take (m * sz) ++ cur.toList.drop (i * sz + m * sz)).toArray) := by
        rw [execOp, ho]
        simp [resolve, invoke, builtin, hde, hsl, hrun]
      unfold Oper.wp
      rw [hex]
      have hlv : Hot E g (σ.blk g) := by rw [hb']; exact hv
      have hlt := (hr.mem.blk g).lt hlv
      rw [← hm] at hN
      have hlen2 : (es.take i ++ ys.take m ++ es.drop (i + m)).length = es.length := by
        simp only [List.length_append, List.length_take, List.length_drop]; omega
      have hcl : (cur.toList.take (i * sz) ++ news.take (m * sz) ++ cur.toList.drop (i * sz + m * sz)).length = cur.size := by
        simp only [List.length_append, List.length_take, List.length_drop, Array.length_toList]; omega
      have hr' := hr.change hlv (x := .row sz e' (es.take i ++ ys.take m ++ es.drop (i + m))) (w' := w.setRow (E.β g) (cur.toList.take (i * sz) ++ news.take (m * sz) ++ cur.toList.drop (i * sz + m * sz)).toArray) (by simp) (fun b hb => setRow_other w _ b _ hb) (hr.mem.below.setRow hlt.2.1 _) (by
        refine ⟨hk, hsz, hpos, hcm, hle.same hlen2, (fun h => by rw [hv] at h; cases h), fun _ => ⟨hmine, _, setRow_same hg _, by rw [List.size_toArray, hcl]; exact hcs, fun k z hz => ?_⟩⟩
        have hzm := List.mem_of_getElem? hz
        have hzl : z.length = sz := by
          rcases List.mem_append.1 hzm with hzm | hzm
          · rcases List.mem_append.1 hzm with hzm | hzm
            · exact hes z (List.mem_of_mem_take hzm)
            · exact hys z (List.mem_of_mem_take hzm)
          · exact hes z (List.mem_of_mem_drop hzm)
        refine ⟨hzl, fun j d hdj => ?_⟩
        have hj : j < sz := by rw [← hzl]; exact (List.getElem?_eq_some_iff.1 hdj).1
        have hca := copy_at (k := k) hes hys (show i + m ≤ es.length by omega) hmle.2 hj
        rw [hz] at hca
        have hca' : some d = if i * sz ≤ k * sz + j ∧ k * sz + j < i * sz + m * sz then ys.flatten[k * sz + j - i * sz]? else es.flatten[k * sz + j]? := by
          rw [← hca]; exact hdj.symm
        have hcur := splice_at (cs := cur.toList) (ws := news.take (m * sz)) (j := i * sz) (i := k * sz + j) (by rw [hnl]; simpa using hie)
        rw [hnl] at hcur
        rw [List.getElem?_toArray, hcur]
        by_cases hin2 : i * sz ≤ k * sz + j ∧ k * sz + j < i * sz + m * sz
        · rw [if_pos hin2] at hca'
          rw [if_pos hin2, List.getElem?_take_of_lt (by omega)]
          obtain ⟨q, hq⟩ : ∃ q, q = k * sz + j - i * sz := ⟨_, rfl⟩
          rw [← hq] at hca' ⊢
          have hqm : q < ys.length * sz := by rw [← flat_length ys hys]; exact (List.getElem?_eq_some_iff.1 hca'.symm).1
          have e1 : q = q / sz * sz + q % sz := by rw [Nat.mul_comm]; exact (Nat.div_add_mod q sz).symm
          have hqi : q / sz < ys.length := (Nat.div_lt_iff_lt_mul hpos).2 hqm
          have hqj : q % sz < sz := Nat.mod_lt _ hpos
          rw [e1, flat_at ys _ _ hys hqj, List.getElem?_eq_getElem hqi] at hca'
          obtain ⟨u, q1, q2⟩ := (h11 _ _ (List.getElem?_eq_getElem hqi)).2 _ d hca'.symm
          exact ⟨u, by rw [e1]; exact q1, VD.changed hr hlv _ q2⟩
        · rw [if_neg hin2] at hca'
          rw [if_neg hin2]
          obtain ⟨u, q1, q2⟩ := hcc _ d hca'.symm
          exact ⟨u, by simpa using q1, VD.changed hr hlv _ q2⟩)
      exact hN E _ _ (hr'.undef (dstOk_lt hd) (.d (.int _ _)))

/-- A piece of an array as a source. -/
theorem part_elems {w0 : Cx} {U : Nat → Prop} {E : Env} {a : Act} {w : World} (hr : Rel w0 U nt σ E a w) {g i n sz : Nat} {e : TypeId} {es : List (List D)} {v : Value} (hb : σ.blk g = .row sz e es) (hn : i + n ≤ es.length) (hv : VA E w (Fof E σ.blk) U w0.heap.size (.part g i n) v) : Elems w (Fof E σ.blk) U w0.heap.size sz v ((es.drop i).take n) := by
  cases hv with
  | part hk hvr hn' hm ha => exact row_elems hr hb hvr hn hn' hm fun h0 => ha.1

/-- An element of a table. -/
theorem B.idxTab {t e : TypeId} {m g : Nat} {ix : Operand} {kk k : IntKind} {l : List Int} {q : Int} {i : Nat} {c0 : Int} (ho : o.op = .indexAddr t (.global g) ix) (ht : arrOf P t = some (m, e, 1)) (htab : tabAt g = some (kk, l)) (hq : σ.eval ix = .d (.int k q)) (hi : q = (i : Int)) (hlt : i < m) (hc : l[i]? = some c0) (hd : dstOk o nt = true) :
    DoesB P nt o σ ⟨tmpsIn [.global g, ix], [], .vptr true [.int kk c0] 0, []⟩ := fun σ' ha =>
  Does.value hd fun w0 U E c w hrel => by
    have h2 := hrel.eval ix
    rw [ha.eval (x := ix) (by simp), hq] at h2
    obtain ⟨hu, inf, hinf, hs⟩ := arrOf_run ht
    obtain ⟨hgs, e0, fr, hcell⟩ := hrel.mem.below.tabIn g kk l htab
    have hrun : (Instr.indexAt t (.pointer (some ⟨g, 0, none⟩)) (.int k q)).run P w = .ok (.pointer (some ⟨g, i + 0, none⟩)) w := by
      have h0 : 0 ≤ q ∧ q < (m : Int) := by omega
      simp [Instr.indexAt, asIntOf, run_underlying hu w, h0, run_sizeOf' hinf, int_toNat hi, addr_add, hs, Instr.sureAddr]
    refine ⟨.pointer (some ⟨g, i + 0, none⟩), ?_, ?_⟩
    · rw [execOp, ho]
      have heg : c.eval (.global g) = .pointer (some ⟨g, 0, none⟩) := rfl
      simp only [heg, int_of h2, Sem.run_bind, hrun, Result.andThen_ok]
      rfl
    · refine .vptr (fun _ => .int kk c0) ⟨hgs, fun hf => ?_, fun h => by cases h⟩ (fun j hj => ?_) fun j d hdj => ?_
      · obtain ⟨g', q1, q2⟩ := hf
        have := ((hrel.mem.blk g').lt q1).2.1
        rw [q2] at this
        exact hrel.mem.below.tabMine htab this
      · obtain rfl : j = 0 := by simpa using hj
        rw [cell_of_row w _ _ _ e0 fr hcell]
        simp [hc]
      · cases j with
        | zero =>
          obtain rfl : D.int kk c0 = d := by simpa using hdj
          exact .int _ _
        | succ j => simp at hdj
end
end Go.Proofs.Ytmkfpfnjimmmaaa
