/- Arrays, copy, slices of rows of the call's own, tables: over data by type. Nothing of the dump stands here. -/
import Derived.Test.YtmkfpfnjimmmaaaVR
import Derived.Test.YtmkfpfnjimmmaaaVHA
namespace Go.Proofs.Ytmkfpfnjimmmaaa
open Go.RowKit
set_option linter.unusedVariables false
set_option linter.unusedSimpArgs false

section
variable {P : Program} {nt : Nat} {o : Oper} {σ : TS}

theorem denS_all {T : Ty} (l : List (Val T)) : ∀ x ∈ denS l, x.length = T.size := fun x hx => by
  obtain ⟨y, _, rfl⟩ := List.mem_map.1 hx
  exact flatD_length T y
theorem denS_len {T : Ty} (l : List (Val T)) : (denS l).length = l.length := by unfold denS; rw [List.length_map]
theorem denS_flen {T : Ty} (l : List (Val T)) : (denS l).flatten.length = l.length * T.size := by rw [flat_length _ (denS_all l), denS_len]
theorem denS_ne {T : Ty} {l : List (Val T)} (h : l ≠ []) : denS l ≠ [] := fun h1 => h (List.length_eq_zero_iff.1 (by rw [← denS_len, h1]; rfl))

theorem T.boxArr {t : TypeId} {x : Operand} {g : Nat} {T : Ty} {l : List (Val T)} (ho : o.op = .box t x) (hx : σ.eval x = .arr T l) (hpos : 0 < T.size) (hm : l.length ≤ 9223372036854775807) (he : Nat.blt t 1000 = true) (hg : (σ.blk g).isFree = true) (hd : dstOk o nt = true) : TDoesB P nt o σ ⟨tmpsIn [x], [g], .ptr g 0 0, [(g, .row T t l)]⟩ := fun σ' ha => by
  have hg' : σ'.blk g = .free := (ha.2 g (by simp)).trans (TB.isFree_eq hg)
  refine TDoes.of (by simp [hg', Turn.new]) (by simp) fun hw => ?_
  exact (B.boxArr (P := P) (nt := nt) (σ := σ'.den) (g := g) (sz := T.size) (es := denS l) ho (by rw [ha.dev (x := x) (by simp), hx]; rfl) hpos (by rw [denS_len]; unfold maxLen; exact hm) (denS_all l) he (by show denB _ (σ'.blk g) = _; rw [hg']; rfl) hd).at

/-- A nought of a plain type. -/
def zval : (T : Ty) → Option (Val T)
  | .int _ => some (0 : Int)
  | .bool => some false
  | _ => none
def asVal : (T : Ty) → TV → Option (Val T)
  | .int k, .int k' n => if k' = k then some n else none
  | .bool, .bool b => some b
  | _, _ => none
def asVals (T : Ty) : List TV → Option (List (Val T))
  | [] => some []
  | x :: r => match asVal T x with
    | some v => (match asVals T r with | some l => some (v :: l) | none => none)
    | none => none
theorem asVal_ok : ∀ {T : Ty} {x : TV} {v : Val T}, asVal T x = some v → flat T v = [x] ∧ T.size = 1
  | .int k, x, v, h => by
    cases x with
    | int k' n =>
      simp only [asVal] at h
      split at h
      · rename_i hk; cases h; subst hk; exact ⟨rfl, rfl⟩
      · cases h
    | _ => simp [asVal] at h
  | .bool, x, v, h => by
    cases x with
    | bool b => simp only [asVal] at h; cases h; exact ⟨rfl, rfl⟩
    | _ => simp [asVal] at h
  | .sl _, x, v, h => by cases x <;> simp [asVal] at h
  | .unit, x, v, h => by cases x <;> simp [asVal] at h
  | .pair _ _, x, v, h => by cases x <;> simp [asVal] at h
theorem asVals_ok {T : Ty} : ∀ {cs : List TV} {l : List (Val T)}, asVals T cs = some l → cs = l.flatMap (flat T)
  | [], l, h => by simp only [asVals, Option.some.injEq] at h; subst h; rfl
  | x :: r, l, h => by
    simp only [asVals] at h
    split at h
    · rename_i v hv
      split at h
      · rename_i l' hl'
        cases h
        rw [List.flatMap_cons, (asVal_ok hv).1, ← asVals_ok hl']; rfl
      · cases h
    · cases h

theorem T.allocArr {t : TypeId} {g : Nat} {cs : List TV} {T : Ty} {l : List (Val T)} (ho : o.op = .alloc t) (hz : zeroTV P t = some cs) (hl : asVals T cs = some l) (hpos : 0 < T.size) (hm : l.length ≤ 9223372036854775807) (he : Nat.blt t 1000 = true) (hg : (σ.blk g).isFree = true) (hd : dstOk o nt = true) : TDoesB P nt o σ ⟨[], [g], .ptr g 0 0, [(g, .row T t l)]⟩ := fun σ' ha => by
  have hg' : σ'.blk g = .free := (ha.2 g (by simp)).trans (TB.isFree_eq hg)
  refine TDoes.of (by simp [hg', Turn.new]) (by simp) fun hw => ?_
  exact (B.allocArr (P := P) (nt := nt) (σ := σ'.den) (g := g) (sz := T.size) (es := denS l) ho (by rw [zeroTV_ok hz σ'.blk, asVals_ok hl, denV_flats]) hpos (by rw [denS_len]; unfold maxLen; exact hm) (denS_all l) he (by show denB _ (σ'.blk g) = _; rw [hg']; rfl) hd).at

theorem T.buildArr {t : TypeId} {parts : Array (Nat × Operand)} {zero vs : List TV} {places : List (Nat × Nat)} {T : Ty} {l : List (Val T)} (ho : o.op = .build t parts) (hz : tbldOf P t = some (zero, places)) (hb : tbuildA places zero (parts.toList.map fun p => (p.1, σ.eval p.2)) = some vs) (hl : asVals T vs = some l) (hd : dstOk o nt = true) :
    TDoesB P nt o σ ⟨tmpsIn (parts.toList.map (·.2)), [], .arr T l, []⟩ := fun σ' ha => by
  have h1 := _root_.Go.Proofs.Ytmkfpfnjimmmaaa.T.build (P := P) (nt := nt) (σ := σ) ho hz hb hd σ' ⟨ha.1, ha.2⟩
  refine TDoes.val ?_
  have e : denV σ'.blk (.arr T l) = denV σ'.blk (.agg vs) := by
    simp only [denV]
    rw [asVals_ok hl, denV_flats]
  rw [e]
  intro w0 U E a w NN Q hr hN
  refine h1 w0 U E a w NN Q hr fun E' a' w' hr' => hN E' a' w' ?_
  have e2 : σ'.den.step o.dst ⟨denV σ'.blk (.agg vs), []⟩ = (σ'.step o.dst ⟨.agg vs, []⟩).den := by
    unfold St.step TS.step TS.den
    congr 1
    funext t
    cases o.dst with
    | none => rfl
    | some d =>
      show upd _ d _ t = denV _ (upd _ d _ t)
      by_cases hd : t = d
      · subst hd; rw [upd_same, upd_same]; rfl
      · rw [upd_other _ _ _ hd, upd_other _ _ _ hd]; rfl
  rw [e2]
  exact hr'

theorem T.loadArr {t : TypeId} {n g : Nat} {x : Operand} {T : Ty} {e : TypeId} {l : List (Val T)} (ho : o.op = .load t x) (ht : tyOf P t = some (true, n)) (hx : σ.eval x = .ptr g 0 0) (hb : σ.blk g = .row T e l) (hne : 0 < n) (hn : l.length * T.size = n) (hd : dstOk o nt = true) : TDoesB P nt o σ ⟨tmpsIn [x], [g], .arr T l, []⟩ := fun σ' ha => by
  have hb' : σ'.blk g = .row T e l := (ha.2 g (by simp)).trans hb
  exact TDoes.val (B.loadArr (P := P) (nt := nt) (σ := σ'.den) (e := e) (es := denS l) (sz := T.size) ho ht (by rw [ha.dev (x := x) (by simp), hx]; rfl) (by show denB _ (σ'.blk g) = _; rw [hb']; rfl) (denS_ne (by rintro rfl; simp at hn; omega)) (by rw [denS_flen]; exact hn) hd).at

theorem T.storeArr {t n g : Nat} {e : TypeId} {x y : Operand} {b : Bool} {T : Ty} {l l' : List (Val T)} (ho : o.op = .store t x y) (ht : tyOf P t = some (b, n)) (hx : σ.eval x = .ptr g 0 0) (hb : σ.blk g = .row T e l) (hy : σ.eval y = .arr T l') (hpos : 0 < T.size) (hne : 0 < n) (hn : l.length * T.size = n) (hn' : l'.length * T.size = n) (hd : o.dst = none) :
    TDoesB P nt o σ ⟨tmpsIn [x, y], [g], .und, [(g, .row T e l')]⟩ := fun σ' ha => by
  have hb' : σ'.blk g = .row T e l := (ha.2 g (by simp)).trans hb
  have hll : l'.length = l.length := Nat.eq_of_mul_eq_mul_right hpos (hn'.trans hn.symm)
  refine TDoes.of (by simp [hb', Turn.row hll]) (by simp) fun hw => ?_
  exact (B.storeArr (P := P) (nt := nt) (σ := σ'.den) (e := e) (g := g) (es := denS l) (es' := denS l') (sz := T.size) ho ht (by rw [ha.dev (x := x) (by simp), hx]; rfl) (by show denB _ (σ'.blk g) = _; rw [hb']; rfl) (denS_ne (by rintro rfl; simp at hn; omega)) (by rw [ha.dev (x := y) (by simp), hy]; rfl) (by rw [denS_flen]; exact hn') (by rw [denS_len, denS_len, hll]) (denS_all l') hd).at

theorem T.idxRow {t e e' : TypeId} {m g : Nat} {x ix : Operand} {k : IntKind} {q : Int} {T : Ty} {l : List (Val T)} (ho : o.op = .indexAddr t x ix) (ht : arrOf P t = some (m, e, T.size)) (hx : σ.eval x = .ptr g 0 0) (hb : σ.blk g = .row T e' l) (hq : σ.eval ix = .int k q) (h0 : 0 ≤ q) (hlt : q < m) (hd : dstOk o nt = true) :
    TDoesB P nt o σ ⟨tmpsIn [x, ix], [g], .ptr g q.toNat 0, []⟩ := fun σ' ha => by
  have hb' : σ'.blk g = .row T e' l := (ha.2 g (by simp)).trans hb
  exact TDoes.val (B.idxRow (P := P) (σ := σ'.den) (nt := nt) (es := denS l) (e' := e') (g := g) (i := q.toNat) ho ht (by rw [ha.dev (x := x) (by simp), hx]; rfl) (by rw [ha.dev (x := ix) (by simp), hq]; rfl) (by show denB _ (σ'.blk g) = _; rw [hb']; rfl) (by omega) (by omega) hd).at

/-- A plain datum as a value. -/
def valT : (T : Ty) → Val T → TV
  | .int k, n => .int k n
  | .bool, b => .bool b
  | _, _ => .und
def plainT : Ty → Bool
  | .int _ => true
  | .bool => true
  | _ => false
theorem valT_flat {T : Ty} (h : plainT T = true) (x : Val T) : flat T x = [valT T x] ∧ T.size = 1 := by
  cases T <;> first | exact ⟨rfl, rfl⟩ | cases h
theorem flatMap_at {T : Ty} (h : plainT T = true) : ∀ (l : List (Val T)) (i : Nat), (l.flatMap (flat T))[i]? = l[i]?.map (valT T)
  | [], i => by simp
  | x :: l, 0 => by rw [List.flatMap_cons, (valT_flat h x).1]; rfl
  | x :: l, i + 1 => by
    rw [List.flatMap_cons, (valT_flat h x).1]
    exact flatMap_at h l i
theorem T.idxVal {t e : TypeId} {m : Nat} {x ix : Operand} {k : IntKind} {q : Int} {T : Ty} {l : List (Val T)} {c0 : Val T} (ho : o.op = .index t x ix) (ht : arrOf P t = some (m, e, 1)) (hag : tyOf P e = some (false, 1)) (hp : plainT T = true) (hx : σ.eval x = .arr T l) (hq : σ.eval ix = .int k q) (h0 : 0 ≤ q) (hlt : q < m) (hc : l[q.toNat]? = some c0) (hd : dstOk o nt = true) :
    TDoesB P nt o σ ⟨tmpsIn [x, ix], [], valT T c0, []⟩ := fun σ' ha => by
  refine TDoes.val (B.idxVal (P := P) (σ := σ'.den) (nt := nt) (i := q.toNat) (vs := (denS l).flatten.map .d) ho ht hag (by rw [ha.dev (x := x) (by simp), hx]; rfl) (by rw [ha.dev (x := ix) (by simp), hq]; rfl) (by omega) (by omega) ?_ hd).at
  rw [← denV_flats σ'.blk, denVs_map, List.getElem?_map, flatMap_at hp, hc]
  rfl

theorem T.sliceArr {t e e' : TypeId} {m g : Nat} {T : Ty} {l : List (Val T)} {x : Operand} {lo hi : Option Operand} {a b : Int} (ho : o.op = .slice t x lo hi none) (ht : arrOf P t = some (m, e, T.size)) (hx : σ.eval x = .ptr g 0 0) (hb : σ.blk g = .row T e' l) (hm : m ≤ l.length)
    (hlo : optI σ 0 lo = some a) (hhi : optI σ (m : Nat) hi = some b) (h0 : 0 ≤ a) (h1 : a ≤ b) (h2 : b ≤ m) (h3 : a < m) (hd : dstOk o nt = true) :
    TDoesB P nt o σ ⟨tmpsIn (x :: (lo.toList ++ hi.toList)), [g], .asl g a.toNat (b.toNat - a.toNat), []⟩ := fun σ' ha => by
  have hb' : σ'.blk g = .row T e' l := (ha.2 g (by simp)).trans hb
  have hev : ∀ z ∈ (x :: (lo.toList ++ hi.toList)), σ'.den.eval z = denV σ'.blk (σ.eval z) := fun z hz => ha.dev hz
  have q1 := optI_ok (σ' := σ') hlo (fun z hz => hev z (by simp [hz])) h0
  have q2 := optI_ok (σ' := σ') hhi (fun z hz => hev z (by simp [hz])) (by omega)
  exact TDoes.val (B.sliceArr (P := P) (nt := nt) (σ := σ'.den) (es := denS l) (e' := e') (l := a.toNat) (h := b.toNat) ho ht (by rw [hev x (by simp), hx]; rfl) (by show denB _ (σ'.blk g) = _; rw [hb']; rfl) (by rw [denS_len]; exact hm) (by
      cases lo with
      | none => simp only at q1; subst q1; rfl
      | some z => exact q1) (by
      cases hi with
      | none => simp only at q2 ⊢; subst q2; simp
      | some z => exact q2) (by omega) (by omega) (by omega) hd).at

theorem T.sliceOwn {t e e' : TypeId} {g i0 n : Nat} {T : Ty} {l : List (Val T)} {x : Operand} {lo hi : Option Operand} {a b : Int} (ho : o.op = .slice t x lo hi none) (ht : elOf P t = some (e, T.size)) (hb : σ.blk g = .row T e' l) (hx : ∀ B : Nat → TB, B g = .row T e' l → denV B (σ.eval x) = .own g i0 n)
    (hlo : optI σ 0 lo = some a) (hhi : optI σ (n : Nat) hi = some b) (h0 : 0 ≤ a) (h1 : a ≤ b) (h2 : b ≤ n) (hd : dstOk o nt = true) :
    TDoesB P nt o σ ⟨tmpsIn (x :: (lo.toList ++ hi.toList)), [g], .sub g (i0 + a.toNat) (b.toNat - a.toNat), []⟩ := fun σ' ha => by
  have hb' : σ'.blk g = .row T e' l := (ha.2 g (by simp)).trans hb
  have hev : ∀ z ∈ (x :: (lo.toList ++ hi.toList)), σ'.den.eval z = denV σ'.blk (σ.eval z) := fun z hz => ha.dev hz
  have q1 := optI_ok (σ' := σ') hlo (fun z hz => hev z (by simp [hz])) h0
  have q2 := optI_ok (σ' := σ') hhi (fun z hz => hev z (by simp [hz])) (by omega)
  have := (B.sliceOwn (P := P) (nt := nt) (σ := σ'.den) (es := denS l) (e' := e') (sz := T.size) (g := g) (i0 := i0) (n := n) (l := a.toNat) (h := b.toNat) ho ht (by rw [hev x (by simp), hx _ hb']) (by show denB _ (σ'.blk g) = _; rw [hb']; rfl) (by
      cases lo with
      | none => simp only at q1; subst q1; rfl
      | some z => exact q1) (by
      cases hi with
      | none => simp only at q2 ⊢; subst q2; simp
      | some z => exact q2) (by omega) (by omega) hd).at
  refine TDoes.val ?_
  simp only [denV, hb', denU]
  exact this

/-- Where a copy goes: the row, from where on, how many. -/
def asDst (B : Nat → TB) : TV → Option (Nat × Nat × Nat)
  | .own g => match B g with | .row _ _ l => some (g, 0, l.length) | _ => none
  | .sub g i n => some (g, i, n)
  | .asl g i n => some (g, i, n)
  | _ => none
theorem asDst_ok {B B' : Nat → TB} {x : TV} {g i n : Nat} {T : Ty} {e : TypeId} {l : List (Val T)} (h : asDst B x = some (g, i, n)) (hb : B g = .row T e l) (hb' : B' g = .row T e l) : Dst g i n (denV B' x) := by
  unfold asDst at h
  split at h
  · rename_i g'
    split at h
    · rename_i T' e' l' hg
      simp only [Option.some.injEq, Prod.mk.injEq] at h
      obtain ⟨rfl, rfl, rfl⟩ := h
      rw [hb] at hg
      cases hg
      simp only [denV, hb', denO]
      exact .own
    · cases h
  · simp only [Option.some.injEq, Prod.mk.injEq] at h
    obtain ⟨rfl, rfl, rfl⟩ := h
    simp only [denV, hb', denU]
    exact .own
  · simp only [Option.some.injEq, Prod.mk.injEq] at h
    obtain ⟨rfl, rfl, rfl⟩ := h
    simp only [denV]
    exact .part
  · cases h
/-- What a copy reads. -/
def asSrcA (B : Nat → TB) (t : Ty) : TV → Option (List (Val t) × List Nat × List Prop)
  | .asl g i n => match B g with
    | .row T e l => (castL T t l).map fun l' => ((l'.drop i).take n, [g], [i + n ≤ l.length])
    | _ => none
  | x => asSrc B t x

theorem asSrcA_ok {B : Nat → TB} {t : Ty} {x : TV} {l : List (Val t)} {rb : List Nat} {ps : List Prop} (h : asSrcA B t x = some (l, rb, ps)) (hps : ∀ q ∈ ps, q) {σ' : TS} (hb : ∀ g ∈ rb, σ'.blk g = B g) {w0 : Cx} {U : Nat → Prop} {E : Env} {a : Act} {w : World} {v : Value} (hr : Rel w0 U nt σ'.den E a w) (hv : VA E w (Fof E σ'.den.blk) U w0.heap.size (denV σ'.blk x) v) : Elems w (Fof E σ'.den.blk) U w0.heap.size t.size v (denS l) := by
  unfold asSrcA at h
  split at h
  · rename_i g i n
    split at h
    · rename_i T e l0 hg
      obtain ⟨l', h1, h2⟩ := Option.map_eq_some_iff.1 h
      cases h2
      obtain rfl := castL_ty h1
      obtain rfl := castL_self h1
      have hin : i + n ≤ l'.length := hps (i + n ≤ l'.length) (by simp)
      have := part_elems (e := e) (es := denS l') (sz := T.size) hr (by show denB _ (σ'.blk g) = _; rw [hb g (by simp), hg]; rfl) (by rw [denS_len]; exact hin) (by simpa only [denV] using hv)
      rw [denS_part] at this
      exact this
    · cases h
  · obtain ⟨rb', _, hsrc⟩ := asSrc_ok h hps σ' hb
    exact hsrc.elems hr hv

theorem T.copy {t t' e : TypeId} {g i n : Nat} {d s : Operand} {T : Ty} {rb : List Nat} {ps : List Prop} {e' : TypeId} {l ys : List (Val T)} (ho : o.op = .call { callee := .builtin .copy, args := #[d, s], argTypes := #[t, t'] }) (ht : elOf P t = some (e, T.size))
    (hdv : asDst σ.blk (σ.eval d) = some (g, i, n)) (hb : σ.blk g = .row T e' l) (hin : i + n ≤ l.length) (hx : asSrcA σ.blk T (σ.eval s) = some (ys, rb, ps)) (hps : ∀ q ∈ ps, q) (hd : dstOk o nt = true) :
    TDoesB P nt o σ ⟨tmpsIn [d, s], g :: rb, .int .i64 (min n ys.length : Nat), [(g, .row T e' (l.take i ++ ys.take (min n ys.length) ++ l.drop (i + min n ys.length)))]⟩ := fun σ' ha => by
  have hb' : σ'.blk g = .row T e' l := (ha.2 g (by simp)).trans hb
  refine TDoes.of (by
    intro q hq
    obtain rfl := List.mem_singleton.1 hq
    show Turn (σ'.blk g) _
    rw [hb']
    refine .row ?_
    simp only [List.length_append, List.length_take, List.length_drop]
    omega) (by simp) fun hw => ?_
  have := B.copy (P := P) (nt := nt) (σ := σ'.den) (es := denS l) (ys := denS ys) (e' := e') ho ht (by rw [ha.dev (x := d) (by simp)]; exact asDst_ok hdv hb hb') (by show denB _ (σ'.blk g) = _; rw [hb']; rfl) (by rw [denS_len]; exact hin) (denS_all l) (denS_all ys) (fun w0 U E a w v hr hv => by
    rw [ha.dev (x := s) (by simp)] at hv
    exact asSrcA_ok hx hps (fun q hq => ha.2 q (by simp [hq])) hr hv) hd
  rw [denS_len] at this
  have e1 : denS (l.take i ++ ys.take (min n ys.length) ++ l.drop (i + min n ys.length)) = (denS l).take i ++ (denS ys).take (min n ys.length) ++ (denS l).drop (i + min n ys.length) := by
    unfold denS; rw [List.map_append, List.map_append, List.map_take, List.map_take, List.map_drop]
  show Does P nt o _ ⟨.d (.int .i64 (min n ys.length : Nat)), [(g, .row T.size e' (denS (l.take i ++ ys.take (min n ys.length) ++ l.drop (i + min n ys.length))))]⟩
  rw [e1]
  exact this

theorem T.idxTab {t e : TypeId} {m g : Nat} {ix : Operand} {kk k : IntKind} {l : List Int} {q : Int} {c0 : Int} (ho : o.op = .indexAddr t (.global g) ix) (ht : arrOf P t = some (m, e, 1)) (htab : tabAt g = some (kk, l)) (hq : σ.eval ix = .int k q) (h0 : 0 ≤ q) (hlt : q < m) (hc : l[q.toNat]? = some c0) (hd : dstOk o nt = true) :
    TDoesB P nt o σ ⟨tmpsIn [.global g, ix], [], .vptr true (.int kk) c0 0, []⟩ := fun σ' ha =>
  TDoes.val (B.idxTab (P := P) (nt := nt) (σ := σ'.den) (i := q.toNat) ho ht htab (by rw [ha.dev (x := ix) (by simp), hq]; rfl) (by omega) (by omega) hc hd).at
end
end Go.Proofs.Ytmkfpfnjimmmaaa
