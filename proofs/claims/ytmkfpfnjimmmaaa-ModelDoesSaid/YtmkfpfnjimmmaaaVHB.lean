/- Maps whose keys and values are whole numbers: made, asked, told. Nothing of the dump stands here. -/
import Derived.Test.YtmkfpfnjimmmaaaVHA
namespace Go.Proofs.Ytmkfpfnjimmmaaa
open Go.RowKit
set_option linter.unusedVariables false
set_option linter.unusedSimpArgs false

namespace DoorU
/-- The first entry of a key, and where it stands. -/
def mfind (l : List (Int × Int)) (q : Int) : Option Nat := l.findIdx? fun x => x.1 == q
def mhas (l : List (Int × Int)) (q : Int) : Bool := (l.find? fun x => x.1 == q).isSome
def mget (l : List (Int × Int)) (q : Int) : Int := ((l.find? fun x => x.1 == q).map (·.2)).getD 0
def mput : List (Int × Int) → Int → Int → List (Int × Int)
  | [], q, v => [(q, v)]
  | x :: l, q, v => bif x.1 == q then (q, v) :: l else x :: mput l q v
end DoorU

/-- A map's block and its data. -/
def MapsTo (ik kv : IntKind) (es : List MapEntry) (l : List (Int × Int)) : Prop := es.length = l.length ∧ ∀ (i : Nat) (x : Int × Int) (e : MapEntry), l[i]? = some x → es[i]? = some e → e.key = .int ik x.1 ∧ e.val = .int kv x.2

theorem MapsTo.tail {ik kv : IntKind} {e : MapEntry} {es : List MapEntry} {x : Int × Int} {l : List (Int × Int)} (h : MapsTo ik kv (e :: es) (x :: l)) : (e.key = .int ik x.1 ∧ e.val = .int kv x.2) ∧ MapsTo ik kv es l :=
  ⟨h.2 0 x e rfl rfl, by simpa using h.1, fun i y e' hy he => h.2 (i + 1) y e' (by simpa using hy) (by simpa using he)⟩
theorem MapsTo.nil' {ik kv : IntKind} {es : List MapEntry} (h : MapsTo ik kv es []) : es = [] := List.length_eq_zero_iff.1 h.1
theorem MapsTo.cons' {ik kv : IntKind} {es : List MapEntry} {x : Int × Int} {l : List (Int × Int)} (h : MapsTo ik kv es (x :: l)) : ∃ e es', es = e :: es' := by
  cases es with
  | nil => have := h.1; simp at this
  | cons e es' => exact ⟨e, es', rfl⟩
theorem MapsTo.head {ik kv : IntKind} {e : MapEntry} {es : List MapEntry} {x : Int × Int} {l : List (Int × Int)} (h1 : e.key = .int ik x.1 ∧ e.val = .int kv x.2) (h : MapsTo ik kv es l) : MapsTo ik kv (e :: es) (x :: l) :=
  ⟨by simp [h.1], fun i y e' hy he => by
    cases i with
    | zero =>
      obtain rfl : x = y := by simpa using hy
      obtain rfl : e = e' := by simpa using he
      exact h1
    | succ i => exact h.2 i y e' (by simpa using hy) (by simpa using he)⟩

theorem sameNow_key {ik : IntKind} {q : Int} {e : MapEntry} {x : Int × Int} (h : e.key = .int ik x.1) : Instr.sameNow (.int ik) (.int ik q) e.key = some (x.1 == q) := by
  rw [h]
  simp only [Instr.sameNow, if_true]
  congr 1
  rw [Bool.eq_iff_iff, beq_iff_eq, beq_iff_eq]
  exact ⟨Eq.symm, Eq.symm⟩

theorem modify_set {α : Type} {f : α → α} : ∀ (l : List α) (i : Nat) (h : i < l.length), l.modify i f = l.set i (f l[i])
  | [], i, h => by simp at h
  | x :: l, 0, _ => rfl
  | x :: l, i + 1, h => by
    show x :: l.modify i f = x :: l.set i (f (l[i]'(by simpa using h)))
    rw [modify_set l i (by simpa using h)]

theorem findNow_map {ik kv : IntKind} {q : Int} : ∀ {es : List MapEntry} {l : List (Int × Int)} (n : Nat), MapsTo ik kv es l →
    ∃ r, Instr.findNow (.int ik) (.int ik q) es n = some r ∧ (r.map (·.2)).getD (.int kv 0) = .int kv (DoorU.mget l q) ∧ r.isSome = DoorU.mhas l q
  | es, [], n, h => by
    obtain rfl := h.nil'
    exact ⟨none, rfl, rfl, rfl⟩
  | es, x :: l, n, h => by
    obtain ⟨e, es', rfl⟩ := h.cons'
    obtain ⟨⟨h1, h2⟩, h3⟩ := h.tail
    unfold Instr.findNow
    rw [sameNow_key h1]
    unfold DoorU.mget DoorU.mhas
    cases hq : (x.1 == q) with
    | true => exact ⟨some (n, e.val), rfl, by simp [List.find?, hq, h2], by simp [List.find?, hq]⟩
    | false =>
      obtain ⟨r, r1, r2, r3⟩ := findNow_map (q := q) (n + 1) h3
      refine ⟨r, r1, ?_, ?_⟩
      · rw [List.find?_cons_of_neg (by simp [hq])]; exact r2
      · rw [List.find?_cons_of_neg (by simp [hq])]; exact r3

theorem findNow_put {ik kv : IntKind} {q v : Int} : ∀ {es : List MapEntry} {l : List (Int × Int)} (n : Nat), MapsTo ik kv es l →
    (Instr.findNow (.int ik) (.int ik q) es n = some none ∧ DoorU.mput l q v = l ++ [(q, v)]) ∨
    (∃ i u e, Instr.findNow (.int ik) (.int ik q) es n = some (some (n + i, u)) ∧ es[i]? = some e ∧ e.key = .int ik q ∧ DoorU.mput l q v = l.set i (q, v) ∧ i < l.length)
  | es, [], n, h => by
    obtain rfl := h.nil'
    exact .inl ⟨rfl, rfl⟩
  | es, x :: l, n, h => by
    obtain ⟨e, es', rfl⟩ := h.cons'
    obtain ⟨⟨h1, h2⟩, h3⟩ := h.tail
    unfold Instr.findNow DoorU.mput
    rw [sameNow_key h1]
    cases hq : (x.1 == q) with
    | true =>
      refine .inr ⟨0, e.val, e, rfl, rfl, ?_, rfl, by simp⟩
      rw [h1, (by simpa using hq : x.1 = q)]
    | false =>
      rcases findNow_put (q := q) (v := v) (n + 1) h3 with ⟨r1, r2⟩ | ⟨i, u, e', r1, r2, r3, r4, r5⟩
      · exact .inl ⟨r1, by rw [r2]; rfl⟩
      · refine .inr ⟨i + 1, u, e', ?_, r2, r3, by rw [r4]; rfl, by simp; omega⟩
        rw [show n + (i + 1) = n + 1 + i by omega]
        exact r1

theorem MapsTo.set {ik kv : IntKind} {es : List MapEntry} {l : List (Int × Int)} (h : MapsTo ik kv es l) {i : Nat} {x : Int × Int} {e : MapEntry} (he : e.key = .int ik x.1 ∧ e.val = .int kv x.2) : MapsTo ik kv (es.set i e) (l.set i x) :=
  ⟨by simp [h.1], fun j y e' hy he' => by
    by_cases hj : i = j
    · subst hj
      have h1 : i < l.length := by have := (List.getElem?_eq_some_iff.1 hy).1; simpa using this
      have h2 : i < es.length := by rw [h.1]; exact h1
      rw [List.getElem?_set_self h1] at hy
      rw [List.getElem?_set_self h2] at he'
      cases hy; cases he'
      exact he
    · rw [List.getElem?_set_ne hj] at hy he'
      exact h.2 j y e' hy he'⟩
theorem MapsTo.push {ik kv : IntKind} {es : List MapEntry} {l : List (Int × Int)} (h : MapsTo ik kv es l) {x : Int × Int} {e : MapEntry} (he : e.key = .int ik x.1 ∧ e.val = .int kv x.2) : MapsTo ik kv (es ++ [e]) (l ++ [x]) :=
  ⟨by simp [h.1], fun j y e' hy he' => by
    by_cases hj : j < l.length
    · rw [List.getElem?_append_left hj] at hy
      rw [List.getElem?_append_left (by rw [h.1]; exact hj)] at he'
      exact h.2 j y e' hy he'
    · rw [List.getElem?_append_right (by omega)] at hy
      rw [List.getElem?_append_right (by rw [h.1]; omega), h.1] at he'
      cases hz : j - l.length with
      | zero => rw [hz] at hy he'; obtain rfl : x = y := by simpa using hy
                obtain rfl : e = e' := by simpa using he'
                exact he
      | succ z => rw [hz] at hy; simp at hy⟩

section
variable {P : Program} {nt : Nat} {o : Oper} {σ : St}

def mpOf (kv : IntKind) (l : List (Int × Int)) : List (Int × AV) := l.map fun x => (x.1, .d (.int kv x.2))

theorem map_of {w0 : Cx} {U : Nat → Prop} {E : Env} {a : Act} {w : World} (hr : Rel w0 U nt σ E a w) {g : Nat} {ik kv : IntKind} {l : List (Int × Int)} (hb : σ.blk g = .mp ik (mpOf kv l)) :
    E.kn g ∧ w0.Mine (E.β g) ∧ ∃ es n, w.heap[E.β g]? = some (.map es n) ∧ MapsTo ik kv es.toList l := by
  have hbl := hr.mem.blk g
  rw [hb] at hbl
  obtain ⟨hk, hm, es, n, h1, h2, h3⟩ := hbl
  refine ⟨hk, hm, es, n, h1, by simpa [mpOf] using h2, fun i x e hx he => ?_⟩
  obtain ⟨h4, h5⟩ := h3 i (x.1, .d (.int kv x.2)) e (by unfold mpOf; rw [List.getElem?_map, hx]; rfl) (by simpa using he)
  refine ⟨h4, ?_⟩
  generalize hv : e.val = v at h5
  cases h5 with
  | d h6 => cases h6; rfl

theorem B.makeMap {t kt et : TypeId} {g : Nat} {ik kr : IntKind} {q : Int} {x : Operand} (ho : o.op = .makeMap t (some x)) (ht : P.underlying t = some (.map kt et)) (hx : σ.eval x = .d (.int kr q)) (hg : σ.blk g = .free) (hd : dstOk o nt = true) : DoesB P nt o σ ⟨tmpsIn [x], [g], .mp g, [(g, .mp ik [])]⟩ := fun σ' ha w0 U E a w N Q hr hN => by
  have hg' : σ'.blk g = .free := (ha.2 g (by simp)).trans hg
  have h1 := hr.eval x
  rw [ha.eval (x := x) (by simp), hx] at h1
  have hex : (execOp a.eval o).run P w = .ok (.value (.map (some w.heap.size))) (w.alloc (.map #[] 0)) := by
    rw [execOp, ho]
    simp [Instr.makeMap, run_underlying ht w, int_of h1, asInt, asIntOf, newObj]
    rfl
  unfold Oper.wp
  rw [hex]
  have hb : (E.add g w.heap.size 1 0).β g = w.heap.size := upd_same _ _ _
  have hr' := hr.alloc (sz := 1) (cap := 0) (x := .mp ik []) hg' (alloc_heap w _).1 (alloc_heap w (.map #[] 0)).2 (hr.mem.below.alloc _) (Nat.le_refl _) ⟨.inl rfl, by rw [hb]; exact hr.mem.below.mine (Nat.le_refl _), #[], 0, by rw [hb]; exact heap_new w _, rfl, fun i x e hx => by simp at hx⟩
  refine hN _ _ _ (hr'.undef (dstOk_lt hd) ?_)
  have := VA.mp (E := E.add g w.heap.size 1 0) (w := w.alloc (.map #[] 0)) (F := Fof (E.add g w.heap.size 1 0) (upd σ'.blk g (.mp ik []))) (U := U) (base := w0.heap.size) (g := g) (.inl rfl)
  rw [hb] at this
  exact this

theorem mp_of {E : Env} {w : World} {F U : Nat → Prop} {base g : Nat} {v : Value} (h : VA E w F U base (.mp g) v) : v = .map (some (E.β g)) ∧ E.kn g := by
  cases h with
  | mp hk => exact ⟨rfl, hk⟩

theorem run_getObj_mp {w : World} {r : Nat} {es : Array MapEntry} {c : Nat} (h : w.heap[r]? = some (.map es c)) : (getObj r).run P w = .ok (.map es c) w := by
  simp only [getObj, Sem.run, h]
theorem run_setObj_mp {w : World} {r : Nat} {es : Array MapEntry} {c : Nat} {o : Obj} (h : w.heap[r]? = some (.map es c)) : (setObj r o).run P w = .ok () { w with heap := w.heap.setIfInBounds r o } := by
  simp only [setObj, Sem.run, h]
theorem run_checkKey_mp {w : World} {kt : TypeId} {ik : IntKind} {k : Int} {b : Bool} (n : Nat) (hk : P.underlying kt = some (.int ik)) : (Instr.checkKey b (n + 1) kt (.int ik k)).run P w = .ok () w := by
  simp [Instr.checkKey, run_underlying hk, Sem.run_pure]
theorem run_findKey_mp {w : World} {kt : TypeId} {ik : IntKind} {k : Int} {es : List MapEntry} {r : Option (Nat × Value)} (hk : P.underlying kt = some (.int ik)) (hf : Instr.findNow (.int ik) (.int ik k) es 0 = some r) :
    (Instr.findKey kt (.int ik k) es).run P w = .ok r w := by
  simp [Instr.findKey, run_underlying hk, hf, Sem.run_pure]

theorem B.lookup {t kt et : TypeId} {g : Nat} {ik kv : IntKind} {q : Int} {l : List (Int × Int)} {x y : Operand} (ho : o.op = .lookup t x y true) (ht : P.underlying t = some (.map kt et)) (hk : P.underlying kt = some (.int ik)) (hz : ∀ w, (zeroValue et).run P w = .ok (.int kv 0) w)
    (hx : σ.eval x = .mp g) (hy : σ.eval y = .d (.int ik q)) (hb : σ.blk g = .mp ik (mpOf kv l)) (hd : dstOk o nt = true) :
    DoesB P nt o σ ⟨tmpsIn [x, y], [g], .tup [.d (.int kv (DoorU.mget l q)), .d (.bool (DoorU.mhas l q))], []⟩ := fun σ' ha =>
  Does.value hd fun w0 U E c w hrel => by
    have h1 := hrel.eval x
    rw [ha.eval (x := x) (by simp), hx] at h1
    have h2 := hrel.eval y
    rw [ha.eval (x := y) (by simp), hy] at h2
    obtain ⟨h3, _⟩ := mp_of h1
    obtain ⟨_, _, es, n, h4, h5⟩ := map_of hrel ((ha.2 g (by simp)).trans hb)
    obtain ⟨r, r1, r2, r3⟩ := findNow_map (q := q) 0 h5
    have c1 := run_checkKey_mp (P := P) (w := w) (b := es.isEmpty) (k := q) 9999 hk
    have c2 := run_findKey_mp (P := P) (w := w) hk r1
    have c3 := run_getObj_mp (P := P) h4
    refine ⟨.tuple #[.int kv (DoorU.mget l q), .bool (DoorU.mhas l q)], ?_, ?_⟩
    · rw [execOp, ho]
      have hrun : (Instr.lookup t (.map (some (E.β g))) (.int ik q) true).run P w = .ok (.tuple #[.int kv (DoorU.mget l q), .bool (DoorU.mhas l q)]) w := by
        unfold Instr.lookup
        cases r with
        | none =>
          simp only [Option.map_none, Option.getD_none] at r2
          simp only [Sem.run_bind, run_underlying ht, Result.andThen, c3, c1, c2, hz, Sem.run_pure]
          rw [← r3, ← r2]; rfl
        | some z =>
          simp only [Option.map_some, Option.getD_some] at r2
          simp only [Sem.run_bind, run_underlying ht, Result.andThen, c3, c1, c2, Sem.run_pure]
          rw [← r3, ← r2]; rfl
      simp only [h3, int_of h2, Sem.run_bind, hrun, Result.andThen_ok]
      rfl
    · refine .tup rfl fun i z u hz hu => ?_
      match i, hz, hu with
      | 0, hz, hu =>
        obtain rfl := (by simpa using hz : _ = z)
        obtain rfl := (by simpa using hu : _ = u)
        exact .d (.int _ _)
      | 1, hz, hu =>
        obtain rfl := (by simpa using hz : _ = z)
        obtain rfl := (by simpa using hu : _ = u)
        exact .d (.bool _)
      | i + 2, hz, hu => simp at hz

theorem B.mapUpdate {t kt et : TypeId} {g : Nat} {ik kv : IntKind} {q v : Int} {l : List (Int × Int)} {x y z : Operand} (ho : o.op = .mapUpdate t x y z) (ht : P.underlying t = some (.map kt et)) (hk : P.underlying kt = some (.int ik))
    (hx : σ.eval x = .mp g) (hy : σ.eval y = .d (.int ik q)) (hz : σ.eval z = .d (.int kv v)) (hb : σ.blk g = .mp ik (mpOf kv l)) (hd : o.dst = none) :
    DoesB P nt o σ ⟨tmpsIn [x, y, z], [g], .und, [(g, .mp ik (mpOf kv (DoorU.mput l q v)))]⟩ := fun σ' ha w0 U E a w N Q hr hN => by
  have hb' : σ'.blk g = .mp ik (mpOf kv l) := (ha.2 g (by simp)).trans hb
  have h1 := hr.eval x
  rw [ha.eval (x := x) (by simp), hx] at h1
  have h2 := hr.eval y
  rw [ha.eval (x := y) (by simp), hy] at h2
  have h2' := hr.eval z
  rw [ha.eval (x := z) (by simp), hz] at h2'
  obtain ⟨h3, hkn⟩ := mp_of h1
  obtain ⟨_, hmine, es, n, h4, h5⟩ := map_of hr hb'
  have hlt : E.β g < w.heap.size := (Array.getElem?_eq_some_iff.1 h4).1
  have c1 := run_checkKey_mp (P := P) (w := w) (b := false) (k := q) 9999 hk
  have c3 := run_getObj_mp (P := P) h4
  have c4 := fun o => run_setObj_mp (P := P) (o := o) h4
  obtain ⟨es', n', hrun, hmap⟩ : ∃ es' n', (Instr.mapUpdate t (.map (some (E.β g))) (.int ik q) (.int kv v)).run P w = .ok () { w with heap := w.heap.setIfInBounds (E.β g) (.map es' n') } ∧ MapsTo ik kv es'.toList (DoorU.mput l q v) := by
    rcases findNow_put (q := q) (v := v) 0 h5 with ⟨r1, r2⟩ | ⟨i, u, e, r1, r2, r3, r4, r5⟩
    · have c2 := run_findKey_mp (P := P) (w := w) hk r1
      refine ⟨es.push { key := .int ik q, val := .int kv v, born := n }, n + 1, ?_, ?_⟩
      · unfold Instr.mapUpdate
        simp only [Sem.run_bind, run_underlying ht, Result.andThen, c3, c1, c2, c4]
      · rw [r2, Array.toList_push]
        exact h5.push ⟨rfl, rfl⟩
    · have c2 := run_findKey_mp (P := P) (w := w) hk r1
      rw [Nat.zero_add] at c2
      have hi : i < es.size := by have := (List.getElem?_eq_some_iff.1 r2).1; simpa using this
      have hek : (es[i]?).map (·.key) = some (.int ik q) := by
        have : es[i]? = some e := by simpa using r2
        rw [this]; simp [r3]
      have hst : (Instr.keyThatStays (((es[i]?).map (·.key)).getD (.int ik q)) (.int ik q)).run P w = .ok (.int ik q) w := by
        rw [hek]
        simp [Instr.keyThatStays, Instr.sameBits]
      refine ⟨es.modify i fun e => { e with key := .int ik q, val := .int kv v }, n, ?_, ?_⟩
      · unfold Instr.mapUpdate
        simp only [Sem.run_bind, run_underlying ht, Result.andThen, c3, c1, c2, c4, hst]
      · rw [r4]
        have e1 : (es.modify i fun e => { e with key := .int ik q, val := .int kv v }).toList = es.toList.set i { es[i] with key := .int ik q, val := .int kv v } := by
          rw [Array.toList_modify, modify_set _ i (by simpa using hi)]
          simp
        rw [e1]
        exact h5.set ⟨rfl, rfl⟩
  have hex : (execOp a.eval o).run P w = .ok .skip { w with heap := w.heap.setIfInBounds (E.β g) (.map es' n') } := by
    rw [execOp, ho]
    simp only [h3, int_of h2, int_of h2', Sem.run_bind, hrun, Result.andThen_ok]
    rfl
  unfold Oper.wp
  rw [hex]
  have hlv : Hot E g (σ'.blk g) := by rw [hb']; trivial
  have hother : ∀ b, b ≠ E.β g → ({ w with heap := w.heap.setIfInBounds (E.β g) (.map es' n') } : World).heap[b]? = w.heap[b]? := fun b hne => by
    show (w.heap.setIfInBounds (E.β g) (.map es' n'))[b]? = _
    rw [Array.getElem?_setIfInBounds, if_neg (Ne.symm hne)]
  have hkept : Kept w0 { w with heap := w.heap.setIfInBounds (E.β g) (.map es' n') } :=
    ⟨hr.mem.below.below.trans ⟨rfl, rfl, rfl, by simp, fun k hk => by omega⟩, fun b hb hn => (hother b (by
      rintro rfl
      rcases hmine with h1 | h1
      · omega
      · exact hn h1)).trans (hr.mem.below.keep b hb hn), hr.mem.below.pl, hr.mem.below.tab, hr.mem.below.tabh⟩
  have hr' := hr.change hlv (x := .mp ik (mpOf kv (DoorU.mput l q v))) (w' := { w with heap := w.heap.setIfInBounds (E.β g) (.map es' n') }) (by simp) hother hkept
    ⟨hkn, hmine, es', n', by show (w.heap.setIfInBounds _ _)[_]? = _; rw [Array.getElem?_setIfInBounds, if_pos rfl, if_pos hlt], by have := hmap.1; simp [mpOf] at this ⊢; exact this, fun i x e hx he => by
      unfold mpOf at hx
      rw [List.getElem?_map] at hx
      obtain ⟨y, hy, rfl⟩ := Option.map_eq_some_iff.1 hx
      obtain ⟨q1, q2⟩ := hmap.2 i y e hy (by simpa using he)
      exact ⟨q1, by rw [q2]; exact .d (.int _ _)⟩⟩
  refine hN E _ _ ?_
  have e1 : σ'.step o.dst ⟨.und, [(g, .mp ik (mpOf kv (DoorU.mput l q v)))]⟩ = {σ' with blk := upd σ'.blk g (.mp ik (mpOf kv (DoorU.mput l q v)))} := by
    rw [hd]; rfl
  rw [e1, hd]
  exact hr'
end
end Go.Proofs.Ytmkfpfnjimmmaaa
