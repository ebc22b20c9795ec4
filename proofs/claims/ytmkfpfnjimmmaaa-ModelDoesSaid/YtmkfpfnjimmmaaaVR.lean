/- The operations, computed: literals, make, append. Nothing of the dump stands here. -/
import Derived.Test.YtmkfpfnjimmmaaaVQ
namespace Go.Proofs.Ytmkfpfnjimmmaaa
open Go.RowKit
set_option linter.unusedVariables false
set_option linter.unusedSimpArgs false

section
variable {P : Program} {nt : Nat} {o : Oper} {σ : TS}

def tbldOf (P : Program) (t : TypeId) : Option (List TV × List (Nat × Nat)) :=
  match P.info? t, P.underlying t with
  | some it, some (.struct fields) =>
    match it.zero, fields.toList.mapM (fun f => (P.info? f.type).map fun i => (f.offset, i.size)) with
    | some z, some places => some (z.cells.toList.map constTV, places)
    | _, _ => none
  | some it, some (.array m e) => match it.zero, P.info? e with
    | some z, some ie => some (z.cells.toList.map constTV, (List.range m).map fun i => (i * ie.size, ie.size))
    | _, _ => none
  | _, _ => none
theorem tbldOf_ok {t : TypeId} {cs : List TV} {pl : List (Nat × Nat)} (h : tbldOf P t = some (cs, pl)) (B : Nat → TB) : bldOf P t = some (denVs B cs, pl) := by
  unfold tbldOf at h
  unfold bldOf
  split at h
  · rename_i it fields h1 h2
    rw [h1, h2]
    simp only
    split at h
    · rename_i z places h3 h4
      cases h
      rw [h3, h4]
      simp only
      rw [denVs_map, List.map_map]
      congr 2
      exact List.map_congr_left fun v _ => (constTV_den B v).symm
    · cases h
  · rename_i it m e h1 h2
    rw [h1, h2]
    simp only
    split at h
    · rename_i z ie h3 h4
      cases h
      rw [h3, h4]
      simp only
      rw [denVs_map, List.map_map]
      congr 2
      exact List.map_congr_left fun v _ => (constTV_den B v).symm
    · cases h
  · cases h

def tbuildA (places : List (Nat × Nat)) : List TV → List (Nat × TV) → Option (List TV)
  | cs, [] => some cs
  | cs, (i, x) :: r =>
    match places[i]? with
    | some (off, size) => bif Nat.beq x.flat.length size && x.flat.all tleaf then (match splice cs off x.flat with | some cs' => tbuildA places cs' r | none => none) else none
    | none => none
theorem tbuildA_ok {places : List (Nat × Nat)} (B : Nat → TB) : ∀ {parts : List (Nat × TV)} {cs out : List TV}, tbuildA places cs parts = some out → buildA places (denVs B cs) (parts.map fun p => (p.1, denV B p.2)) = some (denVs B out)
  | [], cs, out, h => by simp only [tbuildA, Option.some.injEq] at h; subst h; rfl
  | (i, x) :: r, cs, out, h => by
    simp only [tbuildA] at h
    split at h
    · rename_i off size hp
      cases hc : (Nat.beq x.flat.length size && x.flat.all tleaf) with
      | false => rw [hc] at h; cases h
      | true =>
        rw [hc] at h
        simp only [cond_true] at h
        split at h
        · rename_i cs' hs
          simp only [List.map_cons, buildA, hp, denV_flatten, leaves_den]
          rw [show (denVs B x.flat).length = x.flat.length by rw [denVs_map, List.length_map], hc]
          simp only [cond_true]
          have := splice_map (denV B) hs
          rw [← denVs_map, ← denVs_map, ← denVs_map] at this
          rw [this]
          exact tbuildA_ok B h
        · cases h
    · cases h

theorem T.build {t : TypeId} {parts : Array (Nat × Operand)} {zero vs : List TV} {places : List (Nat × Nat)} (ho : o.op = .build t parts) (hz : tbldOf P t = some (zero, places)) (hb : tbuildA places zero (parts.toList.map fun p => (p.1, σ.eval p.2)) = some vs) (hd : dstOk o nt = true) :
    TDoesB P nt o σ ⟨tmpsIn (parts.toList.map (·.2)), [], .agg vs, []⟩ := fun σ' ha =>
  TDoes.val (B.build (P := P) (σ := σ'.den) (vs := denVs σ'.blk vs) ho (tbldOf_ok hz σ'.blk) (by
    have := tbuildA_ok σ'.blk hb
    rw [List.map_map] at this
    rw [← this]
    congr 1
    refine List.map_congr_left fun p hp => ?_
    simp only [Function.comp]
    rw [ha.dev (x := p.2) (List.mem_map.2 ⟨p, hp, rfl⟩)]) hd).at

/-- Several data, one behind the other. -/
def packs (B : Nat → TB) (T : Ty) : List TV → Option (Pk (List (Val T)))
  | [] => some ⟨[], [], [], [], []⟩
  | x :: r => match pack B T x.flat with
    | some p => (match p.rest, packs B T r with
      | [], some q => some ⟨p.x :: q.x, [], p.rb ++ q.rb, p.fz ++ q.fz, p.ps ++ q.ps⟩
      | _, _ => none)
    | none => none
theorem packs_ok {B : Nat → TB} {T : Ty} : ∀ {l : List TV} {p : Pk (List (Val T))}, packs B T l = some p → (∀ q ∈ p.ps, q) → PkOk B p.rb p.fz ∧ p.x.length = l.length ∧ ∀ B2, Fz B B2 p.rb → ∀ (i : Nat) (x : TV) (c : List D), l[i]? = some x → (denS p.x)[i]? = some c → ZD (denV B2 x).flat c
  | [], p, h, hps => by
    simp only [packs, Option.some.injEq] at h
    subst h
    exact ⟨.nil, rfl, fun B2 _ i x c hx => by simp at hx⟩
  | x :: r, p, h, hps => by
    simp only [packs] at h
    split at h
    · rename_i p1 hp1
      split at h
      · rename_i q hr hq
        cases h
        obtain ⟨h1, pre, e1, z1⟩ := pack_ok hp1 fun q hq => hps q (List.mem_append.2 (.inl hq))
        obtain ⟨h2, h3, h4⟩ := packs_ok hq fun q hq => hps q (List.mem_append.2 (.inr hq))
        rw [hr, List.append_nil] at e1
        refine ⟨h1.app h2, by simp [h3], fun B2 hf i y c hy hc => ?_⟩
        cases i with
        | zero =>
          obtain rfl : x = y := by simpa using hy
          obtain rfl : flatD T p1.x = c := by simpa [denS] using hc
          rw [denV_flatten, e1]
          exact z1 B2 fun g hg => hf g (List.mem_append.2 (.inl hg))
        | succ i => exact h4 B2 (fun g hg => hf g (List.mem_append.2 (.inr hg))) i y c (by simpa using hy) (by simpa [denS] using hc)
      · cases h
    · cases h

theorem T.bslice {t e : TypeId} {len g : Nat} {T : Ty} {parts : Array (Nat × Operand)} {p : Pk (List (Val T))} (ho : o.op = .buildSlice t len parts) (ht : elOf P t = some (e, T.size)) (hz : (zeroTV P e).isSome = true) (hpos : 0 < T.size) (hp : parts.toList.map (·.1) = List.range' 0 len) (hsmall : len * T.size ≤ 16777216) (hne : 0 < len)
    (hpk : packs σ.blk T (parts.toList.map fun q => σ.eval q.2) = some p) (hps : ∀ q ∈ p.ps, q) (he : Nat.blt e 1000 = true) (hg : (σ.blk g).isFree = true) (hgf : g ∉ p.fz.map (·.1)) (hd : dstOk o nt = true) :
    TDoesB P nt o σ ⟨tmpsIn (parts.toList.map (·.2)), g :: p.rb, .own g, p.fz ++ [(g, .row T e p.x)]⟩ := fun σ' ha => by
  have hg' : σ'.blk g = .free := (ha.2 g (by simp)).trans (TB.isFree_eq hg)
  obtain ⟨hok, hlen, hz2⟩ := packs_ok hpk hps
  obtain ⟨hf', hfz⟩ := hok.rd.fz hok.fzo hok.sub (B' := σ'.blk) fun q hq => ha.2 q (List.mem_cons_of_mem _ hq)
  refine TDoes.frz (s := ⟨.own g, [(g, .row T e p.x)]⟩) hf' ?_
  have hg2 : tupsOf σ'.blk p.fz g = .free := (tupsOf_out _ _ _ hgf).trans hg'
  refine TDoes.of (by
    intro q hq
    obtain rfl := List.mem_singleton.1 hq
    show Turn (tupsOf σ'.blk p.fz g) _
    rw [hg2]
    exact .new) (by simp) fun hw => ?_
  have hlen' : len = p.x.length := by
    have := congrArg List.length hp
    simp at this
    rw [hlen, List.length_map, Array.length_toList]
    exact this.symm
  have hzs : (zeroAV P e).isSome = true := by
    obtain ⟨cs, hcs⟩ := Option.isSome_iff_exists.1 hz
    rw [zeroTV_ok hcs σ.blk]; rfl
  have := (B.bslice (P := P) (nt := nt) (σ := (TS.mk σ'.tmp (tupsOf σ'.blk p.fz)).den) (g := g) (sz := T.size) (es := denS p.x) (len := len) ho ht hzs hpos hp hsmall hne ⟨by simp [denS, hlen], fun i x c hx hc => by
      rw [List.getElem?_map] at hx
      obtain ⟨q, hq, rfl⟩ := Option.map_eq_some_iff.1 hx
      have h1 := hz2 _ hfz i (σ.eval q.2) c (by rw [List.getElem?_map, hq]; rfl) hc
      have h2 : (TS.mk σ'.tmp (tupsOf σ'.blk p.fz)).den.eval q.2 = denV (tupsOf σ'.blk p.fz) (σ.eval q.2) := (TS.eval_den _ _).trans (by
        have : (TS.mk σ'.tmp (tupsOf σ'.blk p.fz)).eval q.2 = σ'.eval q.2 := by cases q.2 <;> rfl
        rw [this, ha.ev (x := q.2) (List.mem_map.2 ⟨q, List.mem_of_getElem? hq, rfl⟩)])
      rw [h2]
      exact h1⟩ (by
      rw [List.all_eq_true]
      intro c hc
      obtain ⟨x, _, rfl⟩ := List.mem_map.1 hc
      simp [flatD_length]) he (by show denB _ (tupsOf σ'.blk p.fz g) = _; rw [hg2]; rfl) hd).at
  show Does P nt o _ ⟨denV (upd (tupsOf σ'.blk p.fz) g (.row T e p.x)) (.own g), [(g, .row T.size e (denS p.x))]⟩
  simp only [denV, upd_same, denO]
  rw [← hlen']
  exact this

theorem T.bempty {t e : TypeId} {g : Nat} {T : Ty} {parts : Array (Nat × Operand)} (ho : o.op = .buildSlice t 0 parts) (ht : elOf P t = some (e, T.size)) (hpos : 0 < T.size) (hp : parts = #[]) (he : Nat.blt e 1000 = true) (hg : (σ.blk g).isFree = true) (hd : dstOk o nt = true) :
    TDoesB P nt o σ ⟨tmpsIn (parts.toList.map (·.2)), [g], .own g, [(g, .row T e [])]⟩ := fun σ' ha => by
  have hg' : σ'.blk g = .free := (ha.2 g (by simp)).trans (TB.isFree_eq hg)
  refine TDoes.of (by simp [hg', Turn.new]) (by simp) fun hw => ?_
  have := (B.bempty (P := P) (nt := nt) (σ := σ'.den) (g := g) (sz := T.size) ho ht he hpos hp (by show denB _ (σ'.blk g) = _; rw [hg']; rfl) hd).at
  show Does P nt o _ ⟨denV (upd σ'.blk g (.row T e [])) (.own g), [(g, .row T.size e [])]⟩
  simp only [denV, upd_same, denO]
  exact this

theorem T.make {t e : TypeId} {g by' : Nat} {T : Ty} {x y : Operand} {zl : List TV} {p : Pk (Val T)} {kl kc : IntKind} {ql qc : Int} (ho : o.op = .makeSlice t x y) (ht : elOf P t = some (e, T.size)) (hz : zeroTV P e = some zl) (hpk : pack σ.blk T zl = some p) (hpr : p.rest = []) (hpf : p.rb = []) (hps : p.ps = []) (hb : P.bytesOf e = by') (hpos : 0 < T.size)
    (hx : σ.eval x = .int kl ql) (hy : σ.eval y = .int kc qc) (h0 : 0 ≤ ql) (hlc : ql ≤ qc) (hbytes : (by' : Int) * qc ≤ 281474976710656) (hmx : qc ≤ 140737488351232) {e' : TypeId} (he : rty e' = e) (hf : Fits e' ql.toNat qc.toNat) (hg : (σ.blk g).isFree = true) (hd : dstOk o nt = true) :
    TDoesB P nt o σ ⟨tmpsIn [x, y], [g], .own g, [(g, .row T e' (List.replicate ql.toNat p.x))]⟩ := fun σ' ha => by
  have hg' : σ'.blk g = .free := (ha.2 g (by simp)).trans (TB.isFree_eq hg)
  refine TDoes.of (by simp [hg', Turn.new]) (by simp) fun hw => ?_
  obtain ⟨hok, pre, hcs, hzz⟩ := pack_ok hpk (by rw [hps]; simp)
  rw [hpr, List.append_nil] at hcs
  subst hcs
  have hzd := hzz σ'.blk (by rw [hpf]; intro g hg; simp at hg)
  have hbb : by' * qc.toNat ≤ 281474976710656 := by
    have h1 : ((by' * qc.toNat : Nat) : Int) = (by' : Int) * qc := by rw [Int.natCast_mul]; congr 1; omega
    omega
  have := (B.make (P := P) (nt := nt) (σ := σ'.den) (g := g) (sz := T.size) (l := ql.toNat) (c := qc.toNat) (zs := flatD T p.x) ho ht (zeroTV_ok hz σ'.blk) hzd hb hpos (flatD_length _ _) (by rw [ha.dev (x := x) (by simp), hx]; rfl) (by rw [ha.dev (x := y) (by simp), hy]; rfl) (by omega) (by omega) (by omega) hbb (by unfold maxLen; omega) he hf (by show denB _ (σ'.blk g) = _; rw [hg']; rfl) hd).at
  show Does P nt o _ ⟨denV (upd σ'.blk g (.row T e' (List.replicate ql.toNat p.x))) (.own g), [(g, .row T.size e' (denS (List.replicate ql.toNat p.x)))]⟩
  simp only [denV, upd_same, denO, List.length_replicate]
  have e1 : denS (List.replicate ql.toNat p.x) = List.replicate ql.toNat (flatD T p.x) := by unfold denS; rw [List.map_replicate]
  rw [e1]
  exact this

/-- A slice whose elements are read. -/
def asSrc (B : Nat → TB) (t : Ty) : TV → Option (List (Val t) × List Nat × List Prop)
  | .view _ T l => (castL T t l).map fun l' => (l', [], [])
  | .nsl => some ([], [], [])
  | .own g => match B g with
    | .row T e l => (castL T t l).map fun l' => (l', [g], [])
    | .frz T l => (castL T t l).map fun l' => (l', [g], [])
    | _ => none
  | .sub g i n => match B g with
    | .row T e l => (castL T t l).map fun l' => ((l'.drop i).take n, [g], [i + n ≤ l.length])
    | .frz T l => (castL T t l).map fun l' => ((l'.drop i).take n, [g], [i + n ≤ l.length])
    | _ => none
  | _ => none
theorem asSrc_ok {B : Nat → TB} {t : Ty} {x : TV} {l : List (Val t)} {rb : List Nat} {ps : List Prop} (h : asSrc B t x = some (l, rb, ps)) (hps : ∀ q ∈ ps, q) : ∀ σ' : TS, (∀ g ∈ rb, σ'.blk g = B g) → ∃ rb', (∀ g ∈ rb', g ∈ rb) ∧ Src σ'.den t.size (denV σ'.blk x) rb' (denS l) := by
  unfold asSrc at h
  split at h
  · rename_i f T l0
    obtain ⟨l', h1, h2⟩ := Option.map_eq_some_iff.1 h
    cases h2
    obtain rfl := castL_ty h1
    obtain rfl := castL_self h1
    intro σ' _
    exact ⟨[], by simp, .view (f := f) (by cases f; exact .view _ _; exact .lent _ _)⟩
  · cases h
    intro σ' _
    exact ⟨[], by simp, .nil rfl⟩
  · rename_i g
    split at h
    · rename_i T e l0 hb
      obtain ⟨l', h1, h2⟩ := Option.map_eq_some_iff.1 h
      cases h2
      obtain rfl := castL_ty h1
      obtain rfl := castL_self h1
      intro σ' ha
      have hb' := (ha g (by simp)).trans hb
      exact ⟨[g], by simp, .own (e := e) (n := l.length) (by simp only [denV, hb', denO]) (by show denB _ (σ'.blk g) = _; rw [hb']; rfl) (by simp [denS])⟩
    · rename_i T l0 hb
      obtain ⟨l', h1, h2⟩ := Option.map_eq_some_iff.1 h
      cases h2
      obtain rfl := castL_ty h1
      obtain rfl := castL_self h1
      intro σ' ha
      have hb' := (ha g (by simp)).trans hb
      refine ⟨[], by simp, .view (f := false) ?_⟩
      simp only [denV, hb', denO]
      exact .view _ _
    · cases h
  · rename_i g i n
    split at h
    · rename_i T e l0 hb
      obtain ⟨l', h1, h2⟩ := Option.map_eq_some_iff.1 h
      cases h2
      obtain rfl := castL_ty h1
      obtain rfl := castL_self h1
      intro σ' ha
      have hb' := (ha g (by simp)).trans hb
      rw [← denS_part]
      exact ⟨[g], by simp, .part (e := e) (by simp only [denV, hb', denU]) (by show denB _ (σ'.blk g) = _; rw [hb']; rfl) (by simpa [denS] using hps (i + n ≤ l'.length) (by simp))⟩
    · rename_i T l0 hb
      obtain ⟨l', h1, h2⟩ := Option.map_eq_some_iff.1 h
      cases h2
      obtain rfl := castL_ty h1
      obtain rfl := castL_self h1
      intro σ' ha
      have hb' := (ha g (by simp)).trans hb
      refine ⟨[], by simp, .view (f := false) ?_⟩
      simp only [denV, hb', denU, if_pos (hps (i + n ≤ l'.length) (by simp)), denS_part]
      exact .view _ _
    · cases h
  · cases h

theorem T.append {t e : TypeId} {by' g g' : Nat} {T : Ty} {s x : Operand} {l ys : List (Val T)} {rb : List Nat} {ps : List Prop} {zl : List TV} (ho : o.op = .call { callee := .builtin .append, args := #[s, x], argTypes := #[t, t] }) (ht : elOf P t = some (e, T.size)) (hz : zeroTV P e = some zl) (hzl : zl.length = T.size) (hb : P.bytesOf e = by') (hby : 1 ≤ by') (hpos : 0 < T.size)
    {e' : TypeId} (he' : rty e' = e) (he : Nat.blt e 1000 = true) (hs : σ.eval s = .own g) (hrow : σ.blk g = .row T e' l) (hx : asSrc σ.blk T (σ.eval x) = some (ys, rb, ps)) (hps : ∀ q ∈ ps, q) (hlen : (l.length + ys.length) * by' ≤ 140737488355328) (hg' : (σ.blk g').isFree = true) (hd : dstOk o nt = true) :
    TDoesB P nt o σ ⟨tmpsIn [s, x], g :: g' :: rb, .own g', [(g, .dead l.length), (g', .row T e (l ++ ys))]⟩ := fun σ' ha => by
  have hr' : σ'.blk g = .row T e' l := (ha.2 g (by simp)).trans hrow
  have hf' : σ'.blk g' = .free := (ha.2 g' (by simp)).trans (TB.isFree_eq hg')
  have hne : g' ≠ g := by rintro rfl; rw [hr'] at hf'; cases hf'
  refine TDoes.of (by
    intro q hq
    simp only [List.mem_cons, List.not_mem_nil, or_false] at hq
    rcases hq with rfl | rfl
    · show Turn (σ'.blk g) _; rw [hr']; exact .dead
    · show Turn (σ'.blk g') _; rw [hf']; exact .new) (by simp [Ne.symm hne]) fun hw => ?_
  obtain ⟨rb', hrb, hsrc⟩ := asSrc_ok hx hps σ' fun q hq => ha.2 q (by simp [hq])
  have h1 : l.length + ys.length ≤ (l.length + ys.length) * by' := Nat.le_mul_of_pos_right _ (by omega)
  have := (B.append (P := P) (nt := nt) (σ := σ'.den) (g := g) (g' := g') (n := l.length) (sz := T.size) (es := denS l) (ys := denS ys) (rb := rb') ho ht (by rw [zeroTV_ok hz σ'.blk]; simp [denVs_map, hzl]) hb hpos he' he (by rw [ha.dev (x := s) (by simp), hs]; simp only [denV, hr', denO]) (by show denB _ (σ'.blk g) = _; rw [hr']; rfl) (by simp [denS])
    (by rw [ha.dev (x := x) (by simp)]; exact hsrc) (by simp [denS, maxLen]; omega) (by simp [denS]; omega) (by show denB _ (σ'.blk g') = _; rw [hf']; rfl) hne hd).at
  show Does P nt o _ ⟨denV (upd (upd σ'.blk g (.dead l.length)) g' (.row T e (l ++ ys))) (.own g'), [(g, .dead), (g', .row T.size e (denS (l ++ ys)))]⟩
  simp only [denV, upd_same, denO, List.length_append]
  have e1 : denS (l ++ ys) = denS l ++ denS ys := by unfold denS; rw [List.map_append]
  rw [e1]
  simpa [denS] using this

theorem T.append0 {t e : TypeId} {by' g' : Nat} {T : Ty} {s x : Operand} {ys : List (Val T)} {rb : List Nat} {ps : List Prop} {zl : List TV} (ho : o.op = .call { callee := .builtin .append, args := #[s, x], argTypes := #[t, t] }) (ht : elOf P t = some (e, T.size)) (hz : zeroTV P e = some zl) (hzl : zl.length = T.size) (hb : P.bytesOf e = by') (hby : 1 ≤ by') (hpos : 0 < T.size) (he : Nat.blt e 1000 = true)
    (hs : σ.eval s = .nsl) (hx : asSrc σ.blk T (σ.eval x) = some (ys, rb, ps)) (hps : ∀ q ∈ ps, q) (hlen : ys.length * by' ≤ 140737488355328) (hg' : (σ.blk g').isFree = true) (hd : dstOk o nt = true) :
    TDoesB P nt o σ ⟨tmpsIn [s, x], g' :: rb, .own g', [(g', .row T e ys)]⟩ := fun σ' ha => by
  have hf' : σ'.blk g' = .free := (ha.2 g' (by simp)).trans (TB.isFree_eq hg')
  refine TDoes.of (by simp [hf', Turn.new]) (by simp) fun hw => ?_
  obtain ⟨rb', hrb, hsrc⟩ := asSrc_ok hx hps σ' fun q hq => ha.2 q (by simp [hq])
  have h1 : ys.length ≤ ys.length * by' := Nat.le_mul_of_pos_right _ (by omega)
  have := (B.append0 (P := P) (nt := nt) (σ := σ'.den) (g' := g') (sz := T.size) (ys := denS ys) (rb := rb') ho ht (by rw [zeroTV_ok hz σ'.blk]; simp [denVs_map, hzl]) hb hpos he (by rw [ha.dev (x := s) (by simp), hs]; rfl)
    (by rw [ha.dev (x := x) (by simp)]; exact hsrc) (by simp [denS, maxLen]; omega) (by simp [denS]; omega) (by show denB _ (σ'.blk g') = _; rw [hf']; rfl) hd).at
  show Does P nt o _ ⟨denV (upd σ'.blk g' (.row T e ys)) (.own g'), [(g', .row T.size e (denS ys))]⟩
  simp only [denV, upd_same, denO]
  simpa [denS] using this
end
end Go.Proofs.Ytmkfpfnjimmmaaa
