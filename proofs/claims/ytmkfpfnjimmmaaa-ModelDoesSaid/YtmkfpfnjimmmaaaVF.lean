/- Struct and slice literals, make, append, copy. Nothing of the dump stands here. -/
import Derived.Test.YtmkfpfnjimmmaaaVE
import Derived.Great.BuildSlice
namespace Go.Proofs.Ytmkfpfnjimmmaaa
open Go.RowKit
set_option linter.unusedVariables false
set_option linter.unusedSimpArgs false

section
variable {P : Program} {nt : Nat} {o : Oper} {σ : St}

/-- A struct literal: its zero cells, and where its fields lie. -/
def bldOf (P : Program) (t : TypeId) : Option (List AV × List (Nat × Nat)) :=
  match P.info? t, P.underlying t with
  | some it, some (.struct fields) =>
    match it.zero, fields.toList.mapM (fun f => (P.info? f.type).map fun i => (f.offset, i.size)) with
    | some z, some places => some (z.cells.toList.map constAV, places)
    | _, _ => none
  | some it, some (.array m e) => match it.zero, P.info? e with
    | some z, some ie => some (z.cells.toList.map constAV, (List.range m).map fun i => (i * ie.size, ie.size))
    | _, _ => none
  | _, _ => none

theorem fill_more {p q : Nat → Option (Nat × Nat)} (h : ∀ i x, p i = some x → q i = some x) : ∀ (l : List (Nat × Value)) (cs r : Array Value), Instr.fill p cs l = some r → Instr.fill q cs l = some r
  | [], cs, r, hr => hr
  | (i, v) :: l, cs, r, hr => by
    unfold Instr.fill at hr ⊢
    cases hp : p i with
    | none => rw [hp] at hr; cases hr
    | some x =>
      rw [hp] at hr
      rw [h i x hp]
      obtain ⟨off, size⟩ := x
      simp only at hr ⊢
      split at hr
      · cases hr
      · rename_i hc
        rw [if_neg hc]
        exact fill_more h l _ r hr

def buildA (places : List (Nat × Nat)) : List AV → List (Nat × AV) → Option (List AV)
  | cs, [] => some cs
  | cs, (i, x) :: r =>
    match places[i]? with
    | some (off, size) => bif Nat.beq x.flat.length size && leaves x.flat then (match splice cs off x.flat with | some cs' => buildA places cs' r | none => none) else none
    | none => none

theorem fill_cells {E : Env} {w : World} {F U : Nat → Prop} {base : Nat} (places : List (Nat × Nat)) : ∀ (parts : List (Nat × AV)) (vals : List (Nat × Value)) (cs out : List AV) (cells : Array Value), buildA places cs parts = some out →
    parts.length = vals.length → (∀ (k : Nat) (p : Nat × AV) (q : Nat × Value), parts[k]? = some p → vals[k]? = some q → p.1 = q.1 ∧ VA E w F U base p.2 q.2) → cells.size = cs.length → (∀ (i : Nat) (x : AV) (u : Value), cs[i]? = some x → cells[i]? = some u → VA E w F U base x u) →
    ∃ r, Instr.fill (places.toArray[·]?) cells vals = some r ∧ r.size = out.length ∧ ∀ (i : Nat) (x : AV) (u : Value), out[i]? = some x → r[i]? = some u → VA E w F U base x u
  | [], vals, cs, out, cells, hb, hl, _, hsz, hV => by
    obtain rfl : vals = [] := List.eq_nil_of_length_eq_zero hl.symm
    simp only [buildA, Option.some.injEq] at hb
    subst hb
    exact ⟨cells, rfl, hsz, hV⟩
  | (i, x) :: parts, vals, cs, out, cells, hb, hl, hp, hsz, hV => by
    cases vals with
    | nil => simp at hl
    | cons q vals =>
      obtain ⟨hi, hx⟩ := hp 0 _ _ rfl rfl
      obtain ⟨i', v⟩ := q
      simp only at hi hx
      subst hi
      simp only [buildA] at hb
      split at hb
      · rename_i off size hpl
        cases hc : (Nat.beq x.flat.length size && leaves x.flat) with
        | false => rw [hc] at hb; cases hb
        | true =>
          rw [hc] at hb
          simp only [Bool.and_eq_true] at hc
          have hsize := Nat.eq_of_beq_eq_true hc.1
          simp only [cond_true] at hb
          split at hb
          · rename_i cs' hs
            obtain ⟨us, h1, h2, h3, h4⟩ := flat_of hx hc.2
            obtain ⟨h5, rfl⟩ := splice_eq hs
            obtain ⟨g1, g2⟩ := Great.foldl_set off v.cells.toList 0 cells
            have hvs : v.cells.size = size := by rw [h1, List.size_toArray, h2, hsize]
            have hfit : ¬ (off + v.cells.size > cells.size) := by rw [hvs, hsz]; omega
            obtain ⟨r, hr, hrs, hrv⟩ := fill_cells places parts vals _ out ((v.cells.toList.zipIdx 0).foldl (fun cs (x : Value × Nat) => cs.setIfInBounds (off + x.2) x.1) cells) hb (by simpa using hl) (fun k p q hk hq => hp (k + 1) p q (by simpa using hk) (by simpa using hq))
              (by rw [g1, hsz]; simp only [List.length_append, List.length_take, List.length_drop]; omega) (fun k y u hy hu => by
                rw [splice_at h5] at hy
                rw [g2 k, h1] at hu
                simp only [Nat.add_zero, List.toList_toArray] at hu
                by_cases hin : off ≤ k ∧ k < off + us.length
                · rw [if_pos (by omega)] at hy
                  rw [if_pos (by omega)] at hu
                  exact h3 _ y u hy hu
                · rw [if_neg (by omega)] at hy
                  rw [if_neg (by omega)] at hu
                  exact hV k y u hy hu)
            refine ⟨r, ?_, hrs, hrv⟩
            unfold Instr.fill
            simp only [List.getElem?_toArray, hpl] at hr ⊢
            rw [if_neg (by rw [hvs]; simp; omega)]
            rw [← hr, ← Array.foldl_toList, Array.toList_zipIdx]
          · cases hb
      · cases hb

theorem B.build {t : TypeId} {parts : Array (Nat × Operand)} {zero : List AV} {places : List (Nat × Nat)} {vs : List AV} (ho : o.op = .build t parts) (hz : bldOf P t = some (zero, places)) (hb : buildA places zero (parts.toList.map fun p => (p.1, σ.eval p.2)) = some vs) (hd : dstOk o nt = true) :
    DoesB P nt o σ ⟨tmpsIn (parts.toList.map (·.2)), [], .agg vs, []⟩ := fun σ' ha =>
  Does.value hd fun w0 U E a w hr => by
    have key : ∀ (z : Value) (pl : List (Nat × Nat)), zero = z.cells.toList.map constAV → places = pl → ∃ r, Instr.fill (pl.toArray[·]?) z.cells (parts.map fun (i, x) => (i, a.eval x)).toList = some r ∧ VA E w (Fof E σ'.blk) U w0.heap.size (.agg vs) (.agg r) := fun z pl e1 e2 => by
      subst e1 e2
      obtain ⟨r, hr1, hr2, hr3⟩ := fill_cells (E := E) (w := w) (F := Fof E σ'.blk) (U := U) (base := w0.heap.size) places (parts.toList.map fun p => (p.1, σ.eval p.2)) (parts.toList.map fun p => (p.1, a.eval p.2)) _ vs z.cells hb (by simp) (fun k p q hp hq => by
          rw [List.getElem?_map] at hp hq
          obtain ⟨y, hy, rfl⟩ := Option.map_eq_some_iff.1 hp
          rw [hy] at hq
          obtain rfl : (y.1, a.eval y.2) = q := by simpa using hq
          refine ⟨rfl, ?_⟩
          rw [← ha.eval (x := y.2) (List.mem_map.2 ⟨y, List.mem_of_getElem? hy, rfl⟩)]
          exact hr.eval y.2) (by simp) (fun i x u hx hu => by
          rw [List.getElem?_map] at hx
          obtain ⟨q, hq, rfl⟩ := Option.map_eq_some_iff.1 hx
          obtain rfl : q = u := by
            have : z.cells[i]? = some q := by simpa using hq
            rw [hu] at this
            simpa using this.symm
          exact .const q)
      refine ⟨r, ?_, ?_⟩
      · rw [Array.toList_map]
        exact hr1
      · have := VA.agg (E := E) (w := w) (F := Fof E σ'.blk) (U := U) (base := w0.heap.size) (vs := vs) (us := r.toList) (by simpa using hr2.symm) (fun i x u hx hu => hr3 i x u hx (by simpa using hu))
        simpa using this
    unfold bldOf at hz
    split at hz
    · rename_i it fields hit hu
      split at hz
      · rename_i z pl hzz hpl
        simp only [Option.some.injEq, Prod.mk.injEq] at hz
        obtain ⟨r, hr1, hr2⟩ := key z pl hz.1.symm hz.2.symm
        refine ⟨.agg r, ?_, hr2⟩
        rw [execOp, ho]
        have hbb : P.built t (parts.map fun (i, x) => (i, a.eval x)).toList = some r := by
          unfold Program.built
          simp only [hit, hu, hzz, hpl]
          exact hr1
        simp only [Sem.run_bind, run_build w t _ r hbb, Result.andThen_ok]
        rfl
      · cases hz
    · rename_i it m e hit hu
      split at hz
      · rename_i z ie hzz hie
        simp only [Option.some.injEq, Prod.mk.injEq] at hz
        obtain ⟨r, hr1, hr2⟩ := key z _ hz.1.symm hz.2.symm
        refine ⟨.agg r, ?_, hr2⟩
        rw [execOp, ho]
        have hbb : P.built t (parts.map fun (i, x) => (i, a.eval x)).toList = some r := by
          unfold Program.built
          simp only [hit, hu, hzz, hie]
          refine fill_more (fun i x hx => ?_) _ _ _ hr1
          simp only [List.getElem?_toArray, List.getElem?_map] at hx
          obtain ⟨j, hj, rfl⟩ := Option.map_eq_some_iff.1 hx
          obtain ⟨_, rfl⟩ := List.getElem?_eq_some_iff.1 hj
          simp
        simp only [Sem.run_bind, run_build w t _ r hbb, Result.andThen_ok]
        rfl
      · cases hz
    · cases hz


/-- Cells of a new row. -/
theorem new_row {w0 : Cx} {U : Nat → Prop} {E : Env} {a : Act} {w : World} (hr : Rel w0 U nt σ E a w) {g sz cap : Nat} {e : TypeId} {es : List (List D)} {cur : Array Value} {e0 : TypeId} (he0 : rty e = e0) (hg : σ.blk g = .free) (hpos : 0 < sz) (hcap : cap ≤ maxLen) (hle : Fits e es.length cap) (hcur : cur.size = cap * sz)
    (h : ∀ (i : Nat) (x : List D), es[i]? = some x → x.length = sz ∧ ∀ (j : Nat) (d : D), x[j]? = some d → ∃ u, cur[i * sz + j]? = some u ∧ VD w (Fof E σ.blk) U w0.heap.size d u) :
    BlkOk (E.add g w.heap.size sz cap) (w.alloc (.cells cur e0)) (Fof (E.add g w.heap.size sz cap) (upd σ.blk g (.row sz e es))) U w0 g (.row sz e es) := by
  subst he0
  have hb : (E.add g w.heap.size sz cap).β g = w.heap.size := upd_same _ _ _
  have hc : (E.add g w.heap.size sz cap).cap g = cap := upd_same _ _ _
  refine ⟨.inl rfl, upd_same _ _ _, hpos, by rw [hc]; exact hcap, by rw [hc]; exact hle, (fun hv => by rw [show (E.add g w.heap.size sz cap).vr g = false from upd_same _ _ _] at hv; cases hv), fun _ => ⟨by rw [hb]; exact hr.mem.below.mine (Nat.le_refl _), cur, by rw [hb]; exact heap_new w _, by rw [hc]; exact hcur, fun i x hx => ⟨(h i x hx).1, fun j d hd => ?_⟩⟩⟩
  obtain ⟨u, h1, h2⟩ := (h i x hx).2 j d hd
  exact ⟨u, h1, VD.added hr hg _ h2⟩

theorem own_new {E : Env} {w : World} {F U : Nat → Prop} {base g b sz cap n : Nat} (hn : n ≤ cap) (hm : cap ≤ maxLen) : VA (E.add g b sz cap) w F U base (.own g 0 n) (.slice (some ⟨b, 0, none⟩) n cap) := by
  refine .own (.inl rfl) (upd_same _ _ _) hn hm fun _ => ⟨?_, ?_⟩
  · rw [Nat.zero_mul]
    have : (E.add g b sz cap).β g = b := upd_same _ _ _
    rw [this]
  · have : (E.add g b sz cap).cap g = cap := upd_same _ _ _
    rw [this, Nat.add_zero]

/-- A slice literal whose places are all written, in order. -/
theorem B.bslice {t e : TypeId} {len sz g : Nat} {parts : Array (Nat × Operand)} {es : List (List D)} (ho : o.op = .buildSlice t len parts) (ht : elOf P t = some (e, sz)) (hz : (zeroAV P e).isSome = true) (hpos : 0 < sz) (hp : parts.toList.map (·.1) = List.range' 0 len) (hsmall : len * sz ≤ 16777216) (hne : 0 < len)
    (hes : es.length = (parts.toList.map (·.2)).length ∧ ∀ (i : Nat) (x : Operand) (c : List D), (parts.toList.map (·.2))[i]? = some x → es[i]? = some c → ZD (σ.eval x).flat c) (hsz : es.all (fun c => Nat.beq c.length sz) = true) (he : Nat.blt e 1000 = true) (hg : σ.blk g = .free) (hd : dstOk o nt = true) :
    DoesB P nt o σ ⟨tmpsIn (parts.toList.map (·.2)), [g], .own g 0 len, [(g, .row sz e es)]⟩ := fun σ' ha =>
  have hg' : σ'.blk g = .free := (ha.2 g (by simp)).trans hg
  Does.new (sz := sz) (cap := len) hd hg' fun w0 U E a w hr => by
    obtain ⟨hu, inf, hinf, hs⟩ := elOf_run ht
    obtain ⟨zc, hzc⟩ := Option.isSome_iff_exists.1 hz
    obtain ⟨i', z, h1, h2, h3⟩ := zeroAV_run hzc
    rw [hinf] at h1
    cases h1
    obtain ⟨hl, hrow⟩ := hes
    have hlen : es.length = len := by
      have := congrArg List.length hp
      simp at this
      rw [hl, List.length_map, Array.length_toList]
      exact this
    have hsz' : ∀ (i : Nat) (c : List D), es[i]? = some c → c.length = sz := fun i c hc => Nat.eq_of_beq_eq_true (List.all_eq_true.1 hsz c (List.mem_of_getElem? hc))
    let vals := parts.toList.map fun p => a.eval p.2
    have hvl : vals.length = len := by rw [← hlen, hl]; simp [vals]
    have hcell : ∀ (i : Nat) (v : Value) (c : List D), vals[i]? = some v → es[i]? = some c → ∃ us : List Value, v.cells = us.toArray ∧ us.length = sz ∧ ∀ (j : Nat) (d : D) (u : Value), c[j]? = some d → us[j]? = some u → VD w (Fof E σ'.blk) U w0.heap.size d u := by
      intro i v c hv hc
      rw [List.getElem?_map] at hv
      obtain ⟨p, hp', rfl⟩ := Option.map_eq_some_iff.1 hv
      have hev := hr.eval p.2
      rw [ha.eval (x := p.2) (List.mem_map.2 ⟨p, List.mem_of_getElem? hp', rfl⟩)] at hev
      have hfl := hrow i p.2 c (by rw [List.getElem?_map, hp']; rfl) hc
      obtain ⟨us, q1, q2, q3, q4⟩ := flat_of hev hfl.leaves
      exact ⟨us, q1, by rw [q2, hfl.at.1]; exact hsz' i c hc, fun j d u hj hu => hfl.vd q3 j d u hj hu⟩
    have hvs : ∀ v ∈ vals, v.cells.size = sz := fun v hv => by
      obtain ⟨i, hi⟩ := List.getElem?_of_mem hv
      have hlt : i < es.length := by rw [hlen, ← hvl]; exact (List.getElem?_eq_some_iff.1 hi).1
      obtain ⟨us, q1, q2, _⟩ := hcell i v _ hi (List.getElem?_eq_getElem hlt)
      rw [q1, List.size_toArray, q2]
    have hparts : (parts.map fun (i, x) => (i, a.eval x)).toList = (vals.zipIdx 0).map fun x => (x.2, x.1) := by
      rw [Array.toList_map]
      apply List.ext_getElem?
      intro k
      rw [List.getElem?_map, List.getElem?_map, List.getElem?_zipIdx, List.getElem?_map]
      cases hk : parts.toList[k]? with
      | none => rfl
      | some p =>
        have hk1 : (parts.toList.map (·.1))[k]? = some p.1 := by rw [List.getElem?_map, hk]; rfl
        rw [hp] at hk1
        have hlt : k < len := by have := (List.getElem?_eq_some_iff.1 hk1).1; simpa using this
        rw [List.getElem?_range' hlt] at hk1
        simp at hk1
        simp [← hk1]
    subst hs
    obtain ⟨r, hr1, hr2, hr3⟩ := Great.fill_dense hpos vals 0 ((Array.range (len * inf.size)).map (z.cells[· % z.cells.size]!)) hvs (by simp [hvl])
    refine ⟨r, e, .slice (some ⟨w.heap.size, 0, none⟩) len len, ?_, new_row hr (rty_of he) hg' hpos (by unfold maxLen; have := Nat.le_mul_of_pos_right len hpos; omega) (.of he (by omega)) (by rw [hr2]; simp) (fun i c hc => ⟨hsz' i c hc, fun j d hj => ?_⟩), own_new (Nat.le_refl _) (by unfold maxLen; have := Nat.le_mul_of_pos_right len hpos; omega)⟩
    · rw [execOp, ho]
      have hmul : 0 < len * inf.size := Nat.mul_pos hne hpos
      have := run_buildSlice (P := P) w t e len (parts.map fun (i, x) => (i, a.eval x)) r inf z hu hinf h2 (by omega) (by omega) (by rw [hparts]; exact hr1)
      simp only [Sem.run_bind, this, Result.andThen_ok]
      rfl
    · have hi : i < len := by rw [← hlen]; exact (List.getElem?_eq_some_iff.1 hc).1
      have hjl : j < inf.size := by rw [← hsz' i c hc]; exact (List.getElem?_eq_some_iff.1 hj).1
      have hvi : vals[i]? = some vals[i] := List.getElem?_eq_getElem (by omega)
      obtain ⟨us, q1, q2, q3⟩ := hcell i _ c hvi hc
      refine ⟨us[j], ?_, q3 j d _ hj (List.getElem?_eq_getElem (by omega))⟩
      rw [hr3, if_pos ⟨by omega, by
        have := Nat.mul_le_mul_right inf.size (show i + 1 ≤ 0 + vals.length by omega)
        rw [Nat.add_mul] at this
        omega⟩]
      have e1 : (i * inf.size + j) / inf.size = i := by rw [Nat.mul_comm, Nat.mul_add_div hpos, Nat.div_eq_of_lt hjl, Nat.add_zero]
      have e2 : (i * inf.size + j) % inf.size = j := by rw [Nat.mul_comm, Nat.mul_add_mod, Nat.mod_eq_of_lt hjl]
      rw [e1, e2, Nat.sub_zero, hvi]
      simp [q1, q2, hjl]

/-- The empty slice literal. -/
theorem B.bempty {t e : TypeId} {sz g : Nat} {parts : Array (Nat × Operand)} (ho : o.op = .buildSlice t 0 parts) (ht : elOf P t = some (e, sz)) (he : Nat.blt e 1000 = true) (hpos : 0 < sz) (hp : parts = #[]) (hg : σ.blk g = .free) (hd : dstOk o nt = true) :
    DoesB P nt o σ ⟨[], [g], .own g 0 0, [(g, .row sz e [])]⟩ := fun σ' ha =>
  have hg' : σ'.blk g = .free := (ha.2 g (by simp)).trans hg
  Does.new (sz := sz) (cap := 0) hd hg' fun w0 U E a w hr => by
    obtain ⟨hu, inf, hinf, hs⟩ := elOf_run ht
    refine ⟨#[], e, .slice (some ⟨w.heap.size, 0, none⟩) 0 0, ?_, new_row hr (rty_of he) hg' hpos (Nat.zero_le _) .self (by simp) (fun i c hc => by simp at hc), own_new (Nat.le_refl _) (Nat.zero_le _)⟩
    subst hp
    rw [execOp, ho]
    simp [Instr.buildSlice, run_underlying hu, run_sizeOf' hinf, newRow, Instr.fill, Array.range_zero']

/-- 'make' of a slice. -/
theorem B.make {t e : TypeId} {sz g by' : Nat} {x y : Operand} {l c : Nat} {kl kc : IntKind} {ql qc : Int} {zl : List AV} {zs : List D} (ho : o.op = .makeSlice t x y) (ht : elOf P t = some (e, sz)) (hz : zeroAV P e = some zl) (hzd : ZD zl zs) (hb : P.bytesOf e = by') (hpos : 0 < sz) (hzl : zs.length = sz)
    (hx : σ.eval x = .d (.int kl ql)) (hy : σ.eval y = .d (.int kc qc)) (hl : ql = (l : Int)) (hc : qc = (c : Int)) (hlc : l ≤ c) (hbytes : by' * c ≤ 281474976710656) (hmx : c ≤ maxLen) {e' : TypeId} (he : rty e' = e) (hf : Fits e' l c) (hg : σ.blk g = .free) (hd : dstOk o nt = true) :
    DoesB P nt o σ ⟨tmpsIn [x, y], [g], .own g 0 l, [(g, .row sz e' (List.replicate l zs))]⟩ := fun σ' ha =>
  have hg' : σ'.blk g = .free := (ha.2 g (by simp)).trans hg
  Does.new (sz := sz) (cap := c) hd hg' fun w0 U E a w hr => by
    obtain ⟨hu, inf, hinf, hs⟩ := elOf_run ht
    obtain ⟨i', z, h1, h2, h3⟩ := zeroAV_run hz
    rw [hinf] at h1
    cases h1
    have hx1 := hr.eval x
    rw [ha.eval (x := x) (by simp), hx] at hx1
    have hy1 := hr.eval y
    rw [ha.eval (x := y) (by simp), hy] at hy1
    have hby : inf.bytes = by' := by rw [← hb]; simp [Program.bytesOf, hinf]
    have hzc : z.cells.size = sz := by
      have := congrArg List.length h3
      have := hzd.at.1
      simp at *
      omega
    subst hl hc
    have hrun := run_make (P := P) w t e inf z hu hinf h2 kl kc (l : Int) (c : Int) (by omega) (by omega) (by rw [hby, ← Int.natCast_mul]; omega) (by unfold maxLen at hmx; omega)
    simp only [Int.toNat_natCast, hs] at hrun
    refine ⟨madeCells z.cells (c * sz), e, .slice (some ⟨w.heap.size, 0, none⟩) l c, ?_, new_row hr he hg' hpos hmx (hf.same (by simp)) (size_madeCells _ _) (fun i xs hxs => ?_), own_new hlc hmx⟩
    · rw [execOp, ho]
      simp only [int_of hx1, int_of hy1, Sem.run_bind, hrun, Result.andThen_ok]
      rfl
    · have hi : i < l := by have := (List.getElem?_eq_some_iff.1 hxs).1; simpa using this
      rw [List.getElem?_replicate, if_pos hi] at hxs
      cases hxs
      refine ⟨hzl, fun j d hj => ?_⟩
      have hjl : j < sz := by rw [← hzl]; exact (List.getElem?_eq_some_iff.1 hj).1
      have hin : i * sz + j < c * sz := by
        have := Nat.mul_le_mul_right sz (show i + 1 ≤ c by omega)
        rw [Nat.add_mul] at this
        omega
      have hzj : z.cells[j]? = some (z.cells[j]'(by omega)) := Array.getElem?_eq_getElem (by omega)
      refine ⟨z.cells[j]'(by omega), ?_, ?_⟩
      · have e2 : (i * sz + j) % sz = j := by rw [Nat.mul_comm, Nat.mul_add_mod, Nat.mod_eq_of_lt hjl]
        have hlt : i * sz + j < (madeCells z.cells (c * sz)).size := by rw [size_madeCells]; exact hin
        rw [Array.getElem?_eq_getElem hlt]
        simp only [madeCells, Array.getElem_map, Array.getElem_range, hzc, e2]
        rw [getElem!_pos z.cells j (by omega)]
      · have hva := VA.const (E := E) (w := w) (F := Fof E σ'.blk) (U := U) (base := w0.heap.size) (z.cells[j]'(by omega))
        have hcj : zl[j]? = some (constAV (z.cells[j]'(by omega))) := by
          rw [← h3, List.getElem?_map]
          have : z.cells.toList[j]? = some (z.cells[j]'(by omega)) := by simp
          rw [this]
          rfl
        rcases hzd.at.2 j d hj with h4 | ⟨h4, k, h5⟩
        · rw [hcj] at h4
          have h4' : constAV (z.cells[j]'(by omega)) = .d d := by simpa using h4
          rw [h4'] at hva
          cases hva with
          | d h => exact h
        · rw [hcj] at h4
          have h4' : constAV (z.cells[j]'(by omega)) = .nsl := by simpa using h4
          rw [h4'] at hva
          generalize z.cells[j]'(by omega) = q at hva
          cases hva
          subst h5
          exact .view (fun _ _ => .tuple #[]) rfl (Nat.le_refl _) (Nat.zero_le _) (fun _ => rfl) (fun i x hx => by simp at hx) (fun i x hx => by simp at hx) (fun i x j d hx => by simp at hx)
end
end Go.Proofs.Ytmkfpfnjimmmaaa
