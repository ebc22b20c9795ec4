/- Maps, room of rows, rows lengthened by noughts: over data by type. Nothing of the dump stands here. -/
import Derived.Test.YtmkfpfnjimmmaaaVRA
import Derived.Test.YtmkfpfnjimmmaaaVHB
import Derived.Lib.AppendZerosOnto
namespace Go.Proofs.Ytmkfpfnjimmmaaa
open Go.RowKit
set_option linter.unusedVariables false
set_option linter.unusedSimpArgs false

section
variable {P : Program} {nt : Nat} {o : Oper} {σ : St}
theorem zeroCells_get {z : Array Value} {n i j : Nat} (hz : 0 < z.size) (hi : i < n) (hj : j < z.size) : (Builtin.zeroCells z n)[i * z.size + j]? = z[j]? := by
  have hlt : i * z.size + j < n * z.size := by
    have := Nat.mul_le_mul_right z.size (show i + 1 ≤ n by omega)
    rw [Nat.add_mul] at this
    omega
  have e1 : (i * z.size + j) % z.size = j := by rw [Nat.mul_comm, Nat.mul_add_mod, Nat.mod_eq_of_lt hj]
  unfold Builtin.zeroCells
  rw [Array.getElem?_map, Array.getElem?_range]
  rw [if_pos hlt]
  simp only [Option.map_some, e1]
  rw [getElem!_pos z j hj, Array.getElem?_eq_getElem hj]

/-- A row whose room is full is lengthened by noughts: it comes to lie elsewhere. -/
theorem B.appendMake {t tn e : TypeId} {sz by' g g2 n k : Nat} {s x : Operand} {es : List (List D)} {zl : List AV} {zs : List D} {e' : TypeId} {kq kn : IntKind} {q : Int} (ho : o.op = .call { callee := .builtin .append, args := #[s, x], argTypes := #[t, tn] }) (ht : elOf P t = some (e, sz)) (htn : P.underlying tn = some (.int kn))
    (hz : zeroAV P e = some zl) (hzd : ZD zl zs) (hzl : zs.length = sz) (hb : P.bytesOf e = by') (hpos : 0 < sz) (he : Nat.blt e 1000 = true) (he' : Nat.blt e' 1000 = false) (hs : σ.eval s = .own g 0 n) (hrow : σ.blk g = .row sz e' es) (hn : n ≤ es.length) (hx : σ.eval x = .d (.int kq q)) (hq : q = (k : Int))
    (hk : es.length < n + k) (h63 : n + k ≤ maxLen) (hbytes : (n + k) * by' ≤ 140737488355328) (hg2 : σ.blk g2 = .free) (hd : dstOk o nt = true) :
    DoesB P nt o σ ⟨tmpsIn [s, x], [g, g2], .own g2 0 (n + k), [(g2, .row sz e (es.take n ++ List.replicate k zs))]⟩ := fun σ' ha w0 U E a w N Q hr hN => by
  have hrow' : σ'.blk g = .row sz e' es := (ha.2 g (by simp)).trans hrow
  have hf' : σ'.blk g2 = .free := (ha.2 g2 (by simp)).trans hg2
  have h1 := hr.eval s
  rw [ha.eval (x := s) (by simp), hs] at h1
  have h2 := hr.eval x
  rw [ha.eval (x := x) (by simp), hx] at h2
  have h2' := int_of h2
  subst hq
  obtain ⟨hu, inf, hinf, hsz⟩ := elOf_run ht
  obtain ⟨i', z, z1, z2, z3⟩ := zeroAV_run hz
  rw [hinf] at z1
  cases z1
  have hby : inf.bytes = by' := by rw [← hb]; simp [Program.bytesOf, hinf]
  have hzc : z.cells.size = sz := by
    have := congrArg List.length z3
    have := hzd.at.1
    simp at *
    omega
  have hrd : Rel w0 U nt σ' E a w.drew := hr.keep (Nat.le_refl _) (fun _ _ => rfl) hr.mem.below.drew
  have h1d := hrd.eval s
  rw [ha.eval (x := s) (by simp), hs] at h1d
  have hbl := hr.mem.blk g
  rw [hrow'] at hbl
  obtain ⟨_, _, _, _, hfit, hvr, _⟩ := hbl
  have hcap : E.cap g = es.length := hfit.2 he'
  have hsrc : Src σ' sz (.own g 0 n) [g] ((es.drop 0).take n) := .part rfl hrow' (by omega)
  rw [List.drop_zero] at hsrc
  obtain ⟨ad, cap, olds, hsl, q5, q6, q7, q8, q9, q10, q11⟩ := (hsrc.elems hrd (v := a.eval s) h1d).sl
  have htl : (es.take n).length = n := by rw [List.length_take]; omega
  rw [htl] at hsl q8
  have hce : cap ≤ es.length := by
    rw [hsl] at h1
    cases h1 with
    | onil hk' hv' => exact Nat.zero_le _
    | own _ _ _ _ hadr => have := (hadr (.inl rfl)).2; omega
  have hold : (Builtin.firstCells inf.size n (.slice ad n cap)).run P w.drew = .ok olds.toArray w.drew := by
    cases ad with
    | none =>
      have : cap = 0 := q7 rfl
      have hn0 : n = 0 := by rw [htl] at q5; omega
      subst hn0
      obtain rfl : olds = [] := List.eq_nil_of_length_eq_zero (by simpa using q8)
      simp [Builtin.firstCells]
    | some ad =>
      have := run_loadCells_list (P := P) (w := w.drew) ad olds fun j v hv => by
        obtain ⟨b, off, q1, _, q3⟩ := q9 j v hv
        cases q1
        rw [addr_add]
        exact q3
      rw [q8, ← hsz] at this
      simpa [Builtin.firstCells] using this
  have hk0 : 0 < k := by omega
  have hrun := Lib.run_append_grow_zeros (P := P) w t tn o.type e inf z kq kn hu htn hinf z2 ad n cap olds hold k hk0 (by omega) (by omega) (by unfold maxLen at h63; omega) (by
    rw [hby]
    have := Nat.mul_le_mul_right by' (show k ≤ n + k by omega)
    omega) (by rw [hby]; exact growslice_fits (by omega) hbytes)
  have hge := grownCap_ge w (n + k) cap e
  have hcm : grownCap w (n + k) cap e ≤ maxLen := grownCap_le_maxLen w (n + k) cap e h63
  generalize grownCap w (n + k) cap e = G at hrun hge hcm
  have hex : (execOp a.eval o).run P w = .ok (.value (.slice (some ⟨w.heap.size, 0, none⟩) (n + k) G)) (w.drew.alloc (.cells (olds.toArray ++ Builtin.zeroCells z.cells k ++ Builtin.zeroCells z.cells (G - (n + k))) e)) := by
    rw [execOp, ho]
    simp [resolve, invoke, builtin, hsl, h2', hrun]
  unfold Oper.wp
  rw [hex]
  have hsc : ∀ m, (Builtin.zeroCells z.cells m).size = m * sz := fun m => by rw [size_zeroCells, hzc]
  have hok := new_row (cap := G) hrd (e0 := e) (rty_of he) hf' hpos hcm (es := es.take n ++ List.replicate k zs) (e := e) (.of he (by rw [List.length_append, htl, List.length_replicate]; exact hge)) (cur := olds.toArray ++ Builtin.zeroCells z.cells k ++ Builtin.zeroCells z.cells (G - (n + k))) (by
      simp only [Array.size_append, List.size_toArray, q8, hsc, ← Nat.add_mul]
      congr 1; omega) (fun i y hy => by
    by_cases hi : i < n
    · rw [List.getElem?_append_left (by rw [htl]; exact hi)] at hy
      obtain ⟨r1, r2⟩ := q11 i y hy
      refine ⟨r1, fun j d hj => ?_⟩
      obtain ⟨u, r3, r4⟩ := r2 j d hj
      have hlt := (List.getElem?_eq_some_iff.1 r3).1
      refine ⟨u, ?_, r4⟩
      rw [Array.append_assoc, Array.getElem?_append_left (by simpa using hlt)]
      simpa using r3
    · rw [List.getElem?_append_right (by rw [htl]; omega), htl, List.getElem?_replicate] at hy
      have hik : i - n < k := by
        rcases Nat.lt_or_ge (i - n) k with h | h
        · exact h
        · rw [if_neg (by omega)] at hy; cases hy
      rw [if_pos hik] at hy
      cases hy
      refine ⟨hzl, fun j d hj => ?_⟩
      have hjl : j < sz := by rw [← hzl]; exact (List.getElem?_eq_some_iff.1 hj).1
      have hzj : z.cells[j]? = some (z.cells[j]'(by omega)) := Array.getElem?_eq_getElem (by omega)
      refine ⟨z.cells[j]'(by omega), ?_, ?_⟩
      · have e1 : i * sz + j = n * sz + ((i - n) * sz + j) := by
          have : i = n + (i - n) := by omega
          calc i * sz + j = (n + (i - n)) * sz + j := by rw [← this]
            _ = _ := by rw [Nat.add_mul, Nat.add_assoc]
        have hlt : (i - n) * sz + j < k * sz := by
          have := Nat.mul_le_mul_right sz (show i - n + 1 ≤ k by omega)
          rw [Nat.add_mul] at this
          omega
        rw [Array.append_assoc, Array.getElem?_append_right (by simp only [List.size_toArray, q8]; omega), List.size_toArray, q8, e1, Nat.add_sub_cancel_left, Array.getElem?_append_left (by rw [hsc]; exact hlt)]
        have := zeroCells_get (z := z.cells) (n := k) (i := i - n) (j := j) (by omega) hik (by omega)
        rw [hzc] at this
        rw [this, hzj]
      · have hva := VA.const (E := E) (w := w.drew) (F := Fof E σ'.blk) (U := U) (base := w0.heap.size) (z.cells[j]'(by omega))
        have hcj : zl[j]? = some (constAV (z.cells[j]'(by omega))) := by
          rw [← z3, List.getElem?_map]
          have : z.cells.toList[j]? = some (z.cells[j]'(by omega)) := by simp
          rw [this]; rfl
        rcases hzd.at.2 j d hj with h4 | ⟨h4, k', h5⟩
        · rw [hcj] at h4
          have h4' : constAV (z.cells[j]'(by omega)) = .d d := by simpa using h4
          rw [h4'] at hva
          cases hva with
          | d h => exact h
        · rw [hcj] at h4
          have h4' : constAV (z.cells[j]'(by omega)) = .nsl := by simpa using h4
          rw [h4'] at hva
          generalize z.cells[j]'(by omega) = q at hva
          cases hva
          subst h5
          exact .view (fun _ _ => .tuple #[]) rfl (Nat.le_refl _) (Nat.zero_le _) (fun _ => rfl) (fun i x hx => by simp at hx) (fun i x hx => by simp at hx) (fun i x j d hx => by simp at hx))
  have hr' := hrd.alloc (sz := sz) (cap := G) (x := .row sz e (es.take n ++ List.replicate k zs)) hf' (alloc_heap w.drew _).1 (alloc_heap w.drew _).2 (hrd.mem.below.alloc _) (Nat.le_refl _) hok
  exact hN _ _ _ (hr'.undef (dstOk_lt hd) (own_new hge hcm))

/-- A row's room, where it is known. -/
theorem B.capFull {t e : TypeId} {g n sz : Nat} {x : Operand} {e' : TypeId} {es : List (List D)} (ho : o.op = .call { callee := .builtin .cap, args := #[x], argTypes := #[t] }) (ht : P.underlying t = some (.slice e)) (hx : σ.eval x = .own g 0 n) (hrow : σ.blk g = .row sz e' es) (he' : Nat.blt e' 1000 = false) (hd : dstOk o nt = true) :
    DoesB P nt o σ ⟨tmpsIn [x], [g], .d (.int .i64 (es.length : Int)), []⟩ := fun σ' ha =>
  Does.value hd fun w0 U E c w hrel => by
    have h1 := hrel.eval x
    rw [ha.eval (x := x) (by simp), hx] at h1
    have hbl := hrel.mem.blk g
    rw [(ha.2 g (by simp)).trans hrow] at hbl
    obtain ⟨_, _, _, _, hfit, hvr, _⟩ := hbl
    have hcap : E.cap g = es.length := hfit.2 he'
    refine ⟨.int .i64 (es.length : Int), ?_, .d (.int _ _)⟩
    rw [execOp, ho]
    generalize hcx : c.eval x = v at h1
    cases h1 with
    | onil hk hv =>
      have : es.length = 0 := by rw [← hcap]; exact hvr hv
      simp [resolve, invoke, builtin, hcx, Builtin.cap_, run_underlying ht, goInt, this]
    | @own _ _ _ _ cap _ _ _ _ hadr =>
      have : cap = es.length := by have := (hadr (.inl rfl)).2; omega
      simp [resolve, invoke, builtin, hcx, Builtin.cap_, run_underlying ht, goInt, this]
end

section
variable {P : Program} {nt : Nat} {o : Oper} {σ : TS}
theorem T.makeMap {t kt et : TypeId} {g : Nat} {ik kv kr : IntKind} {q : Int} {x : Operand} (ho : o.op = .makeMap t (some x)) (ht : P.underlying t = some (.map kt et)) (hx : σ.eval x = .int kr q) (hg : (σ.blk g).isFree = true) (hd : dstOk o nt = true) : TDoesB P nt o σ ⟨tmpsIn [x], [g], .mp g, [(g, .mp ik kv [])]⟩ := fun σ' ha => by
  have hg' : σ'.blk g = .free := (ha.2 g (by simp)).trans (TB.isFree_eq hg)
  refine TDoes.of (by simp [hg', Turn.new]) (by simp) fun hw => ?_
  exact (B.makeMap (P := P) (nt := nt) (σ := σ'.den) (g := g) (ik := ik) ho ht (by rw [ha.dev (x := x) (by simp), hx]; rfl) (by show denB _ (σ'.blk g) = _; rw [hg']; rfl) hd).at
theorem T.lookup {t kt et : TypeId} {g : Nat} {ik kv : IntKind} {q : Int} {l : List (Int × Int)} {x y : Operand} (ho : o.op = .lookup t x y true) (ht : P.underlying t = some (.map kt et)) (hk : P.underlying kt = some (.int ik)) (hz : (P.info? et).bind (·.zero) = some (.int kv 0))
    (hx : σ.eval x = .mp g) (hy : σ.eval y = .int ik q) (hb : σ.blk g = .mp ik kv l) (hd : dstOk o nt = true) : TDoesB P nt o σ ⟨tmpsIn [x, y], [g], .tup [.int kv (DoorU.mget l q), .bool (DoorU.mhas l q)], []⟩ := fun σ' ha => by
  have hb' : σ'.blk g = .mp ik kv l := (ha.2 g (by simp)).trans hb
  have hzv : ∀ w, (zeroValue et).run P w = .ok (.int kv 0) w := fun w => by
    obtain ⟨i, h1, h2⟩ := Option.bind_eq_some_iff.1 hz
    simp [zeroValue, typeInfo, h1, h2]
  exact TDoes.val (B.lookup (P := P) (nt := nt) (σ := σ'.den) (l := l) ho ht hk hzv (by rw [ha.dev (x := x) (by simp), hx]; rfl) (by rw [ha.dev (x := y) (by simp), hy]; rfl) (by show denB _ (σ'.blk g) = _; rw [hb']; rfl) hd).at
theorem T.mapUpdate {t kt et : TypeId} {g : Nat} {ik kv : IntKind} {q v : Int} {l : List (Int × Int)} {x y z : Operand} (ho : o.op = .mapUpdate t x y z) (ht : P.underlying t = some (.map kt et)) (hk : P.underlying kt = some (.int ik))
    (hx : σ.eval x = .mp g) (hy : σ.eval y = .int ik q) (hz : σ.eval z = .int kv v) (hb : σ.blk g = .mp ik kv l) (hd : o.dst = none) : TDoesB P nt o σ ⟨tmpsIn [x, y, z], [g], .und, [(g, .mp ik kv (DoorU.mput l q v))]⟩ := fun σ' ha => by
  have hb' : σ'.blk g = .mp ik kv l := (ha.2 g (by simp)).trans hb
  refine TDoes.of (by simp [hb', Turn.mp]) (by simp) fun hw => ?_
  exact (B.mapUpdate (P := P) (nt := nt) (σ := σ'.den) (g := g) (l := l) ho ht hk (by rw [ha.dev (x := x) (by simp), hx]; rfl) (by rw [ha.dev (x := y) (by simp), hy]; rfl) (by rw [ha.dev (x := z) (by simp), hz]; rfl) (by show denB _ (σ'.blk g) = _; rw [hb']; rfl) hd).at
theorem T.capFull {t e : TypeId} {g : Nat} {T : Ty} {e' : TypeId} {l : List (Val T)} {x : Operand} (ho : o.op = .call { callee := .builtin .cap, args := #[x], argTypes := #[t] }) (ht : P.underlying t = some (.slice e)) (hx : σ.eval x = .own g) (hb : σ.blk g = .row T e' l) (he' : Nat.blt e' 1000 = false) (hd : dstOk o nt = true) :
    TDoesB P nt o σ ⟨tmpsIn [x], [g], .int .i64 (l.length : Int), []⟩ := fun σ' ha => by
  have hb' : σ'.blk g = .row T e' l := (ha.2 g (by simp)).trans hb
  have := (B.capFull (P := P) (nt := nt) (σ := σ'.den) (g := g) (n := l.length) (es := denS l) (sz := T.size) ho ht (by rw [ha.dev (x := x) (by simp), hx]; show denO g (σ'.blk g) = _; rw [hb']; rfl) (by show denB _ (σ'.blk g) = _; rw [hb']; rfl) he' hd).at
  rw [denS_len] at this
  exact TDoes.val this
theorem T.appendMake {t tn e : TypeId} {by' g g2 i n : Nat} {s x : Operand} {T : Ty} {e' : TypeId} {l : List (Val T)} {zl : List TV} {p : Pk (Val T)} {kq kn : IntKind} {q : Int} (ho : o.op = .call { callee := .builtin .append, args := #[s, x], argTypes := #[t, tn] }) (ht : elOf P t = some (e, T.size)) (htn : P.underlying tn = some (.int kn))
    (hz : zeroTV P e = some zl) (hpk : pack σ.blk T zl = some p) (hpr : p.rest = []) (hpf : p.rb = []) (hps : p.ps = []) (hb : P.bytesOf e = by') (hpos : 0 < T.size) (he : Nat.blt e 1000 = true) (he' : Nat.blt e' 1000 = false) (hs : σ.eval s = .sub g i n) (hi : i = 0) (hrow : σ.blk g = .row T e' l) (hn : n ≤ l.length) (hx : σ.eval x = .int kq q) (h0 : 0 ≤ q)
    (hk : (l.length : Int) < n + q) (hmx : (n : Int) + q ≤ 140737488351232) (hbytes : (n + q) * (by' : Int) ≤ 140737488351232) (hg2 : (σ.blk g2).isFree = true) (hne : g2 ≠ g) (hd : dstOk o nt = true) :
    TDoesB P nt o σ ⟨tmpsIn [s, x], [g, g2], .own g2, [(g2, .row T e (l.take n ++ List.replicate q.toNat p.x))]⟩ := fun σ' ha => by
  subst hi
  have hrow' : σ'.blk g = .row T e' l := (ha.2 g (by simp)).trans hrow
  have hf' : σ'.blk g2 = .free := (ha.2 g2 (by simp)).trans (TB.isFree_eq hg2)
  refine TDoes.of (by simp [hf', Turn.new]) (by simp) fun hw => ?_
  obtain ⟨hok, pre, hcs, hzz⟩ := pack_ok hpk (by rw [hps]; simp)
  rw [hpr, List.append_nil] at hcs
  subst hcs
  have hzd := hzz σ'.blk (by rw [hpf]; intro g hg; simp at hg)
  have hqn : ((q.toNat : Nat) : Int) = q := by omega
  have := (B.appendMake (P := P) (nt := nt) (σ := σ'.den) (g := g) (g2 := g2) (n := n) (k := q.toNat) (sz := T.size) (es := denS l) (zs := flatD T p.x) ho ht htn (zeroTV_ok hz σ'.blk) hzd (flatD_length _ _) hb hpos he he' (by rw [ha.dev (x := s) (by simp), hs]; show denU g 0 n (σ'.blk g) = _; rw [hrow']; rfl) (by show denB _ (σ'.blk g) = _; rw [hrow']; rfl) (by rw [denS_len]; exact hn) (by rw [ha.dev (x := x) (by simp), hx]; rfl) (by omega) (by rw [denS_len]; omega) (by unfold maxLen; omega) (by
    have h1 : (((n + q.toNat) * by' : Nat) : Int) = (n + q) * (by' : Int) := by rw [Int.natCast_mul, Int.natCast_add, hqn]
    omega) (by show denB _ (σ'.blk g2) = _; rw [hf']; rfl) hd).at
  show Does P nt o _ ⟨denV (upd σ'.blk g2 (.row T e (l.take n ++ List.replicate q.toNat p.x))) (.own g2), [(g2, .row T.size e (denS (l.take n ++ List.replicate q.toNat p.x)))]⟩
  simp only [denV, upd_same, denO]
  have e1 : denS (l.take n ++ List.replicate q.toNat p.x) = (denS l).take n ++ List.replicate q.toNat (flatD T p.x) := by unfold denS; rw [List.map_append, List.map_take, List.map_replicate]
  have e2 : (l.take n ++ List.replicate q.toNat p.x).length = n + q.toNat := by rw [List.length_append, List.length_take, List.length_replicate]; omega
  rw [e1, e2]
  exact this
end
/-- A piece of a slice that is read, with its room cut, too. -/
theorem B.sliceView3 {P : Program} {nt : Nat} {o : Oper} {σ : St} {t e : TypeId} {sz : Nat} {f : Bool} {es : List (List D)} {x y z : Operand} {h m : Nat} {k k' : IntKind} (ho : o.op = .slice t x none (some y) (some z)) (ht : elOf P t = some (e, sz)) (hx : SlV (σ.eval x) f sz es)
    (hy : σ.eval y = .d (.int k (h : Int))) (hz : σ.eval z = .d (.int k' (m : Int))) (h1 : h ≤ m) (h2 : m ≤ es.length) (hd : dstOk o nt = true) :
    DoesB P nt o σ ⟨tmpsIn [x, y, z], [], slAV f sz (es.take h), []⟩ := fun σ' ha =>
  Does.value hd fun w0 U E c w hrel => by
    have hxv := hrel.eval x
    rw [ha.eval (x := x) (by simp)] at hxv
    obtain ⟨hu, inf, hinf, hs⟩ := elOf_run ht
    obtain ⟨a, n, cap, u, h3, h4, h5, h6, h7, h8, h9, h10⟩ := view_of hx hxv
    have hyv := hrel.eval y
    rw [ha.eval (x := y) (by simp), hy] at hyv
    have hzv := hrel.eval z
    rw [ha.eval (x := z) (by simp), hz] at hzv
    have ey := int_of hyv
    have ez := int_of hzv
    have hrun : (Instr.sliceAt t (.slice a n cap) none (some (.int k (h : Int))) (some (.int k' (m : Int)))).run P w = .ok (.slice a h m) w := by
      have hb1 : (Instr.sliceBound (.int k' (m : Int)) cap .slice3Acap).run P w = .ok m w := by rw [run_sliceBound w k' m cap .slice3Acap (by omega) (by omega)]; simp
      have hb2 : (Instr.sliceBound (.int k (h : Int)) m .slice3B).run P w = .ok h w := by rw [run_sliceBound w k h m .slice3B (by omega) (by omega)]; simp
      simp [Instr.sliceAt, run_underlying hu w, Instr.slice, Instr.sliceBounds, run_sizeOf' hinf, hs, hb1, hb2]
      exact fun _ => by cases a <;> simp [Addr.add]
    refine ⟨.slice a h m, by rw [execOp, ho]; simp only [h3, ey, ez, Sem.run_bind, hrun, Result.andThen_ok, Option.map_none, Option.map_some]; rfl, view_mk (fun i j => u i j) (by rw [List.length_take]; omega) (by omega) (by omega) (fun hn => by have := h7 hn; omega) (fun i y hy => ?_) (fun i y hy => ?_) (fun i y j d hy hdj => ?_)⟩
    all_goals
      have hlt : i < h := by have := (List.getElem?_eq_some_iff.1 hy).1; rw [List.length_take] at this; omega
      rw [List.getElem?_take_of_lt hlt] at hy
    · exact h8 _ y hy
    · exact h9 _ y hy
    · exact h10 _ y j d hy hdj
theorem T.sliceView3 {P : Program} {nt : Nat} {o : Oper} {σ : TS} {t e : TypeId} {f : Bool} {T : Ty} {l : List (Val T)} {rb : List Nat} {x y z : Operand} {k k' : IntKind} {b q : Int} (ho : o.op = .slice t x none (some y) (some z)) (ht : elOf P t = some (e, T.size)) (hx : asView σ.blk (σ.eval x) = some (f, ⟨T, l, rb⟩))
    (hy : σ.eval y = .int k b) (hz : σ.eval z = .int k' q) (h0 : 0 ≤ b) (h1 : b ≤ q) (h2 : q ≤ l.length) (hd : dstOk o nt = true) :
    TDoesB P nt o σ ⟨tmpsIn [x, y, z], rb, .view f T (l.take b.toNat), []⟩ := fun σ' ha => by
  have hev : ∀ w ∈ [x, y, z], σ'.den.eval w = denV σ'.blk (σ.eval w) := fun w hw => ha.dev hw
  have := (B.sliceView3 (P := P) (nt := nt) (σ := σ'.den) (es := denS l) (f := f) (sz := T.size) (h := b.toNat) (m := q.toNat) (k := k) (k' := k') ho ht (by rw [hev x (by simp)]; exact asView_ok hx ha.2)
    (by rw [hev y (by simp), hy, show ((b.toNat : Nat) : Int) = b by omega]; rfl) (by rw [hev z (by simp), hz, show ((q.toNat : Nat) : Int) = q by omega]; rfl) (by omega) (by simp [denS]; omega) hd).at
  refine TDoes.val ?_
  have e1 : (denS l).take b.toNat = denS (l.take b.toNat) := by unfold denS; rw [List.map_take]
  rw [e1] at this
  cases f <;> exact this
/-- A number below a small bound: what there is for each. -/
def forkK (q : Int) : Nat → (Nat → Prop) → Prop
  | 0, _ => True
  | n + 1, F => (bif decide (q = (n : Int)) then F n else True) ∧ forkK q n F
theorem forkK_get {q : Int} {F : Nat → Prop} : ∀ {n : Nat}, forkK q n F → 0 ≤ q → q < n → F q.toNat
  | 0, _, h0, h1 => absurd h1 (by omega)
  | n + 1, h, h0, h1 => by
    by_cases e : q = (n : Int)
    · have := h.1
      rw [decide_eq_true e, cond_true] at this
      rw [show q.toNat = n by omega]
      exact this
    · exact forkK_get h.2 h0 (by omega)
theorem T.idxVar {P : Program} {nt : Nat} {o : Oper} {σ : TS} {t e : TypeId} {m sz g j : Nat} {x ix : Operand} {k : IntKind} {q : Int} (ho : o.op = .indexAddr t x ix) (ht : arrOf P t = some (m, e, sz)) (hx : σ.eval x = .ptr g 0 j) (hq : σ.eval ix = .int k q) (h0 : 0 ≤ q) (hlt : q < m) (hd : dstOk o nt = true) :
    TDoesB P nt o σ ⟨tmpsIn [x, ix], [], .ptr g 0 (j + q.toNat * sz), []⟩ := fun σ' ha =>
  TDoes.val (B.idxArr (P := P) (σ := σ'.den) (nt := nt) (g := g) (i := q.toNat) ho ht (by rw [ha.dev (x := x) (by simp), hx]; rfl) (by rw [ha.dev (x := ix) (by simp), hq]; rfl) (by omega) (by omega) hd).at
theorem T.idxAgg {P : Program} {nt : Nat} {o : Oper} {σ : TS} {t e : TypeId} {m : Nat} {x ix : Operand} {k k' : IntKind} {q z : Int} {vs : List TV} (ho : o.op = .index t x ix) (ht : arrOf P t = some (m, e, 1)) (hag : tyOf P e = some (false, 1)) (hx : σ.eval x = .agg vs) (hq : σ.eval ix = .int k q) (h0 : 0 ≤ q) (hlt : q < m) (hv : vs[q.toNat]? = some (.int k' z)) (hd : dstOk o nt = true) :
    TDoesB P nt o σ ⟨tmpsIn [x, ix], [], .int k' z, []⟩ := fun σ' ha => by
  refine TDoes.val (B.idxVal (P := P) (σ := σ'.den) (nt := nt) (i := q.toNat) (vs := denVs σ'.blk vs) ho ht hag (by rw [ha.dev (x := x) (by simp), hx]; rfl) (by rw [ha.dev (x := ix) (by simp), hq]; rfl) (by omega) (by omega) ?_ hd).at
  rw [denVs_map, List.getElem?_map, hv]
  rfl
end Go.Proofs.Ytmkfpfnjimmmaaa
