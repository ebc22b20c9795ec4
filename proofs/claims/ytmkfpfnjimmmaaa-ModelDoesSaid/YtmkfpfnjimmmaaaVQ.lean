/- The operations, computed: memory. Nothing of the dump stands here. -/
import Derived.Test.YtmkfpfnjimmmaaaVP
namespace Go.Proofs.Ytmkfpfnjimmmaaa
open Go.RowKit
set_option linter.unusedVariables false
set_option linter.unusedSimpArgs false

def TV.flat : TV → List TV
  | .agg vs => vs
  | .arr T l => l.flatMap (_root_.Go.Proofs.Ytmkfpfnjimmmaaa.flat T)
  | x => [x]
def tleaf : TV → Bool
  | .agg _ => false
  | .tup _ => false
  | .arr _ _ => false
  | .und => false
  | _ => true
theorem denVs_append (B : Nat → TB) (a b : List TV) : denVs B (a ++ b) = denVs B a ++ denVs B b := by rw [denVs_map, denVs_map, denVs_map, List.map_append]
theorem denV_flats (B : Nat → TB) (T : Ty) : ∀ (l : List (Val T)), denVs B (l.flatMap (flat T)) = (denS l).flatten.map .d
  | [] => rfl
  | x :: l => by
    rw [List.flatMap_cons, denVs_append, denV_flat, denV_flats B T l]
    show _ = List.map AV.d (flatD T x ++ (denS l).flatten)
    rw [List.map_append]
theorem denV_flatten (B : Nat → TB) (x : TV) : (denV B x).flat = denVs B x.flat := by
  cases x with
  | agg vs => rfl
  | arr T l => exact (denV_flats B T l).symm
  | view o T l => cases o <;> rfl
  | own g => simp only [denV, TV.flat, denVs]; cases B g <;> rfl
  | sub g i n => simp only [denV, TV.flat, denVs]; cases B g <;> simp only [denU] <;> (repeat' split) <;> rfl
  | _ => rfl
theorem denV_tleaf (B : Nat → TB) (x : TV) : (denV B x).leaf = tleaf x := by
  cases x with
  | view o T l => cases o <;> rfl
  | own g => simp only [denV]; cases B g <;> rfl
  | sub g i n => simp only [denV]; cases B g <;> simp only [denU] <;> (repeat' split) <;> rfl
  | _ => rfl
theorem leaves_den (B : Nat → TB) (l : List TV) : leaves (denVs B l) = l.all tleaf := by
  unfold leaves
  rw [denVs_map, List.all_map]
  congr 1
  funext x
  exact denV_tleaf B x
theorem takeO_map {α β : Type} (f : α → β) : ∀ {n : Nat} {l vs : List α}, takeO n l = some vs → takeO n (l.map f) = some (vs.map f)
  | 0, l, vs, h => by simp [takeO] at h; subst h; simp [takeO]
  | n + 1, [], vs, h => by simp [takeO] at h
  | n + 1, c :: cs, vs, h => by
    simp only [takeO] at h
    split at h
    · rename_i l hl
      cases h
      simp only [List.map_cons, takeO, takeO_map f hl]
    · cases h
theorem splice_map {α β : Type} (f : α → β) : ∀ {cs : List α} {j : Nat} {ws l : List α}, splice cs j ws = some l → splice (cs.map f) j (ws.map f) = some (l.map f)
  | cs, 0, [], l, h => by simp only [splice, Option.some.injEq] at h; subst h; cases cs <;> simp [splice]
  | c :: cs, 0, w :: ws, l, h => by
    simp only [splice] at h
    split at h
    · rename_i l' hl'
      cases h
      simp only [List.map_cons, splice]
      have := splice_map f hl'
      rw [this]
    · cases h
  | [], 0, w :: ws, l, h => by simp [splice] at h
  | c :: cs, j + 1, ws, l, h => by
    simp only [splice] at h
    split at h
    · rename_i l' hl'
      cases h
      simp only [List.map_cons, splice]
      rw [splice_map f hl']
    · cases h
  | [], j + 1, ws, l, h => by simp [splice] at h

theorem nms_sub {a : List TV} {g : Nat} : g ∈ TV.nms a ↔ ∃ x ∈ a, g ∈ x.nm := by
  induction a with
  | nil => simp [TV.nms]
  | cons x xs ih => simp [TV.nms, ih]
theorem flat_nm0 : ∀ (T : Ty) (x : Val T), ∀ y ∈ flat T x, y.nm = []
  | .int _, _, y, h => by obtain rfl := List.mem_singleton.1 h; rfl
  | .bool, _, y, h => by obtain rfl := List.mem_singleton.1 h; rfl
  | .sl _, _, y, h => by obtain rfl := List.mem_singleton.1 h; rfl
  | .unit, _, y, h => by simp [flat] at h
  | .pair a b, x, y, h => by
    rcases List.mem_append.1 h with h | h
    · exact flat_nm0 a x.1 y h
    · exact flat_nm0 b x.2 y h
theorem nms_flat {x : TV} {g : Nat} (h : g ∈ TV.nms x.flat) : g ∈ x.nm := by
  cases x
  case arr T l =>
    obtain ⟨y, hy, hg⟩ := nms_sub.1 h
    obtain ⟨z, _, hz⟩ := List.mem_flatMap.1 hy
    rw [flat_nm0 T z y hz] at hg
    exact absurd hg (by simp)
  all_goals first | exact h | (simp only [TV.flat, TV.nms, TV.nm, List.append_nil] at h ⊢; exact h)

section
variable {P : Program} {nt : Nat} {o : Oper} {σ : TS}

theorem TS.Wf.ev (h : σ.Wf) (x : Operand) : ∀ g ∈ (σ.eval x).nm, σ.blk g ≠ .free := by
  cases x with
  | tmp t => exact h.tmp t
  | const v => intro g hg; simp only [TS.eval] at hg; unfold constTV at hg; split at hg <;> simp [TV.nm] at hg
  | global g => intro g hg; simp [TS.eval, TV.nm] at hg
  | func f => intro g hg; simp [TS.eval, TV.nm, TV.nms] at hg

def readC (σ : TS) (p : TV) (K : List TV → List Nat → Prop) : Prop :=
  match p with
  | .ptr g i j => match σ.blk g with
    | .var e cs => bif Nat.beq i 0 then K (cs.drop j) [g] else False
    | .row T e l => i < l.length ∧ ∀ x, l[i]? = some x → K ((Go.Proofs.Ytmkfpfnjimmmaaa.flat T x).drop j) [g]
    | _ => False
  | .vptr o T x j => K ((Go.Proofs.Ytmkfpfnjimmmaaa.flat T x).drop j) []
  | _ => False
theorem readC_ok {p : TV} {K : List TV → List Nat → Prop} (h : readC σ p K) : ∃ cs rb, K cs rb ∧ ∀ σ' : TS, (∀ g ∈ rb, σ'.blk g = σ.blk g) → Reads σ'.den (denV σ'.blk p) rb (denVs σ'.blk cs) := by
  unfold readC at h
  split at h
  · rename_i g i j
    split at h
    · rename_i e cs hb
      cases hi : Nat.beq i 0 with
      | false => rw [hi] at h; exact h.elim
      | true =>
        rw [hi] at h
        obtain rfl := Nat.eq_of_beq_eq_true hi
        refine ⟨_, _, h, fun σ' ha => ?_⟩
        have := Reads.var (σ := σ'.den) (p := denV σ'.blk (.ptr g 0 j)) (g := g) (j := j) (e := e) (cs := denVs σ'.blk cs) rfl (by show denB _ (σ'.blk g) = _; rw [ha g (by simp), hb]; rfl)
        rwa [denVs_map, ← List.map_drop, ← denVs_map] at this
    · rename_i T e l hb
      obtain ⟨hlt, h⟩ := h
      have hx : l[i]? = some l[i] := List.getElem?_eq_getElem hlt
      refine ⟨_, _, h _ hx, fun σ' ha => ?_⟩
      have := Reads.row (σ := σ'.den) (p := denV σ'.blk (.ptr g i j)) (g := g) (i := i) (j := j) (sz := T.size) (e := e) (es := denS l) (c := flatD T l[i]) rfl (by show denB _ (σ'.blk g) = _; rw [ha g (by simp), hb]; rfl) (by unfold denS; rw [List.getElem?_map, hx]; rfl)
      rwa [List.map_drop, ← denV_flat σ'.blk, denVs_map, ← List.map_drop, ← denVs_map] at this
    · exact h.elim
  · rename_i f T x j
    refine ⟨_, _, h, fun σ' ha => ?_⟩
    have := Reads.view (σ := σ'.den) (p := denV σ'.blk (.vptr f T x j)) (f := f) (c := flatD T x) (j := j) rfl
    rwa [List.map_drop, ← denV_flat σ'.blk, denVs_map, ← List.map_drop, ← denVs_map] at this
  · exact h.elim

theorem T.load1 {t : TypeId} {n : Nat} {x : Operand} {rb : List Nat} {v : TV} {cs : List TV} (ho : o.op = .load t x) (ht : tyOf P t = some (false, n)) (hx : ∀ σ' : TS, (∀ g ∈ rb, σ'.blk g = σ.blk g) → Reads σ'.den (denV σ'.blk (σ.eval x)) rb (denVs σ'.blk (v :: cs))) (hd : dstOk o nt = true) :
    TDoesB P nt o σ ⟨tmpsIn [x], rb, v, []⟩ := fun σ' ha =>
  TDoes.val (B.load1 (P := P) (σ := σ'.den) (v := denV σ'.blk v) (cs := denVs σ'.blk cs) ho ht (by rw [ha.dev (x := x) (by simp)]; exact hx σ' ha.2) hd).at
theorem T.loadN {t : TypeId} {n : Nat} {x : Operand} {rb : List Nat} {cs vs : List TV} (ho : o.op = .load t x) (ht : tyOf P t = some (true, n)) (hx : ∀ σ' : TS, (∀ g ∈ rb, σ'.blk g = σ.blk g) → Reads σ'.den (denV σ'.blk (σ.eval x)) rb (denVs σ'.blk cs)) (hv : takeO n cs = some vs) (hd : dstOk o nt = true) :
    TDoesB P nt o σ ⟨tmpsIn [x], rb, .agg vs, []⟩ := fun σ' ha =>
  TDoes.val (B.loadN (P := P) (σ := σ'.den) (cs := denVs σ'.blk cs) (vs := denVs σ'.blk vs) ho ht (by rw [ha.dev (x := x) (by simp)]; exact hx σ' ha.2) (by rw [denVs_map, denVs_map]; exact takeO_map _ hv) hd).at

theorem T.field1 {t : TypeId} {f off n : Nat} {x : Operand} {vs : List TV} {v : TV} (ho : o.op = .field t x f) (hf : fldOf P t f = some (off, false, n)) (hx : σ.eval x = .agg vs) (hv : vs[off]? = some v) (hd : dstOk o nt = true) : TDoesB P nt o σ ⟨tmpsIn [x], [], v, []⟩ := fun σ' ha =>
  TDoes.val (B.fval1 (P := P) (σ := σ'.den) (vs := denVs σ'.blk vs) ho hf (by rw [ha.dev (x := x) (by simp), hx]; rfl) (by rw [denVs_map, List.getElem?_map, hv]; rfl) hd).at
theorem T.fieldN {t : TypeId} {f off n : Nat} {x : Operand} {vs ws : List TV} (ho : o.op = .field t x f) (hf : fldOf P t f = some (off, true, n)) (hx : σ.eval x = .agg vs) (hv : takeO n (vs.drop off) = some ws) (hd : dstOk o nt = true) : TDoesB P nt o σ ⟨tmpsIn [x], [], .agg ws, []⟩ := fun σ' ha =>
  TDoes.val (B.fvalN (P := P) (σ := σ'.den) (vs := denVs σ'.blk vs) (ws := denVs σ'.blk ws) ho hf (by rw [ha.dev (x := x) (by simp), hx]; rfl) (by rw [denVs_map, denVs_map, ← List.map_drop]; exact takeO_map _ hv) hd).at
theorem T.extract {x : Operand} {i : Nat} {vs : List TV} {v : TV} (ho : o.op = .extract x i) (hx : σ.eval x = .tup vs) (hv : vs[i]? = some v) (hd : dstOk o nt = true) : TDoesB P nt o σ ⟨tmpsIn [x], [], v, []⟩ := fun σ' ha =>
  TDoes.val (B.extract (P := P) (σ := σ'.den) (vs := denVs σ'.blk vs) ho (by rw [ha.dev (x := x) (by simp), hx]; rfl) (by rw [denVs_map, List.getElem?_map, hv]; rfl) hd).at

def lenTV (B : Nat → TB) : TV → Option (Nat × List Nat)
  | .view _ _ l => some (l.length, [])
  | .own g => match B g with
    | .row _ _ l => some (l.length, [g])
    | .frz _ l => some (l.length, [g])
    | _ => none
  | .nsl => some (0, [])
  | _ => none
theorem lenTV_ok {B B' : Nat → TB} {x : TV} {n : Nat} {rb : List Nat} (h : lenTV B x = some (n, rb)) (hb : ∀ g ∈ rb, B' g = B g) : lenAV (denV B' x) = some n := by
  unfold lenTV at h
  split at h
  · rename_i f T l
    cases h
    cases f <;> simp [denV, lenAV, denS]
  · rename_i g
    split at h <;> cases h
    · rename_i hg
      have := (hb g (by simp)).trans hg
      simp [denV, this, denO, lenAV]
    · rename_i hg
      have := (hb g (by simp)).trans hg
      simp [denV, this, denO, lenAV, denS]
  · cases h; rfl
  · cases h
theorem T.len {x : Operand} {t e : TypeId} {n : Nat} {rb : List Nat} (ho : o.op = .call { callee := .builtin .len, args := #[x], argTypes := #[t] }) (ht : P.underlying t = some (.slice e)) (hx : lenTV σ.blk (σ.eval x) = some (n, rb)) (hd : dstOk o nt = true) : TDoesB P nt o σ ⟨tmpsIn [x], rb, .int .i64 n, []⟩ := fun σ' ha =>
  TDoes.val (B.len (P := P) (σ := σ'.den) ho ht (by rw [ha.dev (x := x) (by simp)]; exact lenTV_ok hx ha.2) hd).at
theorem T.lenSub {x : Operand} {t e : TypeId} {g i n : Nat} {T : Ty} {e' : TypeId} {l : List (Val T)} (ho : o.op = .call { callee := .builtin .len, args := #[x], argTypes := #[t] }) (ht : P.underlying t = some (.slice e)) (hx : σ.eval x = .sub g i n) (hb : σ.blk g = .row T e' l) (hd : dstOk o nt = true) : TDoesB P nt o σ ⟨tmpsIn [x], [g], .int .i64 n, []⟩ := fun σ' ha =>
  TDoes.val (B.len (P := P) (σ := σ'.den) ho ht (by rw [ha.dev (x := x) (by simp), hx]; simp only [denV, (ha.2 g (by simp)).trans hb, denU, lenAV]) hd).at

/-- A slice of what is only read. -/
def optI (σ : TS) (d : Int) : Option Operand → Option Int
  | none => some d
  | some y => match σ.eval y with | .int _ q => some q | _ => none
theorem optI_ok {σ' : TS} {y : Option Operand} {d q : Int} (h : optI σ d y = some q) (hev : ∀ z, y = some z → σ'.den.eval z = denV σ'.blk (σ.eval z)) (h0 : 0 ≤ q) : match y with | none => q = d | some z => ∃ k q', σ'.den.eval z = .d (.int k q') ∧ q' = (q.toNat : Int) := by
  cases y with
  | none => simpa [optI] using h.symm
  | some z =>
    simp only [optI] at h
    split at h
    · rename_i k q' hz
      cases h
      exact ⟨k, q, by rw [hev z rfl, hz]; rfl, by omega⟩
    · cases h
theorem T.sliceView {t e : TypeId} {f : Bool} {T : Ty} {l : List (Val T)} {rb : List Nat} {x : Operand} {lo hi : Option Operand} {a b : Int} (ho : o.op = .slice t x lo hi none) (ht : elOf P t = some (e, T.size)) (hx : asView σ.blk (σ.eval x) = some (f, ⟨T, l, rb⟩))
    (hlo : optI σ 0 lo = some a) (hhi : optI σ (l.length : Nat) hi = some b) (h0 : 0 ≤ a) (h1 : a ≤ b) (h2 : b ≤ l.length) (hd : dstOk o nt = true) :
    TDoesB P nt o σ ⟨tmpsIn (x :: (lo.toList ++ hi.toList)), rb, .view f T ((l.drop a.toNat).take (b.toNat - a.toNat)), []⟩ := fun σ' ha => by
  have hev : ∀ z ∈ (x :: (lo.toList ++ hi.toList)), σ'.den.eval z = denV σ'.blk (σ.eval z) := fun z hz => ha.dev hz
  have q1 := optI_ok (σ' := σ') hlo (fun z hz => hev z (by simp [hz])) h0
  have q2 := optI_ok (σ' := σ') hhi (fun z hz => hev z (by simp [hz])) (by omega)
  have := (B.sliceView (P := P) (nt := nt) (σ := σ'.den) (es := denS l) (f := f) (sz := T.size) (l := a.toNat) (h := b.toNat) ho ht (by rw [hev x (by simp)]; exact asView_ok hx ha.2) (by
      cases lo with
      | none => simp only at q1; subst q1; rfl
      | some z => exact q1) (by
      cases hi with
      | none => simp only at q2 ⊢; subst q2; simp [denS]
      | some z => exact q2) (by omega) (by simp [denS]; omega) hd).at
  refine TDoes.val ?_
  rw [denS_part] at this
  cases f <;> exact this

/- What makes memory. -/
def TB.isFree : TB → Bool
  | .free => true
  | _ => false
theorem TB.isFree_eq {b : TB} (h : b.isFree = true) : b = .free := by cases b <;> first | rfl | cases h

theorem T.box {t : TypeId} {x : Operand} {g : Nat} (ho : o.op = .box t x) (hl : (σ.eval x).flat.all tleaf = true) (hg : (σ.blk g).isFree = true) (hd : dstOk o nt = true) : TDoesB P nt o σ ⟨tmpsIn [x], [g], .ptr g 0 0, [(g, .var t (σ.eval x).flat)]⟩ := fun σ' ha => by
  have hg' : σ'.blk g = .free := (ha.2 g (by simp)).trans (TB.isFree_eq hg)
  refine TDoes.of (by simp [hg', Turn.new]) (by simp) fun hw => ?_
  have hns : ∀ q ∈ TV.nms (σ.eval x).flat, q ≠ g := fun q hq e => by
    subst e
    have := hw.ev x q (by rw [ha.ev (x := x) (by simp)]; exact nms_flat hq)
    exact this hg'
  have := (B.box (P := P) (nt := nt) (σ := σ'.den) (g := g) (cs := denVs σ'.blk (σ.eval x).flat) ho (by rw [ha.dev (x := x) (by simp), denV_flatten]) (by rw [leaves_den]; exact hl) (by show denB _ (σ'.blk g) = _; rw [hg']; rfl) hd).at
  have e1 : denVs (upd σ'.blk g (.var t (σ.eval x).flat)) (σ.eval x).flat = denVs σ'.blk (σ.eval x).flat := denVs_turn (by rw [hg']; exact .new) fun _ hq => hns g hq rfl
  show Does P nt o σ'.den ⟨.ptr g 0 0, [(g, .var t (denVs (upd σ'.blk g (.var t (σ.eval x).flat)) (σ.eval x).flat))]⟩
  rw [e1]
  exact this

def zeroTV (P : Program) (t : TypeId) : Option (List TV) := ((P.info? t).bind (·.zero)).map fun z => z.cells.toList.map constTV
theorem zeroTV_ok {t : TypeId} {cs : List TV} (h : zeroTV P t = some cs) (B : Nat → TB) : zeroAV P t = some (denVs B cs) := by
  unfold zeroTV at h
  obtain ⟨z, hz, rfl⟩ := Option.map_eq_some_iff.1 h
  unfold zeroAV
  rw [hz, denVs_map, List.map_map]
  show some _ = some _
  congr 1
  exact List.map_congr_left fun v _ => (constTV_den B v).symm
theorem T.alloc {t : TypeId} {g : Nat} {cs : List TV} (ho : o.op = .alloc t) (hz : zeroTV P t = some cs) (hl : cs.all tleaf = true) (hg : (σ.blk g).isFree = true) (hd : dstOk o nt = true) : TDoesB P nt o σ ⟨[], [g], .ptr g 0 0, [(g, .var t cs)]⟩ := fun σ' ha => by
  have hg' : σ'.blk g = .free := (ha.2 g (by simp)).trans (TB.isFree_eq hg)
  refine TDoes.of (by simp [hg', Turn.new]) (by simp) fun hw => ?_
  exact (B.alloc (P := P) (nt := nt) (σ := σ'.den) (g := g) ho (zeroTV_ok hz (upd σ'.blk g (.var t cs))) (by rw [leaves_den]; exact hl) (by show denB _ (σ'.blk g) = _; rw [hg']; rfl) hd).at

/-- A store into a variable. -/
theorem T.storeVar {t n g j : Nat} {e : TypeId} {x y : Operand} {b : Bool} {cs cs' : List TV} (ho : o.op = .store t x y) (ht : tyOf P t = some (b, n)) (hx : σ.eval x = .ptr g 0 j) (hb : σ.blk g = .var e cs) (hl : (σ.eval y).flat.all tleaf = true) (hn : (σ.eval y).flat.length = n) (hs : splice cs j (σ.eval y).flat = some cs') (hd : o.dst = none) :
    TDoesB P nt o σ ⟨tmpsIn [x, y], [g], .und, [(g, .var e cs')]⟩ := fun σ' ha => by
  have hb' : σ'.blk g = .var e cs := (ha.2 g (by simp)).trans hb
  refine TDoes.of (by simp [hb', Turn.var]) (by simp) fun hw => ?_
  have := (B.storeVar (P := P) (nt := nt) (σ := σ'.den) (e := e) (g := g) (j := j) (cs := denVs σ'.blk cs) (ws := denVs σ'.blk (σ.eval y).flat) (cs' := denVs σ'.blk cs') ho ht (by rw [ha.dev (x := x) (by simp), hx]; rfl) (by show denB _ (σ'.blk g) = _; rw [hb']; rfl)
    (by rw [ha.dev (x := y) (by simp), denV_flatten]) (by rw [leaves_den]; exact hl) (by rw [denVs_map, List.length_map]; exact hn) (by rw [denVs_map, denVs_map, denVs_map]; exact splice_map _ hs) hd).at
  have e1 : denVs (upd σ'.blk g (.var e cs')) cs' = denVs σ'.blk cs' := denVs_turn (by rw [hb']; exact .var) fun hf => by rw [hb'] at hf; cases hf
  show Does P nt o σ'.den ⟨.und, [(g, .var e (denVs (upd σ'.blk g (.var e cs')) cs'))]⟩
  rw [e1]
  exact this

theorem splice_parts {α : Type} {cs : List α} {j : Nat} {ws l : List α} (h : splice cs j ws = some l) : ∃ a b c, cs = a ++ b ++ c ∧ a.length = j ∧ b.length = ws.length ∧ l = a ++ ws ++ c := by
  obtain ⟨h1, h2⟩ := splice_eq h
  refine ⟨cs.take j, (cs.drop j).take ws.length, cs.drop (j + ws.length), ?_, by rw [List.length_take]; omega, by rw [List.length_take, List.length_drop]; omega, h2⟩
  rw [List.append_assoc, ← List.drop_drop, List.take_append_drop, List.take_append_drop]
theorem splice_of {α : Type} : ∀ {a b c ws : List α}, b.length = ws.length → splice (a ++ b ++ c) a.length ws = some (a ++ ws ++ c)
  | [], b, c, ws, h => by
    induction ws generalizing b with
    | nil =>
      obtain rfl : b = [] := List.eq_nil_of_length_eq_zero h
      cases c <;> simp [splice]
    | cons w ws ih =>
      cases b with
      | nil => simp at h
      | cons x b =>
        have := ih (b := b) (by simpa using h)
        simp only [List.nil_append, List.length_nil, List.cons_append] at this ⊢
        simp only [splice, this]
  | x :: a, b, c, ws, h => by
    have := splice_of (a := a) (c := c) h
    simp only [List.cons_append, List.length_cons, splice, this]

/-- A store into a row; what is stored is frozen. -/
theorem T.storeRow {t n g i j : Nat} {e : TypeId} {T : Ty} {x y : Operand} {b : Bool} {l : List (Val T)} {x0 : Val T} {cs : List TV} {p : Pk (Val T)} (ho : o.op = .store t x y) (ht : tyOf P t = some (b, n)) (hx : σ.eval x = .ptr g i j) (hb : σ.blk g = .row T e l) (hc : l[i]? = some x0)
    (hn : (σ.eval y).flat.length = n) (hs : splice (Go.Proofs.Ytmkfpfnjimmmaaa.flat T x0) j (σ.eval y).flat = some cs) (hp : pack σ.blk T cs = some p) (hr : p.rest = []) (hps : ∀ q ∈ p.ps, q) (hg : g ∉ p.fz.map (·.1)) (hd : o.dst = none) :
    TDoesB P nt o σ ⟨tmpsIn [x, y], g :: p.rb, .und, p.fz ++ [(g, .row T e (l.set i p.x))]⟩ := fun σ' ha => by
  have hb' : σ'.blk g = .row T e l := (ha.2 g (by simp)).trans hb
  obtain ⟨hok, pre, hcs, hz⟩ := pack_ok hp hps
  rw [hr, List.append_nil] at hcs
  subst hcs
  obtain ⟨hf', hfz⟩ := hok.rd.fz hok.fzo hok.sub (B' := σ'.blk) fun q hq => ha.2 q (List.mem_cons_of_mem _ hq)
  refine TDoes.frz (s := ⟨.und, [(g, .row T e (l.set i p.x))]⟩) hf' ?_
  have hb2 : tupsOf σ'.blk p.fz g = .row T e l := (tupsOf_out _ _ _ hg).trans hb'
  have hz2 := hz _ hfz
  have hev : ∀ z ∈ [x, y], (TS.mk σ'.tmp (tupsOf σ'.blk p.fz)).den.eval z = denV (tupsOf σ'.blk p.fz) (σ.eval z) := fun z hz' => (TS.eval_den _ _).trans (by
    have : (TS.mk σ'.tmp (tupsOf σ'.blk p.fz)).eval z = σ'.eval z := by cases z <;> rfl
    rw [this, ha.ev hz'])
  obtain ⟨a1, b1, c1, q1, q2, q3, rfl⟩ := splice_parts hs
  rw [denVs_map, List.map_append, List.map_append] at hz2
  obtain ⟨d12, d3, e1, z12, z3⟩ := hz2.split
  obtain ⟨d1, d2, rfl, z1, z2⟩ := z12.split
  have hfl := denV_flat (tupsOf σ'.blk p.fz) T x0
  rw [q1, denVs_map, List.map_append, List.map_append] at hfl
  obtain ⟨f12, f3, g1, g2, g3⟩ := List.append_eq_map_iff.1 hfl
  obtain ⟨f1, f2, rfl, g4, g5⟩ := List.append_eq_map_iff.1 g2.symm
  rw [← g4] at z1
  rw [← g3] at z3
  obtain rfl := z1.dmap
  obtain rfl := z3.dmap
  refine TDoes.of (by
    intro q hq
    obtain rfl := List.mem_singleton.1 hq
    show Turn (tupsOf σ'.blk p.fz g) _
    rw [hb2]
    exact .row (by simp)) (by simp) fun hw => ?_
  have l1 : d1.length = j := by have := congrArg List.length g4; simp at this; omega
  have l2 : f2.length = d2.length := by
    have h1 := congrArg List.length g5
    have h2 := z2.at.1
    simp at h1 h2
    omega
  have := (B.storeRow (P := P) (nt := nt) (σ := (TS.mk σ'.tmp (tupsOf σ'.blk p.fz)).den) (e := e) (g := g) (i := i) (j := j) (sz := T.size) (es := denS l) (c := flatD T x0) (c' := flatD T p.x) (ds := d2) ho ht (by rw [hev x (by simp), hx]; rfl)
    (by show denB _ (tupsOf σ'.blk p.fz g) = _; rw [hb2]; rfl) (by unfold denS; rw [List.getElem?_map, hc]; rfl) (by rw [hev y (by simp), denV_flatten, denVs_map]; exact z2) (by rw [← z2.at.1, List.length_map]; exact hn)
    (by rw [g1, e1, ← l1]; exact splice_of l2) hd).at
  have e2 : denS (l.set i p.x) = (denS l).set i (flatD T p.x) := by unfold denS; rw [List.map_set]
  show Does P nt o _ ⟨.und, [(g, .row T.size e (denS (l.set i p.x)))]⟩
  rw [e2]
  exact this
end
end Go.Proofs.Ytmkfpfnjimmmaaa
