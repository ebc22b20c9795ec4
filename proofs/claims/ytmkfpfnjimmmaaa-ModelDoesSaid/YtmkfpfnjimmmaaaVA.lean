/- A reading of the walk's state in values that name no address: what a slot holds, what the call's own blocks hold. Nothing of the dump stands here. -/
import Derived.Test.YtmkfpfnjimmmaaaTab
import Derived.Orders
namespace Go.Proofs.Ytmkfpfnjimmmaaa
open Go.RowKit
set_option linter.unusedVariables false

/-- Plain data: numbers, truth values, slices that are only read. -/
inductive D where
  | int (k : IntKind) (n : Int)
  | bool (b : Bool)
  | view (sz : Nat) (es : List (List D))
  deriving Inhabited

/-- What a slot, or a cell of a variable of the call's own, holds. -/
inductive AV where
  | d (x : D)
  | agg (vs : List AV)
  | tup (vs : List AV)
  | ptr (g i j : Nat)
  | vptr (o : Bool) (c : List D) (j : Nat)
  | lent (sz : Nat) (es : List (List D))
  | own (g i n : Nat)
  | part (g i n : Nat)
  | nsl
  | nptr
  | fn (f : FuncId) (caps : List AV)
  | mp (g : Nat)
  | nmp
  | und
  deriving Inhabited

/-- What a block of the call's own holds: a row of plain data; a variable; it is no longer written; it is not there yet. -/
inductive Blk where
  | row (sz : Nat) (e : TypeId) (es : List (List D))
  | var (e : TypeId) (cs : List AV)
  | mp (k : IntKind) (m : List (Int × AV))
  | dead
  | free
  deriving Inhabited

def AV.leaf : AV → Bool
  | .agg _ => false
  | .tup _ => false
  | .und => false
  | _ => true

def upd {α : Type} (f : Nat → α) (i : Nat) (v : α) : Nat → α := fun j => bif Nat.beq j i then v else f j
theorem upd_same {α : Type} (f : Nat → α) (i : Nat) (v : α) : upd f i v i = v := by simp [upd]
theorem upd_other {α : Type} (f : Nat → α) (i : Nat) (v : α) {j : Nat} (h : j ≠ i) : upd f i v j = f j := by
  have : Nat.beq j i = false := by
    cases hb : Nat.beq j i with
    | false => rfl
    | true => exact absurd (Nat.eq_of_beq_eq_true hb) h
  simp [upd, this]
theorem upd_comm {α : Type} (f : Nat → α) {i j : Nat} (v u : α) (h : i ≠ j) : upd (upd f i v) j u = upd (upd f j u) i v := by
  funext k
  by_cases h1 : k = i
  · subst h1; rw [upd_other _ _ _ h, upd_same, upd_same]
  · by_cases h2 : k = j
    · subst h2; rw [upd_same, upd_other _ _ _ h1, upd_same]
    · rw [upd_other _ _ _ h2, upd_other _ _ _ h1, upd_other _ _ _ h1, upd_other _ _ _ h2]

structure St where
  tmp : Nat → AV
  blk : Nat → Blk

/-- Where the blocks lie. -/
structure Env where
  β : Nat → Nat
  sz : Nat → Nat
  cap : Nat → Nat
  vr : Nat → Bool
  kn : Nat → Prop

def Env.at_ (E : Env) (g : Nat) : Nat × Nat × Nat × Bool := (E.β g, E.sz g, E.cap g, E.vr g)
theorem Env.at_eq {E E' : Env} {g : Nat} (h : E'.β g = E.β g ∧ E'.sz g = E.sz g ∧ E'.cap g = E.cap g ∧ E'.vr g = E.vr g) : E'.at_ g = E.at_ g := by unfold Env.at_; rw [h.1, h.2.1, h.2.2.1, h.2.2.2]

/-- A block's cells may be read, and stay as they are; of what is borrowed (o) nothing is said to whom it belongs. -/
def Okb (w : World) (F U : Nat → Prop) (base : Nat) (o : Bool) (b : Nat) : Prop := b < w.heap.size ∧ ¬ F b ∧ (o = false → U b ∨ base ≤ b)

inductive VD (w : World) (F U : Nat → Prop) (base : Nat) : D → Value → Prop where
  | int (k : IntKind) (n : Int) : VD w F U base (.int k n) (.int k n)
  | bool (b : Bool) : VD w F U base (.bool b) (.bool b)
  | view {sz : Nat} {es : List (List D)} {a : Option Addr} {n cap : Nat} (u : Nat → Nat → Value) (hl : es.length = n) (hc : n ≤ cap) (hm : cap ≤ maxLen) (hz : a = none → cap = 0)
      (hsz : ∀ (i : Nat) (x : List D), es[i]? = some x → x.length = sz)
      (hat : ∀ (i : Nat) (x : List D), es[i]? = some x → ∃ b off, a = some ⟨b, off, none⟩ ∧ Okb w F U base false b ∧ ∀ j, j < sz → w.cell? ⟨b, off + (i * sz + j), none⟩ = some (u i j))
      (hV : ∀ (i : Nat) (x : List D) (j : Nat) (d : D), es[i]? = some x → x[j]? = some d → VD w F U base d (u i j)) : VD w F U base (.view sz es) (.slice a n cap)

inductive VA (E : Env) (w : World) (F U : Nat → Prop) (base : Nat) : AV → Value → Prop where
  | d {x : D} {v : Value} (h : VD w F U base x v) : VA E w F U base (.d x) v
  | agg {vs : List AV} {us : List Value} (hl : vs.length = us.length) (h : ∀ (i : Nat) (x : AV) (u : Value), vs[i]? = some x → us[i]? = some u → VA E w F U base x u) : VA E w F U base (.agg vs) (.agg us.toArray)
  | tup {vs : List AV} {us : List Value} (hl : vs.length = us.length) (h : ∀ (i : Nat) (x : AV) (u : Value), vs[i]? = some x → us[i]? = some u → VA E w F U base x u) : VA E w F U base (.tup vs) (.tuple us.toArray)
  | ptr {g i j : Nat} (hk : E.kn g) : VA E w F U base (.ptr g i j) (.pointer (some ⟨E.β g, i * E.sz g + j, none⟩))
  | vptr {o : Bool} {c : List D} {j b off : Nat} (u : Nat → Value) (hok : Okb w F U base o b) (hc : ∀ j, j < c.length → w.cell? ⟨b, off + j, none⟩ = some (u j)) (hv : ∀ (j : Nat) (d : D), c[j]? = some d → VD w F U base d (u j)) : VA E w F U base (.vptr o c j) (.pointer (some ⟨b, off + j, none⟩))
  | lent {sz : Nat} {es : List (List D)} {a : Option Addr} {n cap : Nat} (u : Nat → Nat → Value) (hl : es.length = n) (hc : n ≤ cap) (hm : cap ≤ maxLen) (hz : a = none → cap = 0)
      (hsz : ∀ (i : Nat) (x : List D), es[i]? = some x → x.length = sz)
      (hat : ∀ (i : Nat) (x : List D), es[i]? = some x → ∃ b off, a = some ⟨b, off, none⟩ ∧ Okb w F U base true b ∧ ∀ j, j < sz → w.cell? ⟨b, off + (i * sz + j), none⟩ = some (u i j))
      (hV : ∀ (i : Nat) (x : List D) (j : Nat) (d : D), es[i]? = some x → x[j]? = some d → VD w F U base d (u i j)) : VA E w F U base (.lent sz es) (.slice a n cap)
  | onil {g : Nat} (hk : E.kn g) (hv : E.vr g = true) : VA E w F U base (.own g 0 0) (.slice none 0 0)
  | own {g i n : Nat} {a : Addr} {cap : Nat} (hk : E.kn g) (hv : E.vr g = false) (hn : n ≤ cap) (hm : cap ≤ maxLen) (ha : i = 0 ∨ n ≠ 0 → a = ⟨E.β g, i * E.sz g, none⟩ ∧ cap + i = E.cap g) : VA E w F U base (.own g i n) (.slice (some a) n cap)
  | part {g i n : Nat} {a : Addr} {cap : Nat} (hk : E.kn g) (hv : E.vr g = false) (hn : n ≤ cap) (hm : cap ≤ maxLen) (ha : a = ⟨E.β g, i * E.sz g, none⟩ ∧ cap + i ≤ E.cap g) : VA E w F U base (.part g i n) (.slice (some a) n cap)
  | nsl : VA E w F U base .nsl (.slice none 0 0)
  | nptr : VA E w F U base .nptr (.pointer none)
  | fn {f : FuncId} {vs : List AV} {us : List Value} (hl : vs.length = us.length) (h : ∀ (i : Nat) (x : AV) (u : Value), vs[i]? = some x → us[i]? = some u → VA E w F U base x u) : VA E w F U base (.fn f vs) (.func (.func f) #[] us.toArray)
  | mp {g : Nat} (hk : E.kn g) : VA E w F U base (.mp g) (.map (some (E.β g)))
  | nmp : VA E w F U base .nmp (.map none)
  | und (v : Value) : VA E w F U base .und v

theorem VD.one {w : World} {F U : Nat → Prop} {base : Nat} {d : D} {v : Value} (h : VD w F U base d v) : v.oneCell' = true := by cases h <;> rfl
theorem VA.one {E : Env} {w : World} {F U : Nat → Prop} {base : Nat} {x : AV} {v : Value} (h : VA E w F U base x v) (hl : x.leaf = true) : v.oneCell' = true := by
  cases h with
  | d h => exact h.one
  | agg | tup | und => cases hl
  | _ => rfl

theorem VD.keep {w w' : World} {F F' U : Nat → Prop} {base : Nat} (hs : w.heap.size ≤ w'.heap.size) (hb : ∀ b, b < w.heap.size → ¬ F b → w'.heap[b]? = w.heap[b]?) (hF : ∀ b, b < w.heap.size → F' b → F b) {x : D} {v : Value} (h : VD w F U base x v) : VD w' F' U base x v := by
  induction h with
  | int => exact .int _ _
  | bool => exact .bool _
  | view u hl hc hm hz hsz hat hV ih =>
    refine .view u hl hc hm hz hsz (fun i x hx => ?_) ih
    obtain ⟨b, off, ha, ⟨h1, h2, h3⟩, h5⟩ := hat i x hx
    exact ⟨b, off, ha, ⟨Nat.lt_of_lt_of_le h1 hs, fun hf => h2 (hF b h1 hf), h3⟩, fun j hj => (World.cell?_of_block (a := ⟨b, off + (i * _ + j), none⟩) (hb b h1 h2)).trans (h5 j hj)⟩

theorem VA.keep {E E' : Env} {w w' : World} {F F' U : Nat → Prop} {base : Nat} (hs : w.heap.size ≤ w'.heap.size) (hb : ∀ b, b < w.heap.size → ¬ F b → w'.heap[b]? = w.heap[b]?) (hF : ∀ b, b < w.heap.size → F' b → F b)
    (hE : ∀ g, E.kn g → E'.kn g ∧ E'.β g = E.β g ∧ E'.sz g = E.sz g ∧ E'.cap g = E.cap g ∧ E'.vr g = E.vr g) {x : AV} {v : Value} (h : VA E w F U base x v) : VA E' w' F' U base x v := by
  induction h with
  | d h => exact .d (h.keep hs hb hF)
  | agg hl _ ih => exact .agg hl ih
  | tup hl _ ih => exact .tup hl ih
  | ptr hk =>
    obtain ⟨h1, h2, h3, _, _⟩ := hE _ hk
    rw [← h2, ← h3]
    exact .ptr h1
  | vptr u hok hc hv =>
    obtain ⟨h1, h2, h3⟩ := hok
    exact .vptr u ⟨Nat.lt_of_lt_of_le h1 hs, fun hf => h2 (hF _ h1 hf), h3⟩ (fun j hj => (World.cell?_of_block (a := ⟨_, _ + j, none⟩) (hb _ h1 h2)).trans (hc j hj)) (fun j d hd => (hv j d hd).keep hs hb hF)
  | lent u hl hc hm hz hsz hat hV =>
    refine .lent u hl hc hm hz hsz (fun i x hx => ?_) (fun i x j d hx hd => (hV i x j d hx hd).keep hs hb hF)
    obtain ⟨b, off, ha, ⟨h1, h2, h3⟩, h5⟩ := hat i x hx
    exact ⟨b, off, ha, ⟨Nat.lt_of_lt_of_le h1 hs, fun hf => h2 (hF b h1 hf), h3⟩, fun j hj => (World.cell?_of_block (a := ⟨b, off + (i * _ + j), none⟩) (hb b h1 h2)).trans (h5 j hj)⟩
  | own hk hvr hn hm ha =>
    obtain ⟨h1, h2, h3, h4, h5⟩ := hE _ hk
    exact .own h1 (h5.trans hvr) hn hm (by rw [h2, h3, h4]; exact ha)
  | part hk hvr hn hm ha =>
    obtain ⟨h1, h2, h3, h4, h5⟩ := hE _ hk
    exact .part h1 (h5.trans hvr) hn hm (by rw [h2, h3, h4]; exact ha)
  | onil hk hv => exact .onil (hE _ hk).1 ((hE _ hk).2.2.2.2.trans hv)
  | nsl => exact .nsl
  | nptr => exact .nptr
  | fn hl _ ih => exact .fn hl ih
  | mp hk => rw [← (hE _ hk).2.1]; exact .mp (hE _ hk).1
  | nmp => exact .nmp
  | und => exact .und _

/-- Where a call stands: the world at its begin, what of that one it may write, and which of its blocks bear which names for good. -/
structure Cx where
  st : World
  hot : Nat → Prop
  pin : Nat → Nat × Nat × Nat × Bool → Prop
  dfr : List Nat
def Cx.heap (c : Cx) : Array Obj := c.st.heap
/-- A block that the call may write. -/
def Cx.Mine (c : Cx) (b : Nat) : Prop := c.heap.size ≤ b ∨ c.hot b

/-- What the activation has deferred: marks of loops over functions, whose blocks hold nothing. -/
def Dfr (c : Cx) (ds : List Deferred) (w : World) : Prop := ds = c.dfr.map (fun D => { target := .collected D, args := #[] }) ∧ ∀ D ∈ c.dfr, w.heap[D]? = some (.deferred (some []))
theorem Dfr.keep {c : Cx} {ds : List Deferred} {w w' : World} (h : Dfr c ds w) (hb : ∀ b, b < w.heap.size → w'.heap[b]? = w.heap[b]?) : Dfr c ds w' :=
  ⟨h.1, fun D hD => (hb D (Array.getElem?_eq_some_iff.1 (h.2 D hD)).1).trans (h.2 D hD)⟩

/-- The tables lie in a world. -/
def TabIn (w : World) : Prop := ∀ g k l, tabAt g = some (k, l) → g < w.heap.size ∧ ∃ e fr, w.heap[g]? = some (.cells (l.map (Value.int k)).toArray e fr)
structure Kept (c : Cx) (w : World) : Prop where
  below : Below 0 c.st w
  keep : ∀ b, b < c.heap.size → ¬ c.hot b → w.heap[b]? = c.heap[b]?
  pl : ∀ g b, c.pin g b → g < 64
  tab : TabIn c.st
  tabh : ∀ g x, tabAt g = some x → ¬ c.hot g

theorem Kept.tabIn {c : Cx} {w : World} (h : Kept c w) : TabIn w := fun g k l ht => by
  obtain ⟨h1, e, fr, h2⟩ := h.tab g k l ht
  exact ⟨Nat.lt_of_lt_of_le h1 h.below.size, e, fr, (h.keep g h1 (h.tabh g _ ht)).trans h2⟩
theorem Kept.tabMine {c : Cx} {w : World} (h : Kept c w) {g : Nat} {x : IntKind × List Int} (ht : tabAt g = some x) : ¬ c.Mine g := fun hm => by
  obtain ⟨h1, _⟩ := h.tab g x.1 x.2 ht
  rcases hm with h2 | h2
  · exact absurd h1 (Nat.not_lt.2 h2)
  · exact h.tabh g x ht h2

theorem Kept.size {c : Cx} {w : World} (h : Kept c w) : c.heap.size ≤ w.heap.size := h.below.size
theorem Kept.mine {c : Cx} {w : World} (h : Kept c w) {b : Nat} (hb : w.heap.size ≤ b) : c.Mine b := .inl (Nat.le_trans h.size hb)
theorem Kept.alloc {c : Cx} {w : World} (h : Kept c w) (o : Obj) : Kept c (w.alloc o) :=
  ⟨h.below.alloc (Nat.zero_le _) o, fun b hb hn => (Below.heap_alloc w o b (by have := h.size; omega)).trans (h.keep b hb hn), h.pl, h.tab, h.tabh⟩
theorem Kept.drew {c : Cx} {w : World} (h : Kept c w) : Kept c w.drew := ⟨h.below.drew, h.keep, h.pl, h.tab, h.tabh⟩
theorem Kept.setRow {c : Cx} {w : World} (h : Kept c w) {g : Nat} (hg : c.Mine g) (cs : Array Value) : Kept c (w.setRow g cs) :=
  ⟨h.below.trans ⟨rfl, rfl, rfl, by simp, fun k hk => by omega⟩, fun b hb hn => (setRow_other w g b cs (by
    rintro rfl
    rcases hg with h1 | h1
    · omega
    · exact hn h1)).trans (h.keep b hb hn), h.pl, h.tab, h.tabh⟩
theorem Kept.grown {c : Cx} {w w' : World} {row : Option Nat} (h : Kept c w) (hg : w.grownBy w' row) (hr : ∀ k, row = some k → c.Mine k) : Kept c w' :=
  ⟨h.below.grown hg (Nat.zero_le _) fun k _ => Nat.zero_le _, fun b hb hn => (hg.block b (by have := h.size; omega) (fun e => by
    rcases hr b e.symm with h1 | h1
    · omega
    · exact hn h1)).trans (h.keep b hb hn), h.pl, h.tab, h.tabh⟩

/-- The type of a row's block. Of a row whose room is known the number is greater by 1000. -/
def rty (e : TypeId) : TypeId := bif Nat.blt e 1000 then e else e - 1000
/-- What is known of a row's room. -/
def Fits (e : TypeId) (n cap : Nat) : Prop := n ≤ cap ∧ (Nat.blt e 1000 = false → cap = n)
theorem rty_of {e : TypeId} (h : Nat.blt e 1000 = true) : rty e = e := by unfold rty; rw [h]; rfl
theorem blt_x (e : Nat) : Nat.blt (e + 1000) 1000 = false := by
  have h : ¬ (e + 1000 < 1000) := by omega
  cases hb : Nat.blt (e + 1000) 1000 with
  | false => rfl
  | true => exact absurd (by simpa [Nat.blt_eq] using hb) h
theorem rty_x (e : Nat) : rty (e + 1000 : Nat) = e := by
  have h := blt_x e
  have h2 : e + 1000 - 1000 = e := by omega
  unfold rty
  rw [h]
  exact h2
theorem Fits.of {e : TypeId} {n cap : Nat} (h : Nat.blt e 1000 = true) (hn : n ≤ cap) : Fits e n cap := ⟨hn, fun h1 => by rw [h] at h1; cases h1⟩
theorem Fits.self {e : TypeId} {n : Nat} : Fits e n n := ⟨Nat.le_refl _, fun _ => rfl⟩
theorem Fits.same {e : TypeId} {n n' cap : Nat} (h : Fits e n cap) (hn : n' = n) : Fits e n' cap := hn ▸ h
/-- Of a row's room no more is told than was known. -/
def Wk (e e' : TypeId) : Prop := rty e = rty e' ∧ (Nat.blt e' 1000 = false → Nat.blt e 1000 = false)
theorem Wk.refl (e : TypeId) : Wk e e := ⟨rfl, fun h => h⟩
theorem Fits.wk {e e' : TypeId} {n cap : Nat} (h : Fits e n cap) (hw : Wk e e') : Fits e' n cap := ⟨h.1, fun h1 => h.2 (hw.2 h1)⟩
def wkB (e e' : TypeId) : Bool := Nat.beq e e' || (Nat.blt e' 1000 && Nat.beq e (e' + 1000))
theorem wkB_ok {e e' : TypeId} (h : wkB e e' = true) : Wk e e' := by
  unfold wkB at h
  rw [Bool.or_eq_true, Bool.and_eq_true] at h
  rcases h with h | ⟨h1, h2⟩
  · obtain rfl := Nat.eq_of_beq_eq_true h; exact .refl _
  · obtain rfl := Nat.eq_of_beq_eq_true h2
    exact ⟨(rty_x e').trans (rty_of h1).symm, fun h => by rw [h1] at h; cases h⟩
/-- What a block of the call's own holds. A row without room may be no block at all. -/
def BlkOk (E : Env) (w : World) (F U : Nat → Prop) (c : Cx) (g : Nat) : Blk → Prop
  | .row sz e es => E.kn g ∧ E.sz g = sz ∧ 0 < sz ∧ E.cap g ≤ maxLen ∧ Fits e es.length (E.cap g) ∧ (E.vr g = true → E.cap g = 0) ∧ (E.vr g = false → c.Mine (E.β g) ∧ ∃ cur, w.heap[E.β g]? = some (.cells cur (rty e) (0, 0)) ∧ cur.size = E.cap g * sz ∧
      ∀ (i : Nat) (x : List D), es[i]? = some x → x.length = sz ∧ ∀ (j : Nat) (d : D), x[j]? = some d → ∃ u : Value, cur[i * sz + j]? = some u ∧ VD w F U c.heap.size d u)
  | .var e cs => E.kn g ∧ c.Mine (E.β g) ∧ ∃ cur : Array Value, w.heap[E.β g]? = some (.cells cur e (0, 0)) ∧ cur.size = cs.length ∧ ∀ (j : Nat) (x : AV), cs[j]? = some x → x.leaf = true ∧ ∃ u : Value, cur[j]? = some u ∧ VA E w F U c.heap.size x u
  | .mp ik m => E.kn g ∧ c.Mine (E.β g) ∧ ∃ (es : Array MapEntry) (n : Nat), w.heap[E.β g]? = some (.map es n) ∧ es.size = m.length ∧ ∀ (i : Nat) (x : Int × AV) (e : MapEntry), m[i]? = some x → es[i]? = some e → e.key = .int ik x.1 ∧ VA E w F U c.heap.size x.2 e.val
  | .dead => E.kn g
  | .free => ¬ E.kn g

/-- A block that may be written. -/
def Hot (E : Env) (g : Nat) : Blk → Prop
  | .row .. => E.vr g = false
  | .var .. => True
  | .mp .. => True
  | _ => False

/-- The blocks that may be written. -/
def Fof (E : Env) (B : Nat → Blk) : Nat → Prop := fun b => ∃ g, Hot E g (B g) ∧ E.β g = b

structure Mem (w0 : Cx) (U : Nat → Prop) (B : Nat → Blk) (E : Env) (w : World) : Prop where
  below : Kept w0 w
  pins : (∀ b, w0.hot b → U b) ∧ ∀ g b, w0.pin g b → E.kn g ∧ E.at_ g = b
  blk : ∀ g, BlkOk E w (Fof E B) U w0 g (B g)
  inj : ∀ g g', Hot E g (B g) → Hot E g' (B g') → E.β g = E.β g' → g = g'

structure Rel (w0 : Cx) (U : Nat → Prop) (nt : Nat) (σ : St) (E : Env) (a : Act) (w : World) : Prop where
  mem : Mem w0 U σ.blk E w
  size : a.tmps.size = nt
  defers : Dfr w0 a.defers w
  tmp : ∀ t, VA E w (Fof E σ.blk) U w0.heap.size (σ.tmp t) (a.tmps.getD t undef)

theorem BlkOk.lt {E : Env} {w : World} {F U : Nat → Prop} {c : Cx} {g : Nat} {b : Blk} (h : BlkOk E w F U c g b) (hl : Hot E g b) : E.β g < w.heap.size ∧ c.Mine (E.β g) ∧ E.kn g := by
  cases b with
  | row sz e es =>
    obtain ⟨h1, _, _, _, _, _, h2⟩ := h
    obtain ⟨h3, cur, hc, _⟩ := h2 hl
    exact ⟨(Array.getElem?_eq_some_iff.1 hc).1, h3, h1⟩
  | var e cs =>
    obtain ⟨h1, h2, cur, hc, _⟩ := h
    exact ⟨(Array.getElem?_eq_some_iff.1 hc).1, h2, h1⟩
  | mp ik m =>
    obtain ⟨h1, h2, es, n, hc, _⟩ := h
    exact ⟨(Array.getElem?_eq_some_iff.1 hc).1, h2, h1⟩
  | dead => cases hl
  | free => cases hl

theorem BlkOk.obj {E : Env} {w : World} {F U : Nat → Prop} {c : Cx} {g : Nat} {b : Blk} (h : BlkOk E w F U c g b) (hl : Hot E g b) (ds : Option (List Deferred)) : w.heap[E.β g]? ≠ some (.deferred ds) := by
  cases b with
  | row sz e es =>
    obtain ⟨h1, _, _, _, _, _, h2⟩ := h
    obtain ⟨h3, cur, hc, _⟩ := h2 hl
    rw [hc]; simp
  | var e cs =>
    obtain ⟨h1, h2, cur, hc, _⟩ := h
    rw [hc]; simp
  | mp ik m =>
    obtain ⟨h1, h2, es, n, hc, _⟩ := h
    rw [hc]; simp
  | dead => cases hl
  | free => cases hl
theorem Mem.dfr {w0 : Cx} {U : Nat → Prop} {B : Nat → Blk} {E : Env} {w w' : World} {ds : List Deferred} (h : Mem w0 U B E w) (hd : Dfr w0 ds w) (hb : ∀ b, b < w.heap.size → ¬ Fof E B b → w'.heap[b]? = w.heap[b]?) : Dfr w0 ds w' :=
  ⟨hd.1, fun D hD => (hb D (Array.getElem?_eq_some_iff.1 (hd.2 D hD)).1 fun ⟨g, h1, h2⟩ => (h.blk g).obj h1 _ (by rw [h2]; exact hd.2 D hD)).trans (hd.2 D hD)⟩

theorem BlkOk.keep {E E' : Env} {w w' : World} {F F' U : Nat → Prop} {c : Cx} {g : Nat} {b : Blk} (h : BlkOk E w F U c g b) (hs : w.heap.size ≤ w'.heap.size) (hb : ∀ b, b < w.heap.size → ¬ F b → w'.heap[b]? = w.heap[b]?) (hF : ∀ b, b < w.heap.size → F' b → F b)
    (hE : ∀ g, E.kn g → E'.kn g ∧ E'.β g = E.β g ∧ E'.sz g = E.sz g ∧ E'.cap g = E.cap g ∧ E'.vr g = E.vr g) (hsame : Hot E g b → w'.heap[E.β g]? = w.heap[E.β g]?) (hfree : b = .free → ¬ E'.kn g) : BlkOk E' w' F' U c g b := by
  cases b with
  | row sz e es =>
    obtain ⟨h1, h2, h4, h5, h6, h7', h7⟩ := h
    obtain ⟨e1, e2, e3, e4, e5⟩ := hE g h1
    refine ⟨e1, by rw [e3]; exact h2, h4, by rw [e4]; exact h5, by rw [e4]; exact h6, by rw [e4, e5]; exact h7', fun hc => ?_⟩
    rw [e5] at hc
    obtain ⟨h3, cur, h7, h8, h9⟩ := h7 hc
    refine ⟨by rw [e2]; exact h3, cur, by rw [e2, hsame hc]; exact h7, by rw [e4]; exact h8, fun i x hx => ⟨(h9 i x hx).1, fun j d hd => ?_⟩⟩
    obtain ⟨u, hu, hv⟩ := (h9 i x hx).2 j d hd
    exact ⟨u, hu, hv.keep hs hb hF⟩
  | var e cs =>
    obtain ⟨h1, h3, cur, h7, h8, h9⟩ := h
    obtain ⟨e1, e2, e3, e4, e5⟩ := hE g h1
    refine ⟨e1, by rw [e2]; exact h3, cur, by rw [e2, hsame trivial]; exact h7, h8, fun j x hx => ?_⟩
    obtain ⟨hl, u, hu, hv⟩ := h9 j x hx
    exact ⟨hl, u, hu, hv.keep hs hb hF hE⟩
  | mp ik m =>
    obtain ⟨h1, h3, es, n, h7, h8, h9⟩ := h
    obtain ⟨e1, e2, e3, e4, e5⟩ := hE g h1
    refine ⟨e1, by rw [e2]; exact h3, es, n, by rw [e2, hsame trivial]; exact h7, h8, fun i x e hx he => ⟨(h9 i x e hx he).1, (h9 i x e hx he).2.keep hs hb hF hE⟩⟩
  | dead => exact (hE g h).1
  | free => exact hfree rfl

/-- A step that leaves all blocks of the call's own as they are, and what may be read. -/
theorem Mem.keep {w0 : Cx} {U : Nat → Prop} {B : Nat → Blk} {E : Env} {w w' : World} (h : Mem w0 U B E w) (hs : w.heap.size ≤ w'.heap.size) (hb : ∀ b, b < w.heap.size → w'.heap[b]? = w.heap[b]?) (hw : Kept w0 w') : Mem w0 U B E w' :=
  ⟨hw, h.pins, fun g => (h.blk g).keep hs (fun b hlt _ => hb b hlt) (fun _ _ h => h) (fun _ hk => ⟨hk, rfl, rfl, rfl, rfl⟩) (fun hl => hb _ ((h.blk g).lt hl).1) (fun he => by have := h.blk g; rw [he] at this; exact this), h.inj⟩

theorem Rel.keep {w0 : Cx} {U : Nat → Prop} {nt : Nat} {σ : St} {E : Env} {a : Act} {w w' : World} (h : Rel w0 U nt σ E a w) (hs : w.heap.size ≤ w'.heap.size) (hb : ∀ b, b < w.heap.size → w'.heap[b]? = w.heap[b]?) (hw : Kept w0 w') : Rel w0 U nt σ E a w' :=
  ⟨h.mem.keep hs hb hw, h.size, h.defers.keep hb, fun t => (h.tmp t).keep hs (fun b hlt _ => hb b hlt) (fun _ _ h => h) (fun _ hk => ⟨hk, rfl, rfl, rfl, rfl⟩)⟩

theorem getD_set {vs : Array Value} {t d : Nat} {v : Value} (h : t < vs.size) : (vs.setIfInBounds t v).getD d undef = if d = t then v else vs.getD d undef := by
  by_cases e : d = t
  · subst e
    simp [h]
  · rw [if_neg e]
    simp [Array.getElem?_setIfInBounds_ne (Ne.symm e)]

theorem Rel.put {w0 : Cx} {U : Nat → Prop} {nt : Nat} {σ : St} {E : Env} {a : Act} {w : World} (h : Rel w0 U nt σ E a w) {t : Nat} {x : AV} {v : Value} (ht : t < nt) (hv : VA E w (Fof E σ.blk) U w0.heap.size x v) :
    Rel w0 U nt {σ with tmp := upd σ.tmp t x} E (a.put (some t) v) w := by
  refine ⟨h.mem, by simp [Act.put, h.size], h.defers, fun d => ?_⟩
  show VA _ _ _ _ _ (upd σ.tmp t x d) ((a.tmps.setIfInBounds t v).getD d undef)
  rw [getD_set (by rw [h.size]; exact ht)]
  by_cases e : d = t
  · subst e
    rw [upd_same, if_pos rfl]
    exact hv
  · rw [upd_other _ _ _ e, if_neg e]
    exact h.tmp d

/-- The environment with one more block. -/
def Env.add (E : Env) (g b sz cap : Nat) : Env := ⟨upd E.β g b, upd E.sz g sz, upd E.cap g cap, upd E.vr g false, fun k => k = g ∨ E.kn k⟩

theorem Env.add_old {E : Env} {g b sz cap : Nat} (hg : ¬ E.kn g) : ∀ k, E.kn k → (E.add g b sz cap).kn k ∧ (E.add g b sz cap).β k = E.β k ∧ (E.add g b sz cap).sz k = E.sz k ∧ (E.add g b sz cap).cap k = E.cap k ∧ (E.add g b sz cap).vr k = E.vr k := fun k hk => by
  have hne : k ≠ g := by rintro rfl; exact hg hk
  exact ⟨.inr hk, upd_other _ _ _ hne, upd_other _ _ _ hne, upd_other _ _ _ hne, upd_other _ _ _ hne⟩

/-- What may be written once there is one more block. -/
theorem Fof_add {B : Nat → Blk} {E : Env} {g b sz cap : Nat} {x : Blk} {k : Nat} (hf : Fof (E.add g b sz cap) (upd B g x) k) : Fof E B k ∨ k = b := by
  obtain ⟨g', h1, h2⟩ := hf
  by_cases e : g' = g
  · subst e
    exact .inr (h2.symm.trans (upd_same _ _ _))
  · rw [upd_other _ _ _ e] at h1
    have h3 : (E.add g b sz cap).β g' = E.β g' := upd_other _ _ _ e
    have h4 : (E.add g b sz cap).vr g' = E.vr g' := upd_other _ _ _ e
    refine .inl ⟨g', ?_, by rw [← h3]; exact h2⟩
    unfold Hot at h1 ⊢
    rw [h4] at h1
    exact h1

/-- A new block of the call's own. -/
theorem Rel.alloc {w0 : Cx} {U : Nat → Prop} {nt : Nat} {σ : St} {E : Env} {a : Act} {w w' : World} (h : Rel w0 U nt σ E a w) {g b sz cap : Nat} {x : Blk} (hg : σ.blk g = .free)
    (hs : w.heap.size ≤ w'.heap.size) (hb : ∀ b, b < w.heap.size → w'.heap[b]? = w.heap[b]?) (hw : Kept w0 w') (hnew : w.heap.size ≤ b)
    (hx : BlkOk (E.add g b sz cap) w' (Fof (E.add g b sz cap) (upd σ.blk g x)) U w0 g x) :
    Rel w0 U nt {σ with blk := upd σ.blk g x} (E.add g b sz cap) a w' := by
  have hk : ¬ E.kn g := by have := h.mem.blk g; rw [hg] at this; exact this
  have hF : ∀ k, k < w.heap.size → Fof (E.add g b sz cap) (upd σ.blk g x) k → Fof E σ.blk k := fun k hlt hf => by
    rcases Fof_add hf with h1 | h1
    · exact h1
    · omega
  have hold := Env.add_old (b := b) (sz := sz) (cap := cap) hk
  refine ⟨⟨hw, ⟨h.mem.pins.1, fun g b hp => ⟨(hold g (h.mem.pins.2 g b hp).1).1, (Env.at_eq (hold g (h.mem.pins.2 g b hp).1).2).trans (h.mem.pins.2 g b hp).2⟩⟩, fun k => ?_, fun k k' h1 h2 h3 => ?_⟩, h.size, h.defers.keep hb, fun t => (h.tmp t).keep hs (fun b hlt _ => hb b hlt) hF hold⟩
  · show BlkOk _ _ _ _ _ k (upd σ.blk g x k)
    by_cases e : k = g
    · subst e
      rw [upd_same]
      exact hx
    · rw [upd_other _ _ _ e]
      refine (h.mem.blk k).keep hs (fun b hlt _ => hb b hlt) hF hold (fun hl => hb _ ((h.mem.blk k).lt hl).1) fun he => ?_
      have h4 := h.mem.blk k
      rw [he] at h4
      rintro (h5 | h5)
      · exact e h5
      · exact h4 h5
  · have key : ∀ q, Hot (E.add g b sz cap) q (upd σ.blk g x q) → q ≠ g → (E.add g b sz cap).β q = E.β q ∧ Hot E q (σ.blk q) ∧ E.β q < w.heap.size := fun q hq hne => by
      rw [upd_other _ _ _ hne] at hq
      have h4 : (E.add g b sz cap).vr q = E.vr q := upd_other _ _ _ hne
      have hq' : Hot E q (σ.blk q) := by
        unfold Hot at hq ⊢
        rw [h4] at hq
        exact hq
      exact ⟨upd_other _ _ _ hne, hq', ((h.mem.blk q).lt hq').1⟩
    have hbg : (E.add g b sz cap).β g = b := upd_same _ _ _
    by_cases e : k = g
    · by_cases e' : k' = g
      · rw [e, e']
      · obtain ⟨q1, q2, q3⟩ := key k' h2 e'
        rw [e, hbg, q1] at h3
        omega
    · obtain ⟨q1, q2, q3⟩ := key k h1 e
      by_cases e' : k' = g
      · rw [e', hbg, q1] at h3
        omega
      · obtain ⟨r1, r2, r3⟩ := key k' h2 e'
        rw [q1, r1] at h3
        exact h.mem.inj k k' q2 r2 h3

/-- A step that writes one block of the call's own. -/
theorem Rel.change {w0 : Cx} {U : Nat → Prop} {nt : Nat} {σ : St} {E : Env} {a : Act} {w w' : World} (h : Rel w0 U nt σ E a w) {g : Nat} {x : Blk} (hg : Hot E g (σ.blk g))
    (hs : w.heap.size = w'.heap.size) (hb : ∀ b, b ≠ E.β g → w'.heap[b]? = w.heap[b]?) (hw : Kept w0 w')
    (hok : BlkOk E w' (Fof E (upd σ.blk g x)) U w0 g x) : Rel w0 U nt {σ with blk := upd σ.blk g x} E a w' := by
  have hFg : Fof E σ.blk (E.β g) := ⟨g, hg, rfl⟩
  have hF : ∀ k, Fof E (upd σ.blk g x) k → Fof E σ.blk k := fun k ⟨g', h1, h2⟩ => by
    by_cases e : g' = g
    · subst e; exact ⟨g', hg, h2⟩
    · rw [upd_other _ _ _ e] at h1; exact ⟨g', h1, h2⟩
  have hE : ∀ k, E.kn k → E.kn k ∧ E.β k = E.β k ∧ E.sz k = E.sz k ∧ E.cap k = E.cap k ∧ E.vr k = E.vr k := fun _ hk => ⟨hk, rfl, rfl, rfl, rfl⟩
  have hbb : ∀ b, b < w.heap.size → ¬ Fof E σ.blk b → w'.heap[b]? = w.heap[b]? := fun b _ hf => hb b (by rintro rfl; exact hf hFg)
  refine ⟨⟨hw, h.mem.pins, fun k => ?_, fun k k' h1 h2 h3 => ?_⟩, h.size, h.mem.dfr h.defers hbb, fun t => (h.tmp t).keep (by omega) hbb (fun k _ hf => hF k hf) hE⟩
  · show BlkOk _ _ _ _ _ k (upd σ.blk g x k)
    by_cases e : k = g
    · subst e; rw [upd_same]; exact hok
    · rw [upd_other _ _ _ e]
      refine (h.mem.blk k).keep (by omega) hbb (fun k _ hf => hF k hf) hE (fun hl => hb _ fun he => e (h.mem.inj k g hl hg he)) fun he => ?_
      have h4 := h.mem.blk k
      rw [he] at h4
      exact h4
  · have key : ∀ q, Hot E q (upd σ.blk g x q) → Hot E q (σ.blk q) := fun q hq => by
      by_cases e : q = g
      · subst e; exact hg
      · rw [upd_other _ _ _ e] at hq; exact hq
    exact h.mem.inj k k' (key k h1) (key k' h2) h3

/-- What a store leaves. -/
theorem Fof_same {B : Nat → Blk} {E : Env} {g : Nat} {x : Blk} (hg : Hot E g (B g)) {k : Nat} (h : Fof E (upd B g x) k) : Fof E B k := by
  obtain ⟨g', h1, h2⟩ := h
  by_cases e : g' = g
  · subst e; exact ⟨g', hg, h2⟩
  · rw [upd_other _ _ _ e] at h1; exact ⟨g', h1, h2⟩
end Go.Proofs.Ytmkfpfnjimmmaaa
