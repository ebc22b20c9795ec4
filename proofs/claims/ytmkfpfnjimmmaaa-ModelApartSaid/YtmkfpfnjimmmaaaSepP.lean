/- The walks of the references that tell what is the same, and what is few. Printed by sep.py. -/
import Derived.Test.YtmkfpfnjimmmaaaSepO
import Derived.Test.YtmkfpfnjimmmaaaChecked
namespace Go.Proofs.Ytmkfpfnjimmmaaa
open Go.RowKit
set_option linter.unusedVariables false
set_option linter.unusedSimpArgs false

theorem en_shallot_shallotref01_Same (us : Array Value) (u : World) : (callFunc 26 us).run Try.prog u = .ok (.enter 26 us) u := by kernel_rfl
theorem en_shallot_shallotref10_Same (us : Array Value) (u : World) : (callFunc 62 us).run Try.prog u = .ok (.enter 62 us) u := by kernel_rfl
theorem en_shallot_shallotref10_SameAll (us : Array Value) (u : World) : (callFunc 65 us).run Try.prog u = .ok (.enter 65 us) u := by kernel_rfl
theorem en_shallot_shallotref17_Few (us : Array Value) (u : World) : (callFunc 81 us).run Try.prog u = .ok (.enter 81 us) u := by kernel_rfl
theorem en_shallot_shallotref04_SameInts (us : Array Value) (u : World) : (callFunc 91 us).run Try.prog u = .ok (.enter 91 us) u := by kernel_rfl
theorem en_shallot_shallotref17_Same (us : Array Value) (u : World) : (callFunc 92 us).run Try.prog u = .ok (.enter 92 us) u := by kernel_rfl
theorem fl_api_Letter_0 : fldOf Try.prog 46 0 = some (0, false, 1) := by kernel_rfl
theorem fl_api_Letter_1 : fldOf Try.prog 46 1 = some (1, false, 1) := by kernel_rfl
theorem ty_bool : tyOf Try.prog 4 = some (false, 1) := by kernel_rfl


/-- Two lists, element by element. -/
def all2 {α β : Type} (f : α → β → Bool) : List α → List β → Bool
  | [], [] => true
  | x :: xs, y :: ys => f x y && all2 f xs ys
  | _, _ => false
theorem all2_iff {α β : Type} {f : α → β → Bool} : ∀ {a : List α} {b : List β}, all2 f a b = true ↔ a.length = b.length ∧ ∀ (i : Nat) (x : α) (y : β), a[i]? = some x → b[i]? = some y → f x y = true
  | [], [] => by simp [all2]
  | [], _ :: _ => by simp [all2]
  | _ :: _, [] => by simp [all2]
  | x :: xs, y :: ys => by
    rw [all2, Bool.and_eq_true, all2_iff]
    constructor
    · rintro ⟨h1, h2, h3⟩
      refine ⟨by simp [h2], fun i p q hp hq => ?_⟩
      cases i with
      | zero => simp at hp hq; subst hp hq; exact h1
      | succ i => exact h3 i p q (by simpa using hp) (by simpa using hq)
    · rintro ⟨h1, h2⟩
      exact ⟨h2 0 x y rfl rfl, by simpa using h1, fun i p q hp hq => h2 (i + 1) p q (by simpa using hp) (by simpa using hq)⟩
theorem all2_true {α β : Type} {f : α → β → Bool} {a : List α} {b : List β} (hl : a.length = b.length) (h : ∀ (i : Nat) (x : α) (y : β), i < a.length → a[i]? = some x → b[i]? = some y → f x y = true) : all2 f a b = true :=
  all2_iff.2 ⟨hl, fun i x y h1 h2 => h i x y (List.getElem?_eq_some_iff.1 h1).1 h1 h2⟩
theorem all2_false {α β : Type} {f : α → β → Bool} {a : List α} {b : List β} {i : Nat} {x : α} {y : β} (h1 : a[i]? = some x) (h2 : b[i]? = some y) (h : f x y = false) : all2 f a b = false := by
  rw [Bool.eq_false_iff]
  intro h3
  have := (all2_iff.1 h3).2 i x y h1 h2
  rw [h] at this
  cases this
theorem all2_len {α β : Type} {f : α → β → Bool} {a : List α} {b : List β} (h : a.length ≠ b.length) : all2 f a b = false := by
  rw [Bool.eq_false_iff]
  intro h3
  exact h (all2_iff.1 h3).1
theorem all2_step {α β : Type} {f : α → β → Bool} {a : List α} {b : List β} {k : Nat} {x : α} {y : β} (h : ∀ (i : Nat) (x : α) (y : β), i < k → a[i]? = some x → b[i]? = some y → f x y = true) (hx : a[k]? = some x) (hy : b[k]? = some y) (hf : f x y = true) :
    ∀ (i : Nat) (x : α) (y : β), i < k + 1 → a[i]? = some x → b[i]? = some y → f x y = true := fun i p q hi hp hq => by
  by_cases hk : i = k
  · subst hk; rw [hx] at hp; rw [hy] at hq; cases hp; cases hq; exact hf
  · exact h i p q (by omega) hp hq

theorem bytes_of_view {w : World} {F U : Nat → Prop} {base : Nat} {l : List UInt8} {v : Value} (h : VD w F U base (.view 1 (l.map eByte)) v) : ∃ a n cap, v = .slice a n cap ∧ Bytes w a n cap l := by
  cases h with
  | view u hl hc hm hz hsz hat hV =>
    refine ⟨_, _, _, rfl, by simpa using hl, hc, hm, hz, ⟨fun i v hv => ?_⟩⟩
    rw [List.getElem?_map] at hv
    cases hx : l[i]? with
    | none => rw [hx] at hv; cases hv
    | some x =>
      rw [hx] at hv
      obtain rfl : B x = v := by simpa using hv
      have hx' : (l.map eByte)[i]? = some (eByte x) := map_at hx
      obtain ⟨b, off, ha, _, hc⟩ := hat i _ hx'
      refine ⟨b, off, ha, ?_⟩
      have h1 := hc 0 (by decide)
      rw [Nat.mul_one, Nat.add_zero] at h1
      have h2 := hV i _ 0 _ hx' rfl
      rw [h1]
      generalize u i 0 = q at h2
      cases h2
      rfl

set_option maxRecDepth 100000 in
set_option maxHeartbeats 400000 in
theorem same_any {w : World} {a a' : Option Addr} {n n' cap cap' : Nat} {l m : List UInt8} (h : Bytes w a n cap l) (h' : Bytes w a' n' cap' m) :
    Calls Try.prog 26 #[.slice a n cap, .slice a' n' cap'] w fun e w' => e = .returned (.bool (l == m)) ∧ w = w' := by
  have k1 := h.toStr (P := Try.prog) 24 9 5 Try.underlying24 Try.underlying5 Try.underlying9
  have k2 := h'.toStr (P := Try.prog) 24 9 5 Try.underlying24 Try.underlying5 Try.underlying9
  clear h h'
  go_enter Try.func26, Try.ntmps26
  go_wp2
  go_ret
  exact ⟨rfl, rfl⟩

theorem r01_same (l m : List UInt8) : ACalls Try.prog 26 [.d (.view 1 (l.map eByte)), .d (.view 1 (m.map eByte))] (fun r bs => r = .d (.bool (l == m)) ∧ bs = []) := fun w U vs hl hv => by
  match vs, hl with
  | [v0, v1], _ =>
    have h0 := hv 0 _ v0 rfl rfl
    have h1 := hv 1 _ v1 rfl rfl
    cases h0 with
    | d h0 =>
      cases h1 with
      | d h1 =>
        obtain ⟨a, n, cap, rfl, b0⟩ := bytes_of_view h0
        obtain ⟨a', n', cap', rfl, b1⟩ := bytes_of_view h1
        refine (same_any b0 b1).mono fun e w' ⟨he, hw⟩ => ?_
        subst hw
        exact ⟨_, [], _, E0, ⟨rfl, rfl⟩, he, ⟨Below.refl _ _, fun g => fun h => h, fun g g' h => by cases h⟩, .d (.bool _)⟩

theorem natbeq (a b : Nat) : ((a : Int) == (b : Int)) = (a == b) := by rw [Bool.eq_iff_iff]; simp; omega
theorem natbne (a b : Nat) : ((a : Int) != (b : Int)) = (a != b) := by rw [bne, bne, natbeq]
def sameL (x y : LetterV) : Bool := x.Cover == y.Cover && x.From == y.From && x.To == y.To && x.Seq == y.Seq && x.Text == y.Text
def sameLs := all2 sameL
def sameQ (x y : QueueV) : Bool := x.Next == y.Next && sameLs x.Items y.Items
def sameM (a b : ModelV) : Bool := (a.Queues.length == b.Queues.length && all2 (fun x y : Int => x == y) a.Come b.Come && a.Boxes.length == b.Boxes.length) && all2 sameQ a.Queues b.Queues && all2 sameLs a.Boxes b.Boxes

set_option maxRecDepth 100000 in
theorem r10_same (x y : LetterV) :
    ACalls Try.prog 62 [aLetter x, aLetter y] (fun r bs => r = .d (.bool (sameL x y)) ∧ bs = []) := by
  refine ACalls.of Try.func62 rfl (Nat.le_of_ble_eq_true rfl) ?_
  show Aw _ _ _ _ ⟨_, _⟩
  refine Aw.seq (Aw.region ?_)
  refine AL.u rfl rfl (B.bA (g := 0)) ?_
  refine AL.u rfl rfl (B.bA (g := 1)) ?_
  refine AL.v rfl rfl (B.mA) ?_
  refine AL.nil (AThen.n (Aw.seq (Aw.region ?_)))
  refine AL.v rfl rfl (B.fA fl_api_Letter_0) ?_
  refine AL.v rfl rfl (B.l1 ty_bool) ?_
  refine AL.v rfl rfl (B.fA fl_api_Letter_0) ?_
  refine AL.v rfl rfl (B.l1 ty_bool) ?_
  refine AL.v rfl rfl (B.boolEql rfl Try.underlying4 rfl rfl rfl) ?_
  refine AL.v rfl rfl (B.mA) ?_
  refine AL.cases (t := 10) rfl (fun hg10 => ?_) (fun hg10 => ?_)
  · refine AL.gv rfl rfl rfl rfl (B.fA fl_api_Letter_1) ?_
    refine AL.gv rfl rfl rfl rfl (B.l1 ty_int) ?_
    refine AL.gv rfl rfl rfl rfl (B.fA fl_api_Letter_1) ?_
    refine AL.gv rfl rfl rfl rfl (B.l1 ty_int) ?_
    refine AL.gv rfl rfl rfl rfl (B.cmp rfl rfl rfl rfl rfl) ?_
    refine AL.v rfl rfl (B.pT) ?_
    refine AL.v rfl rfl (B.mA) ?_
    refine AL.cases (t := 17) rfl (fun hg17 => ?_) (fun hg17 => ?_)
    · refine AL.gv rfl rfl rfl rfl (B.fA fl_api_Letter_2) ?_
      refine AL.gv rfl rfl rfl rfl (B.l1 ty_int) ?_
      refine AL.gv rfl rfl rfl rfl (B.fA fl_api_Letter_2) ?_
      refine AL.gv rfl rfl rfl rfl (B.l1 ty_int) ?_
      refine AL.gv rfl rfl rfl rfl (B.cmp rfl rfl rfl rfl rfl) ?_
      refine AL.v rfl rfl (B.pT) ?_
      refine AL.v rfl rfl (B.mA) ?_
      refine AL.cases (t := 24) rfl (fun hg24 => ?_) (fun hg24 => ?_)
      · refine AL.gv rfl rfl rfl rfl (B.fA fl_api_Letter_3) ?_
        refine AL.gv rfl rfl rfl rfl (B.l1 ty_uint64) ?_
        refine AL.gv rfl rfl rfl rfl (B.fA fl_api_Letter_3) ?_
        refine AL.gv rfl rfl rfl rfl (B.l1 ty_uint64) ?_
        refine AL.gv rfl rfl rfl rfl (B.cmp rfl rfl rfl rfl rfl) ?_
        refine AL.v rfl rfl (B.pT) ?_
        refine AL.v rfl rfl (B.mA) ?_
        refine AL.cases (t := 31) rfl (fun hg31 => ?_) (fun hg31 => ?_)
        · refine AL.gv rfl rfl rfl rfl (B.fA fl_api_Letter_4) ?_
          refine AL.gv rfl rfl rfl rfl (B.l1 ty_Luint8) ?_
          refine AL.gv rfl rfl rfl rfl (B.fA fl_api_Letter_4) ?_
          refine AL.gv rfl rfl rfl rfl (B.l1 ty_Luint8) ?_
          refine AL.gv rfl rfl rfl rfl (B.call0 (k := 2) rfl en_shallot_shallotref01_Same (r01_same x.Text y.Text) (.c (.c .nil))) ?_
          refine AL.v rfl rfl (B.pT) ?_
          refine AL.v rfl rfl (B.mA) ?_
          refine AL.nil (AThen.n (Aw.ret (APost.r ?_)))
          refine Ret.all [] rfl (.cons (.t (.d _)) .nil) gs_nil (.refl _) (.d _) ⟨congrArg (fun b => AV.d (.bool b)) ?_, rfl⟩
          simp_all [sameL, natbeq]
        refine AL.off rfl rfl rfl rfl rfl (by decide) ?_
        refine AL.off rfl rfl rfl rfl rfl (by decide) ?_
        refine AL.off rfl rfl rfl rfl rfl (by decide) ?_
        refine AL.off rfl rfl rfl rfl rfl (by decide) ?_
        refine AL.off rfl rfl rfl rfl rfl (by decide) ?_
        refine AL.v rfl rfl (B.pF) ?_
        refine AL.v rfl rfl (B.mA) ?_
        refine AL.nil (AThen.n (Aw.ret (APost.r ?_)))
        refine Ret.all [] rfl (.cons (.t (.d _)) .nil) gs_nil (.refl _) (.d _) ⟨congrArg (fun b => AV.d (.bool b)) ?_, rfl⟩
        simp_all [sameL, natbeq]
      refine AL.off rfl rfl rfl rfl rfl (by decide) ?_
      refine AL.off rfl rfl rfl rfl rfl (by decide) ?_
      refine AL.off rfl rfl rfl rfl rfl (by decide) ?_
      refine AL.off rfl rfl rfl rfl rfl (by decide) ?_
      refine AL.off rfl rfl rfl rfl rfl (by decide) ?_
      refine AL.v rfl rfl (B.pF) ?_
      refine AL.v rfl rfl (B.mA) ?_
      refine AL.off rfl rfl rfl rfl rfl (by decide) ?_
      refine AL.off rfl rfl rfl rfl rfl (by decide) ?_
      refine AL.off rfl rfl rfl rfl rfl (by decide) ?_
      refine AL.off rfl rfl rfl rfl rfl (by decide) ?_
      refine AL.off rfl rfl rfl rfl rfl (by decide) ?_
      refine AL.v rfl rfl (B.pF) ?_
      refine AL.v rfl rfl (B.mA) ?_
      refine AL.nil (AThen.n (Aw.ret (APost.r ?_)))
      refine Ret.all [] rfl (.cons (.t (.d _)) .nil) gs_nil (.refl _) (.d _) ⟨congrArg (fun b => AV.d (.bool b)) ?_, rfl⟩
      simp_all [sameL, natbeq]
    refine AL.off rfl rfl rfl rfl rfl (by decide) ?_
    refine AL.off rfl rfl rfl rfl rfl (by decide) ?_
    refine AL.off rfl rfl rfl rfl rfl (by decide) ?_
    refine AL.off rfl rfl rfl rfl rfl (by decide) ?_
    refine AL.off rfl rfl rfl rfl rfl (by decide) ?_
    refine AL.v rfl rfl (B.pF) ?_
    refine AL.v rfl rfl (B.mA) ?_
    refine AL.off rfl rfl rfl rfl rfl (by decide) ?_
    refine AL.off rfl rfl rfl rfl rfl (by decide) ?_
    refine AL.off rfl rfl rfl rfl rfl (by decide) ?_
    refine AL.off rfl rfl rfl rfl rfl (by decide) ?_
    refine AL.off rfl rfl rfl rfl rfl (by decide) ?_
    refine AL.v rfl rfl (B.pF) ?_
    refine AL.v rfl rfl (B.mA) ?_
    refine AL.off rfl rfl rfl rfl rfl (by decide) ?_
    refine AL.off rfl rfl rfl rfl rfl (by decide) ?_
    refine AL.off rfl rfl rfl rfl rfl (by decide) ?_
    refine AL.off rfl rfl rfl rfl rfl (by decide) ?_
    refine AL.off rfl rfl rfl rfl rfl (by decide) ?_
    refine AL.v rfl rfl (B.pF) ?_
    refine AL.v rfl rfl (B.mA) ?_
    refine AL.nil (AThen.n (Aw.ret (APost.r ?_)))
    refine Ret.all [] rfl (.cons (.t (.d _)) .nil) gs_nil (.refl _) (.d _) ⟨congrArg (fun b => AV.d (.bool b)) ?_, rfl⟩
    simp_all [sameL, natbeq]
  refine AL.off rfl rfl rfl rfl rfl (by decide) ?_
  refine AL.off rfl rfl rfl rfl rfl (by decide) ?_
  refine AL.off rfl rfl rfl rfl rfl (by decide) ?_
  refine AL.off rfl rfl rfl rfl rfl (by decide) ?_
  refine AL.off rfl rfl rfl rfl rfl (by decide) ?_
  refine AL.v rfl rfl (B.pF) ?_
  refine AL.v rfl rfl (B.mA) ?_
  refine AL.off rfl rfl rfl rfl rfl (by decide) ?_
  refine AL.off rfl rfl rfl rfl rfl (by decide) ?_
  refine AL.off rfl rfl rfl rfl rfl (by decide) ?_
  refine AL.off rfl rfl rfl rfl rfl (by decide) ?_
  refine AL.off rfl rfl rfl rfl rfl (by decide) ?_
  refine AL.v rfl rfl (B.pF) ?_
  refine AL.v rfl rfl (B.mA) ?_
  refine AL.off rfl rfl rfl rfl rfl (by decide) ?_
  refine AL.off rfl rfl rfl rfl rfl (by decide) ?_
  refine AL.off rfl rfl rfl rfl rfl (by decide) ?_
  refine AL.off rfl rfl rfl rfl rfl (by decide) ?_
  refine AL.off rfl rfl rfl rfl rfl (by decide) ?_
  refine AL.v rfl rfl (B.pF) ?_
  refine AL.v rfl rfl (B.mA) ?_
  refine AL.off rfl rfl rfl rfl rfl (by decide) ?_
  refine AL.off rfl rfl rfl rfl rfl (by decide) ?_
  refine AL.off rfl rfl rfl rfl rfl (by decide) ?_
  refine AL.off rfl rfl rfl rfl rfl (by decide) ?_
  refine AL.off rfl rfl rfl rfl rfl (by decide) ?_
  refine AL.v rfl rfl (B.pF) ?_
  refine AL.v rfl rfl (B.mA) ?_
  refine AL.nil (AThen.n (Aw.ret (APost.r ?_)))
  refine Ret.all [] rfl (.cons (.t (.d _)) .nil) gs_nil (.refl _) (.d _) ⟨congrArg (fun b => AV.d (.bool b)) ?_, rfl⟩
  simp_all [sameL, natbeq]

set_option maxRecDepth 100000 in
theorem r10_sameAll (a b : List LetterV) :
    ACalls Try.prog 65 [.d (.view 5 (a.map eLetter)), .d (.view 5 (b.map eLetter))] (fun r bs => r = .d (.bool (all2 sameL a b)) ∧ bs = []) := by
  have ha : (a.map eLetter).length = a.length := List.length_map _
  refine ACalls.of Try.func65 rfl (Nat.le_of_ble_eq_true rfl) ?_
  show Aw _ _ _ _ ⟨_, _⟩
  refine Aw.seq (Aw.region ?_)
  refine AL.v rfl rfl (B.mA) ?_
  refine AL.nil (AThen.n (Aw.seq (Aw.seq (Aw.region ?_))))
  refine AL.v rfl rfl (B.mA) ?_
  refine AL.v rfl rfl (B.nA Try.underlying74) ?_
  refine AL.v rfl rfl (B.mA) ?_
  refine AL.v rfl rfl (B.nA Try.underlying74) ?_
  refine AL.v rfl rfl (B.cmp rfl rfl rfl rfl rfl) ?_
  refine AL.nil (AThen.n ?_)
  refine Aw.cases (t := 10) rfl (fun hc0 => ?_) (fun hc0 => ?_)
  · refine Aw.condT rfl rfl (Aw.seq (Aw.region ?_))
    refine AL.v rfl rfl (B.mA) ?_
    refine AL.nil (AThen.n (Aw.ret (AThen.r (APost.r ?_))))
    refine Ret.all [] rfl (.cons (.t (.d _)) .nil) gs_nil (.refl _) (.d _) ⟨congrArg (fun b => AV.d (.bool b)) ?_, rfl⟩
    exact (all2_len (by simp at hc0; omega)).symm
  have hlen : a.length = b.length := by simp at hc0; omega
  refine Aw.sized (t := 0) (.view _ _) (fun hsz hmx => ?_)
  have hmx2 : a.length ≤ maxLen := by rw [← ha]; exact hmx
  unfold maxLen at hmx2
  refine Aw.condF rfl rfl (Aw.skip (AThen.n (Aw.seq (Aw.seq (Aw.region ?_)))))
  refine AL.v rfl rfl (B.mA) ?_
  refine AL.v rfl rfl (B.nA Try.underlying74) ?_
  refine AL.v rfl rfl (B.mA) ?_
  refine AL.nil (AThen.n (Aw.block ?_))
  refine Aw.move (σ' := ⟨(upd (upd (upd (upd (fun _ => AV.und) 13 (.d (.int .i64 (0 : Nat)))) 12 (.d (.int .i64 ((a.map eLetter).length : Nat)))) 1 (.d (.view 5 (b.map eLetter)))) 0 (.d (.view 5 (a.map eLetter)))), blksOf []⟩) (Moved.mk' [] [] _ (fun g h => by simp at h) (loc_u (loc_u (loc_u (loc_u loc_und)))) rfl (by decide) (by simp) at_nil) ?_
  refine Aw.loop (fun n σ => ∃ k, k ≤ a.length ∧ n = a.length - k ∧ σ = ⟨(upd (upd (upd (upd (fun _ => AV.und) 13 (.d (.int .i64 (k : Nat)))) 12 (.d (.int .i64 ((a.map eLetter).length : Nat)))) 1 (.d (.view 5 (b.map eLetter)))) 0 (.d (.view 5 (a.map eLetter)))), blksOf []⟩ ∧ ∀ (i : Nat) (x : LetterV) (y : LetterV), i < k → a[i]? = some x → b[i]? = some y → sameL x y = true) (a.length) ⟨0, Nat.zero_le _, rfl, rfl, fun i x y h => absurd h (Nat.not_lt_zero i)⟩ ?_
  rintro n σ ⟨k, hk, rfl, rfl, hxk⟩
  refine Aw.seq (Aw.region ?_)
  refine AL.v rfl rfl (B.cmp rfl rfl rfl rfl rfl) ?_
  refine AL.nil (AThen.n (Aw.seq ?_))
  refine Aw.cases (t := 14) rfl (fun hc1 => ?_) (fun hc1 => ?_)
  · refine Aw.condT rfl rfl (Aw.skip (AThen.n (Aw.seq (Aw.block (Aw.seq (Aw.region ?_))))))
    refine AL.v rfl rfl (B.mA) ?_
    refine AL.v rfl rfl (B.mA) ?_
    refine AL.nil (AThen.n (Aw.seq ?_))
    have hlt : k < a.length := by simpa using hc1
    obtain ⟨x, hx⟩ : ∃ x, a[k]? = some x := ⟨_, List.getElem?_eq_getElem hlt⟩
    obtain ⟨y, hy⟩ : ∃ y, b[k]? = some y := ⟨_, List.getElem?_eq_getElem (by omega)⟩
    refine Aw.drawn' mixed ?_
    refine CD.v rfl rfl (B.mA) ?_
    refine CD.v rfl rfl (B.mA) ?_
    refine CD.v rfl rfl (B.idxView (i := k) rfl el_Lapi_Letter (by first | exact .view _ _ | exact .lent _ _) rfl rfl (map_at hx) rfl) ?_
    refine CD.v rfl rfl (B.lN ty_api_Letter) ?_
    refine CD.v rfl rfl (B.mA) ?_
    refine CD.v rfl rfl (B.mA) ?_
    refine CD.v rfl rfl (B.idxView (i := k) rfl el_Lapi_Letter (by first | exact .view _ _ | exact .lent _ _) rfl rfl (map_at hy) rfl) ?_
    refine CD.v rfl rfl (B.lN ty_api_Letter) ?_
    refine CD.v rfl rfl (B.call0 (k := 0) rfl en_shallot_shallotref10_Same (r10_same x y) (.c (.c .nil))) ?_
    refine CD.v rfl rfl (B.not rfl rfl rfl) ?_
    refine CD.nil (by kernel_rfl) ?_
    refine AThen.n ?_
    refine Aw.cases (t := 25) rfl (fun hc2 => ?_) (fun hc2 => ?_)
    · refine Aw.condT rfl rfl (Aw.seq (Aw.region ?_))
      refine AL.v rfl rfl (B.mA) ?_
      refine AL.nil (AThen.n (Aw.ret (AIn.r (AThen.r (AThen.r (AIn.r (AThen.r (APost.r ?_))))))))
      refine Ret.all [] rfl (.cons (.t (.d _)) .nil) gs_nil (.refl _) (.d _) ⟨congrArg (fun b => AV.d (.bool b)) ?_, rfl⟩
      exact (all2_false hx hy (by simpa using hc2)).symm
    refine Aw.condF rfl rfl (Aw.skip (AIn.n (AThen.n (Aw.region ?_))))
    refine AL.v rfl rfl (B.arith rfl rfl rfl (arith_add64 (by omega)) rfl) ?_
    refine AL.v rfl rfl (B.mA) ?_
    refine AL.move (σ' := ⟨(upd (upd (upd (upd (fun _ => AV.und) 13 (.d (.int .i64 ((k + 1) : Nat)))) 12 (.d (.int .i64 ((a.map eLetter).length : Nat)))) 1 (.d (.view 5 (b.map eLetter)))) 0 (.d (.view 5 (a.map eLetter)))), blksOf []⟩) (Moved.mk' [] [] _ (fun g h => by simp at h) (loc_u (loc_u (loc_u (loc_u loc_und)))) rfl (by decide) (by simp) at_nil) ?_
    refine AL.nil (AThen.n ?_)
    exact ⟨a.length - (k + 1), by omega, k + 1, by omega, rfl, rfl, all2_step hxk hx hy (by simpa using hc2)⟩
  refine Aw.condF rfl rfl (Aw.exit (AThen.e (AThen.e (AIn.e (AThen.n (Aw.seq (Aw.region ?_)))))))
  refine AL.v rfl rfl (B.mA) ?_
  refine AL.nil (AThen.n (Aw.ret (APost.r ?_)))
  refine Ret.all [] rfl (.cons (.t (.d _)) .nil) gs_nil (.refl _) (.d _) ⟨congrArg (fun b => AV.d (.bool b)) ?_, rfl⟩
  have hk2 : k = a.length := by simp at hc1; omega
  subst hk2
  exact (all2_true hlen hxk).symm

set_option maxRecDepth 100000 in
theorem r04_sameInts (a b : List Int) :
    ACalls Try.prog 91 [.d (.view 1 (a.map eInt)), .d (.view 1 (b.map eInt))] (fun r bs => r = .d (.bool (all2 (fun x y : Int => x == y) a b)) ∧ bs = []) := by
  have ha : (a.map eInt).length = a.length := List.length_map _
  refine ACalls.of Try.func91 rfl (Nat.le_of_ble_eq_true rfl) ?_
  show Aw _ _ _ _ ⟨_, _⟩
  refine Aw.seq (Aw.region ?_)
  refine AL.v rfl rfl (B.mA) ?_
  refine AL.nil (AThen.n (Aw.seq (Aw.seq (Aw.region ?_))))
  refine AL.v rfl rfl (B.mA) ?_
  refine AL.v rfl rfl (B.nA Try.underlying57) ?_
  refine AL.v rfl rfl (B.mA) ?_
  refine AL.v rfl rfl (B.nA Try.underlying57) ?_
  refine AL.v rfl rfl (B.cmp rfl rfl rfl rfl rfl) ?_
  refine AL.nil (AThen.n ?_)
  refine Aw.cases (t := 10) rfl (fun hc0 => ?_) (fun hc0 => ?_)
  · refine Aw.condT rfl rfl (Aw.seq (Aw.region ?_))
    refine AL.v rfl rfl (B.mA) ?_
    refine AL.nil (AThen.n (Aw.ret (AThen.r (APost.r ?_))))
    refine Ret.all [] rfl (.cons (.t (.d _)) .nil) gs_nil (.refl _) (.d _) ⟨congrArg (fun b => AV.d (.bool b)) ?_, rfl⟩
    exact (all2_len (by simp at hc0; omega)).symm
  have hlen : a.length = b.length := by simp at hc0; omega
  refine Aw.sized (t := 0) (.view _ _) (fun hsz hmx => ?_)
  have hmx2 : a.length ≤ maxLen := by rw [← ha]; exact hmx
  unfold maxLen at hmx2
  refine Aw.condF rfl rfl (Aw.skip (AThen.n (Aw.seq (Aw.seq (Aw.region ?_)))))
  refine AL.v rfl rfl (B.mA) ?_
  refine AL.v rfl rfl (B.nA Try.underlying57) ?_
  refine AL.v rfl rfl (B.mA) ?_
  refine AL.nil (AThen.n (Aw.block ?_))
  refine Aw.move (σ' := ⟨(upd (upd (upd (upd (fun _ => AV.und) 13 (.d (.int .i64 (0 : Nat)))) 12 (.d (.int .i64 ((a.map eInt).length : Nat)))) 1 (.d (.view 1 (b.map eInt)))) 0 (.d (.view 1 (a.map eInt)))), blksOf []⟩) (Moved.mk' [] [] _ (fun g h => by simp at h) (loc_u (loc_u (loc_u (loc_u loc_und)))) rfl (by decide) (by simp) at_nil) ?_
  refine Aw.loop (fun n σ => ∃ k, k ≤ a.length ∧ n = a.length - k ∧ σ = ⟨(upd (upd (upd (upd (fun _ => AV.und) 13 (.d (.int .i64 (k : Nat)))) 12 (.d (.int .i64 ((a.map eInt).length : Nat)))) 1 (.d (.view 1 (b.map eInt)))) 0 (.d (.view 1 (a.map eInt)))), blksOf []⟩ ∧ ∀ (i : Nat) (x : Int) (y : Int), i < k → a[i]? = some x → b[i]? = some y → (fun x y : Int => x == y) x y = true) (a.length) ⟨0, Nat.zero_le _, rfl, rfl, fun i x y h => absurd h (Nat.not_lt_zero i)⟩ ?_
  rintro n σ ⟨k, hk, rfl, rfl, hxk⟩
  refine Aw.seq (Aw.region ?_)
  refine AL.v rfl rfl (B.cmp rfl rfl rfl rfl rfl) ?_
  refine AL.nil (AThen.n (Aw.seq ?_))
  refine Aw.cases (t := 14) rfl (fun hc1 => ?_) (fun hc1 => ?_)
  · refine Aw.condT rfl rfl (Aw.skip (AThen.n (Aw.seq (Aw.block (Aw.seq (Aw.region ?_))))))
    refine AL.v rfl rfl (B.mA) ?_
    refine AL.v rfl rfl (B.mA) ?_
    refine AL.nil (AThen.n (Aw.seq ?_))
    have hlt : k < a.length := by simpa using hc1
    obtain ⟨x, hx⟩ : ∃ x, a[k]? = some x := ⟨_, List.getElem?_eq_getElem hlt⟩
    obtain ⟨y, hy⟩ : ∃ y, b[k]? = some y := ⟨_, List.getElem?_eq_getElem (by omega)⟩
    refine Aw.drawn' mixed ?_
    refine CD.v rfl rfl (B.mA) ?_
    refine CD.v rfl rfl (B.mA) ?_
    refine CD.v rfl rfl (B.idxView (i := k) rfl el_Lint (by first | exact .view _ _ | exact .lent _ _) rfl rfl (map_at hx) rfl) ?_
    refine CD.v rfl rfl (B.l1 ty_int) ?_
    refine CD.v rfl rfl (B.mA) ?_
    refine CD.v rfl rfl (B.mA) ?_
    refine CD.v rfl rfl (B.idxView (i := k) rfl el_Lint (by first | exact .view _ _ | exact .lent _ _) rfl rfl (map_at hy) rfl) ?_
    refine CD.v rfl rfl (B.l1 ty_int) ?_
    refine CD.v rfl rfl (B.cmp rfl rfl rfl rfl rfl) ?_
    refine CD.nil (by kernel_rfl) ?_
    refine AThen.n ?_
    refine Aw.cases (t := 24) rfl (fun hc2 => ?_) (fun hc2 => ?_)
    · refine Aw.condT rfl rfl (Aw.seq (Aw.region ?_))
      refine AL.v rfl rfl (B.mA) ?_
      refine AL.nil (AThen.n (Aw.ret (AIn.r (AThen.r (AThen.r (AIn.r (AThen.r (APost.r ?_))))))))
      refine Ret.all [] rfl (.cons (.t (.d _)) .nil) gs_nil (.refl _) (.d _) ⟨congrArg (fun b => AV.d (.bool b)) ?_, rfl⟩
      exact (all2_false hx hy (by simpa using hc2)).symm
    refine Aw.condF rfl rfl (Aw.skip (AIn.n (AThen.n (Aw.region ?_))))
    refine AL.v rfl rfl (B.arith rfl rfl rfl (arith_add64 (by omega)) rfl) ?_
    refine AL.v rfl rfl (B.mA) ?_
    refine AL.move (σ' := ⟨(upd (upd (upd (upd (fun _ => AV.und) 13 (.d (.int .i64 ((k + 1) : Nat)))) 12 (.d (.int .i64 ((a.map eInt).length : Nat)))) 1 (.d (.view 1 (b.map eInt)))) 0 (.d (.view 1 (a.map eInt)))), blksOf []⟩) (Moved.mk' [] [] _ (fun g h => by simp at h) (loc_u (loc_u (loc_u (loc_u loc_und)))) rfl (by decide) (by simp) at_nil) ?_
    refine AL.nil (AThen.n ?_)
    exact ⟨a.length - (k + 1), by omega, k + 1, by omega, rfl, rfl, all2_step hxk hx hy (by simpa using hc2)⟩
  refine Aw.condF rfl rfl (Aw.exit (AThen.e (AThen.e (AIn.e (AThen.n (Aw.seq (Aw.region ?_)))))))
  refine AL.v rfl rfl (B.mA) ?_
  refine AL.nil (AThen.n (Aw.ret (APost.r ?_)))
  refine Ret.all [] rfl (.cons (.t (.d _)) .nil) gs_nil (.refl _) (.d _) ⟨congrArg (fun b => AV.d (.bool b)) ?_, rfl⟩
  have hk2 : k = a.length := by simp at hc1; omega
  subst hk2
  exact (all2_true hlen hxk).symm

set_option maxRecDepth 100000 in
theorem r17_same (x y : QueueV) :
    ACalls Try.prog 92 [aQueue x, aQueue y] (fun r bs => r = .d (.bool (sameQ x y)) ∧ bs = []) := by
  refine ACalls.of Try.func92 rfl (Nat.le_of_ble_eq_true rfl) ?_
  show Aw _ _ _ _ ⟨_, _⟩
  refine Aw.seq (Aw.region ?_)
  refine AL.u rfl rfl (B.bA (g := 0)) ?_
  refine AL.u rfl rfl (B.bA (g := 1)) ?_
  refine AL.v rfl rfl (B.mA) ?_
  refine AL.nil (AThen.n (Aw.seq (Aw.region ?_)))
  refine AL.v rfl rfl (B.fA fl_api_Queue_0) ?_
  refine AL.v rfl rfl (B.l1 ty_uint64) ?_
  refine AL.v rfl rfl (B.fA fl_api_Queue_0) ?_
  refine AL.v rfl rfl (B.l1 ty_uint64) ?_
  refine AL.v rfl rfl (B.cmp rfl rfl rfl rfl rfl) ?_
  refine AL.v rfl rfl (B.mA) ?_
  refine AL.cases (t := 10) rfl (fun hg10 => ?_) (fun hg10 => ?_)
  · refine AL.gv rfl rfl rfl rfl (B.fA fl_api_Queue_1) ?_
    refine AL.gv rfl rfl rfl rfl (B.l1 ty_Lapi_Letter) ?_
    refine AL.gv rfl rfl rfl rfl (B.fA fl_api_Queue_1) ?_
    refine AL.gv rfl rfl rfl rfl (B.l1 ty_Lapi_Letter) ?_
    refine AL.gv rfl rfl rfl rfl (B.call0 (k := 2) rfl en_shallot_shallotref10_SameAll (r10_sameAll x.Items y.Items) (.c (.c .nil))) ?_
    refine AL.v rfl rfl (B.pT) ?_
    refine AL.v rfl rfl (B.mA) ?_
    refine AL.nil (AThen.n (Aw.ret (APost.r ?_)))
    refine Ret.all [] rfl (.cons (.t (.d _)) .nil) gs_nil (.refl _) (.d _) ⟨congrArg (fun b => AV.d (.bool b)) ?_, rfl⟩
    simp_all [sameQ, natbeq, sameLs]
  refine AL.off rfl rfl rfl rfl rfl (by decide) ?_
  refine AL.off rfl rfl rfl rfl rfl (by decide) ?_
  refine AL.off rfl rfl rfl rfl rfl (by decide) ?_
  refine AL.off rfl rfl rfl rfl rfl (by decide) ?_
  refine AL.off rfl rfl rfl rfl rfl (by decide) ?_
  refine AL.v rfl rfl (B.pF) ?_
  refine AL.v rfl rfl (B.mA) ?_
  refine AL.nil (AThen.n (Aw.ret (APost.r ?_)))
  refine Ret.all [] rfl (.cons (.t (.d _)) .nil) gs_nil (.refl _) (.d _) ⟨congrArg (fun b => AV.d (.bool b)) ?_, rfl⟩
  simp_all [sameQ, natbeq, sameLs]

set_option maxRecDepth 100000 in
theorem r23_same (a b : ModelV) (haq : a.Queues.length * 32 ≤ 140737488355328) (hab : a.Boxes.length * 24 ≤ 140737488355328) :
    ACalls Try.prog 53 [aModel a, aModel b] (fun r bs => r = .d (.bool (sameM a b)) ∧ bs = []) := by
  refine ACalls.of Try.func53 rfl (Nat.le_of_ble_eq_true rfl) ?_
  show Aw _ _ _ _ ⟨_, _⟩
  refine Aw.seq (Aw.region ?_)
  refine AL.u rfl rfl (B.bA (g := 0)) ?_
  refine AL.u rfl rfl (B.bA (g := 1)) ?_
  refine AL.v rfl rfl (B.mA) ?_
  refine AL.nil (AThen.n (Aw.seq (Aw.seq (Aw.region ?_))))
  refine AL.v rfl rfl (B.fA fl_api_Model_0) ?_
  refine AL.v rfl rfl (B.l1 ty_Lapi_Queue) ?_
  refine AL.v rfl rfl (B.nA Try.underlying56) ?_
  refine AL.v rfl rfl (B.fA fl_api_Model_0) ?_
  refine AL.v rfl rfl (B.l1 ty_Lapi_Queue) ?_
  refine AL.v rfl rfl (B.nA Try.underlying56) ?_
  refine AL.v rfl rfl (B.cmp rfl rfl rfl rfl rfl) ?_
  refine AL.v rfl rfl (B.mA) ?_
  refine AL.cases (t := 14) rfl (fun hg14 => ?_) (fun hg14 => ?_)
  · have hf : a.Queues.length ≠ b.Queues.length := by simp at hg14; omega
    refine AL.off rfl rfl rfl rfl rfl (by decide) ?_
    refine AL.off rfl rfl rfl rfl rfl (by decide) ?_
    refine AL.off rfl rfl rfl rfl rfl (by decide) ?_
    refine AL.off rfl rfl rfl rfl rfl (by decide) ?_
    refine AL.off rfl rfl rfl rfl rfl (by decide) ?_
    refine AL.off rfl rfl rfl rfl rfl (by decide) ?_
    refine AL.v rfl rfl (B.pT) ?_
    refine AL.v rfl rfl (B.mA) ?_
    refine AL.off rfl rfl rfl rfl rfl (by decide) ?_
    refine AL.off rfl rfl rfl rfl rfl (by decide) ?_
    refine AL.off rfl rfl rfl rfl rfl (by decide) ?_
    refine AL.off rfl rfl rfl rfl rfl (by decide) ?_
    refine AL.off rfl rfl rfl rfl rfl (by decide) ?_
    refine AL.off rfl rfl rfl rfl rfl (by decide) ?_
    refine AL.off rfl rfl rfl rfl rfl (by decide) ?_
    refine AL.v rfl rfl (B.pT) ?_
    refine AL.nil (AThen.n ?_)
    refine Aw.condT rfl (rfl) ?_
    refine Aw.seq (Aw.region ?_)
    refine AL.v rfl rfl (B.mA) ?_
    refine AL.nil (AThen.n (Aw.ret (AThen.r (APost.r ?_))))
    refine Ret.all [] rfl (.cons (.t (.d _)) .nil) gs_nil (.refl _) (.d _) ⟨congrArg (fun b => AV.d (.bool b)) ?_, rfl⟩
    simp [sameM, hf]
  have hql : a.Queues.length = b.Queues.length := by simp at hg14; omega
  refine AL.gv rfl rfl rfl rfl (B.fA fl_api_Model_1) ?_
  refine AL.gv rfl rfl rfl rfl (B.l1 ty_Lint) ?_
  refine AL.gv rfl rfl rfl rfl (B.fA fl_api_Model_1) ?_
  refine AL.gv rfl rfl rfl rfl (B.l1 ty_Lint) ?_
  refine AL.gv rfl rfl rfl rfl (B.call0 (k := 2) rfl en_shallot_shallotref04_SameInts (r04_sameInts a.Come b.Come) (.c (.c .nil))) ?_
  refine AL.gv rfl rfl rfl rfl (B.not rfl rfl rfl) ?_
  refine AL.v rfl rfl (B.pF) ?_
  refine AL.v rfl rfl (B.mA) ?_
  refine AL.cases (t := 22) rfl (fun hg22 => ?_) (fun hg22 => ?_)
  · have hf : all2 (fun x y : Int => x == y) a.Come b.Come = false := by simpa using hg22
    refine AL.off rfl rfl rfl rfl rfl (by decide) ?_
    refine AL.off rfl rfl rfl rfl rfl (by decide) ?_
    refine AL.off rfl rfl rfl rfl rfl (by decide) ?_
    refine AL.off rfl rfl rfl rfl rfl (by decide) ?_
    refine AL.off rfl rfl rfl rfl rfl (by decide) ?_
    refine AL.off rfl rfl rfl rfl rfl (by decide) ?_
    refine AL.off rfl rfl rfl rfl rfl (by decide) ?_
    refine AL.v rfl rfl (B.pT) ?_
    refine AL.nil (AThen.n ?_)
    refine Aw.condT rfl (rfl) ?_
    refine Aw.seq (Aw.region ?_)
    refine AL.v rfl rfl (B.mA) ?_
    refine AL.nil (AThen.n (Aw.ret (AThen.r (APost.r ?_))))
    refine Ret.all [] rfl (.cons (.t (.d _)) .nil) gs_nil (.refl _) (.d _) ⟨congrArg (fun b => AV.d (.bool b)) ?_, rfl⟩
    simp [sameM, hf]
  have hcm : all2 (fun x y : Int => x == y) a.Come b.Come = true := by simpa using hg22
  refine AL.gv rfl rfl rfl rfl (B.fA fl_api_Model_2) ?_
  refine AL.gv rfl rfl rfl rfl (B.l1 ty_LLapi_Letter) ?_
  refine AL.gv rfl rfl rfl rfl (B.nA Try.underlying58) ?_
  refine AL.gv rfl rfl rfl rfl (B.fA fl_api_Model_2) ?_
  refine AL.gv rfl rfl rfl rfl (B.l1 ty_LLapi_Letter) ?_
  refine AL.gv rfl rfl rfl rfl (B.nA Try.underlying58) ?_
  refine AL.gv rfl rfl rfl rfl (B.cmp rfl rfl rfl rfl rfl) ?_
  refine AL.v rfl rfl (B.pF) ?_
  refine AL.nil (AThen.n ?_)
  refine Aw.cases (t := 30) rfl (fun hc0 => ?_) (fun hc0 => ?_)
  · refine Aw.condT rfl rfl (Aw.seq (Aw.region ?_))
    refine AL.v rfl rfl (B.mA) ?_
    refine AL.nil (AThen.n (Aw.ret (AThen.r (APost.r ?_))))
    refine Ret.all [] rfl (.cons (.t (.d _)) .nil) gs_nil (.refl _) (.d _) ⟨congrArg (fun b => AV.d (.bool b)) ?_, rfl⟩
    have hf : a.Boxes.length ≠ b.Boxes.length := by simp at hc0; omega
    simp [sameM, hf]
  have hbl : a.Boxes.length = b.Boxes.length := by simp at hc0; omega
  refine Aw.condF rfl rfl (Aw.skip (AThen.n (Aw.seq (Aw.seq (Aw.region ?_)))))
  refine AL.v rfl rfl (B.fA fl_api_Model_0) ?_
  refine AL.v rfl rfl (B.l1 ty_Lapi_Queue) ?_
  refine AL.v rfl rfl (B.nA Try.underlying56) ?_
  refine AL.v rfl rfl (B.mA) ?_
  refine AL.nil (AThen.n (Aw.block ?_))
  refine Aw.move (σ' := ⟨(upd (upd (upd (upd (fun _ => AV.und) 34 (.d (.int .i64 (0 : Nat)))) 33 (.d (.int .i64 ((a.Queues.map eQueue).length : Nat)))) 3 (.ptr 1 0 0)) 2 (.ptr 0 0 0)), blksOf [.var 60 [.d (.view 2 (a.Queues.map eQueue)), .d (.view 1 (a.Come.map eInt)), .d (.view 1 (a.Boxes.map eL_Letter))], .var 60 [.d (.view 2 (b.Queues.map eQueue)), .d (.view 1 (b.Come.map eInt)), .d (.view 1 (b.Boxes.map eL_Letter))]]⟩) (Moved.mk' [] [0, 1] _ (fun g h => by simp at h) (loc_u (loc_u (loc_u (loc_u loc_und)))) rfl (by decide) (by simp) (at_cons (.va) (at_cons (.va) at_nil))) ?_
  refine Aw.loop (fun n σ => ∃ k, k ≤ a.Queues.length ∧ n = a.Queues.length - k ∧ σ = ⟨(upd (upd (upd (upd (fun _ => AV.und) 34 (.d (.int .i64 (k : Nat)))) 33 (.d (.int .i64 ((a.Queues.map eQueue).length : Nat)))) 3 (.ptr 1 0 0)) 2 (.ptr 0 0 0)), blksOf [.var 60 [.d (.view 2 (a.Queues.map eQueue)), .d (.view 1 (a.Come.map eInt)), .d (.view 1 (a.Boxes.map eL_Letter))], .var 60 [.d (.view 2 (b.Queues.map eQueue)), .d (.view 1 (b.Come.map eInt)), .d (.view 1 (b.Boxes.map eL_Letter))]]⟩ ∧ ∀ (i : Nat) (x : QueueV) (y : QueueV), i < k → a.Queues[i]? = some x → b.Queues[i]? = some y → sameQ x y = true) (a.Queues.length) ⟨0, Nat.zero_le _, rfl, rfl, fun i x y h => absurd h (Nat.not_lt_zero i)⟩ ?_
  rintro n σ ⟨k, hk, rfl, rfl, hxk⟩
  refine Aw.seq (Aw.region ?_)
  refine AL.v rfl rfl (B.cmp rfl rfl rfl rfl rfl) ?_
  refine AL.nil (AThen.n (Aw.seq ?_))
  refine Aw.cases (t := 35) rfl (fun hc1 => ?_) (fun hc1 => ?_)
  · refine Aw.condT rfl rfl (Aw.skip (AThen.n (Aw.seq (Aw.block (Aw.seq (Aw.region ?_))))))
    refine AL.v rfl rfl (B.mA) ?_
    refine AL.v rfl rfl (B.mA) ?_
    refine AL.nil (AThen.n (Aw.seq ?_))
    have hlt : k < a.Queues.length := by simpa using hc1
    obtain ⟨x, hx⟩ : ∃ x, a.Queues[k]? = some x := ⟨_, List.getElem?_eq_getElem hlt⟩
    obtain ⟨y, hy⟩ : ∃ y, b.Queues[k]? = some y := ⟨_, List.getElem?_eq_getElem (by omega)⟩
    refine Aw.drawn' mixed ?_
    refine CD.v rfl rfl (B.fA fl_api_Model_0) ?_
    refine CD.v rfl rfl (B.l1 ty_Lapi_Queue) ?_
    refine CD.v rfl rfl (B.mA) ?_
    refine CD.v rfl rfl (B.idxView (i := k) rfl el_Lapi_Queue (by first | exact .view _ _ | exact .lent _ _) rfl rfl (map_at hx) rfl) ?_
    refine CD.v rfl rfl (B.lN ty_api_Queue) ?_
    refine CD.v rfl rfl (B.fA fl_api_Model_0) ?_
    refine CD.v rfl rfl (B.l1 ty_Lapi_Queue) ?_
    refine CD.v rfl rfl (B.mA) ?_
    refine CD.v rfl rfl (B.idxView (i := k) rfl el_Lapi_Queue (by first | exact .view _ _ | exact .lent _ _) rfl rfl (map_at hy) rfl) ?_
    refine CD.v rfl rfl (B.lN ty_api_Queue) ?_
    refine CD.v rfl rfl (B.call0 (k := 2) rfl en_shallot_shallotref17_Same (r17_same x y) (.c (.c .nil))) ?_
    refine CD.v rfl rfl (B.not rfl rfl rfl) ?_
    refine CD.nil (by kernel_rfl) ?_
    refine AThen.n ?_
    refine Aw.cases (t := 48) rfl (fun hc2 => ?_) (fun hc2 => ?_)
    · refine Aw.condT rfl rfl (Aw.seq (Aw.region ?_))
      refine AL.v rfl rfl (B.mA) ?_
      refine AL.nil (AThen.n (Aw.ret (AIn.r (AThen.r (AThen.r (AIn.r (AThen.r (APost.r ?_))))))))
      refine Ret.all [] rfl (.cons (.t (.d _)) .nil) gs_nil (.refl _) (.d _) ⟨congrArg (fun b => AV.d (.bool b)) ?_, rfl⟩
      have hf := all2_false hx hy (by simpa using hc2)
      simp [sameM, hf]
    refine Aw.condF rfl rfl (Aw.skip (AIn.n (AThen.n (Aw.region ?_))))
    refine AL.v rfl rfl (B.arith rfl rfl rfl (arith_add64 (by omega)) rfl) ?_
    refine AL.v rfl rfl (B.mA) ?_
    refine AL.move (σ' := ⟨(upd (upd (upd (upd (fun _ => AV.und) 34 (.d (.int .i64 ((k + 1) : Nat)))) 33 (.d (.int .i64 ((a.Queues.map eQueue).length : Nat)))) 3 (.ptr 1 0 0)) 2 (.ptr 0 0 0)), blksOf [.var 60 [.d (.view 2 (a.Queues.map eQueue)), .d (.view 1 (a.Come.map eInt)), .d (.view 1 (a.Boxes.map eL_Letter))], .var 60 [.d (.view 2 (b.Queues.map eQueue)), .d (.view 1 (b.Come.map eInt)), .d (.view 1 (b.Boxes.map eL_Letter))]]⟩) (Moved.mk' [] [0, 1] _ (fun g h => by simp at h) (loc_u (loc_u (loc_u (loc_u loc_und)))) rfl (by decide) (by simp) (at_cons (.va) (at_cons (.va) at_nil))) ?_
    refine AL.nil (AThen.n ?_)
    exact ⟨a.Queues.length - (k + 1), by omega, k + 1, by omega, rfl, rfl, all2_step hxk hx hy (by simpa using hc2)⟩
  refine Aw.condF rfl rfl (Aw.exit (AThen.e (AThen.e (AIn.e (AThen.n (Aw.seq (Aw.seq (Aw.region ?_))))))))
  refine AL.v rfl rfl (B.fA fl_api_Model_2) ?_
  refine AL.v rfl rfl (B.l1 ty_LLapi_Letter) ?_
  refine AL.v rfl rfl (B.nA Try.underlying58) ?_
  refine AL.v rfl rfl (B.mA) ?_
  refine AL.nil (AThen.n (Aw.block ?_))
  have hk2 : k = a.Queues.length := by simp at hc1; omega
  subst hk2
  have hqs := all2_true hql hxk
  refine Aw.move (σ' := ⟨(upd (upd (upd (upd (fun _ => AV.und) 53 (.d (.int .i64 (0 : Nat)))) 52 (.d (.int .i64 ((a.Boxes.map eL_Letter).length : Nat)))) 3 (.ptr 1 0 0)) 2 (.ptr 0 0 0)), blksOf [.var 60 [.d (.view 2 (a.Queues.map eQueue)), .d (.view 1 (a.Come.map eInt)), .d (.view 1 (a.Boxes.map eL_Letter))], .var 60 [.d (.view 2 (b.Queues.map eQueue)), .d (.view 1 (b.Come.map eInt)), .d (.view 1 (b.Boxes.map eL_Letter))]]⟩) (Moved.mk' [] [0, 1] _ (fun g h => by simp at h) (loc_u (loc_u (loc_u (loc_u loc_und)))) rfl (by decide) (by simp) (at_cons (.va) (at_cons (.va) at_nil))) ?_
  refine Aw.loop (fun n σ => ∃ j, j ≤ a.Boxes.length ∧ n = a.Boxes.length - j ∧ σ = ⟨(upd (upd (upd (upd (fun _ => AV.und) 53 (.d (.int .i64 (j : Nat)))) 52 (.d (.int .i64 ((a.Boxes.map eL_Letter).length : Nat)))) 3 (.ptr 1 0 0)) 2 (.ptr 0 0 0)), blksOf [.var 60 [.d (.view 2 (a.Queues.map eQueue)), .d (.view 1 (a.Come.map eInt)), .d (.view 1 (a.Boxes.map eL_Letter))], .var 60 [.d (.view 2 (b.Queues.map eQueue)), .d (.view 1 (b.Come.map eInt)), .d (.view 1 (b.Boxes.map eL_Letter))]]⟩ ∧ ∀ (i : Nat) (x : List LetterV) (y : List LetterV), i < j → a.Boxes[i]? = some x → b.Boxes[i]? = some y → sameLs x y = true) (a.Boxes.length) ⟨0, Nat.zero_le _, rfl, rfl, fun i x y h => absurd h (Nat.not_lt_zero i)⟩ ?_
  rintro n σ ⟨j, hj, rfl, rfl, hxj⟩
  refine Aw.seq (Aw.region ?_)
  refine AL.v rfl rfl (B.cmp rfl rfl rfl rfl rfl) ?_
  refine AL.nil (AThen.n (Aw.seq ?_))
  refine Aw.cases (t := 54) rfl (fun hc3 => ?_) (fun hc3 => ?_)
  · refine Aw.condT rfl rfl (Aw.skip (AThen.n (Aw.seq (Aw.block (Aw.seq (Aw.region ?_))))))
    refine AL.v rfl rfl (B.mA) ?_
    refine AL.v rfl rfl (B.mA) ?_
    refine AL.nil (AThen.n (Aw.seq ?_))
    have hlt : j < a.Boxes.length := by simpa using hc3
    obtain ⟨x, hx⟩ : ∃ x, a.Boxes[j]? = some x := ⟨_, List.getElem?_eq_getElem hlt⟩
    obtain ⟨y, hy⟩ : ∃ y, b.Boxes[j]? = some y := ⟨_, List.getElem?_eq_getElem (by omega)⟩
    refine Aw.drawn' mixed ?_
    refine CD.v rfl rfl (B.fA fl_api_Model_2) ?_
    refine CD.v rfl rfl (B.l1 ty_LLapi_Letter) ?_
    refine CD.v rfl rfl (B.mA) ?_
    refine CD.v rfl rfl (B.idxView (i := j) rfl el_LLapi_Letter (by first | exact .view _ _ | exact .lent _ _) rfl rfl (map_at hx) rfl) ?_
    refine CD.v rfl rfl (B.l1 ty_Lapi_Letter) ?_
    refine CD.v rfl rfl (B.fA fl_api_Model_2) ?_
    refine CD.v rfl rfl (B.l1 ty_LLapi_Letter) ?_
    refine CD.v rfl rfl (B.mA) ?_
    refine CD.v rfl rfl (B.idxView (i := j) rfl el_LLapi_Letter (by first | exact .view _ _ | exact .lent _ _) rfl rfl (map_at hy) rfl) ?_
    refine CD.v rfl rfl (B.l1 ty_Lapi_Letter) ?_
    refine CD.v rfl rfl (B.call0 (k := 2) rfl en_shallot_shallotref10_SameAll (r10_sameAll x y) (.c (.c .nil))) ?_
    refine CD.v rfl rfl (B.not rfl rfl rfl) ?_
    refine CD.nil (by kernel_rfl) ?_
    refine AThen.n ?_
    refine Aw.cases (t := 67) rfl (fun hc4 => ?_) (fun hc4 => ?_)
    · refine Aw.condT rfl rfl (Aw.seq (Aw.region ?_))
      refine AL.v rfl rfl (B.mA) ?_
      refine AL.nil (AThen.n (Aw.ret (AIn.r (AThen.r (AThen.r (AIn.r (AThen.r (APost.r ?_))))))))
      refine Ret.all [] rfl (.cons (.t (.d _)) .nil) gs_nil (.refl _) (.d _) ⟨congrArg (fun b => AV.d (.bool b)) ?_, rfl⟩
      have hf := all2_false (f := sameLs) hx hy (by simpa [sameLs] using hc4)
      simp [sameM, hf]
    refine Aw.condF rfl rfl (Aw.skip (AIn.n (AThen.n (Aw.region ?_))))
    refine AL.v rfl rfl (B.arith rfl rfl rfl (arith_add64 (by omega)) rfl) ?_
    refine AL.v rfl rfl (B.mA) ?_
    refine AL.move (σ' := ⟨(upd (upd (upd (upd (fun _ => AV.und) 53 (.d (.int .i64 ((j + 1) : Nat)))) 52 (.d (.int .i64 ((a.Boxes.map eL_Letter).length : Nat)))) 3 (.ptr 1 0 0)) 2 (.ptr 0 0 0)), blksOf [.var 60 [.d (.view 2 (a.Queues.map eQueue)), .d (.view 1 (a.Come.map eInt)), .d (.view 1 (a.Boxes.map eL_Letter))], .var 60 [.d (.view 2 (b.Queues.map eQueue)), .d (.view 1 (b.Come.map eInt)), .d (.view 1 (b.Boxes.map eL_Letter))]]⟩) (Moved.mk' [] [0, 1] _ (fun g h => by simp at h) (loc_u (loc_u (loc_u (loc_u loc_und)))) rfl (by decide) (by simp) (at_cons (.va) (at_cons (.va) at_nil))) ?_
    refine AL.nil (AThen.n ?_)
    exact ⟨a.Boxes.length - (j + 1), by omega, j + 1, by omega, rfl, rfl, all2_step hxj hx hy (by simpa [sameLs] using hc4)⟩
  refine Aw.condF rfl rfl (Aw.exit (AThen.e (AThen.e (AIn.e (AThen.n (Aw.seq (Aw.region ?_)))))))
  refine AL.v rfl rfl (B.mA) ?_
  refine AL.nil (AThen.n (Aw.ret (APost.r ?_)))
  refine Ret.all [] rfl (.cons (.t (.d _)) .nil) gs_nil (.refl _) (.d _) ⟨congrArg (fun b => AV.d (.bool b)) ?_, rfl⟩
  have hj2 : j = a.Boxes.length := by simp at hc3; omega
  subst hj2
  have hbs := all2_true hbl hxj
  simp [sameM, hql, hcm, hbl, hqs, hbs]


/-- What the sum comes to, as it is counted. -/
def fewSum : List LetterV → Int → Int
  | [], s => s
  | x :: xs, s => fewSum xs (IntKind.i64.wrap (s + IntKind.i64.wrap (1 + (x.Text.length : Int) / 64)))
theorem fewSum_step {l : List LetterV} {k : Nat} {x : LetterV} {s : Int} (hx : l[k]? = some x) : fewSum (l.drop k) s = fewSum (l.drop (k + 1)) (IntKind.i64.wrap (s + IntKind.i64.wrap (1 + (x.Text.length : Int) / 64))) := by
  obtain ⟨h, rfl⟩ := List.getElem?_eq_some_iff.1 hx
  rw [List.drop_eq_getElem_cons h, fewSum]
def fewQ (q : QueueV) : Bool := decide (fewSum q.Items 0 ≤ 150)
def boxSum : List LetterV → Int → Int
  | [], s => s
  | x :: xs, s => boxSum xs (IntKind.i64.wrap (s + (x.Text.length : Int) / 64))
theorem boxSum_step {l : List LetterV} {k : Nat} {x : LetterV} {s : Int} (hx : l[k]? = some x) : boxSum (l.drop k) s = boxSum (l.drop (k + 1)) (IntKind.i64.wrap (s + (x.Text.length : Int) / 64)) := by
  obtain ⟨h, rfl⟩ := List.getElem?_eq_some_iff.1 hx
  rw [List.drop_eq_getElem_cons h, boxSum]
def boxesSum : List (List LetterV) → Int → Int
  | [], s => s
  | b :: bs, s => boxesSum bs (boxSum b (IntKind.i64.wrap (s + (b.length : Int))))
theorem boxesSum_step {l : List (List LetterV)} {k : Nat} {b : List LetterV} {s : Int} (hx : l[k]? = some b) : boxesSum (l.drop k) s = boxesSum (l.drop (k + 1)) (boxSum b (IntKind.i64.wrap (s + (b.length : Int)))) := by
  obtain ⟨h, rfl⟩ := List.getElem?_eq_some_iff.1 hx
  rw [List.drop_eq_getElem_cons h, boxesSum]
def fewM (m : ModelV) : Bool := m.Queues.all fewQ && decide (boxesSum m.Boxes (IntKind.i64.wrap (IntKind.i64.wrap ((m.Queues.length : Int) + (m.Come.length : Int)) + (m.Boxes.length : Int))) ≤ 200)

set_option maxRecDepth 100000 in
theorem r17_few (q : QueueV) (hq : okL q.Items) :
    ACalls Try.prog 81 [aQueue q] (fun r bs => r = .d (.bool (fewQ q)) ∧ bs = []) := by
  obtain ⟨hq1, hq2⟩ := hq
  refine ACalls.of Try.func81 rfl (Nat.le_of_ble_eq_true rfl) ?_
  show Aw _ _ _ _ ⟨_, _⟩
  refine Aw.seq (Aw.region ?_)
  refine AL.u rfl rfl (B.bA (g := 0)) ?_
  refine AL.v rfl rfl (B.mA) ?_
  refine AL.nil (AThen.n (Aw.seq (Aw.region ?_)))
  refine AL.v rfl rfl (B.mA) ?_
  refine AL.nil (AThen.n (Aw.seq (Aw.seq (Aw.region ?_))))
  refine AL.v rfl rfl (B.fA fl_api_Queue_1) ?_
  refine AL.v rfl rfl (B.l1 ty_Lapi_Letter) ?_
  refine AL.v rfl rfl (B.nA Try.underlying74) ?_
  refine AL.v rfl rfl (B.mA) ?_
  refine AL.nil (AThen.n (Aw.block ?_))
  refine Aw.move (σ' := ⟨(upd (upd (upd (upd (fun _ => AV.und) 9 (.d (.int .i64 (0 : Nat)))) 8 (.d (.int .i64 ((q.Items.map eLetter).length : Nat)))) 7 (.d (.view 5 (q.Items.map eLetter)))) 3 (.d (.int .i64 (0)))), blksOf []⟩) (Moved.mk' [] [] _ (fun g h => by simp at h) (loc_u (loc_u (loc_u (loc_u loc_und)))) rfl (by decide) (by simp) at_nil) ?_
  refine Aw.loop (fun n σ => ∃ (k : Nat) (s : Int), k ≤ q.Items.length ∧ n = q.Items.length - k ∧ σ = ⟨(upd (upd (upd (upd (fun _ => AV.und) 9 (.d (.int .i64 (k : Nat)))) 8 (.d (.int .i64 ((q.Items.map eLetter).length : Nat)))) 7 (.d (.view 5 (q.Items.map eLetter)))) 3 (.d (.int .i64 (s)))), blksOf []⟩ ∧ fewSum (q.Items.drop k) (s) = fewSum q.Items 0) (q.Items.length) ⟨0, 0, Nat.zero_le _, rfl, rfl, (by rw [List.drop_zero])⟩ ?_
  rintro n σ ⟨k, s, hk, rfl, rfl, hxk⟩
  refine Aw.seq (Aw.region ?_)
  refine AL.v rfl rfl (B.cmp rfl rfl rfl rfl rfl) ?_
  refine AL.nil (AThen.n (Aw.seq ?_))
  refine Aw.cases (t := 10) rfl (fun hc0 => ?_) (fun hc0 => ?_)
  · refine Aw.condT rfl rfl (Aw.skip (AThen.n (Aw.seq (Aw.block (Aw.seq ?_)))))
    have hlt : k < q.Items.length := by simpa using hc0
    obtain ⟨x, hx⟩ : ∃ x, q.Items[k]? = some x := ⟨_, List.getElem?_eq_getElem hlt⟩
    refine Aw.region ?_
    refine AL.v rfl rfl (B.idxView (i := k) rfl el_Lapi_Letter (by first | exact .view _ _ | exact .lent _ _) rfl rfl (map_at hx) rfl) ?_
    refine AL.v rfl rfl (B.lN ty_api_Letter) ?_
    refine AL.u rfl rfl (B.aA (g := 0) zr_api_Letter) ?_
    refine AL.s rfl rfl (B.sA ty_api_Letter) ?_
    refine AL.nil (AThen.n (Aw.region ?_))
    refine AL.v rfl rfl (B.mA) ?_
    refine AL.v rfl rfl (B.fA fl_api_Letter_4) ?_
    refine AL.v rfl rfl (B.l1 ty_Luint8) ?_
    refine AL.v rfl rfl (B.nA Try.underlying24) ?_
    refine AL.v rfl rfl (B.quo64 rfl rfl rfl (by have := hq2 x (List.mem_of_getElem? hx); simp; omega) rfl) ?_
    refine AL.v rfl rfl (B.arith rfl rfl rfl rfl rfl) ?_
    refine AL.v rfl rfl (B.arith rfl rfl rfl rfl rfl) ?_
    refine AL.v rfl rfl (B.mA) ?_
    refine AL.nil (AIn.n (AThen.n (Aw.region ?_)))
    refine AL.v rfl rfl (B.arith rfl rfl rfl (arith_add64 (by omega)) rfl) ?_
    refine AL.v rfl rfl (B.mA) ?_
    refine AL.move (σ' := ⟨(upd (upd (upd (upd (fun _ => AV.und) 9 (.d (.int .i64 ((k + 1) : Nat)))) 8 (.d (.int .i64 ((q.Items.map eLetter).length : Nat)))) 7 (.d (.view 5 (q.Items.map eLetter)))) 3 (.d (.int .i64 ((IntKind.i64.wrap (s + IntKind.i64.wrap (1 + (((x.Text.map eByte).length : Nat) : Int) / 64))))))), blksOf []⟩) (Moved.mk' [] [] _ (fun g h => by simp at h) (loc_u (loc_u (loc_u (loc_u loc_und)))) rfl (by decide) (by simp) at_nil) ?_
    refine AL.nil (AThen.n ?_)
    exact ⟨q.Items.length - (k + 1), by omega, k + 1, (IntKind.i64.wrap (s + IntKind.i64.wrap (1 + (((x.Text.map eByte).length : Nat) : Int) / 64))), by omega, rfl, rfl, (by rw [← hxk, fewSum_step hx, List.length_map])⟩
  refine Aw.condF rfl rfl (Aw.exit (AThen.e (AThen.e (AIn.e (AThen.n (Aw.seq (Aw.region ?_)))))))
  refine AL.v rfl rfl (B.mA) ?_
  refine AL.v rfl rfl (B.cmp rfl rfl rfl rfl rfl) ?_
  refine AL.v rfl rfl (B.mA) ?_
  refine AL.nil (AThen.n (Aw.ret (APost.r ?_)))
  refine Ret.all [] rfl (.cons (.t (.d _)) .nil) gs_nil (.refl _) (.d _) ⟨congrArg (fun b => AV.d (.bool b)) ?_, rfl⟩
  have hk2 : k = q.Items.length := by simp at hc0; omega
  subst hk2
  rw [List.drop_length] at hxk
  unfold fewQ
  rw [← hxk]
  rfl

set_option maxRecDepth 100000 in
theorem r23_few (m : ModelV) (hm : okM m) :
    ACalls Try.prog 48 [aModel m] (fun r bs => r = .d (.bool (fewM m)) ∧ bs = []) := by
  obtain ⟨hmq, hmc, hmb, hq1, hb1, -⟩ := hm
  refine ACalls.of Try.func48 rfl (Nat.le_of_ble_eq_true rfl) ?_
  show Aw _ _ _ _ ⟨_, _⟩
  refine Aw.seq (Aw.region ?_)
  refine AL.u rfl rfl (B.bA (g := 0)) ?_
  refine AL.v rfl rfl (B.mA) ?_
  refine AL.nil (AThen.n (Aw.seq (Aw.region ?_)))
  refine AL.v rfl rfl (B.fA fl_api_Model_0) ?_
  refine AL.v rfl rfl (B.l1 ty_Lapi_Queue) ?_
  refine AL.v rfl rfl (B.nA Try.underlying56) ?_
  refine AL.v rfl rfl (B.fA fl_api_Model_1) ?_
  refine AL.v rfl rfl (B.l1 ty_Lint) ?_
  refine AL.v rfl rfl (B.nA Try.underlying57) ?_
  refine AL.v rfl rfl (B.arith rfl rfl rfl rfl rfl) ?_
  refine AL.v rfl rfl (B.fA fl_api_Model_2) ?_
  refine AL.v rfl rfl (B.l1 ty_LLapi_Letter) ?_
  refine AL.v rfl rfl (B.nA Try.underlying58) ?_
  refine AL.v rfl rfl (B.arith rfl rfl rfl rfl rfl) ?_
  refine AL.v rfl rfl (B.mA) ?_
  refine AL.nil (AThen.n (Aw.seq (Aw.seq (Aw.region ?_))))
  refine AL.v rfl rfl (B.fA fl_api_Model_0) ?_
  refine AL.v rfl rfl (B.l1 ty_Lapi_Queue) ?_
  refine AL.v rfl rfl (B.nA Try.underlying56) ?_
  refine AL.v rfl rfl (B.mA) ?_
  refine AL.nil (AThen.n (Aw.block ?_))
  refine Aw.move (σ' := ⟨(upd (upd (upd (upd (upd (fun _ => AV.und) 24 (.d (.int .i64 (0 : Nat)))) 23 (.d (.int .i64 ((m.Queues.map eQueue).length : Nat)))) 22 (.d (.view 2 (m.Queues.map eQueue)))) 3 (.d (.int .i64 (IntKind.i64.wrap (IntKind.i64.wrap (((m.Queues.map eQueue).length : Nat) + ((m.Come.map eInt).length : Nat)) + ((m.Boxes.map eL_Letter).length : Nat)))))) 1 (.ptr 0 0 0)), blksOf [.var 60 [.d (.view 2 (m.Queues.map eQueue)), .d (.view 1 (m.Come.map eInt)), .d (.view 1 (m.Boxes.map eL_Letter))]]⟩) (Moved.mk' [] [0] _ (fun g h => by simp at h) (loc_u (loc_u (loc_u (loc_u (loc_u loc_und))))) rfl (by decide) (by simp) (at_cons (.va) at_nil)) ?_
  refine Aw.loop (fun n σ => ∃ k, k ≤ m.Queues.length ∧ n = m.Queues.length - k ∧ σ = ⟨(upd (upd (upd (upd (upd (fun _ => AV.und) 24 (.d (.int .i64 (k : Nat)))) 23 (.d (.int .i64 ((m.Queues.map eQueue).length : Nat)))) 22 (.d (.view 2 (m.Queues.map eQueue)))) 3 (.d (.int .i64 (IntKind.i64.wrap (IntKind.i64.wrap (((m.Queues.map eQueue).length : Nat) + ((m.Come.map eInt).length : Nat)) + ((m.Boxes.map eL_Letter).length : Nat)))))) 1 (.ptr 0 0 0)), blksOf [.var 60 [.d (.view 2 (m.Queues.map eQueue)), .d (.view 1 (m.Come.map eInt)), .d (.view 1 (m.Boxes.map eL_Letter))]]⟩ ∧ ∀ (i : Nat) (q : QueueV), i < k → m.Queues[i]? = some q → fewQ q = true) (m.Queues.length) ⟨0, Nat.zero_le _, rfl, rfl, fun i q h => absurd h (Nat.not_lt_zero i)⟩ ?_
  rintro n σ ⟨k, hk, rfl, rfl, hxk⟩
  refine Aw.seq (Aw.region ?_)
  refine AL.v rfl rfl (B.cmp rfl rfl rfl rfl rfl) ?_
  refine AL.nil (AThen.n (Aw.seq ?_))
  refine Aw.cases (t := 25) rfl (fun hc0 => ?_) (fun hc0 => ?_)
  · refine Aw.condT rfl rfl (Aw.skip (AThen.n (Aw.seq (Aw.block (Aw.seq ?_)))))
    have hlt : k < m.Queues.length := by simpa using hc0
    obtain ⟨q, hq⟩ : ∃ q, m.Queues[k]? = some q := ⟨_, List.getElem?_eq_getElem hlt⟩
    refine Aw.region ?_
    refine AL.v rfl rfl (B.idxView (i := k) rfl el_Lapi_Queue (by first | exact .view _ _ | exact .lent _ _) rfl rfl (map_at hq) rfl) ?_
    refine AL.v rfl rfl (B.lN ty_api_Queue) ?_
    refine AL.u rfl rfl (B.aA (g := 1) zr_api_Queue) ?_
    refine AL.s rfl rfl (B.sA ty_api_Queue) ?_
    refine AL.nil (AThen.n (Aw.seq (Aw.region ?_)))
    refine AL.v rfl rfl (B.lN ty_api_Queue) ?_
    refine AL.v rfl rfl (B.call0 (k := 2) rfl en_shallot_shallotref17_Few (r17_few q (hq1 q (List.mem_of_getElem? hq)).1) (.c .nil)) ?_
    refine AL.v rfl rfl (B.not rfl rfl rfl) ?_
    refine AL.nil (AThen.n ?_)
    refine Aw.cases (t := 30) rfl (fun hc1 => ?_) (fun hc1 => ?_)
    · refine Aw.condT rfl rfl (Aw.seq (Aw.region ?_))
      refine AL.v rfl rfl (B.mA) ?_
      refine AL.nil (AThen.n (Aw.ret (AIn.r (AThen.r (AThen.r (AIn.r (AThen.r (APost.r ?_))))))))
      refine Ret.all [] rfl (.cons (.t (.d _)) .nil) gs_nil (.refl _) (.d _) ⟨congrArg (fun b => AV.d (.bool b)) ?_, rfl⟩
      have hf : fewQ q = false := by simpa using hc1
      unfold fewM
      rw [show m.Queues.all fewQ = false from by rw [Bool.eq_false_iff]; intro h; have := List.all_eq_true.1 h q (List.mem_of_getElem? hq); rw [hf] at this; cases this]
      rfl
    refine Aw.condF rfl rfl (Aw.skip (AIn.n (AThen.n (Aw.region ?_))))
    refine AL.v rfl rfl (B.arith rfl rfl rfl (arith_add64 (by omega)) rfl) ?_
    refine AL.v rfl rfl (B.mA) ?_
    refine AL.move (σ' := ⟨(upd (upd (upd (upd (upd (fun _ => AV.und) 24 (.d (.int .i64 ((k + 1) : Nat)))) 23 (.d (.int .i64 ((m.Queues.map eQueue).length : Nat)))) 22 (.d (.view 2 (m.Queues.map eQueue)))) 3 (.d (.int .i64 (IntKind.i64.wrap (IntKind.i64.wrap (((m.Queues.map eQueue).length : Nat) + ((m.Come.map eInt).length : Nat)) + ((m.Boxes.map eL_Letter).length : Nat)))))) 1 (.ptr 0 0 0)), blksOf [.var 60 [.d (.view 2 (m.Queues.map eQueue)), .d (.view 1 (m.Come.map eInt)), .d (.view 1 (m.Boxes.map eL_Letter))]]⟩) (Moved.mk' [] [0] _ (fun g h => by simp at h) (loc_u (loc_u (loc_u (loc_u (loc_u loc_und))))) rfl (by decide) (by simp) (at_cons (.va) at_nil)) ?_
    refine AL.nil (AThen.n ?_)
    exact ⟨m.Queues.length - (k + 1), by omega, k + 1, by omega, rfl, rfl, (fun i p hi hp => by
        by_cases hik : i = k
        · subst hik; rw [hq] at hp; cases hp; simpa using hc1
        · exact hxk i p (by omega) hp)⟩
  refine Aw.condF rfl rfl (Aw.exit (AThen.e (AThen.e (AIn.e (AThen.n (Aw.seq (Aw.seq (Aw.region ?_))))))))
  refine AL.v rfl rfl (B.fA fl_api_Model_2) ?_
  refine AL.v rfl rfl (B.l1 ty_LLapi_Letter) ?_
  refine AL.v rfl rfl (B.nA Try.underlying58) ?_
  refine AL.v rfl rfl (B.mA) ?_
  refine AL.nil (AThen.n (Aw.block ?_))
  refine Aw.move (σ' := ⟨(upd (upd (upd (upd (upd (fun _ => AV.und) 35 (.d (.int .i64 (0 : Nat)))) 3 (.d (.int .i64 ((IntKind.i64.wrap (IntKind.i64.wrap (((m.Queues.map eQueue).length : Nat) + ((m.Come.map eInt).length : Nat)) + ((m.Boxes.map eL_Letter).length : Nat))))))) 34 (.d (.int .i64 ((m.Boxes.map eL_Letter).length : Nat)))) 33 (.d (.view 1 (m.Boxes.map eL_Letter)))) 1 (.ptr 0 0 0)), blksOf [.var 60 [.d (.view 2 (m.Queues.map eQueue)), .d (.view 1 (m.Come.map eInt)), .d (.view 1 (m.Boxes.map eL_Letter))]]⟩) (Moved.mk' [] [0] _ (fun g h => by simp at h) (loc_u (loc_u (loc_u (loc_u (loc_u loc_und))))) rfl (by decide) (by simp) (at_cons (.va) at_nil)) ?_
  refine Aw.loop (fun n σ => ∃ (j : Nat) (s :  Int), j ≤ m.Boxes.length ∧ n = m.Boxes.length - j ∧ σ = ⟨(upd (upd (upd (upd (upd (fun _ => AV.und) 35 (.d (.int .i64 (j : Nat)))) 3 (.d (.int .i64 (s)))) 34 (.d (.int .i64 ((m.Boxes.map eL_Letter).length : Nat)))) 33 (.d (.view 1 (m.Boxes.map eL_Letter)))) 1 (.ptr 0 0 0)), blksOf [.var 60 [.d (.view 2 (m.Queues.map eQueue)), .d (.view 1 (m.Come.map eInt)), .d (.view 1 (m.Boxes.map eL_Letter))]]⟩ ∧ boxesSum (m.Boxes.drop j) (s) = boxesSum m.Boxes (IntKind.i64.wrap (IntKind.i64.wrap (((m.Queues.map eQueue).length : Nat) + ((m.Come.map eInt).length : Nat)) + ((m.Boxes.map eL_Letter).length : Nat)))) (m.Boxes.length) ⟨0, (IntKind.i64.wrap (IntKind.i64.wrap (((m.Queues.map eQueue).length : Nat) + ((m.Come.map eInt).length : Nat)) + ((m.Boxes.map eL_Letter).length : Nat))), Nat.zero_le _, rfl, rfl, (by rw [List.drop_zero])⟩ ?_
  rintro n σ ⟨j, s, hj, rfl, rfl, hxj⟩
  refine Aw.seq (Aw.region ?_)
  refine AL.v rfl rfl (B.cmp rfl rfl rfl rfl rfl) ?_
  refine AL.nil (AThen.n (Aw.seq ?_))
  refine Aw.cases (t := 36) rfl (fun hc2 => ?_) (fun hc2 => ?_)
  · refine Aw.condT rfl rfl (Aw.skip (AThen.n (Aw.seq (Aw.block (Aw.seq ?_)))))
    have hlt : j < m.Boxes.length := by simpa using hc2
    obtain ⟨b, hb⟩ : ∃ b, m.Boxes[j]? = some b := ⟨_, List.getElem?_eq_getElem hlt⟩
    obtain ⟨hb2, hb3⟩ := hb1 b (List.mem_of_getElem? hb)
    refine Aw.region ?_
    refine AL.v rfl rfl (B.idxView (i := j) rfl el_LLapi_Letter (by first | exact .view _ _ | exact .lent _ _) rfl rfl (map_at hb) rfl) ?_
    refine AL.v rfl rfl (B.l1 ty_Lapi_Letter) ?_
    refine AL.v rfl rfl (B.mA) ?_
    refine AL.nil (AThen.n (Aw.seq (Aw.region ?_)))
    refine AL.v rfl rfl (B.mA) ?_
    refine AL.v rfl rfl (B.mA) ?_
    refine AL.v rfl rfl (B.nA Try.underlying74) ?_
    refine AL.v rfl rfl (B.arith rfl rfl rfl rfl rfl) ?_
    refine AL.v rfl rfl (B.mA) ?_
    refine AL.nil (AThen.n (Aw.seq (Aw.region ?_)))
    refine AL.v rfl rfl (B.mA) ?_
    refine AL.v rfl rfl (B.nA Try.underlying74) ?_
    refine AL.v rfl rfl (B.mA) ?_
    refine AL.nil (AThen.n (Aw.block ?_))
    refine Aw.move (σ' := ⟨(upd (upd (upd (upd (upd (upd (upd (upd (fun _ => AV.und) 45 (.d (.int .i64 (0 : Nat)))) 44 (.d (.int .i64 ((b.map eLetter).length : Nat)))) 43 (.d (.view 5 (b.map eLetter)))) 35 (.d (.int .i64 (j : Nat)))) 3 (.d (.int .i64 ((IntKind.i64.wrap (s + ((b.map eLetter).length : Nat))))))) 34 (.d (.int .i64 ((m.Boxes.map eL_Letter).length : Nat)))) 33 (.d (.view 1 (m.Boxes.map eL_Letter)))) 1 (.ptr 0 0 0)), blksOf [.var 60 [.d (.view 2 (m.Queues.map eQueue)), .d (.view 1 (m.Come.map eInt)), .d (.view 1 (m.Boxes.map eL_Letter))]]⟩) (Moved.mk' [] [0] _ (fun g h => by simp at h) (loc_u (loc_u (loc_u (loc_u (loc_u (loc_u (loc_u (loc_u loc_und)))))))) rfl (by decide) (by simp) (at_cons (.va) at_nil)) ?_
    refine Aw.loop (fun n σ => ∃ (i : Nat) (s2 : Int), i ≤ b.length ∧ n = b.length - i ∧ σ = ⟨(upd (upd (upd (upd (upd (upd (upd (upd (fun _ => AV.und) 45 (.d (.int .i64 (i : Nat)))) 44 (.d (.int .i64 ((b.map eLetter).length : Nat)))) 43 (.d (.view 5 (b.map eLetter)))) 35 (.d (.int .i64 (j : Nat)))) 3 (.d (.int .i64 (s2)))) 34 (.d (.int .i64 ((m.Boxes.map eL_Letter).length : Nat)))) 33 (.d (.view 1 (m.Boxes.map eL_Letter)))) 1 (.ptr 0 0 0)), blksOf [.var 60 [.d (.view 2 (m.Queues.map eQueue)), .d (.view 1 (m.Come.map eInt)), .d (.view 1 (m.Boxes.map eL_Letter))]]⟩ ∧ boxSum (b.drop i) (s2) = boxSum b (IntKind.i64.wrap (s + ((b.map eLetter).length : Nat)))) (b.length) ⟨0, (IntKind.i64.wrap (s + ((b.map eLetter).length : Nat))), Nat.zero_le _, rfl, rfl, (by rw [List.drop_zero])⟩ ?_
    rintro n σ ⟨i, s2, hi, rfl, rfl, hxi⟩
    refine Aw.seq (Aw.region ?_)
    refine AL.v rfl rfl (B.cmp rfl rfl rfl rfl rfl) ?_
    refine AL.nil (AThen.n (Aw.seq ?_))
    refine Aw.cases (t := 46) rfl (fun hc3 => ?_) (fun hc3 => ?_)
    · refine Aw.condT rfl rfl (Aw.skip (AThen.n (Aw.seq (Aw.block (Aw.seq ?_)))))
      have hlt2 : i < b.length := by simpa using hc3
      obtain ⟨x, hx⟩ : ∃ x, b[i]? = some x := ⟨_, List.getElem?_eq_getElem hlt2⟩
      refine Aw.region ?_
      refine AL.v rfl rfl (B.idxView (i := i) rfl el_Lapi_Letter (by first | exact .view _ _ | exact .lent _ _) rfl rfl (map_at hx) rfl) ?_
      refine AL.v rfl rfl (B.lN ty_api_Letter) ?_
      refine AL.u rfl rfl (B.aA (g := 1) zr_api_Letter) ?_
      refine AL.s rfl rfl (B.sA ty_api_Letter) ?_
      refine AL.nil (AThen.n (Aw.region ?_))
      refine AL.v rfl rfl (B.mA) ?_
      refine AL.v rfl rfl (B.fA fl_api_Letter_4) ?_
      refine AL.v rfl rfl (B.l1 ty_Luint8) ?_
      refine AL.v rfl rfl (B.nA Try.underlying24) ?_
      refine AL.v rfl rfl (B.quo64 rfl rfl rfl (by have := hb3 x (List.mem_of_getElem? hx); simp; omega) rfl) ?_
      refine AL.v rfl rfl (B.arith rfl rfl rfl rfl rfl) ?_
      refine AL.v rfl rfl (B.mA) ?_
      refine AL.nil (AIn.n (AThen.n (Aw.region ?_)))
      refine AL.v rfl rfl (B.arith rfl rfl rfl (arith_add64 (by omega)) rfl) ?_
      refine AL.v rfl rfl (B.mA) ?_
      refine AL.move (σ' := ⟨(upd (upd (upd (upd (upd (upd (upd (upd (fun _ => AV.und) 45 (.d (.int .i64 ((i + 1) : Nat)))) 44 (.d (.int .i64 ((b.map eLetter).length : Nat)))) 43 (.d (.view 5 (b.map eLetter)))) 35 (.d (.int .i64 (j : Nat)))) 3 (.d (.int .i64 ((IntKind.i64.wrap (s2 + (((x.Text.map eByte).length : Nat) : Int) / 64)))))) 34 (.d (.int .i64 ((m.Boxes.map eL_Letter).length : Nat)))) 33 (.d (.view 1 (m.Boxes.map eL_Letter)))) 1 (.ptr 0 0 0)), blksOf [.var 60 [.d (.view 2 (m.Queues.map eQueue)), .d (.view 1 (m.Come.map eInt)), .d (.view 1 (m.Boxes.map eL_Letter))]]⟩) (Moved.mk' [] [0] _ (fun g h => by simp at h) (loc_u (loc_u (loc_u (loc_u (loc_u (loc_u (loc_u (loc_u loc_und)))))))) rfl (by decide) (by simp) (at_cons (.va) at_nil)) ?_
      refine AL.nil (AThen.n ?_)
      exact ⟨b.length - (i + 1), by omega, i + 1, (IntKind.i64.wrap (s2 + (((x.Text.map eByte).length : Nat) : Int) / 64)), by omega, rfl, rfl, (by rw [← hxi, boxSum_step hx, List.length_map])⟩
    refine Aw.condF rfl rfl (Aw.exit (AThen.e (AThen.e (AIn.e (AIn.n (AThen.n ?_))))))
    have hi2 : i = b.length := by simp at hc3; omega
    subst hi2
    rw [List.drop_length] at hxi
    have hbl : (b.map eLetter).length = b.length := List.length_map _
    refine Aw.region ?_
    refine AL.v rfl rfl (B.arith rfl rfl rfl (arith_add64 (by omega)) rfl) ?_
    refine AL.v rfl rfl (B.mA) ?_
    refine AL.move (σ' := ⟨(upd (upd (upd (upd (upd (fun _ => AV.und) 35 (.d (.int .i64 ((j + 1) : Nat)))) 3 (.d (.int .i64 (s2)))) 34 (.d (.int .i64 ((m.Boxes.map eL_Letter).length : Nat)))) 33 (.d (.view 1 (m.Boxes.map eL_Letter)))) 1 (.ptr 0 0 0)), blksOf [.var 60 [.d (.view 2 (m.Queues.map eQueue)), .d (.view 1 (m.Come.map eInt)), .d (.view 1 (m.Boxes.map eL_Letter))]]⟩) (Moved.mk' [] [0] _ (fun g h => by simp at h) (loc_u (loc_u (loc_u (loc_u (loc_u loc_und))))) rfl (by decide) (by simp) (at_cons (.va) at_nil)) ?_
    refine AL.nil (AThen.n ?_)
    exact ⟨m.Boxes.length - (j + 1), by omega, j + 1, s2, by omega, rfl, rfl, (by rw [← hxj, boxesSum_step hb, ← hbl, ← hxi]; rfl)⟩
  refine Aw.condF rfl rfl (Aw.exit (AThen.e (AThen.e (AIn.e (AThen.n (Aw.seq (Aw.region ?_)))))))
  refine AL.v rfl rfl (B.mA) ?_
  refine AL.v rfl rfl (B.cmp rfl rfl rfl rfl rfl) ?_
  refine AL.v rfl rfl (B.mA) ?_
  refine AL.nil (AThen.n (Aw.ret (APost.r ?_)))
  refine Ret.all [] rfl (.cons (.t (.d _)) .nil) gs_nil (.refl _) (.d _) ⟨congrArg (fun b => AV.d (.bool b)) ?_, rfl⟩
  have hk2 : k = m.Queues.length := by simp at hc0; omega
  subst hk2
  have hj2 : j = m.Boxes.length := by simp at hc2; omega
  subst hj2
  rw [List.drop_length] at hxj
  unfold fewM
  rw [show m.Queues.all fewQ = true from List.all_eq_true.2 fun q hq => by obtain ⟨i, hi, rfl⟩ := List.getElem_of_mem hq; exact hxk i _ hi (List.getElem?_eq_getElem hi)]
  simp only [List.length_map] at hxj
  rw [← hxj]
  rfl

end Go.Proofs.Ytmkfpfnjimmmaaa
