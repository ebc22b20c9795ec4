/- The walks of package queue. Printed by sep.py. -/
import Derived.Test.YtmkfpfnjimmmaaaSepM
import Derived.Test.YtmkfpfnjimmmaaaSepS
namespace Go.Proofs.Ytmkfpfnjimmmaaa
open Go.RowKit
set_option linter.unusedVariables false
set_option linter.unusedSimpArgs false

theorem bd_api_Letter : bldOf Try.prog 46 = some ([.d (.bool false), .d (.int .i64 0), .d (.int .i64 0), .d (.int .u64 0), .nsl], [(0, 1), (1, 1), (2, 1), (3, 1), (4, 1)]) := by kernel_rfl
theorem en_shallot_queue_copied (us : Array Value) (u : World) : (callFunc 107 us).run Try.prog u = .ok (.enter 107 us) u := by kernel_rfl
theorem en_shallot_queue_client (us : Array Value) (u : World) : (callFunc 108 us).run Try.prog u = .ok (.enter 108 us) u := by kernel_rfl
theorem en_slices_Clone___byte_byte_ (us : Array Value) (u : World) : (callFunc 93 us).run Try.prog u = .ok (.enter 93 us) u := by kernel_rfl
theorem fl_api_Letter_3 : fldOf Try.prog 46 3 = some (3, false, 1) := by kernel_rfl
theorem fl_api_Letter_4 : fldOf Try.prog 46 4 = some (4, false, 1) := by kernel_rfl
theorem fl_api_Cfg_3 : fldOf Try.prog 55 3 = some (3, false, 1) := by kernel_rfl
theorem fl_api_Cfg_4 : fldOf Try.prog 55 4 = some (4, false, 1) := by kernel_rfl
theorem fl_api_Queue_0 : fldOf Try.prog 77 0 = some (0, false, 1) := by kernel_rfl
theorem fl_api_Queue_1 : fldOf Try.prog 77 1 = some (1, false, 1) := by kernel_rfl
theorem ty_uint64 : tyOf Try.prog 22 = some (false, 1) := by kernel_rfl
theorem ty_Luint8 : tyOf Try.prog 24 = some (false, 1) := by kernel_rfl
theorem ty_api_Letter : tyOf Try.prog 46 = some (true, 5) := by kernel_rfl
theorem ty_api_Cfg : tyOf Try.prog 55 = some (true, 11) := by kernel_rfl


/-- The queue may be copied. -/
def okQ (q : QueueV) : Prop := (q.Items.length + 1) * 56 ≤ 140737488355328 ∧ ∀ l ∈ q.Items, l.Text.length ≤ 140737488355328

theorem take_succ_map {α β : Type} {f : α → β} {l : List α} {k : Nat} {x : α} (h : l[k]? = some x) : (l.take k).map f ++ [f x] = (l.take (k + 1)).map f := by
  rw [List.take_add_one, h]; simp

set_option maxRecDepth 100000 in
theorem squeue_copied_r (q : QueueV) (hq : okQ q) :
    ACalls Try.prog 107 [aQueue q] (fun r bs => r = .agg [.d (.int .u64 (q.Next : Nat)), .own 0 0 q.Items.length] ∧ bs = [⟨5, 46, q.Items.map eLetter⟩]) := by
  obtain ⟨hq1, hq2⟩ := hq
  have hmx : q.Items.length + 1 ≤ maxLen := by unfold maxLen; omega
  have hln : (q.Items.map eLetter).length = q.Items.length := List.length_map _
  refine ACalls.of Try.func107 rfl (Nat.le_of_ble_eq_true rfl) ?_
  show Aw _ _ _ _ ⟨_, _⟩
  refine Aw.seq (Aw.region ?_)
  refine AL.u rfl rfl (B.bA (g := 0)) ?_
  refine AL.u rfl rfl (B.aA (g := 1) zr_api_Queue) ?_
  refine AL.nil (AThen.n (Aw.seq (Aw.region ?_)))
  refine AL.v rfl rfl (B.fA fl_api_Queue_1) ?_
  refine AL.v rfl rfl (B.l1 ty_Lapi_Letter) ?_
  refine AL.v rfl rfl (B.nA Try.underlying74) ?_
  refine AL.v rfl rfl (B.arith rfl rfl rfl (arith_add64 (by omega)) rfl) ?_
  refine AL.u rfl rfl (B.make (g := 2) (l := 0) (c := q.Items.length + 1) rfl el_Lapi_Letter zr_api_Letter (.d (.d (.d (.d (.nsl (sz := 1) .nil))))) by_api_Letter (by decide) rfl rfl rfl rfl (by rw [hln]; rfl) (Nat.zero_le _) (by omega) (by assumption) rfl rfl) ?_
  refine AL.v rfl rfl (B.mA) ?_
  refine AL.nil (AThen.n (Aw.seq (Aw.seq (Aw.region ?_))))
  refine AL.v rfl rfl (B.fA fl_api_Queue_1) ?_
  refine AL.v rfl rfl (B.l1 ty_Lapi_Letter) ?_
  refine AL.v rfl rfl (B.nA Try.underlying74) ?_
  refine AL.v rfl rfl (B.mA) ?_
  refine AL.nil (AThen.n (Aw.block ?_))
  refine Aw.move (σ' := ⟨(upd (upd (upd (upd (upd (upd (fun _ => AV.und) 14 (.d (.int .i64 (0 : Nat)))) 13 (.d (.int .i64 ((q.Items.map eLetter).length : Nat)))) 12 (.d (.view 5 (q.Items.map eLetter)))) 3 (.own 2 0 0)) 2 (.ptr 1 0 0)) 1 (.ptr 0 0 0)), blksOf [.var 77 [.d (.int .u64 (q.Next : Nat)), .d (.view 5 (q.Items.map eLetter))], .var 77 [.d (.int .u64 0), .nsl], .row 5 46 ((q.Items.take 0).map eLetter)]⟩) (Moved.mk' [] [0, 1, 2] _ (fun g h => by simp at h) (loc_u (loc_u (loc_u (loc_u (loc_u (loc_u loc_und)))))) rfl (by decide) (by simp) (at_cons (.va) (at_cons (.va) (at_cons (.row' (by rfl)) at_nil)))) ?_
  refine Aw.loop (fun n σ => ∃ k, k ≤ q.Items.length ∧ n = q.Items.length - k ∧ σ = ⟨(upd (upd (upd (upd (upd (upd (fun _ => AV.und) 14 (.d (.int .i64 (k : Nat)))) 13 (.d (.int .i64 ((q.Items.map eLetter).length : Nat)))) 12 (.d (.view 5 (q.Items.map eLetter)))) 3 (.own 2 0 k)) 2 (.ptr 1 0 0)) 1 (.ptr 0 0 0)), blksOf [.var 77 [.d (.int .u64 (q.Next : Nat)), .d (.view 5 (q.Items.map eLetter))], .var 77 [.d (.int .u64 0), .nsl], .row 5 46 ((q.Items.take k).map eLetter)]⟩) (q.Items.length) ⟨0, Nat.zero_le _, rfl, rfl⟩ ?_
  rintro n σ ⟨k, hk, rfl, rfl⟩
  refine Aw.seq (Aw.region ?_)
  refine AL.v rfl rfl (B.cmp rfl rfl rfl rfl rfl) ?_
  refine AL.nil (AThen.n (Aw.seq ?_))
  refine Aw.cases (t := 15) rfl (fun hc0 => ?_) (fun hc0 => ?_)
  · have hlt : k < q.Items.length := by simpa using hc0
    have hlk : ((q.Items.take k).map eLetter).length = k := by simp; omega
    refine Aw.condT rfl rfl (Aw.skip (AThen.n (Aw.seq (Aw.block (Aw.seq ?_)))))
    obtain ⟨x, hx⟩ : ∃ x, q.Items[k]? = some x := ⟨_, List.getElem?_eq_getElem (by omega)⟩
    refine Aw.region ?_
    refine AL.v rfl rfl (B.idxView  rfl el_Lapi_Letter (by first | exact .view _ _ | exact .lent _ _) rfl rfl (map_at hx) rfl) ?_
    refine AL.v rfl rfl (B.lN ty_api_Letter) ?_
    refine AL.u rfl rfl (B.aA (g := 3) zr_api_Letter) ?_
    refine AL.s rfl rfl (B.sA ty_api_Letter) ?_
    refine AL.nil (AThen.n (Aw.seq (Aw.region ?_)))
    refine AL.v rfl rfl (B.fA fl_api_Letter_4) ?_
    refine AL.v rfl rfl (B.l1 ty_Luint8) ?_
    refine AL.v rfl rfl (B.call0 (k := 4) rfl en_slices_Clone___byte_byte_ (ACalls.plain (sclone_byte (x.Text.map eByte) (by rw [List.length_map, Nat.mul_one]; exact hq2 x (List.mem_of_getElem? hx))) rfl) (.c .nil)) ?_
    refine AL.v rfl rfl (B.fA fl_api_Letter_4) ?_
    refine AL.s rfl rfl (B.sA ty_Luint8) ?_
    refine AL.nil (AThen.n (Aw.region ?_))
    refine AL.v rfl rfl (B.mA) ?_
    refine AL.v rfl rfl (B.lN ty_api_Letter) ?_
    refine AL.u rfl rfl (B.bslice (g := 4) rfl el_Lapi_Letter (by rw [zr_api_Letter]; rfl) (by decide) rfl (by decide) (by decide) rfl rfl rfl rfl) ?_
    refine AL.u2 rfl rfl (B.append (g' := 5) rfl el_Lapi_Letter (by rw [zr_api_Letter]; rfl) by_api_Letter (by decide) rfl rfl hlk.symm (by first | exact .own rfl rfl rfl | exact .view (by first | exact .view _ _ | exact .lent _ _) | exact .nil rfl) (by unfold maxLen; simp; omega) (by simp; omega) rfl (by decide) rfl) ?_
    refine AL.v rfl rfl (B.mA) ?_
    refine AL.nil (AIn.n (AThen.n (Aw.region ?_)))
    refine AL.v rfl rfl (B.arith rfl rfl rfl (arith_add64 (by omega)) rfl) ?_
    refine AL.v rfl rfl (B.mA) ?_
    refine AL.move (σ' := ⟨(upd (upd (upd (upd (upd (upd (fun _ => AV.und) 14 (.d (.int .i64 ((k + 1) : Nat)))) 13 (.d (.int .i64 ((q.Items.map eLetter).length : Nat)))) 12 (.d (.view 5 (q.Items.map eLetter)))) 3 (.own 2 0 (k + 1))) 2 (.ptr 1 0 0)) 1 (.ptr 0 0 0)), blksOf [.var 77 [.d (.int .u64 (q.Next : Nat)), .d (.view 5 (q.Items.map eLetter))], .var 77 [.d (.int .u64 0), .nsl], .row 5 46 ((q.Items.take (k + 1)).map eLetter)]⟩) (Moved.mk' [] [0, 1, 5] _ (fun g h => by simp at h) (loc_u (loc_u (loc_u (loc_u (loc_u (loc_u loc_und)))))) rfl (by decide) (by simp) (at_cons (.va) (at_cons (.va) (at_cons (.row' (take_succ_map hx)) at_nil)))) ?_
    refine AL.nil (AThen.n ?_)
    exact ⟨q.Items.length - (k + 1), by omega, k + 1, by omega, rfl, rfl⟩
  refine Aw.condF rfl rfl (Aw.exit (AThen.e (AThen.e (AIn.e (AThen.n (Aw.seq (Aw.region ?_)))))))
  refine AL.v rfl rfl (B.mA) ?_
  refine AL.v rfl rfl (B.fA fl_api_Queue_1) ?_
  refine AL.s rfl rfl (B.sA ty_Lapi_Letter) ?_
  refine AL.nil (AThen.n (Aw.seq (Aw.region ?_)))
  refine AL.v rfl rfl (B.lN ty_api_Queue) ?_
  refine AL.s rfl rfl (B.sA ty_api_Queue) ?_
  refine AL.nil (AThen.n (Aw.ret (APost.r ?_)))
  have hkn : k = q.Items.length := by simp at hc0; omega
  subst hkn
  refine Ret.rows [] [2] rfl (.m ty_api_Queue ResL.nil) gs_nil (.refl _) rfl (by decide) (keep_cons (by simp) rfl keep_nil) (by first | exact .aggL (by repeat (first | exact L2.nil | (apply L2.cons; focus (first | exact .d _ | exact .nsl | exact .own (g := 2) (g' := 0) rfl)))) | exact .tupL (by repeat (first | exact L2.nil | (apply L2.cons; focus (first | exact .aggL (by repeat (first | exact L2.nil | (apply L2.cons; focus (first | exact .d _ | exact .nsl | exact .own (g := 2) (g' := 0) rfl)))) | exact .d _ | exact .nsl | exact .own (g := 2) (g' := 0) rfl)))) | exact .d _ | exact .nsl | exact .own (g := 2) (g' := 0) rfl) ⟨?_, ?_⟩
  · rfl
  · rw [List.take_length]

theorem squeue_copied (q : QueueV) (hq : okQ q) : ACalls Try.prog 107 [aQueue q] (fun r bs => r = aQueue q ∧ bs = []) :=
  ACalls.froz [0] (squeue_copied_r q hq) (rb_cons rfl rb_nil) (by first | exact .d _ | exact .ptr rfl | exact .own rfl | exact .nsl | exact .nv _ | exact .lent _ _ | exact .fz (by simp) (by rfl) (by first | rfl | (simp; done) | assumption | omega | (simp; omega)) | exact .aggL (by repeat (first | exact L2.nil | (apply L2.cons; focus (first | exact .d _ | exact .ptr rfl | exact .own rfl | exact .nsl | exact .nv _ | exact .lent _ _ | exact .fz (by simp) (by rfl) (by first | rfl | (simp; done) | assumption | omega | (simp; omega)))))))

def inC (n k : Int) : Bool := decide (0 ≤ k) && decide (k < n)

set_option maxRecDepth 100000 in
theorem squeue_client (c : CfgV) (k : Int) :
    ACalls Try.prog 108 [aCfg c, .d (.int .i64 k)] (fun r bs => r = .d (.bool (inC c.Clients k)) ∧ bs = []) := by
  refine ACalls.of Try.func108 rfl (Nat.le_of_ble_eq_true rfl) ?_
  show Aw _ _ _ _ ⟨_, _⟩
  refine Aw.seq (Aw.region ?_)
  refine AL.u rfl rfl (B.bA (g := 0)) ?_
  refine AL.v rfl rfl (B.mA) ?_
  refine AL.nil (AThen.n (Aw.seq (Aw.region ?_)))
  refine AL.v rfl rfl (B.mA) ?_
  refine AL.v rfl rfl (B.cmp rfl rfl rfl rfl rfl) ?_
  refine AL.v rfl rfl (B.mA) ?_
  refine AL.cases (t := 7) rfl (fun hg7 => ?_) (fun hg7 => ?_)
  · refine AL.gv rfl rfl rfl rfl (B.mA) ?_
    refine AL.gv rfl rfl rfl rfl (B.fA fl_api_Cfg_3) ?_
    refine AL.gv rfl rfl rfl rfl (B.l1 ty_int) ?_
    refine AL.gv rfl rfl rfl rfl (B.cmp rfl rfl rfl rfl rfl) ?_
    refine AL.v rfl rfl (B.pT) ?_
    refine AL.v rfl rfl (B.mA) ?_
    refine AL.nil (AThen.n (Aw.ret (APost.r ?_)))
    refine Ret.all [] rfl (.cons (.t (.d _)) .nil) gs_nil (.refl _) (.d _) ⟨congrArg (fun b => AV.d (.bool b)) ?_, rfl⟩
    simp_all [inC] <;> (intros; omega)
  refine AL.off rfl rfl rfl rfl rfl (by decide) ?_
  refine AL.off rfl rfl rfl rfl rfl (by decide) ?_
  refine AL.off rfl rfl rfl rfl rfl (by decide) ?_
  refine AL.off rfl rfl rfl rfl rfl (by decide) ?_
  refine AL.v rfl rfl (B.pF) ?_
  refine AL.v rfl rfl (B.mA) ?_
  refine AL.nil (AThen.n (Aw.ret (APost.r ?_)))
  refine Ret.all [] rfl (.cons (.t (.d _)) .nil) gs_nil (.refl _) (.d _) ⟨congrArg (fun b => AV.d (.bool b)) ?_, rfl⟩
  simp_all [inC] <;> (intros; omega)

/-- A letter is put behind the others. -/
def qPut (c : CfgV) (q : QueueV) (frm dst : Int) (text : List UInt8) : QueueV × Int :=
  if !inC c.Clients frm || !inC c.Clients dst || decide (64 < text.length) then (q, 3)
  else if q.Next == 18446744073709551615 then (q, 4)
  else if decide (c.Queue ≤ q.Items.length) then (q, 2)
  else (⟨q.Next + 1, q.Items ++ [⟨false, frm, dst, q.Next, text⟩]⟩, 1)
def qHead (q : QueueV) : LetterV × Bool := match q.Items with | [] => (.zero, false) | x :: _ => (x, true)
def qPop (q : QueueV) (seq : Nat) : QueueV × Bool := match q.Items with | [] => (q, false) | x :: t => if x.Seq == seq then (⟨q.Next, t⟩, true) else (q, false)

set_option maxRecDepth 100000 in
theorem squeue_head (q : QueueV) (hq : okQ q) :
    ACalls Try.prog 97 [aQueue q] (fun r bs => r = .tup [aLetter (qHead q).1, .d (.bool (qHead q).2)] ∧ bs = []) := by
  obtain ⟨hq1, hq2⟩ := hq
  refine ACalls.of Try.func97 rfl (Nat.le_of_ble_eq_true rfl) ?_
  show Aw _ _ _ _ ⟨_, _⟩
  refine Aw.seq (Aw.region ?_)
  refine AL.u rfl rfl (B.bA (g := 0)) ?_
  refine AL.u rfl rfl (B.aA (g := 1) zr_api_Letter) ?_
  refine AL.v rfl rfl (B.mA) ?_
  refine AL.nil (AThen.n (Aw.seq (Aw.seq (Aw.region ?_))))
  refine AL.v rfl rfl (B.fA fl_api_Queue_1) ?_
  refine AL.v rfl rfl (B.l1 ty_Lapi_Letter) ?_
  refine AL.v rfl rfl (B.nA Try.underlying74) ?_
  refine AL.v rfl rfl (B.cmp rfl rfl rfl rfl rfl) ?_
  refine AL.nil (AThen.n ?_)
  refine Aw.cases (t := 8) rfl (fun hc0 => ?_) (fun hc0 => ?_)
  · have h0 : q.Items = [] := by simpa using hc0
    refine Aw.condT rfl rfl (Aw.seq (Aw.region ?_))
    refine AL.v rfl rfl (B.build rfl bd_api_Letter rfl rfl) ?_
    refine AL.s rfl rfl (B.sA ty_api_Letter) ?_
    refine AL.v rfl rfl (B.mA) ?_
    refine AL.nil (AThen.n (Aw.ret (AThen.r (APost.r ?_))))
    refine Ret.a1 [] rfl (.m ty_api_Letter (.t .nil)) gs_nil ⟨?_, rfl⟩
    unfold qHead
    rw [h0]
    rfl
  obtain ⟨x, xs, hxs⟩ : ∃ x xs, q.Items = x :: xs := by
    cases hI : q.Items with
    | nil => rw [hI] at hc0; simp at hc0
    | cons x xs => exact ⟨x, xs, rfl⟩
  have hx : q.Items[0]? = some x := by rw [hxs]; rfl
  refine Aw.condF rfl rfl (Aw.skip (AThen.n (Aw.seq (Aw.region ?_))))
  refine AL.v rfl rfl (B.fA fl_api_Queue_1) ?_
  refine AL.v rfl rfl (B.l1 ty_Lapi_Letter) ?_
  refine AL.v rfl rfl (B.idxView (i := 0) rfl el_Lapi_Letter (by first | exact .view _ _ | exact .lent _ _) rfl rfl (map_at hx) rfl) ?_
  refine AL.v rfl rfl (B.lN ty_api_Letter) ?_
  refine AL.u rfl rfl (B.aA (g := 2) zr_api_Letter) ?_
  refine AL.s rfl rfl (B.sA ty_api_Letter) ?_
  refine AL.nil (AThen.n (Aw.seq (Aw.region ?_)))
  refine AL.v rfl rfl (B.fA fl_api_Letter_4) ?_
  refine AL.v rfl rfl (B.l1 ty_Luint8) ?_
  refine AL.v rfl rfl (B.call0 (k := 3) rfl en_slices_Clone___byte_byte_ (ACalls.plain (sclone_byte (x.Text.map eByte) (by rw [List.length_map, Nat.mul_one]; exact hq2 x (List.mem_of_getElem? hx))) rfl) (.c .nil)) ?_
  refine AL.v rfl rfl (B.fA fl_api_Letter_4) ?_
  refine AL.s rfl rfl (B.sA ty_Luint8) ?_
  refine AL.nil (AThen.n (Aw.seq (Aw.region ?_)))
  refine AL.v rfl rfl (B.lN ty_api_Letter) ?_
  refine AL.s rfl rfl (B.sA ty_api_Letter) ?_
  refine AL.v rfl rfl (B.mA) ?_
  refine AL.nil (AThen.n (Aw.ret (APost.r ?_)))
  refine Ret.a1 [] rfl (.m ty_api_Letter (.t .nil)) gs_nil ⟨?_, rfl⟩
  unfold qHead
  rw [hxs]
  rfl

theorem drop1 {α β : Type} {f : α → β} {l t : List α} {x : α} (h : l = x :: t) : ((l.map f).drop 1).take ((l.map f).length - 1) = t.map f := by
  subst h; simp [List.take_of_length_le]
theorem okQ.tail {q : QueueV} {x : LetterV} {xs : List LetterV} (h : okQ q) (he : q.Items = x :: xs) : okQ ⟨q.Next, xs⟩ := by
  obtain ⟨h1, h2⟩ := h
  rw [he] at h1 h2
  rw [List.length_cons] at h1
  exact ⟨Nat.le_trans (Nat.mul_le_mul_right 56 (Nat.le_succ _)) h1, fun l hl => h2 l (List.mem_cons_of_mem _ hl)⟩

set_option maxRecDepth 100000 in
theorem squeue_pop (q : QueueV) (hq : okQ q) (seq : Nat) :
    ACalls Try.prog 98 [aQueue q, .d (.int .u64 (seq : Nat))] (fun r bs => r = .tup [aQueue (qPop q seq).1, .d (.bool (qPop q seq).2)] ∧ bs = []) := by
  have hq0 := hq
  obtain ⟨hq1, hq2⟩ := hq
  refine ACalls.of Try.func98 rfl (Nat.le_of_ble_eq_true rfl) ?_
  show Aw _ _ _ _ ⟨_, _⟩
  refine Aw.seq (Aw.region ?_)
  refine AL.u rfl rfl (B.bA (g := 0)) ?_
  refine AL.u rfl rfl (B.aA (g := 1) zr_api_Queue) ?_
  refine AL.v rfl rfl (B.mA) ?_
  refine AL.nil (AThen.n (Aw.seq (Aw.seq (Aw.region ?_))))
  refine AL.v rfl rfl (B.fA fl_api_Queue_1) ?_
  refine AL.v rfl rfl (B.l1 ty_Lapi_Letter) ?_
  refine AL.v rfl rfl (B.nA Try.underlying74) ?_
  refine AL.v rfl rfl (B.cmp rfl rfl rfl rfl rfl) ?_
  refine AL.v rfl rfl (B.mA) ?_
  refine AL.cases (t := 10) rfl (fun hg10 => ?_) (fun hg10 => ?_)
  · have h0 : q.Items = [] := by simpa using hg10
    refine AL.off rfl rfl rfl rfl rfl (by decide) ?_
    refine AL.off rfl rfl rfl rfl rfl (by decide) ?_
    refine AL.off rfl rfl rfl rfl rfl (by decide) ?_
    refine AL.off rfl rfl rfl rfl rfl (by decide) ?_
    refine AL.off rfl rfl rfl rfl rfl (by decide) ?_
    refine AL.off rfl rfl rfl rfl rfl (by decide) ?_
    refine AL.off rfl rfl rfl rfl rfl (by decide) ?_
    refine AL.v rfl rfl (B.pT) ?_
    refine AL.nil (AThen.n ?_)
    refine Aw.condT rfl (rfl) ?_
    refine Aw.seq (Aw.region ?_)
    refine AL.v rfl rfl (B.lN ty_api_Queue) ?_
    refine AL.v rfl rfl (B.call0 (k := 2) rfl en_shallot_queue_copied (squeue_copied q hq0) (.c .nil)) ?_
    refine AL.s rfl rfl (B.sA ty_api_Queue) ?_
    refine AL.v rfl rfl (B.mA) ?_
    refine AL.nil (AThen.n (Aw.ret (AThen.r (APost.r ?_))))
    refine Ret.a1 [] rfl (.m ty_api_Queue (.t .nil)) gs_nil ⟨?_, rfl⟩
    rw [show qPop q seq = (q, false) from by unfold qPop; rw [h0]]
    rfl
  obtain ⟨x, xs, hxs⟩ : ∃ x xs, q.Items = x :: xs := by
    cases hI : q.Items with
    | nil => rw [hI] at hg10; simp at hg10
    | cons x xs => exact ⟨x, xs, rfl⟩
  have hx : q.Items[0]? = some x := by rw [hxs]; rfl
  refine AL.gv rfl rfl rfl rfl (B.fA fl_api_Queue_1) ?_
  refine AL.gv rfl rfl rfl rfl (B.l1 ty_Lapi_Letter) ?_
  refine AL.gv rfl rfl rfl rfl (B.idxView (i := 0) rfl el_Lapi_Letter (by first | exact .view _ _ | exact .lent _ _) rfl rfl (map_at hx) rfl) ?_
  refine AL.gv rfl rfl rfl rfl (B.gA fl_api_Letter_3) ?_
  refine AL.gv rfl rfl rfl rfl (B.l1 ty_uint64) ?_
  refine AL.gv rfl rfl rfl rfl (B.mA) ?_
  refine AL.gv rfl rfl rfl rfl (B.cmp rfl rfl rfl rfl rfl) ?_
  refine AL.v rfl rfl (B.pF) ?_
  refine AL.nil (AThen.n ?_)
  refine Aw.cases (t := 18) rfl (fun hc0 => ?_) (fun hc0 => ?_)
  · refine Aw.condT rfl rfl (Aw.seq (Aw.region ?_))
    refine AL.v rfl rfl (B.lN ty_api_Queue) ?_
    refine AL.v rfl rfl (B.call0 (k := 2) rfl en_shallot_queue_copied (squeue_copied q hq0) (.c .nil)) ?_
    refine AL.s rfl rfl (B.sA ty_api_Queue) ?_
    refine AL.v rfl rfl (B.mA) ?_
    refine AL.nil (AThen.n (Aw.ret (AThen.r (APost.r ?_))))
    refine Ret.a1 [] rfl (.m ty_api_Queue (.t .nil)) gs_nil ⟨?_, rfl⟩
    have hne : (x.Seq == seq) = false := by simp at hc0 ⊢; omega
    rw [show qPop q seq = (q, false) from by unfold qPop; rw [hxs]; simp only [hne]; rfl]
    rfl
  refine Aw.condF rfl rfl (Aw.skip (AThen.n (Aw.seq (Aw.region ?_))))
  refine AL.v rfl rfl (B.fA fl_api_Queue_1) ?_
  refine AL.v rfl rfl (B.l1 ty_Lapi_Letter) ?_
  refine AL.v rfl rfl (B.sliceView (l := 1) rfl el_Lapi_Letter (by first | exact .view _ _ | exact .lent _ _) ⟨.i64, 1, rfl, rfl⟩ rfl (by simp [hxs]) (Nat.le_refl _) rfl) ?_
  rw [show slAV false 5 (((q.Items.map eLetter).drop 1).take ((q.Items.map eLetter).length - 1)) = .d (.view 5 (xs.map eLetter)) from by rw [drop1 hxs]; rfl]
  refine AL.v rfl rfl (B.fA fl_api_Queue_1) ?_
  refine AL.s rfl rfl (B.sA ty_Lapi_Letter) ?_
  refine AL.nil (AThen.n (Aw.seq (Aw.region ?_)))
  refine AL.v rfl rfl (B.lN ty_api_Queue) ?_
  refine AL.v rfl rfl (B.call0 (k := 2) rfl en_shallot_queue_copied (squeue_copied ⟨q.Next, xs⟩ (okQ.tail hq0 hxs)) (.c .nil)) ?_
  refine AL.s rfl rfl (B.sA ty_api_Queue) ?_
  refine AL.v rfl rfl (B.mA) ?_
  refine AL.nil (AThen.n (Aw.ret (APost.r ?_)))
  refine Ret.a1 [] rfl (.m ty_api_Queue (.t .nil)) gs_nil ⟨?_, rfl⟩
  have hne : (x.Seq == seq) = true := by simp at hc0 ⊢; omega
  rw [show qPop q seq = (⟨q.Next, xs⟩, true) from by unfold qPop; rw [hxs]; simp only [hne]; rfl]
  rfl

set_option maxRecDepth 100000 in
theorem squeue_put (c : CfgV) (q : QueueV) (hq : okQ q) (frm dst : Int) (text : List UInt8) (ht : text.length ≤ 140737488355328) (hnx : q.Next < 18446744073709551616) :
    ACalls Try.prog 86 [aCfg c, aQueue q, .d (.int .i64 frm), .d (.int .i64 dst), .d (.view 1 (text.map eByte))] (fun r bs => r = .tup [aQueue (qPut c q frm dst text).1, .d (.int .i64 (qPut c q frm dst text).2)] ∧ bs = []) := by
  have hq0 := hq
  obtain ⟨hq1, hq2⟩ := hq
  have hmx1 : q.Items.length + 1 ≤ maxLen := by unfold maxLen; omega
  have hby1 : (q.Items.length + 1) * 56 ≤ 140737488355328 := by omega
  have hln : (q.Items.map eLetter).length = q.Items.length := List.length_map _
  refine ACalls.of Try.func86 rfl (Nat.le_of_ble_eq_true rfl) ?_
  show Aw _ _ _ _ ⟨_, _⟩
  refine Aw.seq (Aw.region ?_)
  refine AL.u rfl rfl (B.bA (g := 0)) ?_
  refine AL.u rfl rfl (B.bA (g := 1)) ?_
  refine AL.u rfl rfl (B.aA (g := 2) zr_api_Queue) ?_
  refine AL.v rfl rfl (B.mA) ?_
  refine AL.nil (AThen.n (Aw.seq (Aw.region ?_)))
  refine AL.v rfl rfl (B.lN ty_api_Queue) ?_
  refine AL.uc rfl rfl (B.call (k := 3) (rb := []) (hc := (squeue_copied_r q hq0)) rfl en_shallot_queue_copied (ArgsA.cons (by first | exact .d _ | exact .lent _ _ | exact .nv _ | exact .nlent _ | exact .nsl | exact .lnd _ _ | exact .own (by simp) rfl rfl | exact .aggL (by repeat (first | exact L2.nil | (apply L2.cons; focus (first | exact .d _ | exact .lent _ _ | exact .nv _ | exact .nlent _ | exact .nsl | exact .lnd _ _ | exact .own (by simp) rfl rfl))))) ArgsA.nil) rfl (by first | exact .d _ | exact .nsl | exact .own (g := 0) (g' := 3) ⟨by simp, rfl⟩ | exact .aggL (by repeat (first | exact L2.nil | (apply L2.cons; focus (first | exact .d _ | exact .nsl | exact .own (g := 0) (g' := 3) ⟨by simp, rfl⟩)))) | exact .tupL (by repeat (first | exact L2.nil | (apply L2.cons; focus (first | exact .aggL (by repeat (first | exact L2.nil | (apply L2.cons; focus (first | exact .d _ | exact .nsl | exact .own (g := 0) (g' := 3) ⟨by simp, rfl⟩)))) | exact .d _ | exact .nsl | exact .own (g := 0) (g' := 3) ⟨by simp, rfl⟩))))) rfl) ?_
  refine AL.u rfl rfl (B.aA (g := 4) zr_api_Queue) ?_
  refine AL.s rfl rfl (B.sA ty_api_Queue) ?_
  refine AL.nil (AThen.n (Aw.seq (Aw.block (Aw.seq (Aw.seq (Aw.region ?_))))))
  refine AL.v rfl rfl (B.lN ty_api_Cfg) ?_
  refine AL.v rfl rfl (B.mA) ?_
  refine AL.v rfl rfl (B.call0 (k := 5) rfl en_shallot_queue_client (squeue_client c frm) (.c (.c .nil))) ?_
  refine AL.v rfl rfl (B.not rfl rfl rfl) ?_
  refine AL.v rfl rfl (B.mA) ?_
  refine AL.nil (AThen.n ?_)
  refine Aw.cases (t := 15) rfl (fun hc0 => ?_) (fun hc0 => ?_)
  · refine Aw.condT rfl rfl (Aw.skip (AThen.n ?_))
    refine Aw.condT rfl (rfl) ?_
    refine Aw.seq (Aw.region ?_)
    refine AL.v rfl rfl (B.lN ty_api_Queue) ?_
    refine AL.s rfl rfl (B.sA ty_api_Queue) ?_
    refine AL.v rfl rfl (B.mA) ?_
    refine AL.nil (AThen.n (Aw.ret (AIn.r (AThen.r (APost.r ?_)))))
    refine Ret.a1 [3] rfl (.m ty_api_Queue (.t .nil)) (gs_cons rfl gs_nil) ⟨?_, rfl⟩
    first | (rw [show qPut c q frm dst text = (q, 3) from by unfold qPut; simp only [List.length_map] at *; simp_all; try (intros; (repeat' split) <;> first | rfl | (exfalso; omega))]; rfl) | (rw [show qPut c q frm dst text = (q, 4) from by unfold qPut; simp only [List.length_map] at *; simp_all; try (intros; (repeat' split) <;> first | rfl | (exfalso; omega))]; rfl) | (rw [show qPut c q frm dst text = (q, 2) from by unfold qPut; simp only [List.length_map] at *; simp_all; try (intros; (repeat' split) <;> first | rfl | (exfalso; omega))]; rfl) | (rw [show qPut c q frm dst text = (⟨q.Next + 1, q.Items ++ [⟨false, frm, dst, q.Next, text⟩]⟩, 1) from by unfold qPut; simp only [List.length_map] at *; simp_all; try (intros; (repeat' split) <;> first | rfl | (exfalso; omega))]; simp only [aQueue, List.map_append, List.map_cons, List.map_nil, hln]; rfl)
  refine Aw.condF rfl rfl (Aw.seq (Aw.region ?_))
  refine AL.v rfl rfl (B.lN ty_api_Cfg) ?_
  refine AL.v rfl rfl (B.mA) ?_
  refine AL.v rfl rfl (B.call0 (k := 5) rfl en_shallot_queue_client (squeue_client c dst) (.c (.c .nil))) ?_
  refine AL.v rfl rfl (B.not rfl rfl rfl) ?_
  refine AL.v rfl rfl (B.mA) ?_
  refine AL.nil (AThen.n ?_)
  refine Aw.cases (t := 15) rfl (fun hc1 => ?_) (fun hc1 => ?_)
  · refine Aw.condT rfl rfl (Aw.skip (AThen.n ?_))
    refine Aw.condT rfl (rfl) ?_
    refine Aw.seq (Aw.region ?_)
    refine AL.v rfl rfl (B.lN ty_api_Queue) ?_
    refine AL.s rfl rfl (B.sA ty_api_Queue) ?_
    refine AL.v rfl rfl (B.mA) ?_
    refine AL.nil (AThen.n (Aw.ret (AIn.r (AThen.r (APost.r ?_)))))
    refine Ret.a1 [3] rfl (.m ty_api_Queue (.t .nil)) (gs_cons rfl gs_nil) ⟨?_, rfl⟩
    first | (rw [show qPut c q frm dst text = (q, 3) from by unfold qPut; simp only [List.length_map] at *; simp_all; try (intros; (repeat' split) <;> first | rfl | (exfalso; omega))]; rfl) | (rw [show qPut c q frm dst text = (q, 4) from by unfold qPut; simp only [List.length_map] at *; simp_all; try (intros; (repeat' split) <;> first | rfl | (exfalso; omega))]; rfl) | (rw [show qPut c q frm dst text = (q, 2) from by unfold qPut; simp only [List.length_map] at *; simp_all; try (intros; (repeat' split) <;> first | rfl | (exfalso; omega))]; rfl) | (rw [show qPut c q frm dst text = (⟨q.Next + 1, q.Items ++ [⟨false, frm, dst, q.Next, text⟩]⟩, 1) from by unfold qPut; simp only [List.length_map] at *; simp_all; try (intros; (repeat' split) <;> first | rfl | (exfalso; omega))]; simp only [aQueue, List.map_append, List.map_cons, List.map_nil, hln]; rfl)
  refine Aw.condF rfl rfl (Aw.region ?_)
  refine AL.v rfl rfl (B.mA) ?_
  refine AL.v rfl rfl (B.nA Try.underlying24) ?_
  refine AL.v rfl rfl (B.cmp rfl rfl rfl rfl rfl) ?_
  refine AL.v rfl rfl (B.mA) ?_
  refine AL.nil (AThen.n ?_)
  refine Aw.cases (t := 15) rfl (fun hc2 => ?_) (fun hc2 => ?_)
  · refine Aw.condT rfl rfl (Aw.seq (Aw.region ?_))
    refine AL.v rfl rfl (B.lN ty_api_Queue) ?_
    refine AL.s rfl rfl (B.sA ty_api_Queue) ?_
    refine AL.v rfl rfl (B.mA) ?_
    refine AL.nil (AThen.n (Aw.ret (AIn.r (AThen.r (APost.r ?_)))))
    refine Ret.a1 [3] rfl (.m ty_api_Queue (.t .nil)) (gs_cons rfl gs_nil) ⟨?_, rfl⟩
    first | (rw [show qPut c q frm dst text = (q, 3) from by unfold qPut; simp only [List.length_map] at *; simp_all; try (intros; (repeat' split) <;> first | rfl | (exfalso; omega))]; rfl) | (rw [show qPut c q frm dst text = (q, 4) from by unfold qPut; simp only [List.length_map] at *; simp_all; try (intros; (repeat' split) <;> first | rfl | (exfalso; omega))]; rfl) | (rw [show qPut c q frm dst text = (q, 2) from by unfold qPut; simp only [List.length_map] at *; simp_all; try (intros; (repeat' split) <;> first | rfl | (exfalso; omega))]; rfl) | (rw [show qPut c q frm dst text = (⟨q.Next + 1, q.Items ++ [⟨false, frm, dst, q.Next, text⟩]⟩, 1) from by unfold qPut; simp only [List.length_map] at *; simp_all; try (intros; (repeat' split) <;> first | rfl | (exfalso; omega))]; simp only [aQueue, List.map_append, List.map_cons, List.map_nil, hln]; rfl)
  refine Aw.condF rfl rfl (Aw.seq (Aw.region ?_))
  refine AL.v rfl rfl (B.fA fl_api_Queue_0) ?_
  refine AL.v rfl rfl (B.l1 ty_uint64) ?_
  refine AL.v rfl rfl (B.cmp rfl rfl rfl rfl rfl) ?_
  refine AL.v rfl rfl (B.mA) ?_
  refine AL.nil (AThen.n ?_)
  refine Aw.cases (t := 28) rfl (fun hc3 => ?_) (fun hc3 => ?_)
  · refine Aw.condT rfl rfl (Aw.seq (Aw.region ?_))
    refine AL.v rfl rfl (B.lN ty_api_Queue) ?_
    refine AL.s rfl rfl (B.sA ty_api_Queue) ?_
    refine AL.v rfl rfl (B.mA) ?_
    refine AL.nil (AThen.n (Aw.ret (AIn.r (AThen.r (APost.r ?_)))))
    refine Ret.a1 [3] rfl (.m ty_api_Queue (.t .nil)) (gs_cons rfl gs_nil) ⟨?_, rfl⟩
    first | (rw [show qPut c q frm dst text = (q, 3) from by unfold qPut; simp only [List.length_map] at *; simp_all; try (intros; (repeat' split) <;> first | rfl | (exfalso; omega))]; rfl) | (rw [show qPut c q frm dst text = (q, 4) from by unfold qPut; simp only [List.length_map] at *; simp_all; try (intros; (repeat' split) <;> first | rfl | (exfalso; omega))]; rfl) | (rw [show qPut c q frm dst text = (q, 2) from by unfold qPut; simp only [List.length_map] at *; simp_all; try (intros; (repeat' split) <;> first | rfl | (exfalso; omega))]; rfl) | (rw [show qPut c q frm dst text = (⟨q.Next + 1, q.Items ++ [⟨false, frm, dst, q.Next, text⟩]⟩, 1) from by unfold qPut; simp only [List.length_map] at *; simp_all; try (intros; (repeat' split) <;> first | rfl | (exfalso; omega))]; simp only [aQueue, List.map_append, List.map_cons, List.map_nil, hln]; rfl)
  refine Aw.condF rfl rfl (Aw.seq (Aw.region ?_))
  refine AL.v rfl rfl (B.fA fl_api_Queue_1) ?_
  refine AL.v rfl rfl (B.l1 ty_Lapi_Letter) ?_
  refine AL.v rfl rfl (B.nA Try.underlying74) ?_
  refine AL.v rfl rfl (B.fA fl_api_Cfg_4) ?_
  refine AL.v rfl rfl (B.l1 ty_int) ?_
  refine AL.v rfl rfl (B.cmp rfl rfl rfl rfl rfl) ?_
  refine AL.v rfl rfl (B.mA) ?_
  refine AL.nil (AThen.n ?_)
  refine Aw.cases (t := 33) rfl (fun hc4 => ?_) (fun hc4 => ?_)
  · refine Aw.condT rfl rfl (Aw.seq (Aw.region ?_))
    refine AL.v rfl rfl (B.lN ty_api_Queue) ?_
    refine AL.s rfl rfl (B.sA ty_api_Queue) ?_
    refine AL.v rfl rfl (B.mA) ?_
    refine AL.nil (AThen.n (Aw.ret (AIn.r (AThen.r (APost.r ?_)))))
    refine Ret.a1 [3] rfl (.m ty_api_Queue (.t .nil)) (gs_cons rfl gs_nil) ⟨?_, rfl⟩
    first | (rw [show qPut c q frm dst text = (q, 3) from by unfold qPut; simp only [List.length_map] at *; simp_all; try (intros; (repeat' split) <;> first | rfl | (exfalso; omega))]; rfl) | (rw [show qPut c q frm dst text = (q, 4) from by unfold qPut; simp only [List.length_map] at *; simp_all; try (intros; (repeat' split) <;> first | rfl | (exfalso; omega))]; rfl) | (rw [show qPut c q frm dst text = (q, 2) from by unfold qPut; simp only [List.length_map] at *; simp_all; try (intros; (repeat' split) <;> first | rfl | (exfalso; omega))]; rfl) | (rw [show qPut c q frm dst text = (⟨q.Next + 1, q.Items ++ [⟨false, frm, dst, q.Next, text⟩]⟩, 1) from by unfold qPut; simp only [List.length_map] at *; simp_all; try (intros; (repeat' split) <;> first | rfl | (exfalso; omega))]; simp only [aQueue, List.map_append, List.map_cons, List.map_nil, hln]; rfl)
  refine Aw.condF rfl rfl (Aw.skip (AIn.n (AThen.n (Aw.seq (Aw.drawn' mixed ?_)))))
  refine CD.v rfl rfl (B.fA fl_api_Queue_1) ?_
  refine CD.v rfl rfl (B.l1 ty_Lapi_Letter) ?_
  refine CD.v rfl rfl (B.mA) ?_
  refine CD.v rfl rfl (B.mA) ?_
  refine CD.v rfl rfl (B.fA fl_api_Queue_0) ?_
  refine CD.v rfl rfl (B.l1 ty_uint64) ?_
  refine CD.v rfl rfl (B.mA) ?_
  refine CD.v rfl rfl (B.call0 (k := 5) rfl en_slices_Clone___byte_byte_ (ACalls.plain (sclone_byte (text.map eByte) (by rw [List.length_map, Nat.mul_one]; exact ht)) rfl) (.c .nil)) ?_
  refine CD.v rfl rfl (B.build rfl bd_api_Letter rfl rfl) ?_
  refine CD.u rfl rfl (B.bslice (g := 5) rfl el_Lapi_Letter (by rw [zr_api_Letter]; rfl) (by decide) rfl (by decide) (by decide) rfl rfl rfl rfl) ?_
  refine CD.u2 rfl rfl (B.append (g' := 6) rfl el_Lapi_Letter (by rw [zr_api_Letter]; rfl) by_api_Letter (by decide) rfl rfl hln.symm (by first | exact .own rfl rfl rfl | exact .view (by first | exact .view _ _ | exact .lent _ _) | exact .nil rfl) (by exact hmx1) (by exact hby1) rfl (by decide) rfl) ?_
  refine CD.v rfl rfl (B.fA fl_api_Queue_1) ?_
  refine CD.s rfl rfl (B.sA ty_Lapi_Letter) ?_
  refine CD.nil (by kernel_rfl) ?_
  refine AThen.n (Aw.seq (Aw.region ?_))
  refine AL.v rfl rfl (B.fA fl_api_Queue_0) ?_
  refine AL.v rfl rfl (B.l1 ty_uint64) ?_
  refine AL.v rfl rfl (B.arith rfl rfl rfl (arith_addu64 (by simp at hc3; omega)) rfl) ?_
  refine AL.v rfl rfl (B.fA fl_api_Queue_0) ?_
  refine AL.s rfl rfl (B.sA ty_uint64) ?_
  refine AL.nil (AThen.n (Aw.seq (Aw.region ?_)))
  refine AL.v rfl rfl (B.lN ty_api_Queue) ?_
  refine AL.s rfl rfl (B.sA ty_api_Queue) ?_
  refine AL.v rfl rfl (B.mA) ?_
  refine AL.nil (AThen.n (Aw.ret (APost.r ?_)))
  refine Ret.a1 [6] rfl (.m ty_api_Queue (.t .nil)) (gs_cons rfl gs_nil) ⟨?_, rfl⟩
  first | (rw [show qPut c q frm dst text = (q, 3) from by unfold qPut; simp only [List.length_map] at *; simp_all; try (intros; (repeat' split) <;> first | rfl | (exfalso; omega))]; rfl) | (rw [show qPut c q frm dst text = (q, 4) from by unfold qPut; simp only [List.length_map] at *; simp_all; try (intros; (repeat' split) <;> first | rfl | (exfalso; omega))]; rfl) | (rw [show qPut c q frm dst text = (q, 2) from by unfold qPut; simp only [List.length_map] at *; simp_all; try (intros; (repeat' split) <;> first | rfl | (exfalso; omega))]; rfl) | (rw [show qPut c q frm dst text = (⟨q.Next + 1, q.Items ++ [⟨false, frm, dst, q.Next, text⟩]⟩, 1) from by unfold qPut; simp only [List.length_map] at *; simp_all; try (intros; (repeat' split) <;> first | rfl | (exfalso; omega))]; simp only [aQueue, List.map_append, List.map_cons, List.map_nil, hln]; rfl)

end Go.Proofs.Ytmkfpfnjimmmaaa
