/- Copies of slices, and one element put. Printed by sep.py. -/
import Derived.Test.YtmkfpfnjimmmaaaSepL
import Derived.Test.YtmkfpfnjimmmaaaRows
namespace Go.Proofs.Ytmkfpfnjimmmaaa
open Go.RowKit
set_option linter.unusedVariables false
set_option linter.unusedSimpArgs false

theorem by_int : Try.prog.bytesOf 3 = 8 := by kernel_rfl
theorem by_api_Letter : Try.prog.bytesOf 46 = 56 := by kernel_rfl
theorem by_uint8 : Try.prog.bytesOf 5 = 1 := by kernel_rfl
theorem by_Lapi_Letter : Try.prog.bytesOf 74 = 24 := by kernel_rfl
theorem by_api_Queue : Try.prog.bytesOf 77 = 32 := by kernel_rfl
theorem el_Luint8 : elOf Try.prog 24 = some (5, 1) := by kernel_rfl
theorem el_Lapi_Queue : elOf Try.prog 56 = some (77, 2) := by kernel_rfl
theorem el_Lint : elOf Try.prog 57 = some (3, 1) := by kernel_rfl
theorem el_LLapi_Letter : elOf Try.prog 58 = some (74, 1) := by kernel_rfl
theorem el_Lapi_Letter : elOf Try.prog 74 = some (46, 5) := by kernel_rfl
theorem en_slices_Clone___shallot_api_Queue_shallot_api_Queue_ (us : Array Value) (u : World) : (callFunc 109 us).run Try.prog u = .ok (.enter 109 us) u := by kernel_rfl
theorem en_slices_Clone_____shallot_api_Letter___shallot_api_Letter_ (us : Array Value) (u : World) : (callFunc 110 us).run Try.prog u = .ok (.enter 110 us) u := by kernel_rfl
theorem en_slices_Clone___int_int_ (us : Array Value) (u : World) : (callFunc 111 us).run Try.prog u = .ok (.enter 111 us) u := by kernel_rfl
theorem ty_int : tyOf Try.prog 3 = some (false, 1) := by kernel_rfl
theorem ty_Lapi_Letter : tyOf Try.prog 74 = some (false, 1) := by kernel_rfl
theorem ty_api_Queue : tyOf Try.prog 77 = some (true, 2) := by kernel_rfl
theorem zr_int : zeroAV Try.prog 3 = some [.d (.int .i64 0)] := by kernel_rfl
theorem zr_api_Letter : zeroAV Try.prog 46 = some [.d (.bool false), .d (.int .i64 0), .d (.int .i64 0), .d (.int .u64 0), .nsl] := by kernel_rfl
theorem zr_uint8 : zeroAV Try.prog 5 = some [.d (.int .u8 0)] := by kernel_rfl
theorem zr_Lapi_Letter : zeroAV Try.prog 74 = some [.nsl] := by kernel_rfl
theorem zr_api_Queue : zeroAV Try.prog 77 = some [.d (.int .u64 0), .nsl] := by kernel_rfl

theorem mixed : Try.prog.follows .mixedOrders = true := by kernel_rfl

set_option maxRecDepth 100000 in
theorem sclone_byte (es : List (List D)) (hb : es.length * 1 ≤ 140737488355328) :
    ACalls Try.prog 93 [.d (.view 1 es)] (fun r bs => r = .own 0 0 es.length ∧ bs = [⟨1, 5, es⟩]) := by
  have hm : 0 + es.length ≤ maxLen := by unfold maxLen; omega
  have hb2 : (0 + es.length) * 1 ≤ 140737488355328 := by rw [Nat.zero_add]; exact hb
  refine ACalls.of Try.func93 rfl (Nat.le_of_ble_eq_true rfl) ?_
  show Aw _ _ _ _ ⟨_, _⟩
  refine Aw.seq (Aw.region ?_)
  refine AL.v rfl rfl (B.mA) ?_
  refine AL.nil (AThen.n (Aw.seq (Aw.seq (Aw.region ?_))))
  refine AL.v rfl rfl (B.mA) ?_
  refine AL.isNil' rfl rfl rfl Try.underlying24 (by first | exact .view _ _ | exact .lent _ _) rfl rfl (fun hnil4 => ?_) ?_
  · refine AL.nil (AThen.n ?_)
    refine Aw.condT rfl (rfl) ?_
    refine Aw.seq (Aw.region ?_)
    refine AL.v rfl rfl (B.mA) ?_
    refine AL.nil (AThen.n ?_)
    subst hnil4
    refine Aw.adopt (t := 2) (g := 0) (sz := 1) (e := 5) rfl rfl (by decide) (by decide) ?_
    refine Aw.ret (AThen.r (APost.r ?_))
    refine Ret.row (t := 2) (g := 0) rfl rfl rfl ⟨rfl, rfl⟩
  refine AL.nil (AThen.n ?_)
  refine Aw.condF rfl (rfl) ?_
  refine Aw.skip (AThen.n (Aw.seq (Aw.region ?_)))
  refine AL.u rfl rfl (B.bempty (g := 0) rfl el_Luint8 (by decide) rfl rfl rfl) ?_
  refine AL.v rfl rfl (B.mA) ?_
  refine AL.u2 rfl rfl (B.append (g' := 1) rfl el_Luint8 (by rw [zr_uint8]; rfl) by_uint8 (by decide) rfl rfl rfl (by first | exact .own rfl rfl rfl | exact .view (by first | exact .view _ _ | exact .lent _ _) | exact .nil rfl) (by assumption) (by assumption) rfl (by decide) rfl) ?_
  refine AL.v rfl rfl (B.mA) ?_
  refine AL.nil (AThen.n (Aw.ret (APost.r ?_)))
  refine Ret.row (t := 2) (g := 1) rfl rfl rfl ⟨by rw [Nat.zero_add], rfl⟩

set_option maxRecDepth 100000 in
theorem sclone_int (es : List (List D)) (hb : es.length * 8 ≤ 140737488355328) :
    ACalls Try.prog 111 [.d (.view 1 es)] (fun r bs => r = .own 0 0 es.length ∧ bs = [⟨1, 3, es⟩]) := by
  have hm : 0 + es.length ≤ maxLen := by unfold maxLen; omega
  have hb2 : (0 + es.length) * 8 ≤ 140737488355328 := by rw [Nat.zero_add]; exact hb
  refine ACalls.of Try.func111 rfl (Nat.le_of_ble_eq_true rfl) ?_
  show Aw _ _ _ _ ⟨_, _⟩
  refine Aw.seq (Aw.region ?_)
  refine AL.v rfl rfl (B.mA) ?_
  refine AL.nil (AThen.n (Aw.seq (Aw.seq (Aw.region ?_))))
  refine AL.v rfl rfl (B.mA) ?_
  refine AL.isNil' rfl rfl rfl Try.underlying57 (by first | exact .view _ _ | exact .lent _ _) rfl rfl (fun hnil4 => ?_) ?_
  · refine AL.nil (AThen.n ?_)
    refine Aw.condT rfl (rfl) ?_
    refine Aw.seq (Aw.region ?_)
    refine AL.v rfl rfl (B.mA) ?_
    refine AL.nil (AThen.n ?_)
    subst hnil4
    refine Aw.adopt (t := 2) (g := 0) (sz := 1) (e := 3) rfl rfl (by decide) (by decide) ?_
    refine Aw.ret (AThen.r (APost.r ?_))
    refine Ret.row (t := 2) (g := 0) rfl rfl rfl ⟨rfl, rfl⟩
  refine AL.nil (AThen.n ?_)
  refine Aw.condF rfl (rfl) ?_
  refine Aw.skip (AThen.n (Aw.seq (Aw.region ?_)))
  refine AL.u rfl rfl (B.bempty (g := 0) rfl el_Lint (by decide) rfl rfl rfl) ?_
  refine AL.v rfl rfl (B.mA) ?_
  refine AL.u2 rfl rfl (B.append (g' := 1) rfl el_Lint (by rw [zr_int]; rfl) by_int (by decide) rfl rfl rfl (by first | exact .own rfl rfl rfl | exact .view (by first | exact .view _ _ | exact .lent _ _) | exact .nil rfl) (by assumption) (by assumption) rfl (by decide) rfl) ?_
  refine AL.v rfl rfl (B.mA) ?_
  refine AL.nil (AThen.n (Aw.ret (APost.r ?_)))
  refine Ret.row (t := 2) (g := 1) rfl rfl rfl ⟨by rw [Nat.zero_add], rfl⟩

set_option maxRecDepth 100000 in
theorem sclone_let (es : List (List D)) (hb : es.length * 56 ≤ 140737488355328) :
    ACalls Try.prog 95 [.d (.view 5 es)] (fun r bs => r = .own 0 0 es.length ∧ bs = [⟨5, 46, es⟩]) := by
  have hm : 0 + es.length ≤ maxLen := by unfold maxLen; omega
  have hb2 : (0 + es.length) * 56 ≤ 140737488355328 := by rw [Nat.zero_add]; exact hb
  refine ACalls.of Try.func95 rfl (Nat.le_of_ble_eq_true rfl) ?_
  show Aw _ _ _ _ ⟨_, _⟩
  refine Aw.seq (Aw.region ?_)
  refine AL.v rfl rfl (B.mA) ?_
  refine AL.nil (AThen.n (Aw.seq (Aw.seq (Aw.region ?_))))
  refine AL.v rfl rfl (B.mA) ?_
  refine AL.isNil' rfl rfl rfl Try.underlying74 (by first | exact .view _ _ | exact .lent _ _) rfl rfl (fun hnil4 => ?_) ?_
  · refine AL.nil (AThen.n ?_)
    refine Aw.condT rfl (rfl) ?_
    refine Aw.seq (Aw.region ?_)
    refine AL.v rfl rfl (B.mA) ?_
    refine AL.nil (AThen.n ?_)
    subst hnil4
    refine Aw.adopt (t := 2) (g := 0) (sz := 5) (e := 46) rfl rfl (by decide) (by decide) ?_
    refine Aw.ret (AThen.r (APost.r ?_))
    refine Ret.row (t := 2) (g := 0) rfl rfl rfl ⟨rfl, rfl⟩
  refine AL.nil (AThen.n ?_)
  refine Aw.condF rfl (rfl) ?_
  refine Aw.skip (AThen.n (Aw.seq (Aw.region ?_)))
  refine AL.u rfl rfl (B.bempty (g := 0) rfl el_Lapi_Letter (by decide) rfl rfl rfl) ?_
  refine AL.v rfl rfl (B.mA) ?_
  refine AL.u2 rfl rfl (B.append (g' := 1) rfl el_Lapi_Letter (by rw [zr_api_Letter]; rfl) by_api_Letter (by decide) rfl rfl rfl (by first | exact .own rfl rfl rfl | exact .view (by first | exact .view _ _ | exact .lent _ _) | exact .nil rfl) (by assumption) (by assumption) rfl (by decide) rfl) ?_
  refine AL.v rfl rfl (B.mA) ?_
  refine AL.nil (AThen.n (Aw.ret (APost.r ?_)))
  refine Ret.row (t := 2) (g := 1) rfl rfl rfl ⟨by rw [Nat.zero_add], rfl⟩

set_option maxRecDepth 100000 in
theorem sclone_que (es : List (List D)) (hb : es.length * 32 ≤ 140737488355328) :
    ACalls Try.prog 109 [.d (.view 2 es)] (fun r bs => r = .own 0 0 es.length ∧ bs = [⟨2, 77, es⟩]) := by
  have hm : 0 + es.length ≤ maxLen := by unfold maxLen; omega
  have hb2 : (0 + es.length) * 32 ≤ 140737488355328 := by rw [Nat.zero_add]; exact hb
  refine ACalls.of Try.func109 rfl (Nat.le_of_ble_eq_true rfl) ?_
  show Aw _ _ _ _ ⟨_, _⟩
  refine Aw.seq (Aw.region ?_)
  refine AL.v rfl rfl (B.mA) ?_
  refine AL.nil (AThen.n (Aw.seq (Aw.seq (Aw.region ?_))))
  refine AL.v rfl rfl (B.mA) ?_
  refine AL.isNil' rfl rfl rfl Try.underlying56 (by first | exact .view _ _ | exact .lent _ _) rfl rfl (fun hnil4 => ?_) ?_
  · refine AL.nil (AThen.n ?_)
    refine Aw.condT rfl (rfl) ?_
    refine Aw.seq (Aw.region ?_)
    refine AL.v rfl rfl (B.mA) ?_
    refine AL.nil (AThen.n ?_)
    subst hnil4
    refine Aw.adopt (t := 2) (g := 0) (sz := 2) (e := 77) rfl rfl (by decide) (by decide) ?_
    refine Aw.ret (AThen.r (APost.r ?_))
    refine Ret.row (t := 2) (g := 0) rfl rfl rfl ⟨rfl, rfl⟩
  refine AL.nil (AThen.n ?_)
  refine Aw.condF rfl (rfl) ?_
  refine Aw.skip (AThen.n (Aw.seq (Aw.region ?_)))
  refine AL.u rfl rfl (B.bempty (g := 0) rfl el_Lapi_Queue (by decide) rfl rfl rfl) ?_
  refine AL.v rfl rfl (B.mA) ?_
  refine AL.u2 rfl rfl (B.append (g' := 1) rfl el_Lapi_Queue (by rw [zr_api_Queue]; rfl) by_api_Queue (by decide) rfl rfl rfl (by first | exact .own rfl rfl rfl | exact .view (by first | exact .view _ _ | exact .lent _ _) | exact .nil rfl) (by assumption) (by assumption) rfl (by decide) rfl) ?_
  refine AL.v rfl rfl (B.mA) ?_
  refine AL.nil (AThen.n (Aw.ret (APost.r ?_)))
  refine Ret.row (t := 2) (g := 1) rfl rfl rfl ⟨by rw [Nat.zero_add], rfl⟩

set_option maxRecDepth 100000 in
theorem sclone_box (es : List (List D)) (hb : es.length * 24 ≤ 140737488355328) :
    ACalls Try.prog 110 [.d (.view 1 es)] (fun r bs => r = .own 0 0 es.length ∧ bs = [⟨1, 74, es⟩]) := by
  have hm : 0 + es.length ≤ maxLen := by unfold maxLen; omega
  have hb2 : (0 + es.length) * 24 ≤ 140737488355328 := by rw [Nat.zero_add]; exact hb
  refine ACalls.of Try.func110 rfl (Nat.le_of_ble_eq_true rfl) ?_
  show Aw _ _ _ _ ⟨_, _⟩
  refine Aw.seq (Aw.region ?_)
  refine AL.v rfl rfl (B.mA) ?_
  refine AL.nil (AThen.n (Aw.seq (Aw.seq (Aw.region ?_))))
  refine AL.v rfl rfl (B.mA) ?_
  refine AL.isNil' rfl rfl rfl Try.underlying58 (by first | exact .view _ _ | exact .lent _ _) rfl rfl (fun hnil4 => ?_) ?_
  · refine AL.nil (AThen.n ?_)
    refine Aw.condT rfl (rfl) ?_
    refine Aw.seq (Aw.region ?_)
    refine AL.v rfl rfl (B.mA) ?_
    refine AL.nil (AThen.n ?_)
    subst hnil4
    refine Aw.adopt (t := 2) (g := 0) (sz := 1) (e := 74) rfl rfl (by decide) (by decide) ?_
    refine Aw.ret (AThen.r (APost.r ?_))
    refine Ret.row (t := 2) (g := 0) rfl rfl rfl ⟨rfl, rfl⟩
  refine AL.nil (AThen.n ?_)
  refine Aw.condF rfl (rfl) ?_
  refine Aw.skip (AThen.n (Aw.seq (Aw.region ?_)))
  refine AL.u rfl rfl (B.bempty (g := 0) rfl el_LLapi_Letter (by decide) rfl rfl rfl) ?_
  refine AL.v rfl rfl (B.mA) ?_
  refine AL.u2 rfl rfl (B.append (g' := 1) rfl el_LLapi_Letter (by rw [zr_Lapi_Letter]; rfl) by_Lapi_Letter (by decide) rfl rfl rfl (by first | exact .own rfl rfl rfl | exact .view (by first | exact .view _ _ | exact .lent _ _) | exact .nil rfl) (by assumption) (by assumption) rfl (by decide) rfl) ?_
  refine AL.v rfl rfl (B.mA) ?_
  refine AL.nil (AThen.n (Aw.ret (APost.r ?_)))
  refine Ret.row (t := 2) (g := 1) rfl rfl rfl ⟨by rw [Nat.zero_add], rfl⟩

theorem splice_all : ∀ {c d : List D}, c.length = d.length → splice c 0 d = some d
  | [], [], _ => rfl
  | [], _ :: _, h => by simp at h
  | _ :: _, [], h => by simp at h
  | a :: c, b :: d, h => by
    simp only [splice]
    rw [splice_all (by simpa using h)]

set_option maxRecDepth 100000 in
theorem sput_int (es : List (List D)) (i : Nat) (x : Int) (hi : i < es.length) (hsz : ∀ (i : Nat) (y : List D), es[i]? = some y → y.length = 1) (hb : es.length * 8 ≤ 140737488355328) :
    ACalls Try.prog 96 [.d (.view 1 es), .d (.int .i64 i), .d (.int .i64 x)] (fun r bs => r = .own 0 0 es.length ∧ bs = [⟨1, 3, es.set i [.int .i64 x]⟩]) := by
  have hel : es[i]? = some es[i] := List.getElem?_eq_getElem hi
  have hspl : splice es[i] 0 [.int .i64 x] = some [.int .i64 x] := splice_all (by rw [hsz i _ hel]; rfl)
  refine ACalls.of Try.func96 rfl (Nat.le_of_ble_eq_true rfl) ?_
  show Aw _ _ _ _ ⟨_, _⟩
  refine Aw.seq (Aw.region ?_)
  refine AL.v rfl rfl (B.mA) ?_
  refine AL.nil (AThen.n (Aw.seq (Aw.region ?_)))
  refine AL.v rfl rfl (B.mA) ?_
  refine AL.uc rfl rfl (B.call (k := 0) (rb := []) (hc := ((sclone_int es hb))) rfl en_slices_Clone___int_int_ (ArgsA.cons (by first | exact .d _ | exact .lent _ _ | exact .nv _ | exact .nlent _ | exact .nsl | exact .lnd _ _ | exact .own (by simp) rfl rfl | exact .aggL (by repeat (first | exact L2.nil | (apply L2.cons; focus (first | exact .d _ | exact .lent _ _ | exact .nv _ | exact .nlent _ | exact .nsl | exact .lnd _ _ | exact .own (by simp) rfl rfl))))) ArgsA.nil) rfl (by first | exact .d _ | exact .nsl | exact .own (g := 0) (g' := 0) ⟨by simp, rfl⟩ | exact .aggL (by repeat (first | exact L2.nil | (apply L2.cons; focus (first | exact .d _ | exact .nsl | exact .own (g := 0) (g' := 0) ⟨by simp, rfl⟩)))) | exact .tupL (by repeat (first | exact L2.nil | (apply L2.cons; focus (first | exact .aggL (by repeat (first | exact L2.nil | (apply L2.cons; focus (first | exact .d _ | exact .nsl | exact .own (g := 0) (g' := 0) ⟨by simp, rfl⟩)))) | exact .d _ | exact .nsl | exact .own (g := 0) (g' := 0) ⟨by simp, rfl⟩))))) rfl) ?_
  refine AL.v rfl rfl (B.mA) ?_
  refine AL.nil (AThen.n (Aw.seq (Aw.region ?_)))
  refine AL.v rfl rfl (B.mA) ?_
  refine AL.v rfl rfl (B.mA) ?_
  refine AL.v rfl rfl (B.mA) ?_
  refine AL.v rfl rfl (B.idxOwn0 rfl el_Lint rfl rfl rfl rfl hi rfl) ?_
  refine AL.s rfl rfl (B.storeRow (ds := [.int .i64 x]) rfl ty_int rfl rfl hel rfl rfl hspl rfl) ?_
  refine AL.nil (AThen.n (Aw.seq (Aw.region ?_)))
  refine AL.v rfl rfl (B.mA) ?_
  refine AL.v rfl rfl (B.mA) ?_
  refine AL.nil (AThen.n (Aw.ret (APost.r ?_)))
  refine Ret.row (t := 6) rfl rfl rfl ⟨rfl, rfl⟩

set_option maxRecDepth 100000 in
theorem sput_que (es : List (List D)) (i : Nat) (p q : D) (hi : i < es.length) (hsz : ∀ (i : Nat) (y : List D), es[i]? = some y → y.length = 2) (hb : es.length * 32 ≤ 140737488355328) :
    ACalls Try.prog 87 [.d (.view 2 es), .d (.int .i64 i), .agg [.d p, .d q]] (fun r bs => r = .own 0 0 es.length ∧ bs = [⟨2, 77, es.set i [p, q]⟩]) := by
  have hel : es[i]? = some es[i] := List.getElem?_eq_getElem hi
  have hspl : splice es[i] 0 [p, q] = some [p, q] := splice_all (by rw [hsz i _ hel]; rfl)
  refine ACalls.of Try.func87 rfl (Nat.le_of_ble_eq_true rfl) ?_
  show Aw _ _ _ _ ⟨_, _⟩
  refine Aw.seq (Aw.region ?_)
  refine AL.u rfl rfl (B.bA (g := 0)) ?_
  refine AL.v rfl rfl (B.mA) ?_
  refine AL.nil (AThen.n (Aw.seq (Aw.region ?_)))
  refine AL.v rfl rfl (B.mA) ?_
  refine AL.uc rfl rfl (B.call (k := 1) (rb := []) (hc := ((sclone_que es hb))) rfl en_slices_Clone___shallot_api_Queue_shallot_api_Queue_ (ArgsA.cons (by first | exact .d _ | exact .lent _ _ | exact .nv _ | exact .nlent _ | exact .nsl | exact .lnd _ _ | exact .own (by simp) rfl rfl | exact .aggL (by repeat (first | exact L2.nil | (apply L2.cons; focus (first | exact .d _ | exact .lent _ _ | exact .nv _ | exact .nlent _ | exact .nsl | exact .lnd _ _ | exact .own (by simp) rfl rfl))))) ArgsA.nil) rfl (by first | exact .d _ | exact .nsl | exact .own (g := 0) (g' := 1) ⟨by simp, rfl⟩ | exact .aggL (by repeat (first | exact L2.nil | (apply L2.cons; focus (first | exact .d _ | exact .nsl | exact .own (g := 0) (g' := 1) ⟨by simp, rfl⟩)))) | exact .tupL (by repeat (first | exact L2.nil | (apply L2.cons; focus (first | exact .aggL (by repeat (first | exact L2.nil | (apply L2.cons; focus (first | exact .d _ | exact .nsl | exact .own (g := 0) (g' := 1) ⟨by simp, rfl⟩)))) | exact .d _ | exact .nsl | exact .own (g := 0) (g' := 1) ⟨by simp, rfl⟩))))) rfl) ?_
  refine AL.v rfl rfl (B.mA) ?_
  refine AL.nil (AThen.n (Aw.seq (Aw.region ?_)))
  refine AL.v rfl rfl (B.mA) ?_
  refine AL.v rfl rfl (B.mA) ?_
  refine AL.v rfl rfl (B.lN ty_api_Queue) ?_
  refine AL.v rfl rfl (B.idxOwn0 rfl el_Lapi_Queue rfl rfl rfl rfl hi rfl) ?_
  refine AL.s rfl rfl (B.storeRow (ds := [p, q]) rfl ty_api_Queue rfl rfl hel rfl rfl hspl rfl) ?_
  refine AL.nil (AThen.n (Aw.seq (Aw.region ?_)))
  refine AL.v rfl rfl (B.mA) ?_
  refine AL.v rfl rfl (B.mA) ?_
  refine AL.nil (AThen.n (Aw.ret (APost.r ?_)))
  refine Ret.row (t := 6) rfl rfl rfl ⟨rfl, rfl⟩

set_option maxRecDepth 100000 in
theorem sput_box (es : List (List D)) (i : Nat) (q : D) (hi : i < es.length) (hsz : ∀ (i : Nat) (y : List D), es[i]? = some y → y.length = 1) (hb : es.length * 24 ≤ 140737488355328) :
    ACalls Try.prog 94 [.d (.view 1 es), .d (.int .i64 i), .d q] (fun r bs => r = .own 0 0 es.length ∧ bs = [⟨1, 74, es.set i [q]⟩]) := by
  have hel : es[i]? = some es[i] := List.getElem?_eq_getElem hi
  have hspl : splice es[i] 0 [q] = some [q] := splice_all (by rw [hsz i _ hel]; rfl)
  refine ACalls.of Try.func94 rfl (Nat.le_of_ble_eq_true rfl) ?_
  show Aw _ _ _ _ ⟨_, _⟩
  refine Aw.seq (Aw.region ?_)
  refine AL.v rfl rfl (B.mA) ?_
  refine AL.nil (AThen.n (Aw.seq (Aw.region ?_)))
  refine AL.v rfl rfl (B.mA) ?_
  refine AL.uc rfl rfl (B.call (k := 0) (rb := []) (hc := ((sclone_box es hb))) rfl en_slices_Clone_____shallot_api_Letter___shallot_api_Letter_ (ArgsA.cons (by first | exact .d _ | exact .lent _ _ | exact .nv _ | exact .nlent _ | exact .nsl | exact .lnd _ _ | exact .own (by simp) rfl rfl | exact .aggL (by repeat (first | exact L2.nil | (apply L2.cons; focus (first | exact .d _ | exact .lent _ _ | exact .nv _ | exact .nlent _ | exact .nsl | exact .lnd _ _ | exact .own (by simp) rfl rfl))))) ArgsA.nil) rfl (by first | exact .d _ | exact .nsl | exact .own (g := 0) (g' := 0) ⟨by simp, rfl⟩ | exact .aggL (by repeat (first | exact L2.nil | (apply L2.cons; focus (first | exact .d _ | exact .nsl | exact .own (g := 0) (g' := 0) ⟨by simp, rfl⟩)))) | exact .tupL (by repeat (first | exact L2.nil | (apply L2.cons; focus (first | exact .aggL (by repeat (first | exact L2.nil | (apply L2.cons; focus (first | exact .d _ | exact .nsl | exact .own (g := 0) (g' := 0) ⟨by simp, rfl⟩)))) | exact .d _ | exact .nsl | exact .own (g := 0) (g' := 0) ⟨by simp, rfl⟩))))) rfl) ?_
  refine AL.v rfl rfl (B.mA) ?_
  refine AL.nil (AThen.n (Aw.seq (Aw.region ?_)))
  refine AL.v rfl rfl (B.mA) ?_
  refine AL.v rfl rfl (B.mA) ?_
  refine AL.v rfl rfl (B.mA) ?_
  refine AL.v rfl rfl (B.idxOwn0 rfl el_LLapi_Letter rfl rfl rfl rfl hi rfl) ?_
  refine AL.s rfl rfl (B.storeRow (ds := [q]) rfl ty_Lapi_Letter rfl rfl hel rfl rfl hspl rfl) ?_
  refine AL.nil (AThen.n (Aw.seq (Aw.region ?_)))
  refine AL.v rfl rfl (B.mA) ?_
  refine AL.v rfl rfl (B.mA) ?_
  refine AL.nil (AThen.n (Aw.ret (APost.r ?_)))
  refine Ret.row (t := 6) rfl rfl rfl ⟨rfl, rfl⟩

end Go.Proofs.Ytmkfpfnjimmmaaa
