/-
  NARROWER THAN 'FOR EVERY INPUT', by the rows' own cells (each row's printed sentence says how): PostFence: laid · PostForged: laid · PostSize: laid · CoordSuspects: laid · PostPair: laid · CoordHalts: laid · CoordAnnounces: laid.
  DERIVED. THE GIVEN ROWS OF THIS SEAT. 7 by the template 'for every input the law returns true; each argument reads behind the call as it read before'; 0 by the template 'total and deterministic' (their statements: YtjkbkhjalimebaaDoorTotals.lean).
  GIVEN WITH THE SEED: the statements are not yours to turn. If you find one false, say at which input.
  Laid BY PROGRAM, IN A SANDBOX (cutbox-rows.mjs): the forced cells as the released guide's own fill.sh prints them over the translation 6b849e2f4d07322f… (all of the seat's roots in one cut). By AI agents, Wed Nov 11 2026. No macro, syntax, notation, axiom, sorry.
-/
import Derived.Test.YtjkbkhjalimebaaDoorChecked
import GoSem.Claim
import GoSem.ClaimJoined
import GoSem.ClaimMapViews
import Derived.JoinedTies
import Derived.KernelRfl
namespace Go.Proofs.YtjkbkhjalimebaaDoor
/- THE CELL 'sum', in the pinned program and in every row, IS THE sha256 OF THE DUMP (.gsa) THAT YtjkbkhjalimebaaDoorProg.lean LOADS. Nothing in Lean hashes anything: it is a label: what it is worth is what the hold of that sum in a sandbox is worth. -/
noncomputable def Tryd.pinned : Pinned := { name := "ytjkbkhjalimebaadoor", sum := "6b849e2f4d07322f364a3304b6d24649cdb5ce45bada007687f3c4e39b0ba154", checked := Tryd.checked }
namespace Rows
def none {H : Type} : Left H := { results := [], args := [] }

/- WHAT THE LISTED PACKAGE-LEVEL VARIABLES READ AS WHEN THE CALL BEGINS. Each datum BY PROGRAM (the guide's laid-datum.mjs) off the statement by which the dump's own 'gosem.cut.vars' lays the variable. In a bare row this is a premise. The card (YtjkbkhjalimebaaDoorCards.lean) ties it to the program's text. -/
def laid_shallot_sha_constants {H : Type} : DataW H := .agg [.lit (.int .u32 1116352408), .lit (.int .u32 1899447441), .lit (.int .u32 3049323471), .lit (.int .u32 3921009573), .lit (.int .u32 961987163), .lit (.int .u32 1508970993), .lit (.int .u32 2453635748), .lit (.int .u32 2870763221), .lit (.int .u32 3624381080), .lit (.int .u32 310598401), .lit (.int .u32 607225278), .lit (.int .u32 1426881987), .lit (.int .u32 1925078388), .lit (.int .u32 2162078206), .lit (.int .u32 2614888103), .lit (.int .u32 3248222580), .lit (.int .u32 3835390401), .lit (.int .u32 4022224774), .lit (.int .u32 264347078), .lit (.int .u32 604807628), .lit (.int .u32 770255983), .lit (.int .u32 1249150122), .lit (.int .u32 1555081692), .lit (.int .u32 1996064986), .lit (.int .u32 2554220882), .lit (.int .u32 2821834349), .lit (.int .u32 2952996808), .lit (.int .u32 3210313671), .lit (.int .u32 3336571891), .lit (.int .u32 3584528711), .lit (.int .u32 113926993), .lit (.int .u32 338241895), .lit (.int .u32 666307205), .lit (.int .u32 773529912), .lit (.int .u32 1294757372), .lit (.int .u32 1396182291), .lit (.int .u32 1695183700), .lit (.int .u32 1986661051), .lit (.int .u32 2177026350), .lit (.int .u32 2456956037), .lit (.int .u32 2730485921), .lit (.int .u32 2820302411), .lit (.int .u32 3259730800), .lit (.int .u32 3345764771), .lit (.int .u32 3516065817), .lit (.int .u32 3600352804), .lit (.int .u32 4094571909), .lit (.int .u32 275423344), .lit (.int .u32 430227734), .lit (.int .u32 506948616), .lit (.int .u32 659060556), .lit (.int .u32 883997877), .lit (.int .u32 958139571), .lit (.int .u32 1322822218), .lit (.int .u32 1537002063), .lit (.int .u32 1747873779), .lit (.int .u32 1955562222), .lit (.int .u32 2024104815), .lit (.int .u32 2227730452), .lit (.int .u32 2361852424), .lit (.int .u32 2428436474), .lit (.int .u32 2756734187), .lit (.int .u32 3204031479), .lit (.int .u32 3329325298)]

/-- 'shallotlaw15.PostFence': WHATEVER THE INPUT: true; the input reads as it did. -/
def postFenceSpec : ChangeSpec := { name := "postFence", fn := fun _ => fun
  | [d1, d2, d3, d4] => { results := [.lit (.bool true)], args := [d1, d2, d3, d4] }
  | _ => none }
def postFenceRow : OpenClaim := { program := "ytjkbkhjalimebaadoor", sum := "6b849e2f4d07322f364a3304b6d24649cdb5ce45bada007687f3c4e39b0ba154", func := "shallot/shallotlaw15.PostFence", spec := "postFence", inPlace := ["slices.overlaps[shallot/api.Peer]"], unfollowed := true, recurses := true, named := ["shallot/sha.constants"], apart := false, laid := [("shallot/sha.constants", laid_shallot_sha_constants)] }
def PostFenceSaid : Prop := postFenceRow.holds Tryd.pinned (OpenSpec.ofChange postFenceSpec)

/-- ITS FALSE NEIGHBOUR: 'it returns false'. Refute it at one input. -/
def postFenceWrong : ChangeSpec := { name := "postFence", fn := fun _ => fun
  | [d1, d2, d3, d4] => { results := [.lit (.bool false)], args := [d1, d2, d3, d4] }
  | _ => none }
def PostFenceWrongFalsely : Prop := postFenceRow.holds Tryd.pinned (OpenSpec.ofChange postFenceWrong)

/-- 'shallotlaw15.PostForged': WHATEVER THE INPUT: true; the input reads as it did. -/
def postForgedSpec : ChangeSpec := { name := "postForged", fn := fun _ => fun
  | [d1, d2, d3, d4] => { results := [.lit (.bool true)], args := [d1, d2, d3, d4] }
  | _ => none }
def postForgedRow : OpenClaim := { program := "ytjkbkhjalimebaadoor", sum := "6b849e2f4d07322f364a3304b6d24649cdb5ce45bada007687f3c4e39b0ba154", func := "shallot/shallotlaw15.PostForged", spec := "postForged", inPlace := ["slices.overlaps[shallot/api.Peer]"], unfollowed := true, recurses := true, named := ["shallot/sha.constants"], apart := false, laid := [("shallot/sha.constants", laid_shallot_sha_constants)] }
def PostForgedSaid : Prop := postForgedRow.holds Tryd.pinned (OpenSpec.ofChange postForgedSpec)

/-- ITS FALSE NEIGHBOUR: 'it returns false'. Refute it at one input. -/
def postForgedWrong : ChangeSpec := { name := "postForged", fn := fun _ => fun
  | [d1, d2, d3, d4] => { results := [.lit (.bool false)], args := [d1, d2, d3, d4] }
  | _ => none }
def PostForgedWrongFalsely : Prop := postForgedRow.holds Tryd.pinned (OpenSpec.ofChange postForgedWrong)

/-- 'shallotlaw15.PostSize': WHATEVER THE INPUT: true; the input reads as it did. -/
def postSizeSpec : ChangeSpec := { name := "postSize", fn := fun _ => fun
  | [d1, d2, d3, d4, d5, d6] => { results := [.lit (.bool true)], args := [d1, d2, d3, d4, d5, d6] }
  | _ => none }
def postSizeRow : OpenClaim := { program := "ytjkbkhjalimebaadoor", sum := "6b849e2f4d07322f364a3304b6d24649cdb5ce45bada007687f3c4e39b0ba154", func := "shallot/shallotlaw15.PostSize", spec := "postSize", inPlace := ["slices.overlaps[shallot/api.Peer]"], unfollowed := true, recurses := true, named := ["shallot/sha.constants"], apart := false, laid := [("shallot/sha.constants", laid_shallot_sha_constants)] }
def PostSizeSaid : Prop := postSizeRow.holds Tryd.pinned (OpenSpec.ofChange postSizeSpec)

/-- ITS FALSE NEIGHBOUR: 'it returns false'. Refute it at one input. -/
def postSizeWrong : ChangeSpec := { name := "postSize", fn := fun _ => fun
  | [d1, d2, d3, d4, d5, d6] => { results := [.lit (.bool false)], args := [d1, d2, d3, d4, d5, d6] }
  | _ => none }
def PostSizeWrongFalsely : Prop := postSizeRow.holds Tryd.pinned (OpenSpec.ofChange postSizeWrong)

/-- 'shallotlaw20.CoordSuspects': WHATEVER THE INPUT: true; the input reads as it did. -/
def coordSuspectsSpec : ChangeSpec := { name := "coordSuspects", fn := fun _ => fun
  | [d1, d2] => { results := [.lit (.bool true)], args := [d1, d2] }
  | _ => none }
def coordSuspectsRow : OpenClaim := { program := "ytjkbkhjalimebaadoor", sum := "6b849e2f4d07322f364a3304b6d24649cdb5ce45bada007687f3c4e39b0ba154", func := "shallot/shallotlaw20.CoordSuspects", spec := "coordSuspects", inPlace := ["slices.overlaps[shallot/api.Peer]"], unfollowed := true, recurses := true, named := ["shallot/sha.constants"], apart := false, laid := [("shallot/sha.constants", laid_shallot_sha_constants)] }
def CoordSuspectsSaid : Prop := coordSuspectsRow.holds Tryd.pinned (OpenSpec.ofChange coordSuspectsSpec)

/-- ITS FALSE NEIGHBOUR: 'it returns false'. Refute it at one input. -/
def coordSuspectsWrong : ChangeSpec := { name := "coordSuspects", fn := fun _ => fun
  | [d1, d2] => { results := [.lit (.bool false)], args := [d1, d2] }
  | _ => none }
def CoordSuspectsWrongFalsely : Prop := coordSuspectsRow.holds Tryd.pinned (OpenSpec.ofChange coordSuspectsWrong)

/-- 'shallotlaw15.PostPair': WHATEVER THE INPUT: true; the input reads as it did. -/
def postPairSpec : ChangeSpec := { name := "postPair", fn := fun _ => fun
  | [d1, d2, d3, d4] => { results := [.lit (.bool true)], args := [d1, d2, d3, d4] }
  | _ => none }
def postPairRow : OpenClaim := { program := "ytjkbkhjalimebaadoor", sum := "6b849e2f4d07322f364a3304b6d24649cdb5ce45bada007687f3c4e39b0ba154", func := "shallot/shallotlaw15.PostPair", spec := "postPair", inPlace := ["slices.overlaps[shallot/api.Peer]"], unfollowed := true, recurses := true, named := ["shallot/sha.constants"], apart := false, laid := [("shallot/sha.constants", laid_shallot_sha_constants)] }
def PostPairSaid : Prop := postPairRow.holds Tryd.pinned (OpenSpec.ofChange postPairSpec)

/-- ITS FALSE NEIGHBOUR: 'it returns false'. Refute it at one input. -/
def postPairWrong : ChangeSpec := { name := "postPair", fn := fun _ => fun
  | [d1, d2, d3, d4] => { results := [.lit (.bool false)], args := [d1, d2, d3, d4] }
  | _ => none }
def PostPairWrongFalsely : Prop := postPairRow.holds Tryd.pinned (OpenSpec.ofChange postPairWrong)

/-- 'shallotlaw20.CoordHalts': WHATEVER THE INPUT: true; the input reads as it did. -/
def coordHaltsSpec : ChangeSpec := { name := "coordHalts", fn := fun _ => fun
  | [d1, d2, d3, d4] => { results := [.lit (.bool true)], args := [d1, d2, d3, d4] }
  | _ => none }
def coordHaltsRow : OpenClaim := { program := "ytjkbkhjalimebaadoor", sum := "6b849e2f4d07322f364a3304b6d24649cdb5ce45bada007687f3c4e39b0ba154", func := "shallot/shallotlaw20.CoordHalts", spec := "coordHalts", inPlace := ["slices.overlaps[shallot/api.Peer]"], unfollowed := true, recurses := true, named := ["shallot/sha.constants"], apart := false, laid := [("shallot/sha.constants", laid_shallot_sha_constants)] }
def CoordHaltsSaid : Prop := coordHaltsRow.holds Tryd.pinned (OpenSpec.ofChange coordHaltsSpec)

/-- ITS FALSE NEIGHBOUR: 'it returns false'. Refute it at one input. -/
def coordHaltsWrong : ChangeSpec := { name := "coordHalts", fn := fun _ => fun
  | [d1, d2, d3, d4] => { results := [.lit (.bool false)], args := [d1, d2, d3, d4] }
  | _ => none }
def CoordHaltsWrongFalsely : Prop := coordHaltsRow.holds Tryd.pinned (OpenSpec.ofChange coordHaltsWrong)

/-- 'shallotlaw20.CoordAnnounces': WHATEVER THE INPUT: true; the input reads as it did. -/
def coordAnnouncesSpec : ChangeSpec := { name := "coordAnnounces", fn := fun _ => fun
  | [d1, d2, d3] => { results := [.lit (.bool true)], args := [d1, d2, d3] }
  | _ => none }
def coordAnnouncesRow : OpenClaim := { program := "ytjkbkhjalimebaadoor", sum := "6b849e2f4d07322f364a3304b6d24649cdb5ce45bada007687f3c4e39b0ba154", func := "shallot/shallotlaw20.CoordAnnounces", spec := "coordAnnounces", inPlace := ["slices.overlaps[shallot/api.Peer]"], unfollowed := true, recurses := true, named := ["shallot/sha.constants"], apart := false, laid := [("shallot/sha.constants", laid_shallot_sha_constants)] }
def CoordAnnouncesSaid : Prop := coordAnnouncesRow.holds Tryd.pinned (OpenSpec.ofChange coordAnnouncesSpec)

/-- ITS FALSE NEIGHBOUR: 'it returns false'. Refute it at one input. -/
def coordAnnouncesWrong : ChangeSpec := { name := "coordAnnounces", fn := fun _ => fun
  | [d1, d2, d3] => { results := [.lit (.bool false)], args := [d1, d2, d3] }
  | _ => none }
def CoordAnnouncesWrongFalsely : Prop := coordAnnouncesRow.holds Tryd.pinned (OpenSpec.ofChange coordAnnouncesWrong)

/- THE SECOND FORM. 'bulk': how many values and letters a reading holds, each counted each time it is reached (what is shared counts as often as it is met; a slice's spare places count too). A statement '..UptoSaid' is the law's where the arguments, and the package variables that the reading takes, are together of bulk at most 1048576: NARROWER than '..Said'. Prove '..Said' where nothing that the law and all that it calls make is longer than what came in: it says more and counts as full. Else prove '..UptoSaid'. A law counts once. -/
mutual
def uptoBulk {H : Type} : DataW H → Nat
  | .lit (.string bytes) => bytes.length + 1
  | .lit _ => 1
  | .nil => 1
  | .ptr d => uptoBulk d + 1
  | .slice elems spare => uptoBulkAll elems + uptoBulkAll spare + 1
  | .agg parts => uptoBulkAll parts + 1
  | .iface _ d => uptoBulk d + 1
  | .map entries => uptoBulkEntries entries + 1
  | .held _ => 1
def uptoBulkAll {H : Type} : List (DataW H) → Nat
  | [] => 0
  | d :: r => uptoBulk d + uptoBulkAll r
def uptoBulkEntries {H : Type} : List (Lit × DataW H) → Nat
  | [] => 0
  | x :: r => uptoBulkEntry x + uptoBulkEntries r
def uptoBulkEntry {H : Type} : Lit × DataW H → Nat
  | (.string bytes, d) => bytes.length + uptoBulk d + 1
  | (_, d) => uptoBulk d + 1
 end
def uptoSmall : (H : Type) → List (DataW H) → Bool := fun _ ds => decide (uptoBulkAll ds ≤ 1048576)
def OpenSpec.upto (s : _root_.Go.ChangeSpec) : _root_.Go.OpenSpec := { _root_.Go.OpenSpec.ofChange s with cond := some uptoSmall }

/-- 'shallotlaw15.PostFence', WHERE WHAT IT READS IS OF BULK AT MOST 1048576: true; the input reads as it did. -/
def postFenceUptoRow : OpenClaim := { program := "ytjkbkhjalimebaadoor", sum := "6b849e2f4d07322f364a3304b6d24649cdb5ce45bada007687f3c4e39b0ba154", func := "shallot/shallotlaw15.PostFence", spec := "postFence", inPlace := ["slices.overlaps[shallot/api.Peer]"], unfollowed := true, recurses := true, named := ["shallot/sha.constants"], apart := false, laid := [("shallot/sha.constants", laid_shallot_sha_constants)], narrowed := true }
def PostFenceUptoSaid : Prop := postFenceUptoRow.holds Tryd.pinned (OpenSpec.upto postFenceSpec)

/-- 'shallotlaw15.PostForged', WHERE WHAT IT READS IS OF BULK AT MOST 1048576: true; the input reads as it did. -/
def postForgedUptoRow : OpenClaim := { program := "ytjkbkhjalimebaadoor", sum := "6b849e2f4d07322f364a3304b6d24649cdb5ce45bada007687f3c4e39b0ba154", func := "shallot/shallotlaw15.PostForged", spec := "postForged", inPlace := ["slices.overlaps[shallot/api.Peer]"], unfollowed := true, recurses := true, named := ["shallot/sha.constants"], apart := false, laid := [("shallot/sha.constants", laid_shallot_sha_constants)], narrowed := true }
def PostForgedUptoSaid : Prop := postForgedUptoRow.holds Tryd.pinned (OpenSpec.upto postForgedSpec)

/-- 'shallotlaw15.PostSize', WHERE WHAT IT READS IS OF BULK AT MOST 1048576: true; the input reads as it did. -/
def postSizeUptoRow : OpenClaim := { program := "ytjkbkhjalimebaadoor", sum := "6b849e2f4d07322f364a3304b6d24649cdb5ce45bada007687f3c4e39b0ba154", func := "shallot/shallotlaw15.PostSize", spec := "postSize", inPlace := ["slices.overlaps[shallot/api.Peer]"], unfollowed := true, recurses := true, named := ["shallot/sha.constants"], apart := false, laid := [("shallot/sha.constants", laid_shallot_sha_constants)], narrowed := true }
def PostSizeUptoSaid : Prop := postSizeUptoRow.holds Tryd.pinned (OpenSpec.upto postSizeSpec)

/-- 'shallotlaw20.CoordSuspects', WHERE WHAT IT READS IS OF BULK AT MOST 1048576: true; the input reads as it did. -/
def coordSuspectsUptoRow : OpenClaim := { program := "ytjkbkhjalimebaadoor", sum := "6b849e2f4d07322f364a3304b6d24649cdb5ce45bada007687f3c4e39b0ba154", func := "shallot/shallotlaw20.CoordSuspects", spec := "coordSuspects", inPlace := ["slices.overlaps[shallot/api.Peer]"], unfollowed := true, recurses := true, named := ["shallot/sha.constants"], apart := false, laid := [("shallot/sha.constants", laid_shallot_sha_constants)], narrowed := true }
def CoordSuspectsUptoSaid : Prop := coordSuspectsUptoRow.holds Tryd.pinned (OpenSpec.upto coordSuspectsSpec)

/-- 'shallotlaw15.PostPair', WHERE WHAT IT READS IS OF BULK AT MOST 1048576: true; the input reads as it did. -/
def postPairUptoRow : OpenClaim := { program := "ytjkbkhjalimebaadoor", sum := "6b849e2f4d07322f364a3304b6d24649cdb5ce45bada007687f3c4e39b0ba154", func := "shallot/shallotlaw15.PostPair", spec := "postPair", inPlace := ["slices.overlaps[shallot/api.Peer]"], unfollowed := true, recurses := true, named := ["shallot/sha.constants"], apart := false, laid := [("shallot/sha.constants", laid_shallot_sha_constants)], narrowed := true }
def PostPairUptoSaid : Prop := postPairUptoRow.holds Tryd.pinned (OpenSpec.upto postPairSpec)

/-- 'shallotlaw20.CoordHalts', WHERE WHAT IT READS IS OF BULK AT MOST 1048576: true; the input reads as it did. -/
def coordHaltsUptoRow : OpenClaim := { program := "ytjkbkhjalimebaadoor", sum := "6b849e2f4d07322f364a3304b6d24649cdb5ce45bada007687f3c4e39b0ba154", func := "shallot/shallotlaw20.CoordHalts", spec := "coordHalts", inPlace := ["slices.overlaps[shallot/api.Peer]"], unfollowed := true, recurses := true, named := ["shallot/sha.constants"], apart := false, laid := [("shallot/sha.constants", laid_shallot_sha_constants)], narrowed := true }
def CoordHaltsUptoSaid : Prop := coordHaltsUptoRow.holds Tryd.pinned (OpenSpec.upto coordHaltsSpec)

/-- 'shallotlaw20.CoordAnnounces', WHERE WHAT IT READS IS OF BULK AT MOST 1048576: true; the input reads as it did. -/
def coordAnnouncesUptoRow : OpenClaim := { program := "ytjkbkhjalimebaadoor", sum := "6b849e2f4d07322f364a3304b6d24649cdb5ce45bada007687f3c4e39b0ba154", func := "shallot/shallotlaw20.CoordAnnounces", spec := "coordAnnounces", inPlace := ["slices.overlaps[shallot/api.Peer]"], unfollowed := true, recurses := true, named := ["shallot/sha.constants"], apart := false, laid := [("shallot/sha.constants", laid_shallot_sha_constants)], narrowed := true }
def CoordAnnouncesUptoSaid : Prop := coordAnnouncesUptoRow.holds Tryd.pinned (OpenSpec.upto coordAnnouncesSpec)

end Rows
end Go.Proofs.YtjkbkhjalimebaaDoor
