/-
  DERIVED. GIVEN WITH THE SEED: THE CARDS: each row of YtjkbkhjalimebaaDoorRows.lean that lists a variable, with what it lists TIED to the program's text (the seventh form; the later family's looks); each row that meets fmt, with fmt's text TOLD by the authors' own Lean function (tested against real Go, not proved from fmt's source: count such statements apart). THE CARD IS WHAT COUNTS. Prove the row's statement (the work); the ties are given (YtjkbkhjalimebaaDoorTie.lean); close each card by the builder's one call (the guide's Derived/Test/ToyasCard.lean, 'card_holds'). Laid BY PROGRAM, IN A SANDBOX (cutbox-door.mjs). By AI agents, Wed Nov 11 2026. No macro, syntax, notation, axiom, sorry.
-/
import Derived.Test.YtjkbkhjalimebaaDoorRows
import GoSem.ClaimSeven
namespace Go.Proofs.YtjkbkhjalimebaaDoor
namespace Rows

/-- THE TIED CARD OF 'shallotlaw15.PostFence'. -/
def postFenceCard : Claim7 := { stood := { row := postFenceRow, standIns := [], harness := (true, "1f29b3bf62772d9f27ecf04081022636aea2fc47539ed127fe193a6e3c07bdf0"), looks := false }, kinds := [], alts := [], laidByText := true, laidKinds := [.data], laidTests := true, laidLooks := .later }
def PostFenceCardSaid : Prop := Claim7.holds Tryd.pinned (.plain (OpenSpec.ofChange postFenceSpec)) postFenceCard

/-- THE TIED CARD OF 'shallotlaw15.PostForged'. -/
def postForgedCard : Claim7 := { stood := { row := postForgedRow, standIns := [], harness := (true, "1f29b3bf62772d9f27ecf04081022636aea2fc47539ed127fe193a6e3c07bdf0"), looks := false }, kinds := [], alts := [], laidByText := true, laidKinds := [.data], laidTests := true, laidLooks := .later }
def PostForgedCardSaid : Prop := Claim7.holds Tryd.pinned (.plain (OpenSpec.ofChange postForgedSpec)) postForgedCard

/-- THE TIED CARD OF 'shallotlaw15.PostSize'. -/
def postSizeCard : Claim7 := { stood := { row := postSizeRow, standIns := [], harness := (true, "1f29b3bf62772d9f27ecf04081022636aea2fc47539ed127fe193a6e3c07bdf0"), looks := false }, kinds := [], alts := [], laidByText := true, laidKinds := [.data], laidTests := true, laidLooks := .later }
def PostSizeCardSaid : Prop := Claim7.holds Tryd.pinned (.plain (OpenSpec.ofChange postSizeSpec)) postSizeCard

/-- THE TIED CARD OF 'shallotlaw20.CoordSuspects'. -/
def coordSuspectsCard : Claim7 := { stood := { row := coordSuspectsRow, standIns := [], harness := (true, "1f29b3bf62772d9f27ecf04081022636aea2fc47539ed127fe193a6e3c07bdf0"), looks := false }, kinds := [], alts := [], laidByText := true, laidKinds := [.data], laidTests := true, laidLooks := .later }
def CoordSuspectsCardSaid : Prop := Claim7.holds Tryd.pinned (.plain (OpenSpec.ofChange coordSuspectsSpec)) coordSuspectsCard

/-- THE TIED CARD OF 'shallotlaw15.PostPair'. -/
def postPairCard : Claim7 := { stood := { row := postPairRow, standIns := [], harness := (true, "1f29b3bf62772d9f27ecf04081022636aea2fc47539ed127fe193a6e3c07bdf0"), looks := false }, kinds := [], alts := [], laidByText := true, laidKinds := [.data], laidTests := true, laidLooks := .later }
def PostPairCardSaid : Prop := Claim7.holds Tryd.pinned (.plain (OpenSpec.ofChange postPairSpec)) postPairCard

/-- THE TIED CARD OF 'shallotlaw20.CoordHalts'. -/
def coordHaltsCard : Claim7 := { stood := { row := coordHaltsRow, standIns := [], harness := (true, "1f29b3bf62772d9f27ecf04081022636aea2fc47539ed127fe193a6e3c07bdf0"), looks := false }, kinds := [], alts := [], laidByText := true, laidKinds := [.data], laidTests := true, laidLooks := .later }
def CoordHaltsCardSaid : Prop := Claim7.holds Tryd.pinned (.plain (OpenSpec.ofChange coordHaltsSpec)) coordHaltsCard

/-- THE TIED CARD OF 'shallotlaw20.CoordAnnounces'. -/
def coordAnnouncesCard : Claim7 := { stood := { row := coordAnnouncesRow, standIns := [], harness := (true, "1f29b3bf62772d9f27ecf04081022636aea2fc47539ed127fe193a6e3c07bdf0"), looks := false }, kinds := [], alts := [], laidByText := true, laidKinds := [.data], laidTests := true, laidLooks := .later }
def CoordAnnouncesCardSaid : Prop := Claim7.holds Tryd.pinned (.plain (OpenSpec.ofChange coordAnnouncesSpec)) coordAnnouncesCard

/-- THE SECOND FORM's CARD OF 'shallotlaw15.PostFence'. -/
def postFenceUptoCard : Claim7 := { stood := { row := postFenceUptoRow, standIns := [], harness := (true, "1f29b3bf62772d9f27ecf04081022636aea2fc47539ed127fe193a6e3c07bdf0"), looks := false }, kinds := [], alts := [], laidByText := true, laidKinds := [.data], laidTests := true, laidLooks := .later }
def PostFenceUptoCardSaid : Prop := Claim7.holds Tryd.pinned (.plain (OpenSpec.upto postFenceSpec)) postFenceUptoCard

/-- THE SECOND FORM's CARD OF 'shallotlaw15.PostForged'. -/
def postForgedUptoCard : Claim7 := { stood := { row := postForgedUptoRow, standIns := [], harness := (true, "1f29b3bf62772d9f27ecf04081022636aea2fc47539ed127fe193a6e3c07bdf0"), looks := false }, kinds := [], alts := [], laidByText := true, laidKinds := [.data], laidTests := true, laidLooks := .later }
def PostForgedUptoCardSaid : Prop := Claim7.holds Tryd.pinned (.plain (OpenSpec.upto postForgedSpec)) postForgedUptoCard

/-- THE SECOND FORM's CARD OF 'shallotlaw15.PostSize'. -/
def postSizeUptoCard : Claim7 := { stood := { row := postSizeUptoRow, standIns := [], harness := (true, "1f29b3bf62772d9f27ecf04081022636aea2fc47539ed127fe193a6e3c07bdf0"), looks := false }, kinds := [], alts := [], laidByText := true, laidKinds := [.data], laidTests := true, laidLooks := .later }
def PostSizeUptoCardSaid : Prop := Claim7.holds Tryd.pinned (.plain (OpenSpec.upto postSizeSpec)) postSizeUptoCard

/-- THE SECOND FORM's CARD OF 'shallotlaw20.CoordSuspects'. -/
def coordSuspectsUptoCard : Claim7 := { stood := { row := coordSuspectsUptoRow, standIns := [], harness := (true, "1f29b3bf62772d9f27ecf04081022636aea2fc47539ed127fe193a6e3c07bdf0"), looks := false }, kinds := [], alts := [], laidByText := true, laidKinds := [.data], laidTests := true, laidLooks := .later }
def CoordSuspectsUptoCardSaid : Prop := Claim7.holds Tryd.pinned (.plain (OpenSpec.upto coordSuspectsSpec)) coordSuspectsUptoCard

/-- THE SECOND FORM's CARD OF 'shallotlaw15.PostPair'. -/
def postPairUptoCard : Claim7 := { stood := { row := postPairUptoRow, standIns := [], harness := (true, "1f29b3bf62772d9f27ecf04081022636aea2fc47539ed127fe193a6e3c07bdf0"), looks := false }, kinds := [], alts := [], laidByText := true, laidKinds := [.data], laidTests := true, laidLooks := .later }
def PostPairUptoCardSaid : Prop := Claim7.holds Tryd.pinned (.plain (OpenSpec.upto postPairSpec)) postPairUptoCard

/-- THE SECOND FORM's CARD OF 'shallotlaw20.CoordHalts'. -/
def coordHaltsUptoCard : Claim7 := { stood := { row := coordHaltsUptoRow, standIns := [], harness := (true, "1f29b3bf62772d9f27ecf04081022636aea2fc47539ed127fe193a6e3c07bdf0"), looks := false }, kinds := [], alts := [], laidByText := true, laidKinds := [.data], laidTests := true, laidLooks := .later }
def CoordHaltsUptoCardSaid : Prop := Claim7.holds Tryd.pinned (.plain (OpenSpec.upto coordHaltsSpec)) coordHaltsUptoCard

/-- THE SECOND FORM's CARD OF 'shallotlaw20.CoordAnnounces'. -/
def coordAnnouncesUptoCard : Claim7 := { stood := { row := coordAnnouncesUptoRow, standIns := [], harness := (true, "1f29b3bf62772d9f27ecf04081022636aea2fc47539ed127fe193a6e3c07bdf0"), looks := false }, kinds := [], alts := [], laidByText := true, laidKinds := [.data], laidTests := true, laidLooks := .later }
def CoordAnnouncesUptoCardSaid : Prop := Claim7.holds Tryd.pinned (.plain (OpenSpec.upto coordAnnouncesSpec)) coordAnnouncesUptoCard
end Rows
end Go.Proofs.YtjkbkhjalimebaaDoor
