/-
  DERIVED. GIVEN WITH THE SEED: THE CARDS: each row of YtjkbkhjalimebaaGreatDoorRows.lean that lists a variable, with what it lists TIED to the program's text (the seventh form; the later family's looks); each row that meets fmt, with fmt's text TOLD by the authors' own Lean function (tested against real Go, not proved from fmt's source: count such statements apart). THE CARD IS WHAT COUNTS. Prove the row's statement (the work); the ties are given (YtjkbkhjalimebaaGreatDoorTie.lean); close each card by the builder's one call (the guide's Derived/Test/ToyasCard.lean, 'card_holds'). Laid BY PROGRAM, IN A SANDBOX (cutbox-door.mjs). By AI agents, Wed Nov 11 2026. No macro, syntax, notation, axiom, sorry.
-/
import Derived.Test.YtjkbkhjalimebaaGreatDoorRows
import GoSem.ClaimSeven
namespace Go.Proofs.YtjkbkhjalimebaaGreatDoor
namespace Rows

/-- THE TIED CARD OF 'shallotlaw18.ClientAlike'. -/
def clientAlikeCard : Claim7 := { stood := { row := clientAlikeRow, standIns := [], harness := (true, "5c2b7bc2f7b4aadd50a55503bc8b57766fc3481b9742787c97ef78ee5b39fa28"), looks := false }, kinds := [], alts := [], laidByText := true, laidKinds := [.data], laidTests := true, laidLooks := .later }
def ClientAlikeCardSaid : Prop := Claim7.holds Tryz.pinned (.plain (OpenSpec.ofChange clientAlikeSpec)) clientAlikeCard

/-- THE TIED CARD OF 'shallotlaw18.ClientKeeps'. -/
def clientKeepsCard : Claim7 := { stood := { row := clientKeepsRow, standIns := [], harness := (true, "5c2b7bc2f7b4aadd50a55503bc8b57766fc3481b9742787c97ef78ee5b39fa28"), looks := false }, kinds := [], alts := [], laidByText := true, laidKinds := [.data], laidTests := true, laidLooks := .later }
def ClientKeepsCardSaid : Prop := Claim7.holds Tryz.pinned (.plain (OpenSpec.ofChange clientKeepsSpec)) clientKeepsCard

/-- THE TIED CARD OF 'shallotlaw18.ClientOnce'. -/
def clientOnceCard : Claim7 := { stood := { row := clientOnceRow, standIns := [], harness := (true, "5c2b7bc2f7b4aadd50a55503bc8b57766fc3481b9742787c97ef78ee5b39fa28"), looks := false }, kinds := [], alts := [], laidByText := true, laidKinds := [.data], laidTests := true, laidLooks := .later }
def ClientOnceCardSaid : Prop := Claim7.holds Tryz.pinned (.plain (OpenSpec.ofChange clientOnceSpec)) clientOnceCard

/-- THE SECOND FORM's CARD OF 'shallotlaw18.ClientAlike'. -/
def clientAlikeUptoCard : Claim7 := { stood := { row := clientAlikeUptoRow, standIns := [], harness := (true, "5c2b7bc2f7b4aadd50a55503bc8b57766fc3481b9742787c97ef78ee5b39fa28"), looks := false }, kinds := [], alts := [], laidByText := true, laidKinds := [.data], laidTests := true, laidLooks := .later }
def ClientAlikeUptoCardSaid : Prop := Claim7.holds Tryz.pinned (.plain (OpenSpec.upto clientAlikeSpec)) clientAlikeUptoCard

/-- THE SECOND FORM's CARD OF 'shallotlaw18.ClientKeeps'. -/
def clientKeepsUptoCard : Claim7 := { stood := { row := clientKeepsUptoRow, standIns := [], harness := (true, "5c2b7bc2f7b4aadd50a55503bc8b57766fc3481b9742787c97ef78ee5b39fa28"), looks := false }, kinds := [], alts := [], laidByText := true, laidKinds := [.data], laidTests := true, laidLooks := .later }
def ClientKeepsUptoCardSaid : Prop := Claim7.holds Tryz.pinned (.plain (OpenSpec.upto clientKeepsSpec)) clientKeepsUptoCard

/-- THE SECOND FORM's CARD OF 'shallotlaw18.ClientOnce'. -/
def clientOnceUptoCard : Claim7 := { stood := { row := clientOnceUptoRow, standIns := [], harness := (true, "5c2b7bc2f7b4aadd50a55503bc8b57766fc3481b9742787c97ef78ee5b39fa28"), looks := false }, kinds := [], alts := [], laidByText := true, laidKinds := [.data], laidTests := true, laidLooks := .later }
def ClientOnceUptoCardSaid : Prop := Claim7.holds Tryz.pinned (.plain (OpenSpec.upto clientOnceSpec)) clientOnceUptoCard
end Rows
end Go.Proofs.YtjkbkhjalimebaaGreatDoor
