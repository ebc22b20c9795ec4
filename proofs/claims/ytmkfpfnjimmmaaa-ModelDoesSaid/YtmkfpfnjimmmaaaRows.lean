/-
  No cell of these rows narrows 'for every input' (looked for: loops, veiled, ifaces, maps, wideKeys, modest, calm, conditions, laid).
  DERIVED. THE GIVEN ROWS OF THIS SEAT. 21 by the template 'for every input the law returns true; each argument reads behind the call as it read before'; 0 by the template 'total and deterministic' (their statements: YtmkfpfnjimmmaaaTotals.lean).
  GIVEN WITH THE SEED: the statements are not yours to turn. If you find one false, say at which input.
  Laid BY PROGRAM, IN A SANDBOX (cutbox-rows.mjs): the forced cells as the released guide's own fill.sh prints them over the translation 3b82e884e424e626… (all of the seat's roots in one cut). By AI agents, Wed Nov 11 2026. No macro, syntax, notation, axiom, sorry.
-/
import Derived.Test.YtmkfpfnjimmmaaaChecked
import GoSem.Claim
import GoSem.ClaimJoined
import GoSem.ClaimMapViews
import Derived.JoinedTies
import Derived.KernelRfl
namespace Go.Proofs.Ytmkfpfnjimmmaaa
/- THE CELL 'sum', in the pinned program and in every row, IS THE sha256 OF THE DUMP (.gsa) THAT YtmkfpfnjimmmaaaProg.lean LOADS. Nothing in Lean hashes anything: it is a label: what it is worth is what the hold of that sum in a sandbox is worth. -/
noncomputable def Try.pinned : Pinned := { name := "ytmkfpfnjimmmaaa", sum := "3b82e884e424e62671c50092c6be823a251c6c1769d161e7ae978f914631434a", checked := Try.checked }
namespace Rows
def none {H : Type} : Left H := { results := [], args := [] }

/-- 'shallotlaw03.WordOrder': WHATEVER THE INPUT: true; the input reads as it did. -/
def wordOrderSpec : ChangeSpec := { name := "wordOrder", fn := fun _ => fun
  | [d1, d2, d3] => { results := [.lit (.bool true)], args := [d1, d2, d3] }
  | _ => none }
def wordOrderRow : OpenClaim := { program := "ytmkfpfnjimmmaaa", sum := "3b82e884e424e62671c50092c6be823a251c6c1769d161e7ae978f914631434a", func := "shallot/shallotlaw03.WordOrder", spec := "wordOrder", apart := false }
def WordOrderSaid : Prop := wordOrderRow.holds Try.pinned (OpenSpec.ofChange wordOrderSpec)

/-- ITS FALSE NEIGHBOUR: 'it returns false'. Refute it at one input. -/
def wordOrderWrong : ChangeSpec := { name := "wordOrder", fn := fun _ => fun
  | [d1, d2, d3] => { results := [.lit (.bool false)], args := [d1, d2, d3] }
  | _ => none }
def WordOrderWrongFalsely : Prop := wordOrderRow.holds Try.pinned (OpenSpec.ofChange wordOrderWrong)

/-- 'shallotlaw03.WordParts': WHATEVER THE INPUT: true; the input reads as it did. -/
def wordPartsSpec : ChangeSpec := { name := "wordParts", fn := fun _ => fun
  | [d1, d2] => { results := [.lit (.bool true)], args := [d1, d2] }
  | _ => none }
def wordPartsRow : OpenClaim := { program := "ytmkfpfnjimmmaaa", sum := "3b82e884e424e62671c50092c6be823a251c6c1769d161e7ae978f914631434a", func := "shallot/shallotlaw03.WordParts", spec := "wordParts", apart := false }
def WordPartsSaid : Prop := wordPartsRow.holds Try.pinned (OpenSpec.ofChange wordPartsSpec)

/-- ITS FALSE NEIGHBOUR: 'it returns false'. Refute it at one input. -/
def wordPartsWrong : ChangeSpec := { name := "wordParts", fn := fun _ => fun
  | [d1, d2] => { results := [.lit (.bool false)], args := [d1, d2] }
  | _ => none }
def WordPartsWrongFalsely : Prop := wordPartsRow.holds Try.pinned (OpenSpec.ofChange wordPartsWrong)

/-- 'shallotlaw03.WordNumbers': WHATEVER THE INPUT: true; the input reads as it did. -/
def wordNumbersSpec : ChangeSpec := { name := "wordNumbers", fn := fun _ => fun
  | [d1, d2, d3] => { results := [.lit (.bool true)], args := [d1, d2, d3] }
  | _ => none }
def wordNumbersRow : OpenClaim := { program := "ytmkfpfnjimmmaaa", sum := "3b82e884e424e62671c50092c6be823a251c6c1769d161e7ae978f914631434a", func := "shallot/shallotlaw03.WordNumbers", spec := "wordNumbers", apart := false }
def WordNumbersSaid : Prop := wordNumbersRow.holds Try.pinned (OpenSpec.ofChange wordNumbersSpec)

/-- ITS FALSE NEIGHBOUR: 'it returns false'. Refute it at one input. -/
def wordNumbersWrong : ChangeSpec := { name := "wordNumbers", fn := fun _ => fun
  | [d1, d2, d3] => { results := [.lit (.bool false)], args := [d1, d2, d3] }
  | _ => none }
def WordNumbersWrongFalsely : Prop := wordNumbersRow.holds Try.pinned (OpenSpec.ofChange wordNumbersWrong)

/-- 'shallotlaw03.WordBack': WHATEVER THE INPUT: true; the input reads as it did. -/
def wordBackSpec : ChangeSpec := { name := "wordBack", fn := fun _ => fun
  | [d1, d2, d3] => { results := [.lit (.bool true)], args := [d1, d2, d3] }
  | _ => none }
def wordBackRow : OpenClaim := { program := "ytmkfpfnjimmmaaa", sum := "3b82e884e424e62671c50092c6be823a251c6c1769d161e7ae978f914631434a", func := "shallot/shallotlaw03.WordBack", spec := "wordBack", apart := false }
def WordBackSaid : Prop := wordBackRow.holds Try.pinned (OpenSpec.ofChange wordBackSpec)

/-- ITS FALSE NEIGHBOUR: 'it returns false'. Refute it at one input. -/
def wordBackWrong : ChangeSpec := { name := "wordBack", fn := fun _ => fun
  | [d1, d2, d3] => { results := [.lit (.bool false)], args := [d1, d2, d3] }
  | _ => none }
def WordBackWrongFalsely : Prop := wordBackRow.holds Try.pinned (OpenSpec.ofChange wordBackWrong)

/-- 'shallotlaw03.WordTexts': WHATEVER THE INPUT: true; the input reads as it did. -/
def wordTextsSpec : ChangeSpec := { name := "wordTexts", fn := fun _ => fun
  | [d1, d2, d3] => { results := [.lit (.bool true)], args := [d1, d2, d3] }
  | _ => none }
def wordTextsRow : OpenClaim := { program := "ytmkfpfnjimmmaaa", sum := "3b82e884e424e62671c50092c6be823a251c6c1769d161e7ae978f914631434a", func := "shallot/shallotlaw03.WordTexts", spec := "wordTexts", apart := false }
def WordTextsSaid : Prop := wordTextsRow.holds Try.pinned (OpenSpec.ofChange wordTextsSpec)

/-- ITS FALSE NEIGHBOUR: 'it returns false'. Refute it at one input. -/
def wordTextsWrong : ChangeSpec := { name := "wordTexts", fn := fun _ => fun
  | [d1, d2, d3] => { results := [.lit (.bool false)], args := [d1, d2, d3] }
  | _ => none }
def WordTextsWrongFalsely : Prop := wordTextsRow.holds Try.pinned (OpenSpec.ofChange wordTextsWrong)

/-- 'shallotlaw03.WordFilled': WHATEVER THE INPUT: true; the input reads as it did. -/
def wordFilledSpec : ChangeSpec := { name := "wordFilled", fn := fun _ => fun
  | [d1, d2, d3] => { results := [.lit (.bool true)], args := [d1, d2, d3] }
  | _ => none }
def wordFilledRow : OpenClaim := { program := "ytmkfpfnjimmmaaa", sum := "3b82e884e424e62671c50092c6be823a251c6c1769d161e7ae978f914631434a", func := "shallot/shallotlaw03.WordFilled", spec := "wordFilled", apart := false }
def WordFilledSaid : Prop := wordFilledRow.holds Try.pinned (OpenSpec.ofChange wordFilledSpec)

/-- ITS FALSE NEIGHBOUR: 'it returns false'. Refute it at one input. -/
def wordFilledWrong : ChangeSpec := { name := "wordFilled", fn := fun _ => fun
  | [d1, d2, d3] => { results := [.lit (.bool false)], args := [d1, d2, d3] }
  | _ => none }
def WordFilledWrongFalsely : Prop := wordFilledRow.holds Try.pinned (OpenSpec.ofChange wordFilledWrong)

/-- 'shallotlaw06.NoteSize': WHATEVER THE INPUT: true; the input reads as it did. -/
def noteSizeSpec : ChangeSpec := { name := "noteSize", fn := fun _ => fun
  | [d] => { results := [.lit (.bool true)], args := [d] }
  | _ => none }
def noteSizeRow : OpenClaim := { program := "ytmkfpfnjimmmaaa", sum := "3b82e884e424e62671c50092c6be823a251c6c1769d161e7ae978f914631434a", func := "shallot/shallotlaw06.NoteSize", spec := "noteSize", apart := false }
def NoteSizeSaid : Prop := noteSizeRow.holds Try.pinned (OpenSpec.ofChange noteSizeSpec)

/-- ITS FALSE NEIGHBOUR: 'it returns false'. Refute it at one input. -/
def noteSizeWrong : ChangeSpec := { name := "noteSize", fn := fun _ => fun
  | [d] => { results := [.lit (.bool false)], args := [d] }
  | _ => none }
def NoteSizeWrongFalsely : Prop := noteSizeRow.holds Try.pinned (OpenSpec.ofChange noteSizeWrong)

/-- 'shallotlaw06.NoteKinds': WHATEVER THE INPUT: true; the input reads as it did. -/
def noteKindsSpec : ChangeSpec := { name := "noteKinds", fn := fun _ => fun
  | [d1, d2, d3, d4] => { results := [.lit (.bool true)], args := [d1, d2, d3, d4] }
  | _ => none }
def noteKindsRow : OpenClaim := { program := "ytmkfpfnjimmmaaa", sum := "3b82e884e424e62671c50092c6be823a251c6c1769d161e7ae978f914631434a", func := "shallot/shallotlaw06.NoteKinds", spec := "noteKinds", apart := false }
def NoteKindsSaid : Prop := noteKindsRow.holds Try.pinned (OpenSpec.ofChange noteKindsSpec)

/-- ITS FALSE NEIGHBOUR: 'it returns false'. Refute it at one input. -/
def noteKindsWrong : ChangeSpec := { name := "noteKinds", fn := fun _ => fun
  | [d1, d2, d3, d4] => { results := [.lit (.bool false)], args := [d1, d2, d3, d4] }
  | _ => none }
def NoteKindsWrongFalsely : Prop := noteKindsRow.holds Try.pinned (OpenSpec.ofChange noteKindsWrong)

/-- 'shallotlaw06.NoteTells': WHATEVER THE INPUT: true; the input reads as it did. -/
def noteTellsSpec : ChangeSpec := { name := "noteTells", fn := fun _ => fun
  | [d1, d2] => { results := [.lit (.bool true)], args := [d1, d2] }
  | _ => none }
def noteTellsRow : OpenClaim := { program := "ytmkfpfnjimmmaaa", sum := "3b82e884e424e62671c50092c6be823a251c6c1769d161e7ae978f914631434a", func := "shallot/shallotlaw06.NoteTells", spec := "noteTells", unfollowed := true, recurses := true, apart := false }
def NoteTellsSaid : Prop := noteTellsRow.holds Try.pinned (OpenSpec.ofChange noteTellsSpec)

/-- ITS FALSE NEIGHBOUR: 'it returns false'. Refute it at one input. -/
def noteTellsWrong : ChangeSpec := { name := "noteTells", fn := fun _ => fun
  | [d1, d2] => { results := [.lit (.bool false)], args := [d1, d2] }
  | _ => none }
def NoteTellsWrongFalsely : Prop := noteTellsRow.holds Try.pinned (OpenSpec.ofChange noteTellsWrong)

/-- 'shallotlaw10.LetterParts': WHATEVER THE INPUT: true; the input reads as it did. -/
def letterPartsSpec : ChangeSpec := { name := "letterParts", fn := fun _ => fun
  | [d] => { results := [.lit (.bool true)], args := [d] }
  | _ => none }
def letterPartsRow : OpenClaim := { program := "ytmkfpfnjimmmaaa", sum := "3b82e884e424e62671c50092c6be823a251c6c1769d161e7ae978f914631434a", func := "shallot/shallotlaw10.LetterParts", spec := "letterParts", apart := false }
def LetterPartsSaid : Prop := letterPartsRow.holds Try.pinned (OpenSpec.ofChange letterPartsSpec)

/-- ITS FALSE NEIGHBOUR: 'it returns false'. Refute it at one input. -/
def letterPartsWrong : ChangeSpec := { name := "letterParts", fn := fun _ => fun
  | [d] => { results := [.lit (.bool false)], args := [d] }
  | _ => none }
def LetterPartsWrongFalsely : Prop := letterPartsRow.holds Try.pinned (OpenSpec.ofChange letterPartsWrong)

/-- 'shallotlaw10.LetterOne': WHATEVER THE INPUT: true; the input reads as it did. -/
def letterOneSpec : ChangeSpec := { name := "letterOne", fn := fun _ => fun
  | [d1, d2] => { results := [.lit (.bool true)], args := [d1, d2] }
  | _ => none }
def letterOneRow : OpenClaim := { program := "ytmkfpfnjimmmaaa", sum := "3b82e884e424e62671c50092c6be823a251c6c1769d161e7ae978f914631434a", func := "shallot/shallotlaw10.LetterOne", spec := "letterOne", apart := false }
def LetterOneSaid : Prop := letterOneRow.holds Try.pinned (OpenSpec.ofChange letterOneSpec)

/-- ITS FALSE NEIGHBOUR: 'it returns false'. Refute it at one input. -/
def letterOneWrong : ChangeSpec := { name := "letterOne", fn := fun _ => fun
  | [d1, d2] => { results := [.lit (.bool false)], args := [d1, d2] }
  | _ => none }
def LetterOneWrongFalsely : Prop := letterOneRow.holds Try.pinned (OpenSpec.ofChange letterOneWrong)

/-- 'shallotlaw06.NoteTakes': WHATEVER THE INPUT: true; the input reads as it did. -/
def noteTakesSpec : ChangeSpec := { name := "noteTakes", fn := fun _ => fun
  | [d] => { results := [.lit (.bool true)], args := [d] }
  | _ => none }
def noteTakesRow : OpenClaim := { program := "ytmkfpfnjimmmaaa", sum := "3b82e884e424e62671c50092c6be823a251c6c1769d161e7ae978f914631434a", func := "shallot/shallotlaw06.NoteTakes", spec := "noteTakes", apart := false }
def NoteTakesSaid : Prop := noteTakesRow.holds Try.pinned (OpenSpec.ofChange noteTakesSpec)

/-- ITS FALSE NEIGHBOUR: 'it returns false'. Refute it at one input. -/
def noteTakesWrong : ChangeSpec := { name := "noteTakes", fn := fun _ => fun
  | [d] => { results := [.lit (.bool false)], args := [d] }
  | _ => none }
def NoteTakesWrongFalsely : Prop := noteTakesRow.holds Try.pinned (OpenSpec.ofChange noteTakesWrong)

/-- 'shallotlaw06.NoteCuts': WHATEVER THE INPUT: true; the input reads as it did. -/
def noteCutsSpec : ChangeSpec := { name := "noteCuts", fn := fun _ => fun
  | [d1, d2, d3] => { results := [.lit (.bool true)], args := [d1, d2, d3] }
  | _ => none }
def noteCutsRow : OpenClaim := { program := "ytmkfpfnjimmmaaa", sum := "3b82e884e424e62671c50092c6be823a251c6c1769d161e7ae978f914631434a", func := "shallot/shallotlaw06.NoteCuts", spec := "noteCuts", apart := false }
def NoteCutsSaid : Prop := noteCutsRow.holds Try.pinned (OpenSpec.ofChange noteCutsSpec)

/-- ITS FALSE NEIGHBOUR: 'it returns false'. Refute it at one input. -/
def noteCutsWrong : ChangeSpec := { name := "noteCuts", fn := fun _ => fun
  | [d1, d2, d3] => { results := [.lit (.bool false)], args := [d1, d2, d3] }
  | _ => none }
def NoteCutsWrongFalsely : Prop := noteCutsRow.holds Try.pinned (OpenSpec.ofChange noteCutsWrong)

/-- 'shallotlaw23.ModelDoes': WHATEVER THE INPUT: true; the input reads as it did. -/
def modelDoesSpec : ChangeSpec := { name := "modelDoes", fn := fun _ => fun
  | [d1, d2, d3, d4, d5] => { results := [.lit (.bool true)], args := [d1, d2, d3, d4, d5] }
  | _ => none }
def modelDoesRow : OpenClaim := { program := "ytmkfpfnjimmmaaa", sum := "3b82e884e424e62671c50092c6be823a251c6c1769d161e7ae978f914631434a", func := "shallot/shallotlaw23.ModelDoes", spec := "modelDoes", apart := false }
def ModelDoesSaid : Prop := modelDoesRow.holds Try.pinned (OpenSpec.ofChange modelDoesSpec)

/-- ITS FALSE NEIGHBOUR: 'it returns false'. Refute it at one input. -/
def modelDoesWrong : ChangeSpec := { name := "modelDoes", fn := fun _ => fun
  | [d1, d2, d3, d4, d5] => { results := [.lit (.bool false)], args := [d1, d2, d3, d4, d5] }
  | _ => none }
def ModelDoesWrongFalsely : Prop := modelDoesRow.holds Try.pinned (OpenSpec.ofChange modelDoesWrong)

/-- 'shallotlaw23.ModelOrder': WHATEVER THE INPUT: true; the input reads as it did. -/
def modelOrderSpec : ChangeSpec := { name := "modelOrder", fn := fun _ => fun
  | [d1, d2] => { results := [.lit (.bool true)], args := [d1, d2] }
  | _ => none }
def modelOrderRow : OpenClaim := { program := "ytmkfpfnjimmmaaa", sum := "3b82e884e424e62671c50092c6be823a251c6c1769d161e7ae978f914631434a", func := "shallot/shallotlaw23.ModelOrder", spec := "modelOrder", apart := false }
def ModelOrderSaid : Prop := modelOrderRow.holds Try.pinned (OpenSpec.ofChange modelOrderSpec)

/-- ITS FALSE NEIGHBOUR: 'it returns false'. Refute it at one input. -/
def modelOrderWrong : ChangeSpec := { name := "modelOrder", fn := fun _ => fun
  | [d1, d2] => { results := [.lit (.bool false)], args := [d1, d2] }
  | _ => none }
def ModelOrderWrongFalsely : Prop := modelOrderRow.holds Try.pinned (OpenSpec.ofChange modelOrderWrong)

/-- 'shallotlaw23.ModelApart': WHATEVER THE INPUT: true; the input reads as it did. -/
def modelApartSpec : ChangeSpec := { name := "modelApart", fn := fun _ => fun
  | [d1, d2, d3, d4, d5] => { results := [.lit (.bool true)], args := [d1, d2, d3, d4, d5] }
  | _ => none }
def modelApartRow : OpenClaim := { program := "ytmkfpfnjimmmaaa", sum := "3b82e884e424e62671c50092c6be823a251c6c1769d161e7ae978f914631434a", func := "shallot/shallotlaw23.ModelApart", spec := "modelApart", apart := false }
def ModelApartSaid : Prop := modelApartRow.holds Try.pinned (OpenSpec.ofChange modelApartSpec)

/-- ITS FALSE NEIGHBOUR: 'it returns false'. Refute it at one input. -/
def modelApartWrong : ChangeSpec := { name := "modelApart", fn := fun _ => fun
  | [d1, d2, d3, d4, d5] => { results := [.lit (.bool false)], args := [d1, d2, d3, d4, d5] }
  | _ => none }
def ModelApartWrongFalsely : Prop := modelApartRow.holds Try.pinned (OpenSpec.ofChange modelApartWrong)

/-- 'shallotlaw23.ModelTake': WHATEVER THE INPUT: true; the input reads as it did. -/
def modelTakeSpec : ChangeSpec := { name := "modelTake", fn := fun _ => fun
  | [d1, d2] => { results := [.lit (.bool true)], args := [d1, d2] }
  | _ => none }
def modelTakeRow : OpenClaim := { program := "ytmkfpfnjimmmaaa", sum := "3b82e884e424e62671c50092c6be823a251c6c1769d161e7ae978f914631434a", func := "shallot/shallotlaw23.ModelTake", spec := "modelTake", apart := false }
def ModelTakeSaid : Prop := modelTakeRow.holds Try.pinned (OpenSpec.ofChange modelTakeSpec)

/-- ITS FALSE NEIGHBOUR: 'it returns false'. Refute it at one input. -/
def modelTakeWrong : ChangeSpec := { name := "modelTake", fn := fun _ => fun
  | [d1, d2] => { results := [.lit (.bool false)], args := [d1, d2] }
  | _ => none }
def ModelTakeWrongFalsely : Prop := modelTakeRow.holds Try.pinned (OpenSpec.ofChange modelTakeWrong)

/-- 'shallotlaw06.NoteBack': WHATEVER THE INPUT: true; the input reads as it did. -/
def noteBackSpec : ChangeSpec := { name := "noteBack", fn := fun _ => fun
  | [d1, d2] => { results := [.lit (.bool true)], args := [d1, d2] }
  | _ => none }
def noteBackRow : OpenClaim := { program := "ytmkfpfnjimmmaaa", sum := "3b82e884e424e62671c50092c6be823a251c6c1769d161e7ae978f914631434a", func := "shallot/shallotlaw06.NoteBack", spec := "noteBack", unfollowed := true, recurses := true, apart := false }
def NoteBackSaid : Prop := noteBackRow.holds Try.pinned (OpenSpec.ofChange noteBackSpec)

/-- ITS FALSE NEIGHBOUR: 'it returns false'. Refute it at one input. -/
def noteBackWrong : ChangeSpec := { name := "noteBack", fn := fun _ => fun
  | [d1, d2] => { results := [.lit (.bool false)], args := [d1, d2] }
  | _ => none }
def NoteBackWrongFalsely : Prop := noteBackRow.holds Try.pinned (OpenSpec.ofChange noteBackWrong)

/-- 'shallotlaw10.LetterTakes': WHATEVER THE INPUT: true; the input reads as it did. -/
def letterTakesSpec : ChangeSpec := { name := "letterTakes", fn := fun _ => fun
  | [d] => { results := [.lit (.bool true)], args := [d] }
  | _ => none }
def letterTakesRow : OpenClaim := { program := "ytmkfpfnjimmmaaa", sum := "3b82e884e424e62671c50092c6be823a251c6c1769d161e7ae978f914631434a", func := "shallot/shallotlaw10.LetterTakes", spec := "letterTakes", unfollowed := true, recurses := true, apart := false }
def LetterTakesSaid : Prop := letterTakesRow.holds Try.pinned (OpenSpec.ofChange letterTakesSpec)

/-- ITS FALSE NEIGHBOUR: 'it returns false'. Refute it at one input. -/
def letterTakesWrong : ChangeSpec := { name := "letterTakes", fn := fun _ => fun
  | [d] => { results := [.lit (.bool false)], args := [d] }
  | _ => none }
def LetterTakesWrongFalsely : Prop := letterTakesRow.holds Try.pinned (OpenSpec.ofChange letterTakesWrong)

/-- 'shallotlaw10.LetterCuts': WHATEVER THE INPUT: true; the input reads as it did. -/
def letterCutsSpec : ChangeSpec := { name := "letterCuts", fn := fun _ => fun
  | [d1, d2, d3] => { results := [.lit (.bool true)], args := [d1, d2, d3] }
  | _ => none }
def letterCutsRow : OpenClaim := { program := "ytmkfpfnjimmmaaa", sum := "3b82e884e424e62671c50092c6be823a251c6c1769d161e7ae978f914631434a", func := "shallot/shallotlaw10.LetterCuts", spec := "letterCuts", unfollowed := true, recurses := true, apart := false }
def LetterCutsSaid : Prop := letterCutsRow.holds Try.pinned (OpenSpec.ofChange letterCutsSpec)

/-- ITS FALSE NEIGHBOUR: 'it returns false'. Refute it at one input. -/
def letterCutsWrong : ChangeSpec := { name := "letterCuts", fn := fun _ => fun
  | [d1, d2, d3] => { results := [.lit (.bool false)], args := [d1, d2, d3] }
  | _ => none }
def LetterCutsWrongFalsely : Prop := letterCutsRow.holds Try.pinned (OpenSpec.ofChange letterCutsWrong)

/-- 'shallotlaw10.LetterBack': WHATEVER THE INPUT: true; the input reads as it did. -/
def letterBackSpec : ChangeSpec := { name := "letterBack", fn := fun _ => fun
  | [d1, d2] => { results := [.lit (.bool true)], args := [d1, d2] }
  | _ => none }
def letterBackRow : OpenClaim := { program := "ytmkfpfnjimmmaaa", sum := "3b82e884e424e62671c50092c6be823a251c6c1769d161e7ae978f914631434a", func := "shallot/shallotlaw10.LetterBack", spec := "letterBack", unfollowed := true, recurses := true, apart := false }
def LetterBackSaid : Prop := letterBackRow.holds Try.pinned (OpenSpec.ofChange letterBackSpec)

/-- ITS FALSE NEIGHBOUR: 'it returns false'. Refute it at one input. -/
def letterBackWrong : ChangeSpec := { name := "letterBack", fn := fun _ => fun
  | [d1, d2] => { results := [.lit (.bool false)], args := [d1, d2] }
  | _ => none }
def LetterBackWrongFalsely : Prop := letterBackRow.holds Try.pinned (OpenSpec.ofChange letterBackWrong)

/- THE SECOND FORM. 'bulk': how many values and letters a reading holds, each counted each time it is reached (what is shared counts as often as it is met; a slice's spare places count too). A statement '..UptoSaid' is the law's where the arguments, and the package variables that the reading takes, are together of bulk at most 1048576: NARROWER than '..Said'. Prove '..Said' where nothing that the law and all that it calls make is longer than what came in: it says more and counts as full. Else prove '..UptoSaid'. A law counts once. -/
mutual
def uptoBulk {H : Type} : DataW H → Nat
  | .lit (.string bytes) => bytes.length + 1
  | .lit _ => 1
  | .nil => 1
  | .ptr d => uptoBulk d + 1
  | .slice elems spare => uptoBulkAll elems + uptoBulkAll spare + 1
  | .agg parts => uptoBulkAll parts + 1
  | .iface _ d => uptoBulk d + 1
  | .map entries => uptoBulkEntries entries + 1
  | .held _ => 1
def uptoBulkAll {H : Type} : List (DataW H) → Nat
  | [] => 0
  | d :: r => uptoBulk d + uptoBulkAll r
def uptoBulkEntries {H : Type} : List (Lit × DataW H) → Nat
  | [] => 0
  | x :: r => uptoBulkEntry x + uptoBulkEntries r
def uptoBulkEntry {H : Type} : Lit × DataW H → Nat
  | (.string bytes, d) => bytes.length + uptoBulk d + 1
  | (_, d) => uptoBulk d + 1
 end
def uptoSmall : (H : Type) → List (DataW H) → Bool := fun _ ds => decide (uptoBulkAll ds ≤ 1048576)
def OpenSpec.upto (s : _root_.Go.ChangeSpec) : _root_.Go.OpenSpec := { _root_.Go.OpenSpec.ofChange s with cond := some uptoSmall }

/-- 'shallotlaw03.WordOrder', WHERE WHAT IT READS IS OF BULK AT MOST 1048576: true; the input reads as it did. -/
def wordOrderUptoRow : OpenClaim := { program := "ytmkfpfnjimmmaaa", sum := "3b82e884e424e62671c50092c6be823a251c6c1769d161e7ae978f914631434a", func := "shallot/shallotlaw03.WordOrder", spec := "wordOrder", apart := false, narrowed := true }
def WordOrderUptoSaid : Prop := wordOrderUptoRow.holds Try.pinned (OpenSpec.upto wordOrderSpec)

/-- 'shallotlaw03.WordParts', WHERE WHAT IT READS IS OF BULK AT MOST 1048576: true; the input reads as it did. -/
def wordPartsUptoRow : OpenClaim := { program := "ytmkfpfnjimmmaaa", sum := "3b82e884e424e62671c50092c6be823a251c6c1769d161e7ae978f914631434a", func := "shallot/shallotlaw03.WordParts", spec := "wordParts", apart := false, narrowed := true }
def WordPartsUptoSaid : Prop := wordPartsUptoRow.holds Try.pinned (OpenSpec.upto wordPartsSpec)

/-- 'shallotlaw03.WordNumbers', WHERE WHAT IT READS IS OF BULK AT MOST 1048576: true; the input reads as it did. -/
def wordNumbersUptoRow : OpenClaim := { program := "ytmkfpfnjimmmaaa", sum := "3b82e884e424e62671c50092c6be823a251c6c1769d161e7ae978f914631434a", func := "shallot/shallotlaw03.WordNumbers", spec := "wordNumbers", apart := false, narrowed := true }
def WordNumbersUptoSaid : Prop := wordNumbersUptoRow.holds Try.pinned (OpenSpec.upto wordNumbersSpec)

/-- 'shallotlaw03.WordBack', WHERE WHAT IT READS IS OF BULK AT MOST 1048576: true; the input reads as it did. -/
def wordBackUptoRow : OpenClaim := { program := "ytmkfpfnjimmmaaa", sum := "3b82e884e424e62671c50092c6be823a251c6c1769d161e7ae978f914631434a", func := "shallot/shallotlaw03.WordBack", spec := "wordBack", apart := false, narrowed := true }
def WordBackUptoSaid : Prop := wordBackUptoRow.holds Try.pinned (OpenSpec.upto wordBackSpec)

/-- 'shallotlaw03.WordTexts', WHERE WHAT IT READS IS OF BULK AT MOST 1048576: true; the input reads as it did. -/
def wordTextsUptoRow : OpenClaim := { program := "ytmkfpfnjimmmaaa", sum := "3b82e884e424e62671c50092c6be823a251c6c1769d161e7ae978f914631434a", func := "shallot/shallotlaw03.WordTexts", spec := "wordTexts", apart := false, narrowed := true }
def WordTextsUptoSaid : Prop := wordTextsUptoRow.holds Try.pinned (OpenSpec.upto wordTextsSpec)

/-- 'shallotlaw03.WordFilled', WHERE WHAT IT READS IS OF BULK AT MOST 1048576: true; the input reads as it did. -/
def wordFilledUptoRow : OpenClaim := { program := "ytmkfpfnjimmmaaa", sum := "3b82e884e424e62671c50092c6be823a251c6c1769d161e7ae978f914631434a", func := "shallot/shallotlaw03.WordFilled", spec := "wordFilled", apart := false, narrowed := true }
def WordFilledUptoSaid : Prop := wordFilledUptoRow.holds Try.pinned (OpenSpec.upto wordFilledSpec)

/-- 'shallotlaw06.NoteSize', WHERE WHAT IT READS IS OF BULK AT MOST 1048576: true; the input reads as it did. -/
def noteSizeUptoRow : OpenClaim := { program := "ytmkfpfnjimmmaaa", sum := "3b82e884e424e62671c50092c6be823a251c6c1769d161e7ae978f914631434a", func := "shallot/shallotlaw06.NoteSize", spec := "noteSize", apart := false, narrowed := true }
def NoteSizeUptoSaid : Prop := noteSizeUptoRow.holds Try.pinned (OpenSpec.upto noteSizeSpec)

/-- 'shallotlaw06.NoteKinds', WHERE WHAT IT READS IS OF BULK AT MOST 1048576: true; the input reads as it did. -/
def noteKindsUptoRow : OpenClaim := { program := "ytmkfpfnjimmmaaa", sum := "3b82e884e424e62671c50092c6be823a251c6c1769d161e7ae978f914631434a", func := "shallot/shallotlaw06.NoteKinds", spec := "noteKinds", apart := false, narrowed := true }
def NoteKindsUptoSaid : Prop := noteKindsUptoRow.holds Try.pinned (OpenSpec.upto noteKindsSpec)

/-- 'shallotlaw06.NoteTells', WHERE WHAT IT READS IS OF BULK AT MOST 1048576: true; the input reads as it did. -/
def noteTellsUptoRow : OpenClaim := { program := "ytmkfpfnjimmmaaa", sum := "3b82e884e424e62671c50092c6be823a251c6c1769d161e7ae978f914631434a", func := "shallot/shallotlaw06.NoteTells", spec := "noteTells", unfollowed := true, recurses := true, apart := false, narrowed := true }
def NoteTellsUptoSaid : Prop := noteTellsUptoRow.holds Try.pinned (OpenSpec.upto noteTellsSpec)

/-- 'shallotlaw10.LetterParts', WHERE WHAT IT READS IS OF BULK AT MOST 1048576: true; the input reads as it did. -/
def letterPartsUptoRow : OpenClaim := { program := "ytmkfpfnjimmmaaa", sum := "3b82e884e424e62671c50092c6be823a251c6c1769d161e7ae978f914631434a", func := "shallot/shallotlaw10.LetterParts", spec := "letterParts", apart := false, narrowed := true }
def LetterPartsUptoSaid : Prop := letterPartsUptoRow.holds Try.pinned (OpenSpec.upto letterPartsSpec)

/-- 'shallotlaw10.LetterOne', WHERE WHAT IT READS IS OF BULK AT MOST 1048576: true; the input reads as it did. -/
def letterOneUptoRow : OpenClaim := { program := "ytmkfpfnjimmmaaa", sum := "3b82e884e424e62671c50092c6be823a251c6c1769d161e7ae978f914631434a", func := "shallot/shallotlaw10.LetterOne", spec := "letterOne", apart := false, narrowed := true }
def LetterOneUptoSaid : Prop := letterOneUptoRow.holds Try.pinned (OpenSpec.upto letterOneSpec)

/-- 'shallotlaw06.NoteTakes', WHERE WHAT IT READS IS OF BULK AT MOST 1048576: true; the input reads as it did. -/
def noteTakesUptoRow : OpenClaim := { program := "ytmkfpfnjimmmaaa", sum := "3b82e884e424e62671c50092c6be823a251c6c1769d161e7ae978f914631434a", func := "shallot/shallotlaw06.NoteTakes", spec := "noteTakes", apart := false, narrowed := true }
def NoteTakesUptoSaid : Prop := noteTakesUptoRow.holds Try.pinned (OpenSpec.upto noteTakesSpec)

/-- 'shallotlaw06.NoteCuts', WHERE WHAT IT READS IS OF BULK AT MOST 1048576: true; the input reads as it did. -/
def noteCutsUptoRow : OpenClaim := { program := "ytmkfpfnjimmmaaa", sum := "3b82e884e424e62671c50092c6be823a251c6c1769d161e7ae978f914631434a", func := "shallot/shallotlaw06.NoteCuts", spec := "noteCuts", apart := false, narrowed := true }
def NoteCutsUptoSaid : Prop := noteCutsUptoRow.holds Try.pinned (OpenSpec.upto noteCutsSpec)

/-- 'shallotlaw23.ModelDoes', WHERE WHAT IT READS IS OF BULK AT MOST 1048576: true; the input reads as it did. -/
def modelDoesUptoRow : OpenClaim := { program := "ytmkfpfnjimmmaaa", sum := "3b82e884e424e62671c50092c6be823a251c6c1769d161e7ae978f914631434a", func := "shallot/shallotlaw23.ModelDoes", spec := "modelDoes", apart := false, narrowed := true }
def ModelDoesUptoSaid : Prop := modelDoesUptoRow.holds Try.pinned (OpenSpec.upto modelDoesSpec)

/-- 'shallotlaw23.ModelOrder', WHERE WHAT IT READS IS OF BULK AT MOST 1048576: true; the input reads as it did. -/
def modelOrderUptoRow : OpenClaim := { program := "ytmkfpfnjimmmaaa", sum := "3b82e884e424e62671c50092c6be823a251c6c1769d161e7ae978f914631434a", func := "shallot/shallotlaw23.ModelOrder", spec := "modelOrder", apart := false, narrowed := true }
def ModelOrderUptoSaid : Prop := modelOrderUptoRow.holds Try.pinned (OpenSpec.upto modelOrderSpec)

/-- 'shallotlaw23.ModelApart', WHERE WHAT IT READS IS OF BULK AT MOST 1048576: true; the input reads as it did. -/
def modelApartUptoRow : OpenClaim := { program := "ytmkfpfnjimmmaaa", sum := "3b82e884e424e62671c50092c6be823a251c6c1769d161e7ae978f914631434a", func := "shallot/shallotlaw23.ModelApart", spec := "modelApart", apart := false, narrowed := true }
def ModelApartUptoSaid : Prop := modelApartUptoRow.holds Try.pinned (OpenSpec.upto modelApartSpec)

/-- 'shallotlaw23.ModelTake', WHERE WHAT IT READS IS OF BULK AT MOST 1048576: true; the input reads as it did. -/
def modelTakeUptoRow : OpenClaim := { program := "ytmkfpfnjimmmaaa", sum := "3b82e884e424e62671c50092c6be823a251c6c1769d161e7ae978f914631434a", func := "shallot/shallotlaw23.ModelTake", spec := "modelTake", apart := false, narrowed := true }
def ModelTakeUptoSaid : Prop := modelTakeUptoRow.holds Try.pinned (OpenSpec.upto modelTakeSpec)

/-- 'shallotlaw06.NoteBack', WHERE WHAT IT READS IS OF BULK AT MOST 1048576: true; the input reads as it did. -/
def noteBackUptoRow : OpenClaim := { program := "ytmkfpfnjimmmaaa", sum := "3b82e884e424e62671c50092c6be823a251c6c1769d161e7ae978f914631434a", func := "shallot/shallotlaw06.NoteBack", spec := "noteBack", unfollowed := true, recurses := true, apart := false, narrowed := true }
def NoteBackUptoSaid : Prop := noteBackUptoRow.holds Try.pinned (OpenSpec.upto noteBackSpec)

/-- 'shallotlaw10.LetterTakes', WHERE WHAT IT READS IS OF BULK AT MOST 1048576: true; the input reads as it did. -/
def letterTakesUptoRow : OpenClaim := { program := "ytmkfpfnjimmmaaa", sum := "3b82e884e424e62671c50092c6be823a251c6c1769d161e7ae978f914631434a", func := "shallot/shallotlaw10.LetterTakes", spec := "letterTakes", unfollowed := true, recurses := true, apart := false, narrowed := true }
def LetterTakesUptoSaid : Prop := letterTakesUptoRow.holds Try.pinned (OpenSpec.upto letterTakesSpec)

/-- 'shallotlaw10.LetterCuts', WHERE WHAT IT READS IS OF BULK AT MOST 1048576: true; the input reads as it did. -/
def letterCutsUptoRow : OpenClaim := { program := "ytmkfpfnjimmmaaa", sum := "3b82e884e424e62671c50092c6be823a251c6c1769d161e7ae978f914631434a", func := "shallot/shallotlaw10.LetterCuts", spec := "letterCuts", unfollowed := true, recurses := true, apart := false, narrowed := true }
def LetterCutsUptoSaid : Prop := letterCutsUptoRow.holds Try.pinned (OpenSpec.upto letterCutsSpec)

/-- 'shallotlaw10.LetterBack', WHERE WHAT IT READS IS OF BULK AT MOST 1048576: true; the input reads as it did. -/
def letterBackUptoRow : OpenClaim := { program := "ytmkfpfnjimmmaaa", sum := "3b82e884e424e62671c50092c6be823a251c6c1769d161e7ae978f914631434a", func := "shallot/shallotlaw10.LetterBack", spec := "letterBack", unfollowed := true, recurses := true, apart := false, narrowed := true }
def LetterBackUptoSaid : Prop := letterBackUptoRow.holds Try.pinned (OpenSpec.upto letterBackSpec)

end Rows
end Go.Proofs.Ytmkfpfnjimmmaaa
