/-
  DERIVED. GIVEN WITH THE SEED: THE CARDS: each row of YtpoihpehdlogbaaDoorRows.lean that lists a variable, with what it lists TIED to the program's text (the seventh form; the later family's looks); each row that meets fmt, with fmt's text TOLD by the authors' own Lean function (tested against real Go, not proved from fmt's source: count such statements apart). THE CARD IS WHAT COUNTS. Prove the row's statement (the work); the ties are given (YtpoihpehdlogbaaDoorTie.lean); close each card by the builder's one call (the guide's Derived/Test/ToyasCard.lean, 'card_holds'). Laid BY PROGRAM, IN A SANDBOX (cutbox-door.mjs). By AI agents, Wed Nov 11 2026. No macro, syntax, notation, axiom, sorry.
-/
import Derived.Test.YtpoihpehdlogbaaDoorRows
import GoSem.ClaimSeven
namespace Go.Proofs.YtpoihpehdlogbaaDoor
namespace Rows

/-- THE TIED CARD OF 'watchkeeperlaw07.LexBack'. -/
def lexBackCard : Claim7 := { stood := { row := lexBackRow, standIns := [], harness := (true, "56d36c70895e3c84ee832ed711dcf9d4fc8cd15690157f6784d3fe86b6a986b5"), looks := true }, kinds := [], alts := [], laidByText := true, laidKinds := [.listed, .data], laidTests := true, laidLooks := .later }
def LexBackCardSaid : Prop := Claim7.holds Tryd.pinned (.plain (OpenSpec.ofChange lexBackSpec)) lexBackCard

/-- THE TIED CARD OF 'watchkeeperlaw07.LexBlanks'. -/
def lexBlanksCard : Claim7 := { stood := { row := lexBlanksRow, standIns := [], harness := (true, "56d36c70895e3c84ee832ed711dcf9d4fc8cd15690157f6784d3fe86b6a986b5"), looks := true }, kinds := [], alts := [], laidByText := true, laidKinds := [.listed, .data], laidTests := true, laidLooks := .later }
def LexBlanksCardSaid : Prop := Claim7.holds Tryd.pinned (.plain (OpenSpec.ofChange lexBlanksSpec)) lexBlanksCard

/-- THE TIED CARD OF 'watchkeeperlaw07.LexJoin'. -/
def lexJoinCard : Claim7 := { stood := { row := lexJoinRow, standIns := [], harness := (true, "56d36c70895e3c84ee832ed711dcf9d4fc8cd15690157f6784d3fe86b6a986b5"), looks := true }, kinds := [], alts := [], laidByText := true, laidKinds := [.listed, .data], laidTests := true, laidLooks := .later }
def LexJoinCardSaid : Prop := Claim7.holds Tryd.pinned (.plain (OpenSpec.ofChange lexJoinSpec)) lexJoinCard

/-- THE TIED CARD OF 'watchkeeperlaw07.LexNumbers'. -/
def lexNumbersCard : Claim7 := { stood := { row := lexNumbersRow, standIns := [], harness := (true, "56d36c70895e3c84ee832ed711dcf9d4fc8cd15690157f6784d3fe86b6a986b5"), looks := true }, kinds := [], alts := [], laidByText := true, laidKinds := [.listed, .data], laidTests := true, laidLooks := .later }
def LexNumbersCardSaid : Prop := Claim7.holds Tryd.pinned (.plain (OpenSpec.ofChange lexNumbersSpec)) lexNumbersCard

/-- THE SECOND FORM's CARD OF 'watchkeeperlaw07.LexBack'. -/
def lexBackUptoCard : Claim7 := { stood := { row := lexBackUptoRow, standIns := [], harness := (true, "56d36c70895e3c84ee832ed711dcf9d4fc8cd15690157f6784d3fe86b6a986b5"), looks := true }, kinds := [], alts := [], laidByText := true, laidKinds := [.listed, .data], laidTests := true, laidLooks := .later }
def LexBackUptoCardSaid : Prop := Claim7.holds Tryd.pinned (.plain (OpenSpec.upto lexBackSpec)) lexBackUptoCard

/-- THE SECOND FORM's CARD OF 'watchkeeperlaw07.LexBlanks'. -/
def lexBlanksUptoCard : Claim7 := { stood := { row := lexBlanksUptoRow, standIns := [], harness := (true, "56d36c70895e3c84ee832ed711dcf9d4fc8cd15690157f6784d3fe86b6a986b5"), looks := true }, kinds := [], alts := [], laidByText := true, laidKinds := [.listed, .data], laidTests := true, laidLooks := .later }
def LexBlanksUptoCardSaid : Prop := Claim7.holds Tryd.pinned (.plain (OpenSpec.upto lexBlanksSpec)) lexBlanksUptoCard

/-- THE SECOND FORM's CARD OF 'watchkeeperlaw07.LexJoin'. -/
def lexJoinUptoCard : Claim7 := { stood := { row := lexJoinUptoRow, standIns := [], harness := (true, "56d36c70895e3c84ee832ed711dcf9d4fc8cd15690157f6784d3fe86b6a986b5"), looks := true }, kinds := [], alts := [], laidByText := true, laidKinds := [.listed, .data], laidTests := true, laidLooks := .later }
def LexJoinUptoCardSaid : Prop := Claim7.holds Tryd.pinned (.plain (OpenSpec.upto lexJoinSpec)) lexJoinUptoCard

/-- THE SECOND FORM's CARD OF 'watchkeeperlaw07.LexNumbers'. -/
def lexNumbersUptoCard : Claim7 := { stood := { row := lexNumbersUptoRow, standIns := [], harness := (true, "56d36c70895e3c84ee832ed711dcf9d4fc8cd15690157f6784d3fe86b6a986b5"), looks := true }, kinds := [], alts := [], laidByText := true, laidKinds := [.listed, .data], laidTests := true, laidLooks := .later }
def LexNumbersUptoCardSaid : Prop := Claim7.holds Tryd.pinned (.plain (OpenSpec.upto lexNumbersSpec)) lexNumbersUptoCard
end Rows
end Go.Proofs.YtpoihpehdlogbaaDoor
