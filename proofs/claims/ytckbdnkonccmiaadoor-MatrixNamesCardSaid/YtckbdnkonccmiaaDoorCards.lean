/-
  DERIVED. GIVEN WITH THE SEED: THE CARDS: each row of YtckbdnkonccmiaaDoorRows.lean that lists a variable, with what it lists TIED to the program's text (the seventh form; the later family's looks); each row that meets fmt, with fmt's text TOLD by the authors' own Lean function (tested against real Go, not proved from fmt's source: count such statements apart). THE CARD IS WHAT COUNTS. Prove the row's statement (the work); the ties are given (YtckbdnkonccmiaaDoorTie.lean); close each card by the builder's one call (the guide's Derived/Test/ToyasCard.lean, 'card_holds'). Laid BY PROGRAM, IN A SANDBOX (cutbox-door.mjs). By AI agents, Wed Nov 11 2026. No macro, syntax, notation, axiom, sorry.
-/
import Derived.Test.YtckbdnkonccmiaaDoorRows
import GoSem.ClaimSeven
namespace Go.Proofs.YtckbdnkonccmiaaDoor
namespace Rows

/-- THE TIED CARD OF 'watchkeeperlaw08.MatrixBack'. -/
def matrixBackCard : Claim7 := { stood := { row := matrixBackRow, standIns := [], harness := (true, "2e51ec11fbe25be229405d35b7591b6f41005edbb318e5f6cd2f665cf9aeffca"), looks := true }, kinds := [], alts := [], laidByText := true, laidKinds := [.data, .data, .data, .listed, .data], laidTests := true, laidLooks := .later }
def MatrixBackCardSaid : Prop := Claim7.holds Tryd.pinned (.plain (OpenSpec.ofChange matrixBackSpec)) matrixBackCard

/-- THE TIED CARD OF 'watchkeeperlaw08.MatrixLines'. -/
def matrixLinesCard : Claim7 := { stood := { row := matrixLinesRow, standIns := [], harness := (true, "2e51ec11fbe25be229405d35b7591b6f41005edbb318e5f6cd2f665cf9aeffca"), looks := true }, kinds := [], alts := [], laidByText := true, laidKinds := [.data, .data, .data, .listed, .data], laidTests := true, laidLooks := .later }
def MatrixLinesCardSaid : Prop := Claim7.holds Tryd.pinned (.plain (OpenSpec.ofChange matrixLinesSpec)) matrixLinesCard

/-- THE TIED CARD OF 'watchkeeperlaw08.MatrixNames'. -/
def matrixNamesCard : Claim7 := { stood := { row := matrixNamesRow, standIns := [], harness := (true, "2e51ec11fbe25be229405d35b7591b6f41005edbb318e5f6cd2f665cf9aeffca"), looks := true }, kinds := [], alts := [], laidByText := true, laidKinds := [.data, .data, .data, .listed, .data], laidTests := true, laidLooks := .later }
def MatrixNamesCardSaid : Prop := Claim7.holds Tryd.pinned (.plain (OpenSpec.ofChange matrixNamesSpec)) matrixNamesCard

/-- THE TIED CARD OF 'watchkeeperlaw08.MatrixSwaps'. -/
def matrixSwapsCard : Claim7 := { stood := { row := matrixSwapsRow, standIns := [], harness := (true, "2e51ec11fbe25be229405d35b7591b6f41005edbb318e5f6cd2f665cf9aeffca"), looks := true }, kinds := [], alts := [], laidByText := true, laidKinds := [.data, .data, .data, .listed, .data], laidTests := true, laidLooks := .later }
def MatrixSwapsCardSaid : Prop := Claim7.holds Tryd.pinned (.plain (OpenSpec.ofChange matrixSwapsSpec)) matrixSwapsCard

/-- THE TIED CARD OF 'watchkeeperlaw08.MatrixTwice'. -/
def matrixTwiceCard : Claim7 := { stood := { row := matrixTwiceRow, standIns := [], harness := (true, "2e51ec11fbe25be229405d35b7591b6f41005edbb318e5f6cd2f665cf9aeffca"), looks := true }, kinds := [], alts := [], laidByText := true, laidKinds := [.data, .data, .data, .listed, .data], laidTests := true, laidLooks := .later }
def MatrixTwiceCardSaid : Prop := Claim7.holds Tryd.pinned (.plain (OpenSpec.ofChange matrixTwiceSpec)) matrixTwiceCard

/-- THE SECOND FORM's CARD OF 'watchkeeperlaw08.MatrixBack'. -/
def matrixBackUptoCard : Claim7 := { stood := { row := matrixBackUptoRow, standIns := [], harness := (true, "2e51ec11fbe25be229405d35b7591b6f41005edbb318e5f6cd2f665cf9aeffca"), looks := true }, kinds := [], alts := [], laidByText := true, laidKinds := [.data, .data, .data, .listed, .data], laidTests := true, laidLooks := .later }
def MatrixBackUptoCardSaid : Prop := Claim7.holds Tryd.pinned (.plain (OpenSpec.upto matrixBackSpec)) matrixBackUptoCard

/-- THE SECOND FORM's CARD OF 'watchkeeperlaw08.MatrixLines'. -/
def matrixLinesUptoCard : Claim7 := { stood := { row := matrixLinesUptoRow, standIns := [], harness := (true, "2e51ec11fbe25be229405d35b7591b6f41005edbb318e5f6cd2f665cf9aeffca"), looks := true }, kinds := [], alts := [], laidByText := true, laidKinds := [.data, .data, .data, .listed, .data], laidTests := true, laidLooks := .later }
def MatrixLinesUptoCardSaid : Prop := Claim7.holds Tryd.pinned (.plain (OpenSpec.upto matrixLinesSpec)) matrixLinesUptoCard

/-- THE SECOND FORM's CARD OF 'watchkeeperlaw08.MatrixNames'. -/
def matrixNamesUptoCard : Claim7 := { stood := { row := matrixNamesUptoRow, standIns := [], harness := (true, "2e51ec11fbe25be229405d35b7591b6f41005edbb318e5f6cd2f665cf9aeffca"), looks := true }, kinds := [], alts := [], laidByText := true, laidKinds := [.data, .data, .data, .listed, .data], laidTests := true, laidLooks := .later }
def MatrixNamesUptoCardSaid : Prop := Claim7.holds Tryd.pinned (.plain (OpenSpec.upto matrixNamesSpec)) matrixNamesUptoCard

/-- THE SECOND FORM's CARD OF 'watchkeeperlaw08.MatrixSwaps'. -/
def matrixSwapsUptoCard : Claim7 := { stood := { row := matrixSwapsUptoRow, standIns := [], harness := (true, "2e51ec11fbe25be229405d35b7591b6f41005edbb318e5f6cd2f665cf9aeffca"), looks := true }, kinds := [], alts := [], laidByText := true, laidKinds := [.data, .data, .data, .listed, .data], laidTests := true, laidLooks := .later }
def MatrixSwapsUptoCardSaid : Prop := Claim7.holds Tryd.pinned (.plain (OpenSpec.upto matrixSwapsSpec)) matrixSwapsUptoCard

/-- THE SECOND FORM's CARD OF 'watchkeeperlaw08.MatrixTwice'. -/
def matrixTwiceUptoCard : Claim7 := { stood := { row := matrixTwiceUptoRow, standIns := [], harness := (true, "2e51ec11fbe25be229405d35b7591b6f41005edbb318e5f6cd2f665cf9aeffca"), looks := true }, kinds := [], alts := [], laidByText := true, laidKinds := [.data, .data, .data, .listed, .data], laidTests := true, laidLooks := .later }
def MatrixTwiceUptoCardSaid : Prop := Claim7.holds Tryd.pinned (.plain (OpenSpec.upto matrixTwiceSpec)) matrixTwiceUptoCard
end Rows
end Go.Proofs.YtckbdnkonccmiaaDoor
