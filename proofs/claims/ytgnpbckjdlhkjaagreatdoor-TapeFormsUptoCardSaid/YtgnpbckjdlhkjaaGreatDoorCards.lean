/-
  DERIVED. GIVEN WITH THE SEED: THE CARDS: each row of YtgnpbckjdlhkjaaGreatDoorRows.lean that lists a variable, with what it lists TIED to the program's text (the seventh form; the later family's looks); each row that meets fmt, with fmt's text TOLD by the authors' own Lean function (tested against real Go, not proved from fmt's source: count such statements apart). THE CARD IS WHAT COUNTS. Prove the row's statement (the work); the ties are given (YtgnpbckjdlhkjaaGreatDoorTie.lean); close each card by the builder's one call (the guide's Derived/Test/ToyasCard.lean, 'card_holds'). Laid BY PROGRAM, IN A SANDBOX (cutbox-door.mjs). By AI agents, Wed Nov 11 2026. No macro, syntax, notation, axiom, sorry.
-/
import Derived.Test.YtgnpbckjdlhkjaaGreatDoorRows
import GoSem.ClaimSeven
namespace Go.Proofs.YtgnpbckjdlhkjaaGreatDoor
namespace Rows

/-- THE TIED CARD OF 'gimletlaw21.TapeForms'. -/
def tapeFormsCard : Claim7 := { stood := { row := tapeFormsRow, standIns := [], harness := (true, "f89f1977530e7e67dcf8786b33ed0483060aa0a4ad8b4b48a6fb39fceb6f0969"), looks := true }, kinds := [], alts := [], laidByText := true, laidKinds := [.data, .widerDeep, .pinned], laidTests := true, laidLooks := .later }
def TapeFormsCardSaid : Prop := Claim7.holds Tryz.pinned (.plain (OpenSpec.ofChange tapeFormsSpec)) tapeFormsCard

/-- THE SECOND FORM's CARD OF 'gimletlaw21.TapeForms'. -/
def tapeFormsUptoCard : Claim7 := { stood := { row := tapeFormsUptoRow, standIns := [], harness := (true, "f89f1977530e7e67dcf8786b33ed0483060aa0a4ad8b4b48a6fb39fceb6f0969"), looks := true }, kinds := [], alts := [], laidByText := true, laidKinds := [.data, .widerDeep, .pinned], laidTests := true, laidLooks := .later }
def TapeFormsUptoCardSaid : Prop := Claim7.holds Tryz.pinned (.plain (OpenSpec.upto tapeFormsSpec)) tapeFormsUptoCard
end Rows
end Go.Proofs.YtgnpbckjdlhkjaaGreatDoor
