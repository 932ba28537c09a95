/-
  DERIVED. GIVEN WITH THE SEED: THE CARDS: each row of YtklpihaelaagpaaDoorRows.lean that lists a variable, with what it lists TIED to the program's text (the seventh form; the later family's looks); each row that meets fmt, with fmt's text TOLD by the authors' own Lean function (tested against real Go, not proved from fmt's source: count such statements apart). THE CARD IS WHAT COUNTS. Prove the row's statement (the work); the ties are given (YtklpihaelaagpaaDoorTie.lean); close each card by the builder's one call (the guide's Derived/Test/ToyasCard.lean, 'card_holds'). Laid BY PROGRAM, IN A SANDBOX (cutbox-door.mjs). By AI agents, Wed Nov 11 2026. No macro, syntax, notation, axiom, sorry.
-/
import Derived.Test.YtklpihaelaagpaaDoorRows
import GoSem.ClaimSeven
namespace Go.Proofs.YtklpihaelaagpaaDoor
namespace Rows

/-- THE TIED CARD OF 'gimletlaw15.HalfLogic'. -/
def halfLogicCard : Claim7 := { stood := { row := halfLogicRow, standIns := [], harness := (true, "0e79c8615e3845b46d8872932247c7ae183e863ace3be81d44ca880da030dcf7"), looks := false }, kinds := [], alts := [], laidByText := true, laidKinds := [.data, .widerDeep, .pinned], laidTests := true, laidLooks := .later }
def HalfLogicCardSaid : Prop := Claim7.holds Tryd.pinned (.plain (OpenSpec.ofChange halfLogicSpec)) halfLogicCard

/-- THE SECOND FORM's CARD OF 'gimletlaw15.HalfLogic'. -/
def halfLogicUptoCard : Claim7 := { stood := { row := halfLogicUptoRow, standIns := [], harness := (true, "0e79c8615e3845b46d8872932247c7ae183e863ace3be81d44ca880da030dcf7"), looks := false }, kinds := [], alts := [], laidByText := true, laidKinds := [.data, .widerDeep, .pinned], laidTests := true, laidLooks := .later }
def HalfLogicUptoCardSaid : Prop := Claim7.holds Tryd.pinned (.plain (OpenSpec.upto halfLogicSpec)) halfLogicUptoCard
end Rows
end Go.Proofs.YtklpihaelaagpaaDoor
