/-
  DERIVED. GIVEN WITH THE SEED: THE CARDS: each row of YtekoflcioooncaaDoorRows.lean that lists a variable, with what it lists TIED to the program's text (the seventh form; the later family's looks); each row that meets fmt, with fmt's text TOLD by the authors' own Lean function (tested against real Go, not proved from fmt's source: count such statements apart). THE CARD IS WHAT COUNTS. Prove the row's statement (the work); the ties are given (YtekoflcioooncaaDoorTie.lean); close each card by the builder's one call (the guide's Derived/Test/ToyasCard.lean, 'card_holds'). Laid BY PROGRAM, IN A SANDBOX (cutbox-door.mjs). By AI agents, Wed Nov 11 2026. No macro, syntax, notation, axiom, sorry.
-/
import Derived.Test.YtekoflcioooncaaDoorRows
import GoSem.ClaimSeven
namespace Go.Proofs.YtekoflcioooncaaDoor
namespace Rows

/-- THE TIED CARD OF 'gimletlaw12.MeanSelects'. -/
def meanSelectsCard : Claim7 := { stood := { row := meanSelectsRow, standIns := [], harness := (true, "10563f57b77db248a58b3e221d63e312ecad99d5d657d0bbe9298fa2623b2f88"), looks := false }, kinds := [], alts := [], laidByText := true, laidKinds := [.data, .widerDeep, .pinned], laidTests := true, laidLooks := .later }
def MeanSelectsCardSaid : Prop := Claim7.holds Tryd.pinned (.plain (OpenSpec.ofChange meanSelectsSpec)) meanSelectsCard

/-- THE TIED CARD OF 'gimletlaw12.MeanCompared'. -/
def meanComparedCard : Claim7 := { stood := { row := meanComparedRow, standIns := [], harness := (true, "10563f57b77db248a58b3e221d63e312ecad99d5d657d0bbe9298fa2623b2f88"), looks := false }, kinds := [], alts := [], laidByText := true, laidKinds := [.data, .widerDeep, .pinned], laidTests := true, laidLooks := .later }
def MeanComparedCardSaid : Prop := Claim7.holds Tryd.pinned (.plain (OpenSpec.ofChange meanComparedSpec)) meanComparedCard

/-- THE TIED CARD OF 'gimletlaw12.MeanSteps'. -/
def meanStepsCard : Claim7 := { stood := { row := meanStepsRow, standIns := [], harness := (true, "10563f57b77db248a58b3e221d63e312ecad99d5d657d0bbe9298fa2623b2f88"), looks := false }, kinds := [], alts := [], laidByText := true, laidKinds := [.data, .widerDeep, .pinned], laidTests := true, laidLooks := .later }
def MeanStepsCardSaid : Prop := Claim7.holds Tryd.pinned (.plain (OpenSpec.ofChange meanStepsSpec)) meanStepsCard

/-- THE TIED CARD OF 'gimletlaw12.MeanHolds'. -/
def meanHoldsCard : Claim7 := { stood := { row := meanHoldsRow, standIns := [], harness := (true, "10563f57b77db248a58b3e221d63e312ecad99d5d657d0bbe9298fa2623b2f88"), looks := false }, kinds := [], alts := [], laidByText := true, laidKinds := [.data, .widerDeep, .pinned], laidTests := true, laidLooks := .later }
def MeanHoldsCardSaid : Prop := Claim7.holds Tryd.pinned (.plain (OpenSpec.ofChange meanHoldsSpec)) meanHoldsCard

/-- THE TIED CARD OF 'gimletlaw12.MeanLogic'. -/
def meanLogicCard : Claim7 := { stood := { row := meanLogicRow, standIns := [], harness := (true, "10563f57b77db248a58b3e221d63e312ecad99d5d657d0bbe9298fa2623b2f88"), looks := false }, kinds := [], alts := [], laidByText := true, laidKinds := [.data, .widerDeep, .pinned], laidTests := true, laidLooks := .later }
def MeanLogicCardSaid : Prop := Claim7.holds Tryd.pinned (.plain (OpenSpec.ofChange meanLogicSpec)) meanLogicCard

/-- THE TIED CARD OF 'gimletlaw12.MeanNil'. -/
def meanNilCard : Claim7 := { stood := { row := meanNilRow, standIns := [], harness := (true, "10563f57b77db248a58b3e221d63e312ecad99d5d657d0bbe9298fa2623b2f88"), looks := false }, kinds := [], alts := [], laidByText := true, laidKinds := [.data, .widerDeep, .pinned], laidTests := true, laidLooks := .later }
def MeanNilCardSaid : Prop := Claim7.holds Tryd.pinned (.plain (OpenSpec.ofChange meanNilSpec)) meanNilCard

/-- THE SECOND FORM's CARD OF 'gimletlaw12.MeanSelects'. -/
def meanSelectsUptoCard : Claim7 := { stood := { row := meanSelectsUptoRow, standIns := [], harness := (true, "10563f57b77db248a58b3e221d63e312ecad99d5d657d0bbe9298fa2623b2f88"), looks := false }, kinds := [], alts := [], laidByText := true, laidKinds := [.data, .widerDeep, .pinned], laidTests := true, laidLooks := .later }
def MeanSelectsUptoCardSaid : Prop := Claim7.holds Tryd.pinned (.plain (OpenSpec.upto meanSelectsSpec)) meanSelectsUptoCard

/-- THE SECOND FORM's CARD OF 'gimletlaw12.MeanCompared'. -/
def meanComparedUptoCard : Claim7 := { stood := { row := meanComparedUptoRow, standIns := [], harness := (true, "10563f57b77db248a58b3e221d63e312ecad99d5d657d0bbe9298fa2623b2f88"), looks := false }, kinds := [], alts := [], laidByText := true, laidKinds := [.data, .widerDeep, .pinned], laidTests := true, laidLooks := .later }
def MeanComparedUptoCardSaid : Prop := Claim7.holds Tryd.pinned (.plain (OpenSpec.upto meanComparedSpec)) meanComparedUptoCard

/-- THE SECOND FORM's CARD OF 'gimletlaw12.MeanSteps'. -/
def meanStepsUptoCard : Claim7 := { stood := { row := meanStepsUptoRow, standIns := [], harness := (true, "10563f57b77db248a58b3e221d63e312ecad99d5d657d0bbe9298fa2623b2f88"), looks := false }, kinds := [], alts := [], laidByText := true, laidKinds := [.data, .widerDeep, .pinned], laidTests := true, laidLooks := .later }
def MeanStepsUptoCardSaid : Prop := Claim7.holds Tryd.pinned (.plain (OpenSpec.upto meanStepsSpec)) meanStepsUptoCard

/-- THE SECOND FORM's CARD OF 'gimletlaw12.MeanHolds'. -/
def meanHoldsUptoCard : Claim7 := { stood := { row := meanHoldsUptoRow, standIns := [], harness := (true, "10563f57b77db248a58b3e221d63e312ecad99d5d657d0bbe9298fa2623b2f88"), looks := false }, kinds := [], alts := [], laidByText := true, laidKinds := [.data, .widerDeep, .pinned], laidTests := true, laidLooks := .later }
def MeanHoldsUptoCardSaid : Prop := Claim7.holds Tryd.pinned (.plain (OpenSpec.upto meanHoldsSpec)) meanHoldsUptoCard

/-- THE SECOND FORM's CARD OF 'gimletlaw12.MeanLogic'. -/
def meanLogicUptoCard : Claim7 := { stood := { row := meanLogicUptoRow, standIns := [], harness := (true, "10563f57b77db248a58b3e221d63e312ecad99d5d657d0bbe9298fa2623b2f88"), looks := false }, kinds := [], alts := [], laidByText := true, laidKinds := [.data, .widerDeep, .pinned], laidTests := true, laidLooks := .later }
def MeanLogicUptoCardSaid : Prop := Claim7.holds Tryd.pinned (.plain (OpenSpec.upto meanLogicSpec)) meanLogicUptoCard

/-- THE SECOND FORM's CARD OF 'gimletlaw12.MeanNil'. -/
def meanNilUptoCard : Claim7 := { stood := { row := meanNilUptoRow, standIns := [], harness := (true, "10563f57b77db248a58b3e221d63e312ecad99d5d657d0bbe9298fa2623b2f88"), looks := false }, kinds := [], alts := [], laidByText := true, laidKinds := [.data, .widerDeep, .pinned], laidTests := true, laidLooks := .later }
def MeanNilUptoCardSaid : Prop := Claim7.holds Tryd.pinned (.plain (OpenSpec.upto meanNilSpec)) meanNilUptoCard
end Rows
end Go.Proofs.YtekoflcioooncaaDoor
