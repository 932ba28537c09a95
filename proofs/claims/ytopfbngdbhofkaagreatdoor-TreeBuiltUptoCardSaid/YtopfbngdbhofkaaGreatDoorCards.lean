/-
  DERIVED. GIVEN WITH THE SEED: THE CARDS: each row of YtopfbngdbhofkaaGreatDoorRows.lean that lists a variable, with what it lists TIED to the program's text (the seventh form; the later family's looks); each row that meets fmt, with fmt's text TOLD by the authors' own Lean function (tested against real Go, not proved from fmt's source: count such statements apart). THE CARD IS WHAT COUNTS. Prove the row's statement (the work); the ties are given (YtopfbngdbhofkaaGreatDoorTie.lean); close each card by the builder's one call (the guide's Derived/Test/ToyasCard.lean, 'card_holds'). Laid BY PROGRAM, IN A SANDBOX (cutbox-door.mjs). By AI agents, Wed Nov 11 2026. No macro, syntax, notation, axiom, sorry.
-/
import Derived.Test.YtopfbngdbhofkaaGreatDoorRows
import GoSem.ClaimSeven
namespace Go.Proofs.YtopfbngdbhofkaaGreatDoor
namespace Rows

/-- THE TIED CARD OF 'gimletlaw09.TreeIterators'. -/
def treeIteratorsCard : Claim7 := { stood := { row := treeIteratorsRow, standIns := [], harness := (true, "d0a985fc7b3038f61f29647008be5794d6a841ef11a72687978395ab667516eb"), looks := true }, kinds := [], alts := [], laidByText := true, laidKinds := [.data, .widerDeep, .pinned], laidTests := true, laidLooks := .later }
def TreeIteratorsCardSaid : Prop := Claim7.holds Tryz.pinned (.plain (OpenSpec.ofChange treeIteratorsSpec)) treeIteratorsCard

/-- THE TIED CARD OF 'gimletlaw09.TreeAxes'. -/
def treeAxesCard : Claim7 := { stood := { row := treeAxesRow, standIns := [], harness := (true, "d0a985fc7b3038f61f29647008be5794d6a841ef11a72687978395ab667516eb"), looks := true }, kinds := [], alts := [], laidByText := true, laidKinds := [.data, .widerDeep, .pinned], laidTests := true, laidLooks := .later }
def TreeAxesCardSaid : Prop := Claim7.holds Tryz.pinned (.plain (OpenSpec.ofChange treeAxesSpec)) treeAxesCard

/-- THE TIED CARD OF 'gimletlaw09.TreeBuilt'. -/
def treeBuiltCard : Claim7 := { stood := { row := treeBuiltRow, standIns := [], harness := (true, "d0a985fc7b3038f61f29647008be5794d6a841ef11a72687978395ab667516eb"), looks := true }, kinds := [], alts := [], laidByText := true, laidKinds := [.data, .widerDeep, .pinned], laidTests := true, laidLooks := .later }
def TreeBuiltCardSaid : Prop := Claim7.holds Tryz.pinned (.plain (OpenSpec.ofChange treeBuiltSpec)) treeBuiltCard

/-- THE TIED CARD OF 'gimletlaw09.TreeMemory'. -/
def treeMemoryCard : Claim7 := { stood := { row := treeMemoryRow, standIns := [], harness := (true, "d0a985fc7b3038f61f29647008be5794d6a841ef11a72687978395ab667516eb"), looks := true }, kinds := [], alts := [], laidByText := true, laidKinds := [.data, .widerDeep, .pinned], laidTests := true, laidLooks := .later }
def TreeMemoryCardSaid : Prop := Claim7.holds Tryz.pinned (.plain (OpenSpec.ofChange treeMemorySpec)) treeMemoryCard

/-- THE SECOND FORM's CARD OF 'gimletlaw09.TreeIterators'. -/
def treeIteratorsUptoCard : Claim7 := { stood := { row := treeIteratorsUptoRow, standIns := [], harness := (true, "d0a985fc7b3038f61f29647008be5794d6a841ef11a72687978395ab667516eb"), looks := true }, kinds := [], alts := [], laidByText := true, laidKinds := [.data, .widerDeep, .pinned], laidTests := true, laidLooks := .later }
def TreeIteratorsUptoCardSaid : Prop := Claim7.holds Tryz.pinned (.plain (OpenSpec.upto treeIteratorsSpec)) treeIteratorsUptoCard

/-- THE SECOND FORM's CARD OF 'gimletlaw09.TreeAxes'. -/
def treeAxesUptoCard : Claim7 := { stood := { row := treeAxesUptoRow, standIns := [], harness := (true, "d0a985fc7b3038f61f29647008be5794d6a841ef11a72687978395ab667516eb"), looks := true }, kinds := [], alts := [], laidByText := true, laidKinds := [.data, .widerDeep, .pinned], laidTests := true, laidLooks := .later }
def TreeAxesUptoCardSaid : Prop := Claim7.holds Tryz.pinned (.plain (OpenSpec.upto treeAxesSpec)) treeAxesUptoCard

/-- THE SECOND FORM's CARD OF 'gimletlaw09.TreeBuilt'. -/
def treeBuiltUptoCard : Claim7 := { stood := { row := treeBuiltUptoRow, standIns := [], harness := (true, "d0a985fc7b3038f61f29647008be5794d6a841ef11a72687978395ab667516eb"), looks := true }, kinds := [], alts := [], laidByText := true, laidKinds := [.data, .widerDeep, .pinned], laidTests := true, laidLooks := .later }
def TreeBuiltUptoCardSaid : Prop := Claim7.holds Tryz.pinned (.plain (OpenSpec.upto treeBuiltSpec)) treeBuiltUptoCard

/-- THE SECOND FORM's CARD OF 'gimletlaw09.TreeMemory'. -/
def treeMemoryUptoCard : Claim7 := { stood := { row := treeMemoryUptoRow, standIns := [], harness := (true, "d0a985fc7b3038f61f29647008be5794d6a841ef11a72687978395ab667516eb"), looks := true }, kinds := [], alts := [], laidByText := true, laidKinds := [.data, .widerDeep, .pinned], laidTests := true, laidLooks := .later }
def TreeMemoryUptoCardSaid : Prop := Claim7.holds Tryz.pinned (.plain (OpenSpec.upto treeMemorySpec)) treeMemoryUptoCard
end Rows
end Go.Proofs.YtopfbngdbhofkaaGreatDoor
