/-
  DERIVED. GIVEN WITH THE SEED: THE CARDS: each row of YtgjokdngbocehaaGreatDoorRows.lean that lists a variable, with what it lists TIED to the program's text (the seventh form; the later family's looks); each row that meets fmt, with fmt's text TOLD by the authors' own Lean function (tested against real Go, not proved from fmt's source: count such statements apart). THE CARD IS WHAT COUNTS. Prove the row's statement (the work); the ties are given (YtgjokdngbocehaaGreatDoorTie.lean); close each card by the builder's one call (the guide's Derived/Test/ToyasCard.lean, 'card_holds'). Laid BY PROGRAM, IN A SANDBOX (cutbox-door.mjs). By AI agents, Wed Nov 11 2026. No macro, syntax, notation, axiom, sorry.
-/
import Derived.Test.YtgjokdngbocehaaGreatDoorRows
import GoSem.ClaimSeven
namespace Go.Proofs.YtgjokdngbocehaaGreatDoor
namespace Rows

/-- THE TIED CARD OF 'gimletlaw15.HalfVerdicts'. -/
def halfVerdictsCard : Claim7 := { stood := { row := halfVerdictsRow, standIns := [], harness := (true, "0ea4a84d9b9597caaae857236b7fb27235ce83a9fb9891a2e347546aca6c43ea"), looks := true }, kinds := [], alts := [], laidByText := true, laidKinds := [.data, .widerDeep, .pinned], laidTests := true, laidLooks := .later }
def HalfVerdictsCardSaid : Prop := Claim7.holds Tryz.pinned (.plain (OpenSpec.ofChange halfVerdictsSpec)) halfVerdictsCard

/-- THE TIED CARD OF 'gimletlaw15.HalfHolds'. -/
def halfHoldsCard : Claim7 := { stood := { row := halfHoldsRow, standIns := [], harness := (true, "0ea4a84d9b9597caaae857236b7fb27235ce83a9fb9891a2e347546aca6c43ea"), looks := true }, kinds := [], alts := [], laidByText := true, laidKinds := [.data, .widerDeep, .pinned], laidTests := true, laidLooks := .later }
def HalfHoldsCardSaid : Prop := Claim7.holds Tryz.pinned (.plain (OpenSpec.ofChange halfHoldsSpec)) halfHoldsCard

/-- THE TIED CARD OF 'gimletlaw15.HalfTold'. -/
def halfToldCard : Claim7 := { stood := { row := halfToldRow, standIns := [], harness := (true, "0ea4a84d9b9597caaae857236b7fb27235ce83a9fb9891a2e347546aca6c43ea"), looks := true }, kinds := [], alts := [], laidByText := true, laidKinds := [.data, .widerDeep, .pinned], laidTests := true, laidLooks := .later }
def HalfToldCardSaid : Prop := Claim7.holds Tryz.pinned (.plain (OpenSpec.ofChange halfToldSpec)) halfToldCard

/-- THE TIED CARD OF 'gimletlaw15.HalfStays'. -/
def halfStaysCard : Claim7 := { stood := { row := halfStaysRow, standIns := [], harness := (true, "0ea4a84d9b9597caaae857236b7fb27235ce83a9fb9891a2e347546aca6c43ea"), looks := true }, kinds := [], alts := [], laidByText := true, laidKinds := [.data, .widerDeep, .pinned], laidTests := true, laidLooks := .later }
def HalfStaysCardSaid : Prop := Claim7.holds Tryz.pinned (.plain (OpenSpec.ofChange halfStaysSpec)) halfStaysCard

/-- THE TIED CARD OF 'gimletlaw15.HalfWhole'. -/
def halfWholeCard : Claim7 := { stood := { row := halfWholeRow, standIns := [], harness := (true, "0ea4a84d9b9597caaae857236b7fb27235ce83a9fb9891a2e347546aca6c43ea"), looks := true }, kinds := [], alts := [], laidByText := true, laidKinds := [.data, .widerDeep, .pinned], laidTests := true, laidLooks := .later }
def HalfWholeCardSaid : Prop := Claim7.holds Tryz.pinned (.plain (OpenSpec.ofChange halfWholeSpec)) halfWholeCard

/-- THE SECOND FORM's CARD OF 'gimletlaw15.HalfVerdicts'. -/
def halfVerdictsUptoCard : Claim7 := { stood := { row := halfVerdictsUptoRow, standIns := [], harness := (true, "0ea4a84d9b9597caaae857236b7fb27235ce83a9fb9891a2e347546aca6c43ea"), looks := true }, kinds := [], alts := [], laidByText := true, laidKinds := [.data, .widerDeep, .pinned], laidTests := true, laidLooks := .later }
def HalfVerdictsUptoCardSaid : Prop := Claim7.holds Tryz.pinned (.plain (OpenSpec.upto halfVerdictsSpec)) halfVerdictsUptoCard

/-- THE SECOND FORM's CARD OF 'gimletlaw15.HalfHolds'. -/
def halfHoldsUptoCard : Claim7 := { stood := { row := halfHoldsUptoRow, standIns := [], harness := (true, "0ea4a84d9b9597caaae857236b7fb27235ce83a9fb9891a2e347546aca6c43ea"), looks := true }, kinds := [], alts := [], laidByText := true, laidKinds := [.data, .widerDeep, .pinned], laidTests := true, laidLooks := .later }
def HalfHoldsUptoCardSaid : Prop := Claim7.holds Tryz.pinned (.plain (OpenSpec.upto halfHoldsSpec)) halfHoldsUptoCard

/-- THE SECOND FORM's CARD OF 'gimletlaw15.HalfTold'. -/
def halfToldUptoCard : Claim7 := { stood := { row := halfToldUptoRow, standIns := [], harness := (true, "0ea4a84d9b9597caaae857236b7fb27235ce83a9fb9891a2e347546aca6c43ea"), looks := true }, kinds := [], alts := [], laidByText := true, laidKinds := [.data, .widerDeep, .pinned], laidTests := true, laidLooks := .later }
def HalfToldUptoCardSaid : Prop := Claim7.holds Tryz.pinned (.plain (OpenSpec.upto halfToldSpec)) halfToldUptoCard

/-- THE SECOND FORM's CARD OF 'gimletlaw15.HalfStays'. -/
def halfStaysUptoCard : Claim7 := { stood := { row := halfStaysUptoRow, standIns := [], harness := (true, "0ea4a84d9b9597caaae857236b7fb27235ce83a9fb9891a2e347546aca6c43ea"), looks := true }, kinds := [], alts := [], laidByText := true, laidKinds := [.data, .widerDeep, .pinned], laidTests := true, laidLooks := .later }
def HalfStaysUptoCardSaid : Prop := Claim7.holds Tryz.pinned (.plain (OpenSpec.upto halfStaysSpec)) halfStaysUptoCard

/-- THE SECOND FORM's CARD OF 'gimletlaw15.HalfWhole'. -/
def halfWholeUptoCard : Claim7 := { stood := { row := halfWholeUptoRow, standIns := [], harness := (true, "0ea4a84d9b9597caaae857236b7fb27235ce83a9fb9891a2e347546aca6c43ea"), looks := true }, kinds := [], alts := [], laidByText := true, laidKinds := [.data, .widerDeep, .pinned], laidTests := true, laidLooks := .later }
def HalfWholeUptoCardSaid : Prop := Claim7.holds Tryz.pinned (.plain (OpenSpec.upto halfWholeSpec)) halfWholeUptoCard
end Rows
end Go.Proofs.YtgjokdngbocehaaGreatDoor
