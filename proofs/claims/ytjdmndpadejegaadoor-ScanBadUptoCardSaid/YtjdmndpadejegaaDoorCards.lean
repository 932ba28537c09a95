/-
  DERIVED. GIVEN WITH THE SEED: THE CARDS: each row of YtjdmndpadejegaaDoorRows.lean that lists a variable, with what it lists TIED to the program's text (the seventh form; the later family's looks); each row that meets fmt, with fmt's text TOLD by the authors' own Lean function (tested against real Go, not proved from fmt's source: count such statements apart). THE CARD IS WHAT COUNTS. Prove the row's statement (the work); the ties are given (YtjdmndpadejegaaDoorTie.lean); close each card by the builder's one call (the guide's Derived/Test/ToyasCard.lean, 'card_holds'). Laid BY PROGRAM, IN A SANDBOX (cutbox-door.mjs). By AI agents, Wed Nov 11 2026. No macro, syntax, notation, axiom, sorry.
-/
import Derived.Test.YtjdmndpadejegaaDoorRows
import GoSem.ClaimSeven
namespace Go.Proofs.YtjdmndpadejegaaDoor
namespace Rows

/-- THE TIED CARD OF 'gimletlaw06.ScanAll'. -/
def scanAllCard : Claim7 := { stood := { row := scanAllRow, standIns := [], harness := (true, "b4d804748643dcc8cde9906c7fe95ebcc34947e979bf335516f62bb45c519add"), looks := false }, kinds := [], alts := [], laidByText := true, laidKinds := [.data, .widerDeep, .pinned], laidTests := true, laidLooks := .later }
def ScanAllCardSaid : Prop := Claim7.holds Tryd.pinned (.plain (OpenSpec.ofChange scanAllSpec)) scanAllCard

/-- THE TIED CARD OF 'gimletlaw06.ScanCuts'. -/
def scanCutsCard : Claim7 := { stood := { row := scanCutsRow, standIns := [], harness := (true, "b4d804748643dcc8cde9906c7fe95ebcc34947e979bf335516f62bb45c519add"), looks := false }, kinds := [], alts := [], laidByText := true, laidKinds := [.data, .widerDeep, .pinned], laidTests := true, laidLooks := .later }
def ScanCutsCardSaid : Prop := Claim7.holds Tryd.pinned (.plain (OpenSpec.ofChange scanCutsSpec)) scanCutsCard

/-- THE TIED CARD OF 'gimletlaw06.ScanBad'. -/
def scanBadCard : Claim7 := { stood := { row := scanBadRow, standIns := [], harness := (true, "b4d804748643dcc8cde9906c7fe95ebcc34947e979bf335516f62bb45c519add"), looks := false }, kinds := [], alts := [], laidByText := true, laidKinds := [.data, .widerDeep, .pinned], laidTests := true, laidLooks := .later }
def ScanBadCardSaid : Prop := Claim7.holds Tryd.pinned (.plain (OpenSpec.ofChange scanBadSpec)) scanBadCard

/-- THE TIED CARD OF 'gimletlaw06.ScanNil'. -/
def scanNilCard : Claim7 := { stood := { row := scanNilRow, standIns := [], harness := (true, "b4d804748643dcc8cde9906c7fe95ebcc34947e979bf335516f62bb45c519add"), looks := false }, kinds := [], alts := [], laidByText := true, laidKinds := [.data, .widerDeep, .pinned], laidTests := true, laidLooks := .later }
def ScanNilCardSaid : Prop := Claim7.holds Tryd.pinned (.plain (OpenSpec.ofChange scanNilSpec)) scanNilCard

/-- THE TIED CARD OF 'gimletlaw06.ScanPlaces'. -/
def scanPlacesCard : Claim7 := { stood := { row := scanPlacesRow, standIns := [], harness := (true, "b4d804748643dcc8cde9906c7fe95ebcc34947e979bf335516f62bb45c519add"), looks := false }, kinds := [], alts := [], laidByText := true, laidKinds := [.data, .widerDeep, .pinned], laidTests := true, laidLooks := .later }
def ScanPlacesCardSaid : Prop := Claim7.holds Tryd.pinned (.plain (OpenSpec.ofChange scanPlacesSpec)) scanPlacesCard

/-- THE SECOND FORM's CARD OF 'gimletlaw06.ScanAll'. -/
def scanAllUptoCard : Claim7 := { stood := { row := scanAllUptoRow, standIns := [], harness := (true, "b4d804748643dcc8cde9906c7fe95ebcc34947e979bf335516f62bb45c519add"), looks := false }, kinds := [], alts := [], laidByText := true, laidKinds := [.data, .widerDeep, .pinned], laidTests := true, laidLooks := .later }
def ScanAllUptoCardSaid : Prop := Claim7.holds Tryd.pinned (.plain (OpenSpec.upto scanAllSpec)) scanAllUptoCard

/-- THE SECOND FORM's CARD OF 'gimletlaw06.ScanCuts'. -/
def scanCutsUptoCard : Claim7 := { stood := { row := scanCutsUptoRow, standIns := [], harness := (true, "b4d804748643dcc8cde9906c7fe95ebcc34947e979bf335516f62bb45c519add"), looks := false }, kinds := [], alts := [], laidByText := true, laidKinds := [.data, .widerDeep, .pinned], laidTests := true, laidLooks := .later }
def ScanCutsUptoCardSaid : Prop := Claim7.holds Tryd.pinned (.plain (OpenSpec.upto scanCutsSpec)) scanCutsUptoCard

/-- THE SECOND FORM's CARD OF 'gimletlaw06.ScanBad'. -/
def scanBadUptoCard : Claim7 := { stood := { row := scanBadUptoRow, standIns := [], harness := (true, "b4d804748643dcc8cde9906c7fe95ebcc34947e979bf335516f62bb45c519add"), looks := false }, kinds := [], alts := [], laidByText := true, laidKinds := [.data, .widerDeep, .pinned], laidTests := true, laidLooks := .later }
def ScanBadUptoCardSaid : Prop := Claim7.holds Tryd.pinned (.plain (OpenSpec.upto scanBadSpec)) scanBadUptoCard

/-- THE SECOND FORM's CARD OF 'gimletlaw06.ScanNil'. -/
def scanNilUptoCard : Claim7 := { stood := { row := scanNilUptoRow, standIns := [], harness := (true, "b4d804748643dcc8cde9906c7fe95ebcc34947e979bf335516f62bb45c519add"), looks := false }, kinds := [], alts := [], laidByText := true, laidKinds := [.data, .widerDeep, .pinned], laidTests := true, laidLooks := .later }
def ScanNilUptoCardSaid : Prop := Claim7.holds Tryd.pinned (.plain (OpenSpec.upto scanNilSpec)) scanNilUptoCard

/-- THE SECOND FORM's CARD OF 'gimletlaw06.ScanPlaces'. -/
def scanPlacesUptoCard : Claim7 := { stood := { row := scanPlacesUptoRow, standIns := [], harness := (true, "b4d804748643dcc8cde9906c7fe95ebcc34947e979bf335516f62bb45c519add"), looks := false }, kinds := [], alts := [], laidByText := true, laidKinds := [.data, .widerDeep, .pinned], laidTests := true, laidLooks := .later }
def ScanPlacesUptoCardSaid : Prop := Claim7.holds Tryd.pinned (.plain (OpenSpec.upto scanPlacesSpec)) scanPlacesUptoCard
end Rows
end Go.Proofs.YtjdmndpadejegaaDoor
