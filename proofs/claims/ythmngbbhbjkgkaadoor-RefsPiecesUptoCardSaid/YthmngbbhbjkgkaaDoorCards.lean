/-
  DERIVED. GIVEN WITH THE SEED: THE CARDS: each row of YthmngbbhbjkgkaaDoorRows.lean that lists a variable, with what it lists TIED to the program's text (the seventh form; the later family's looks); each row that meets fmt, with fmt's text TOLD by the authors' own Lean function (tested against real Go, not proved from fmt's source: count such statements apart). THE CARD IS WHAT COUNTS. Prove the row's statement (the work); the ties are given (YthmngbbhbjkgkaaDoorTie.lean); close each card by the builder's one call (the guide's Derived/Test/ToyasCard.lean, 'card_holds'). Laid BY PROGRAM, IN A SANDBOX (cutbox-door.mjs). By AI agents, Wed Nov 11 2026. No macro, syntax, notation, axiom, sorry.
-/
import Derived.Test.YthmngbbhbjkgkaaDoorRows
import GoSem.ClaimSeven
namespace Go.Proofs.YthmngbbhbjkgkaaDoor
namespace Rows

/-- THE TIED CARD OF 'gimletlaw05.RefsReads'. -/
def refsReadsCard : Claim7 := { stood := { row := refsReadsRow, standIns := [], harness := (true, "c9ed381bc68f29a0811e8d1139315937e2e27d970c7b4db95f49d31cf0470e24"), looks := true }, kinds := [], alts := [], laidByText := true, laidKinds := [.widerDeep], laidTests := true, laidLooks := .later }
def RefsReadsCardSaid : Prop := Claim7.holds Tryd.pinned (.plain (OpenSpec.ofChange refsReadsSpec)) refsReadsCard

/-- THE TIED CARD OF 'gimletlaw05.RefsNumbers'. -/
def refsNumbersCard : Claim7 := { stood := { row := refsNumbersRow, standIns := [], harness := (true, "c9ed381bc68f29a0811e8d1139315937e2e27d970c7b4db95f49d31cf0470e24"), looks := true }, kinds := [], alts := [], laidByText := true, laidKinds := [.widerDeep], laidTests := true, laidLooks := .later }
def RefsNumbersCardSaid : Prop := Claim7.holds Tryd.pinned (.plain (OpenSpec.ofChange refsNumbersSpec)) refsNumbersCard

/-- THE TIED CARD OF 'gimletlaw05.RefsCuts'. -/
def refsCutsCard : Claim7 := { stood := { row := refsCutsRow, standIns := [], harness := (true, "c9ed381bc68f29a0811e8d1139315937e2e27d970c7b4db95f49d31cf0470e24"), looks := true }, kinds := [], alts := [], laidByText := true, laidKinds := [.widerDeep], laidTests := true, laidLooks := .later }
def RefsCutsCardSaid : Prop := Claim7.holds Tryd.pinned (.plain (OpenSpec.ofChange refsCutsSpec)) refsCutsCard

/-- THE TIED CARD OF 'gimletlaw05.RefsGoOn'. -/
def refsGoOnCard : Claim7 := { stood := { row := refsGoOnRow, standIns := [], harness := (true, "c9ed381bc68f29a0811e8d1139315937e2e27d970c7b4db95f49d31cf0470e24"), looks := true }, kinds := [], alts := [], laidByText := true, laidKinds := [.widerDeep], laidTests := true, laidLooks := .later }
def RefsGoOnCardSaid : Prop := Claim7.holds Tryd.pinned (.plain (OpenSpec.ofChange refsGoOnSpec)) refsGoOnCard

/-- THE TIED CARD OF 'gimletlaw05.RefsWrites'. -/
def refsWritesCard : Claim7 := { stood := { row := refsWritesRow, standIns := [], harness := (true, "c9ed381bc68f29a0811e8d1139315937e2e27d970c7b4db95f49d31cf0470e24"), looks := true }, kinds := [], alts := [], laidByText := true, laidKinds := [.widerDeep], laidTests := true, laidLooks := .later }
def RefsWritesCardSaid : Prop := Claim7.holds Tryd.pinned (.plain (OpenSpec.ofChange refsWritesSpec)) refsWritesCard

/-- THE TIED CARD OF 'gimletlaw05.RefsPieces'. -/
def refsPiecesCard : Claim7 := { stood := { row := refsPiecesRow, standIns := [], harness := (true, "c9ed381bc68f29a0811e8d1139315937e2e27d970c7b4db95f49d31cf0470e24"), looks := true }, kinds := [], alts := [], laidByText := true, laidKinds := [.widerDeep], laidTests := true, laidLooks := .later }
def RefsPiecesCardSaid : Prop := Claim7.holds Tryd.pinned (.plain (OpenSpec.ofChange refsPiecesSpec)) refsPiecesCard

/-- THE TIED CARD OF 'gimletlaw05.RefsBack'. -/
def refsBackCard : Claim7 := { stood := { row := refsBackRow, standIns := [], harness := (true, "c9ed381bc68f29a0811e8d1139315937e2e27d970c7b4db95f49d31cf0470e24"), looks := true }, kinds := [], alts := [], laidByText := true, laidKinds := [.data, .widerDeep, .pinned], laidTests := true, laidLooks := .later }
def RefsBackCardSaid : Prop := Claim7.holds Tryd.pinned (.plain (OpenSpec.ofChange refsBackSpec)) refsBackCard

/-- THE SECOND FORM's CARD OF 'gimletlaw05.RefsReads'. -/
def refsReadsUptoCard : Claim7 := { stood := { row := refsReadsUptoRow, standIns := [], harness := (true, "c9ed381bc68f29a0811e8d1139315937e2e27d970c7b4db95f49d31cf0470e24"), looks := true }, kinds := [], alts := [], laidByText := true, laidKinds := [.widerDeep], laidTests := true, laidLooks := .later }
def RefsReadsUptoCardSaid : Prop := Claim7.holds Tryd.pinned (.plain (OpenSpec.upto refsReadsSpec)) refsReadsUptoCard

/-- THE SECOND FORM's CARD OF 'gimletlaw05.RefsNumbers'. -/
def refsNumbersUptoCard : Claim7 := { stood := { row := refsNumbersUptoRow, standIns := [], harness := (true, "c9ed381bc68f29a0811e8d1139315937e2e27d970c7b4db95f49d31cf0470e24"), looks := true }, kinds := [], alts := [], laidByText := true, laidKinds := [.widerDeep], laidTests := true, laidLooks := .later }
def RefsNumbersUptoCardSaid : Prop := Claim7.holds Tryd.pinned (.plain (OpenSpec.upto refsNumbersSpec)) refsNumbersUptoCard

/-- THE SECOND FORM's CARD OF 'gimletlaw05.RefsCuts'. -/
def refsCutsUptoCard : Claim7 := { stood := { row := refsCutsUptoRow, standIns := [], harness := (true, "c9ed381bc68f29a0811e8d1139315937e2e27d970c7b4db95f49d31cf0470e24"), looks := true }, kinds := [], alts := [], laidByText := true, laidKinds := [.widerDeep], laidTests := true, laidLooks := .later }
def RefsCutsUptoCardSaid : Prop := Claim7.holds Tryd.pinned (.plain (OpenSpec.upto refsCutsSpec)) refsCutsUptoCard

/-- THE SECOND FORM's CARD OF 'gimletlaw05.RefsGoOn'. -/
def refsGoOnUptoCard : Claim7 := { stood := { row := refsGoOnUptoRow, standIns := [], harness := (true, "c9ed381bc68f29a0811e8d1139315937e2e27d970c7b4db95f49d31cf0470e24"), looks := true }, kinds := [], alts := [], laidByText := true, laidKinds := [.widerDeep], laidTests := true, laidLooks := .later }
def RefsGoOnUptoCardSaid : Prop := Claim7.holds Tryd.pinned (.plain (OpenSpec.upto refsGoOnSpec)) refsGoOnUptoCard

/-- THE SECOND FORM's CARD OF 'gimletlaw05.RefsWrites'. -/
def refsWritesUptoCard : Claim7 := { stood := { row := refsWritesUptoRow, standIns := [], harness := (true, "c9ed381bc68f29a0811e8d1139315937e2e27d970c7b4db95f49d31cf0470e24"), looks := true }, kinds := [], alts := [], laidByText := true, laidKinds := [.widerDeep], laidTests := true, laidLooks := .later }
def RefsWritesUptoCardSaid : Prop := Claim7.holds Tryd.pinned (.plain (OpenSpec.upto refsWritesSpec)) refsWritesUptoCard

/-- THE SECOND FORM's CARD OF 'gimletlaw05.RefsPieces'. -/
def refsPiecesUptoCard : Claim7 := { stood := { row := refsPiecesUptoRow, standIns := [], harness := (true, "c9ed381bc68f29a0811e8d1139315937e2e27d970c7b4db95f49d31cf0470e24"), looks := true }, kinds := [], alts := [], laidByText := true, laidKinds := [.widerDeep], laidTests := true, laidLooks := .later }
def RefsPiecesUptoCardSaid : Prop := Claim7.holds Tryd.pinned (.plain (OpenSpec.upto refsPiecesSpec)) refsPiecesUptoCard

/-- THE SECOND FORM's CARD OF 'gimletlaw05.RefsBack'. -/
def refsBackUptoCard : Claim7 := { stood := { row := refsBackUptoRow, standIns := [], harness := (true, "c9ed381bc68f29a0811e8d1139315937e2e27d970c7b4db95f49d31cf0470e24"), looks := true }, kinds := [], alts := [], laidByText := true, laidKinds := [.data, .widerDeep, .pinned], laidTests := true, laidLooks := .later }
def RefsBackUptoCardSaid : Prop := Claim7.holds Tryd.pinned (.plain (OpenSpec.upto refsBackSpec)) refsBackUptoCard
end Rows
end Go.Proofs.YthmngbbhbjkgkaaDoor
