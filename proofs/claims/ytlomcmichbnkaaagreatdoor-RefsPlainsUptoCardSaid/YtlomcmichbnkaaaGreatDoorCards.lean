/-
  DERIVED. GIVEN WITH THE SEED: THE CARDS: each row of YtlomcmichbnkaaaGreatDoorRows.lean that lists a variable, with what it lists TIED to the program's text (the seventh form; the later family's looks); each row that meets fmt, with fmt's text TOLD by the authors' own Lean function (tested against real Go, not proved from fmt's source: count such statements apart). THE CARD IS WHAT COUNTS. Prove the row's statement (the work); the ties are given (YtlomcmichbnkaaaGreatDoorTie.lean); close each card by the builder's one call (the guide's Derived/Test/ToyasCard.lean, 'card_holds'). Laid BY PROGRAM, IN A SANDBOX (cutbox-door.mjs). By AI agents, Wed Nov 11 2026. No macro, syntax, notation, axiom, sorry.
-/
import Derived.Test.YtlomcmichbnkaaaGreatDoorRows
import GoSem.ClaimSeven
namespace Go.Proofs.YtlomcmichbnkaaaGreatDoor
namespace Rows

/-- THE TIED CARD OF 'gimletlaw05.RefsPlains'. -/
def refsPlainsCard : Claim7 := { stood := { row := refsPlainsRow, standIns := [], harness := (true, "783ab1eec6586983113d9307a90210cf43c5594039b78db581c918c6a5f87081"), looks := true }, kinds := [], alts := [], laidByText := true, laidKinds := [.data, .widerDeep, .pinned], laidTests := true, laidLooks := .later }
def RefsPlainsCardSaid : Prop := Claim7.holds Tryz.pinned (.plain (OpenSpec.ofChange refsPlainsSpec)) refsPlainsCard

/-- THE SECOND FORM's CARD OF 'gimletlaw05.RefsPlains'. -/
def refsPlainsUptoCard : Claim7 := { stood := { row := refsPlainsUptoRow, standIns := [], harness := (true, "783ab1eec6586983113d9307a90210cf43c5594039b78db581c918c6a5f87081"), looks := true }, kinds := [], alts := [], laidByText := true, laidKinds := [.data, .widerDeep, .pinned], laidTests := true, laidLooks := .later }
def RefsPlainsUptoCardSaid : Prop := Claim7.holds Tryz.pinned (.plain (OpenSpec.upto refsPlainsSpec)) refsPlainsUptoCard
end Rows
end Go.Proofs.YtlomcmichbnkaaaGreatDoor
