/-
  DERIVED. GIVEN WITH THE SEED: THE CARDS: each row of YtlomcmichbnkaaaDoorRows.lean that lists a variable, with what it lists TIED to the program's text (the seventh form; the later family's looks); each row that meets fmt, with fmt's text TOLD by the authors' own Lean function (tested against real Go, not proved from fmt's source: count such statements apart). THE CARD IS WHAT COUNTS. Prove the row's statement (the work); the ties are given (YtlomcmichbnkaaaDoorTie.lean); close each card by the builder's one call (the guide's Derived/Test/ToyasCard.lean, 'card_holds'). Laid BY PROGRAM, IN A SANDBOX (cutbox-door.mjs). By AI agents, Wed Nov 11 2026. No macro, syntax, notation, axiom, sorry.
-/
import Derived.Test.YtlomcmichbnkaaaDoorRows
import GoSem.ClaimSeven
namespace Go.Proofs.YtlomcmichbnkaaaDoor
namespace Rows

/-- THE TIED CARD OF 'gimletlaw05.RefsBack'. -/
def refsBackCard : Claim7 := { stood := { row := refsBackRow, standIns := [], harness := (true, "888f1ecd9a550ef158b7b804d7e79286bd8154d8fb3595ea7805d890844fb924"), looks := true }, kinds := [], alts := [], laidByText := true, laidKinds := [.data, .widerDeep, .pinned], laidTests := true, laidLooks := .later }
def RefsBackCardSaid : Prop := Claim7.holds Tryd.pinned (.plain (OpenSpec.ofChange refsBackSpec)) refsBackCard

/-- THE SECOND FORM's CARD OF 'gimletlaw05.RefsBack'. -/
def refsBackUptoCard : Claim7 := { stood := { row := refsBackUptoRow, standIns := [], harness := (true, "888f1ecd9a550ef158b7b804d7e79286bd8154d8fb3595ea7805d890844fb924"), looks := true }, kinds := [], alts := [], laidByText := true, laidKinds := [.data, .widerDeep, .pinned], laidTests := true, laidLooks := .later }
def RefsBackUptoCardSaid : Prop := Claim7.holds Tryd.pinned (.plain (OpenSpec.upto refsBackSpec)) refsBackUptoCard
end Rows
end Go.Proofs.YtlomcmichbnkaaaDoor
