/-
  DERIVED. GIVEN WITH THE SEED: THE CARDS: each row of YtdnddpefaanalaaGreatDoorRows.lean that lists a variable, with what it lists TIED to the program's text (the seventh form; the later family's looks); each row that meets fmt, with fmt's text TOLD by the authors' own Lean function (tested against real Go, not proved from fmt's source: count such statements apart). THE CARD IS WHAT COUNTS. Prove the row's statement (the work); the ties are given (YtdnddpefaanalaaGreatDoorTie.lean); close each card by the builder's one call (the guide's Derived/Test/ToyasCard.lean, 'card_holds'). Laid BY PROGRAM, IN A SANDBOX (cutbox-door.mjs). By AI agents, Wed Nov 11 2026. No macro, syntax, notation, axiom, sorry.
-/
import Derived.Test.YtdnddpefaanalaaGreatDoorRows
import GoSem.ClaimSeven
namespace Go.Proofs.YtdnddpefaanalaaGreatDoor
namespace Rows

/-- THE TIED CARD OF 'mulliganlaw29.LoopTells'. -/
def loopTellsCard : Claim7 := { stood := { row := loopTellsRow, standIns := [], harness := (true, "f827e948fb819e0e3be4deb33ec410dffd89e57364322027356a0eced99c588d"), looks := true }, kinds := [], alts := [], laidByText := true, laidKinds := [.data, .data, .widerDeep, .data, .data], laidTests := true, laidLooks := .later }
def LoopTellsCardSaid : Prop := Claim7.holds Tryz.pinned (.plain (OpenSpec.ofChange loopTellsSpec)) loopTellsCard

/-- THE SECOND FORM's CARD OF 'mulliganlaw29.LoopTells'. -/
def loopTellsUptoCard : Claim7 := { stood := { row := loopTellsUptoRow, standIns := [], harness := (true, "f827e948fb819e0e3be4deb33ec410dffd89e57364322027356a0eced99c588d"), looks := true }, kinds := [], alts := [], laidByText := true, laidKinds := [.data, .data, .widerDeep, .data, .data], laidTests := true, laidLooks := .later }
def LoopTellsUptoCardSaid : Prop := Claim7.holds Tryz.pinned (.plain (OpenSpec.upto loopTellsSpec)) loopTellsUptoCard
end Rows
end Go.Proofs.YtdnddpefaanalaaGreatDoor
