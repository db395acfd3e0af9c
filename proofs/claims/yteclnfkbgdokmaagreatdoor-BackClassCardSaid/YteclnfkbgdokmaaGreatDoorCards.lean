/-
  DERIVED. GIVEN WITH THE SEED: THE CARDS: each row of YteclnfkbgdokmaaGreatDoorRows.lean that lists a variable, with what it lists TIED to the program's text (the seventh form; the later family's looks); each row that meets fmt, with fmt's text TOLD by the authors' own Lean function (tested against real Go, not proved from fmt's source: count such statements apart). THE CARD IS WHAT COUNTS. Prove the row's statement (the work); the ties are given (YteclnfkbgdokmaaGreatDoorTie.lean); close each card by the builder's one call (the guide's Derived/Test/ToyasCard.lean, 'card_holds'). Laid BY PROGRAM, IN A SANDBOX (cutbox-door.mjs). By AI agents, Wed Nov 11 2026. No macro, syntax, notation, axiom, sorry.
-/
import Derived.Test.YteclnfkbgdokmaaGreatDoorRows
import GoSem.ClaimSeven
namespace Go.Proofs.YteclnfkbgdokmaaGreatDoor
namespace Rows

/-- THE TIED CARD OF 'mulliganlaw28.BackClass'. -/
def backClassCard : Claim7 := { stood := { row := backClassRow, standIns := [], harness := (true, "ca1f6998a6ea120727f08b19153bbd89093b9ad7a16423ae3cc11653ee7a7c1e"), looks := true }, kinds := [], alts := [], laidByText := true, laidKinds := [.data, .data, .widerDeep, .data, .data], laidTests := true, laidLooks := .later }
def BackClassCardSaid : Prop := Claim7.holds Tryz.pinned (.plain (OpenSpec.ofChange backClassSpec)) backClassCard

/-- THE SECOND FORM's CARD OF 'mulliganlaw28.BackClass'. -/
def backClassUptoCard : Claim7 := { stood := { row := backClassUptoRow, standIns := [], harness := (true, "ca1f6998a6ea120727f08b19153bbd89093b9ad7a16423ae3cc11653ee7a7c1e"), looks := true }, kinds := [], alts := [], laidByText := true, laidKinds := [.data, .data, .widerDeep, .data, .data], laidTests := true, laidLooks := .later }
def BackClassUptoCardSaid : Prop := Claim7.holds Tryz.pinned (.plain (OpenSpec.upto backClassSpec)) backClassUptoCard
end Rows
end Go.Proofs.YteclnfkbgdokmaaGreatDoor
