/-
  DERIVED. GIVEN WITH THE SEED: THE CARDS: each row of YtjfbcoheihcngaaGreatDoorRows.lean that lists a variable, with what it lists TIED to the program's text (the seventh form; the later family's looks); each row that meets fmt, with fmt's text TOLD by the authors' own Lean function (tested against real Go, not proved from fmt's source: count such statements apart). THE CARD IS WHAT COUNTS. Prove the row's statement (the work); the ties are given (YtjfbcoheihcngaaGreatDoorTie.lean); close each card by the builder's one call (the guide's Derived/Test/ToyasCard.lean, 'card_holds'). Laid BY PROGRAM, IN A SANDBOX (cutbox-door.mjs). By AI agents, Wed Nov 11 2026. No macro, syntax, notation, axiom, sorry.
-/
import Derived.Test.YtjfbcoheihcngaaGreatDoorRows
import GoSem.ClaimSeven
namespace Go.Proofs.YtjfbcoheihcngaaGreatDoor
namespace Rows

/-- THE TIED CARD OF 'mulliganlaw36.TowerNil'. -/
def towerNilCard : Claim7 := { stood := { row := towerNilRow, standIns := [], harness := (true, "167c9934fd2c79979c20ab7091878a073100882ad92f05d2dd972460239b732a"), looks := true }, kinds := [], alts := [], laidByText := true, laidKinds := [.data, .data, .data, .widerDeep, .data, .data, .data, .funcs], laidTests := true, laidLooks := .later }
def TowerNilCardSaid : Prop := Claim7.holds Tryz.pinned (.plain (OpenSpec.ofChange towerNilSpec)) towerNilCard

/-- THE SECOND FORM's CARD OF 'mulliganlaw36.TowerNil'. -/
def towerNilUptoCard : Claim7 := { stood := { row := towerNilUptoRow, standIns := [], harness := (true, "167c9934fd2c79979c20ab7091878a073100882ad92f05d2dd972460239b732a"), looks := true }, kinds := [], alts := [], laidByText := true, laidKinds := [.data, .data, .data, .widerDeep, .data, .data, .data, .funcs], laidTests := true, laidLooks := .later }
def TowerNilUptoCardSaid : Prop := Claim7.holds Tryz.pinned (.plain (OpenSpec.upto towerNilSpec)) towerNilUptoCard
end Rows
end Go.Proofs.YtjfbcoheihcngaaGreatDoor
