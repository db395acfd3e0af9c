/-
  DERIVED. GIVEN WITH THE SEED: THE PROGRAM's TIES (one call each: nine closed facts by the kernel) AND EACH ROW's TIE, after the 31st guide's Derived/Test/Toyas{Tie, Card}.lean. No idea stands in it: it is a product of the set-up. Laid BY PROGRAM, IN A SANDBOX (cutbox-door.mjs). By AI agents, Wed Nov 11 2026. No macro, syntax, notation, axiom, sorry.
-/
import Derived.Test.YtjfbcoheihcngaaGreatDoorRows
import Derived.LaidByTextLater
import Derived.SevenTiedAt
import Derived.LaidSub
import Derived.LaidOnce
namespace Go.Proofs.YtjfbcoheihcngaaGreatDoor
open Go
set_option maxRecDepth 100000
theorem seatTie1 : Tryz.prog.laidByTextLater [("mulligan/ledger.kinds", Rows.laid_mulligan_ledger_kinds), ("mulligan/state.any", Rows.laid_mulligan_state_any), ("mulligan/state.flag", Rows.laid_mulligan_state_flag), ("mulligan/state.resting", Rows.laid_mulligan_state_resting), ("mulligan/emit.resting", Rows.laid_mulligan_emit_resting), ("mulligan/decide.asks", Rows.laid_mulligan_decide_asks), ("mulligan/script.forms", Rows.laid_mulligan_script_forms), ("mulligan/tower.acts", Rows.laid_mulligan_tower_acts)] [.data, .data, .data, .widerDeep, .data, .data, .data, .funcs] true :=
  Program.laidByTextLater_by_one 64 8 37 (by kernel_rfl) (by kernel_rfl) (by kernel_rfl) (by kernel_rfl) (by kernel_rfl) (by kernel_rfl) (fun _ _ => by kernel_rfl)
theorem noOwnUnsafe : Tryz.pinned.checked.prog.headLifts.contains "ownunsafe" = false := by kernel_rfl
theorem tie : Tryz.prog.laidByTextLater [("mulligan/ledger.kinds", Rows.laid_mulligan_ledger_kinds), ("mulligan/state.any", Rows.laid_mulligan_state_any), ("mulligan/state.flag", Rows.laid_mulligan_state_flag), ("mulligan/state.resting", Rows.laid_mulligan_state_resting), ("mulligan/emit.resting", Rows.laid_mulligan_emit_resting), ("mulligan/decide.asks", Rows.laid_mulligan_decide_asks), ("mulligan/script.forms", Rows.laid_mulligan_script_forms), ("mulligan/tower.acts", Rows.laid_mulligan_tower_acts)] [.data, .data, .data, .widerDeep, .data, .data, .data, .funcs] true :=
  Program.laidByTextLater.sub seatTie1 ["mulligan/ledger.kinds", "mulligan/state.any", "mulligan/state.flag", "mulligan/state.resting", "mulligan/emit.resting", "mulligan/decide.asks", "mulligan/script.forms", "mulligan/tower.acts"] (by kernel_rfl) (by kernel_rfl)
theorem towerNil_row_tie : Rows.towerNilRow.laidByTextAt .later Tryz.pinned [.data, .data, .data, .widerDeep, .data, .data, .data, .funcs] true :=
  OpenClaim.laidByTextAt_later rfl rfl tie noOwnUnsafe
theorem towerNilUpto_row_tie : Rows.towerNilUptoRow.laidByTextAt .later Tryz.pinned [.data, .data, .data, .widerDeep, .data, .data, .data, .funcs] true :=
  OpenClaim.laidByTextAt_later rfl rfl tie noOwnUnsafe
end Go.Proofs.YtjfbcoheihcngaaGreatDoor
