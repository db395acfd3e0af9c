/-
  NARROWER THAN 'FOR EVERY INPUT', by the rows' own cells (each row's printed sentence says how): TowerNil: laid.
  DERIVED. THE GIVEN ROWS OF THIS SEAT. 1 by the template 'for every input the law returns true; each argument reads behind the call as it read before'; 0 by the template 'total and deterministic' (their statements: YtjfbcoheihcngaaGreatDoorTotals.lean).
  GIVEN WITH THE SEED: the statements are not yours to turn. If you find one false, say at which input.
  Laid BY PROGRAM, IN A SANDBOX (cutbox-rows.mjs): the forced cells as the released guide's own fill.sh prints them over the translation ba3699925498040f… (all of the seat's roots in one cut). By AI agents, Wed Nov 11 2026. No macro, syntax, notation, axiom, sorry.
-/
import Derived.Test.YtjfbcoheihcngaaGreatDoorChecked
import GoSem.Claim
import GoSem.ClaimJoined
import GoSem.ClaimMapViews
import Derived.JoinedTies
import Derived.KernelRfl
namespace Go.Proofs.YtjfbcoheihcngaaGreatDoor
/- THE CELL 'sum', in the pinned program and in every row, IS THE sha256 OF THE DUMP (.gsa) THAT YtjfbcoheihcngaaGreatDoorProg.lean LOADS. Nothing in Lean hashes anything: it is a label: what it is worth is what the hold of that sum in a sandbox is worth. -/
noncomputable def Tryz.pinned : Pinned := { name := "ytjfbcoheihcngaagreatdoor", sum := "ba3699925498040f5421b8d313f8f882ae4c0ee7ea0a4a4cfb53c935aedf34e9", checked := Tryz.checked }
namespace Rows
def none {H : Type} : Left H := { results := [], args := [] }

/- WHAT THE LISTED PACKAGE-LEVEL VARIABLES READ AS WHEN THE CALL BEGINS. Each datum BY PROGRAM (the guide's laid-datum.mjs) off the statement by which the dump's own 'gosem.cut.vars' lays the variable. In a bare row this is a premise. The card (YtjfbcoheihcngaaGreatDoorCards.lean) ties it to the program's text. -/
def laid_mulligan_ledger_kinds {H : Type} : DataW H := .agg [.agg [.lit (.string [115, 108, 111, 112, 112, 121]), .lit (.int .i64 0), .lit (.bool false)], .agg [.lit (.string [116, 114, 105, 103, 103, 101, 114]), .lit (.int .i64 0), .lit (.bool false)], .agg [.lit (.string [114, 117, 108, 101]), .lit (.int .i64 1), .lit (.bool true)], .agg [.lit (.string [99, 97, 114, 100]), .lit (.int .i64 1), .lit (.bool true)], .agg [.lit (.string [108, 97, 116, 101]), .lit (.int .i64 2), .lit (.bool false)], .agg [.lit (.string [99, 104, 101, 97, 116]), .lit (.int .i64 3), .lit (.bool false)]]
def laid_mulligan_state_any {H : Type} : DataW H := .agg [.lit (.int .i64 (-1073741824)), .lit (.int .i64 1073741824)]
def laid_mulligan_state_flag {H : Type} : DataW H := .agg [.lit (.int .i64 0), .lit (.int .i64 1)]
def laid_mulligan_state_resting {H : Type} : DataW H := .agg [.lit (.int .i64 4), .lit (.int .i64 5), .lit (.int .i64 6), .lit (.int .i64 7), .lit (.int .i64 8), .lit (.int .i64 9), .lit (.int .i64 10), .lit (.int .i64 11), .lit (.int .i64 12)]
def laid_mulligan_emit_resting {H : Type} : DataW H := .agg [.lit (.int .i64 4), .lit (.int .i64 5), .lit (.int .i64 6), .lit (.int .i64 7), .lit (.int .i64 8), .lit (.int .i64 9), .lit (.int .i64 10), .lit (.int .i64 11), .lit (.int .i64 12)]
def laid_mulligan_decide_asks {H : Type} : DataW H := .agg [.lit (.int .u64 0), .lit (.int .u64 5), .lit (.int .u64 7), .lit (.int .u64 8), .lit (.int .u64 8), .lit (.int .u64 1), .lit (.int .u64 2)]
def laid_mulligan_script_forms {H : Type} : DataW H := .agg [.agg [.lit (.string [100, 101, 99, 105, 100, 101]), .lit (.int .i64 0), .lit (.int .i64 1), .lit (.int .i64 1)], .agg [.lit (.string [116, 97, 107, 101, 98, 97, 99, 107]), .lit (.int .i64 1), .lit (.int .i64 0), .lit (.int .i64 0)], .agg [.lit (.string [114, 101, 119, 105, 110, 100]), .lit (.int .i64 1), .lit (.int .i64 0), .lit (.int .i64 0)], .agg [.lit (.string [98, 97, 99, 107, 117, 112]), .lit (.int .i64 2), .lit (.int .i64 0), .lit (.int .i64 0)], .agg [.lit (.string [108, 111, 111, 112]), .lit (.int .i64 2), .lit (.int .i64 1), .lit (.int .i64 16)], .agg [.lit (.string [121, 105, 101, 108, 100]), .lit (.int .i64 2), .lit (.int .i64 0), .lit (.int .i64 0)], .agg [.lit (.string [98, 108, 111, 99, 107]), .lit (.int .i64 0), .lit (.int .i64 1), .lit (.int .i64 5)], .agg [.lit (.string [112, 117, 110, 105, 115, 104]), .lit (.int .i64 2), .lit (.int .i64 0), .lit (.int .i64 0)], .agg [.lit (.string [110, 101, 120, 116]), .lit (.int .i64 0), .lit (.int .i64 0), .lit (.int .i64 0)]]
def laid_mulligan_tower_acts {H : Type} : DataW H := .iface "func table" (.agg [.iface "func" (.lit (.string [40, 42, 109, 117, 108, 108, 105, 103, 97, 110, 47, 116, 111, 119, 101, 114, 46, 84, 111, 119, 101, 114, 41, 46, 100, 101, 99, 105, 100, 101])), .iface "func" (.lit (.string [40, 42, 109, 117, 108, 108, 105, 103, 97, 110, 47, 116, 111, 119, 101, 114, 46, 84, 111, 119, 101, 114, 41, 46, 116, 97, 107, 101, 66, 97, 99, 107])), .iface "func" (.lit (.string [40, 42, 109, 117, 108, 108, 105, 103, 97, 110, 47, 116, 111, 119, 101, 114, 46, 84, 111, 119, 101, 114, 41, 46, 114, 101, 119, 105, 110, 100])), .iface "func" (.lit (.string [40, 42, 109, 117, 108, 108, 105, 103, 97, 110, 47, 116, 111, 119, 101, 114, 46, 84, 111, 119, 101, 114, 41, 46, 98, 97, 99, 107, 117, 112])), .iface "func" (.lit (.string [40, 42, 109, 117, 108, 108, 105, 103, 97, 110, 47, 116, 111, 119, 101, 114, 46, 84, 111, 119, 101, 114, 41, 46, 108, 111, 111, 112])), .iface "func" (.lit (.string [40, 42, 109, 117, 108, 108, 105, 103, 97, 110, 47, 116, 111, 119, 101, 114, 46, 84, 111, 119, 101, 114, 41, 46, 121, 105, 101, 108, 100])), .iface "func" (.lit (.string [40, 42, 109, 117, 108, 108, 105, 103, 97, 110, 47, 116, 111, 119, 101, 114, 46, 84, 111, 119, 101, 114, 41, 46, 98, 108, 111, 99, 107])), .iface "func" (.lit (.string [40, 42, 109, 117, 108, 108, 105, 103, 97, 110, 47, 116, 111, 119, 101, 114, 46, 84, 111, 119, 101, 114, 41, 46, 112, 101, 110, 97, 108, 116, 121])), .iface "func" (.lit (.string [40, 42, 109, 117, 108, 108, 105, 103, 97, 110, 47, 116, 111, 119, 101, 114, 46, 84, 111, 119, 101, 114, 41, 46, 102, 111, 108, 108, 111, 119, 105, 110, 103]))])

/-- 'mulliganlaw36.TowerNil': WHATEVER THE INPUT: true; the input reads as it did. -/
def towerNilSpec : ChangeSpec := { name := "towerNil", fn := fun _ => fun
  | [d] => { results := [.lit (.bool true)], args := [d] }
  | _ => none }
def towerNilRow : OpenClaim := { program := "ytjfbcoheihcngaagreatdoor", sum := "ba3699925498040f5421b8d313f8f882ae4c0ee7ea0a4a4cfb53c935aedf34e9", func := "mulligan/mulliganlaw36.TowerNil", spec := "towerNil", inPlace := ["slices.overlaps[int]"], unfollowed := true, recurses := true, named := ["mulligan/script.forms", "mulligan/decide.asks", "mulligan/state.flag", "mulligan/state.any", "mulligan/state.resting", "mulligan/emit.resting", "mulligan/tower.acts", "mulligan/ledger.kinds"], plainKeys := false, apart := false, laid := [("mulligan/ledger.kinds", laid_mulligan_ledger_kinds), ("mulligan/state.any", laid_mulligan_state_any), ("mulligan/state.flag", laid_mulligan_state_flag), ("mulligan/state.resting", laid_mulligan_state_resting), ("mulligan/emit.resting", laid_mulligan_emit_resting), ("mulligan/decide.asks", laid_mulligan_decide_asks), ("mulligan/script.forms", laid_mulligan_script_forms), ("mulligan/tower.acts", laid_mulligan_tower_acts)] }
def TowerNilSaid : Prop := towerNilRow.holds Tryz.pinned (OpenSpec.ofChange towerNilSpec)

/-- ITS FALSE NEIGHBOUR: 'it returns false'. Refute it at one input. -/
def towerNilWrong : ChangeSpec := { name := "towerNil", fn := fun _ => fun
  | [d] => { results := [.lit (.bool false)], args := [d] }
  | _ => none }
def TowerNilWrongFalsely : Prop := towerNilRow.holds Tryz.pinned (OpenSpec.ofChange towerNilWrong)

/- THE SECOND FORM. 'bulk': how many values and letters a reading holds, each counted each time it is reached (what is shared counts as often as it is met; a slice's spare places count too). A statement '..UptoSaid' is the law's where the arguments, and the package variables that the reading takes, are together of bulk at most 1048576: NARROWER than '..Said'. Prove '..Said' where nothing that the law and all that it calls make is longer than what came in: it says more and counts as full. Else prove '..UptoSaid'. A law counts once. -/
mutual
def uptoBulk {H : Type} : DataW H → Nat
  | .lit (.string bytes) => bytes.length + 1
  | .lit _ => 1
  | .nil => 1
  | .ptr d => uptoBulk d + 1
  | .slice elems spare => uptoBulkAll elems + uptoBulkAll spare + 1
  | .agg parts => uptoBulkAll parts + 1
  | .iface _ d => uptoBulk d + 1
  | .map entries => uptoBulkEntries entries + 1
  | .held _ => 1
def uptoBulkAll {H : Type} : List (DataW H) → Nat
  | [] => 0
  | d :: r => uptoBulk d + uptoBulkAll r
def uptoBulkEntries {H : Type} : List (Lit × DataW H) → Nat
  | [] => 0
  | x :: r => uptoBulkEntry x + uptoBulkEntries r
def uptoBulkEntry {H : Type} : Lit × DataW H → Nat
  | (.string bytes, d) => bytes.length + uptoBulk d + 1
  | (_, d) => uptoBulk d + 1
 end
def uptoSmall : (H : Type) → List (DataW H) → Bool := fun _ ds => decide (uptoBulkAll ds ≤ 1048576)
def OpenSpec.upto (s : _root_.Go.ChangeSpec) : _root_.Go.OpenSpec := { _root_.Go.OpenSpec.ofChange s with cond := some uptoSmall }

/-- 'mulliganlaw36.TowerNil', WHERE WHAT IT READS IS OF BULK AT MOST 1048576: true; the input reads as it did. -/
def towerNilUptoRow : OpenClaim := { program := "ytjfbcoheihcngaagreatdoor", sum := "ba3699925498040f5421b8d313f8f882ae4c0ee7ea0a4a4cfb53c935aedf34e9", func := "mulligan/mulliganlaw36.TowerNil", spec := "towerNil", inPlace := ["slices.overlaps[int]"], unfollowed := true, recurses := true, named := ["mulligan/script.forms", "mulligan/decide.asks", "mulligan/state.flag", "mulligan/state.any", "mulligan/state.resting", "mulligan/emit.resting", "mulligan/tower.acts", "mulligan/ledger.kinds"], plainKeys := false, apart := false, laid := [("mulligan/ledger.kinds", laid_mulligan_ledger_kinds), ("mulligan/state.any", laid_mulligan_state_any), ("mulligan/state.flag", laid_mulligan_state_flag), ("mulligan/state.resting", laid_mulligan_state_resting), ("mulligan/emit.resting", laid_mulligan_emit_resting), ("mulligan/decide.asks", laid_mulligan_decide_asks), ("mulligan/script.forms", laid_mulligan_script_forms), ("mulligan/tower.acts", laid_mulligan_tower_acts)], narrowed := true }
def TowerNilUptoSaid : Prop := towerNilUptoRow.holds Tryz.pinned (OpenSpec.upto towerNilSpec)

end Rows
end Go.Proofs.YtjfbcoheihcngaaGreatDoor
