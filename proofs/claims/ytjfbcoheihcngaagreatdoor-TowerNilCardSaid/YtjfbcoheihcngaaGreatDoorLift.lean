/- One of the texts that the proof of the law rests on: it has no condition of its own. -/
import Derived.Test.YtjfbcoheihcngaaGreatDoorClose
/- The law TowerNil returns true for every input, and leaves what it was given as it was: no condition. -/
namespace Go.Proofs.YtjfbcoheihcngaaGreatDoor.towerNil
open Go.ChangeShapes Go.WideShapes Go.ChangeAt Go.RowKit Go.Ev

/-- A WORLD FOR THE WITNESS: the settled one, the tables holding what their initialisers lay. -/
noncomputable def laidWorld (os : Os) : World :=
  { World.holding Tryz.prog os ⟨#[], #[], []⟩ with heap := (((((((((World.holding Tryz.prog os ⟨#[], #[], []⟩).heap.modify 0 fun
      | .cells _ t frozen => .cells #[.func (.func 225) #[] #[], .func (.func 226) #[] #[], .func (.func 227) #[] #[], .func (.func 228) #[] #[], .func (.func 229) #[] #[], .func (.func 230) #[] #[], .func (.func 231) #[] #[], .func (.func 232) #[] #[], .func (.func 233) #[] #[]] t frozen
      | o => o).modify 1 fun
      | .cells _ t frozen => .cells #[.string ⟨#[100, 101, 99, 105, 100, 101]⟩, .int .i64 0, .int .i64 1, .int .i64 1, .string ⟨#[116, 97, 107, 101, 98, 97, 99, 107]⟩, .int .i64 1, .int .i64 0, .int .i64 0, .string ⟨#[114, 101, 119, 105, 110, 100]⟩, .int .i64 1, .int .i64 0, .int .i64 0, .string ⟨#[98, 97, 99, 107, 117, 112]⟩, .int .i64 2, .int .i64 0, .int .i64 0, .string ⟨#[108, 111, 111, 112]⟩, .int .i64 2, .int .i64 1, .int .i64 16, .string ⟨#[121, 105, 101, 108, 100]⟩, .int .i64 2, .int .i64 0, .int .i64 0, .string ⟨#[98, 108, 111, 99, 107]⟩, .int .i64 0, .int .i64 1, .int .i64 5, .string ⟨#[112, 117, 110, 105, 115, 104]⟩, .int .i64 2, .int .i64 0, .int .i64 0, .string ⟨#[110, 101, 120, 116]⟩, .int .i64 0, .int .i64 0, .int .i64 0] t frozen
      | o => o).modify 2 fun
      | .cells _ t frozen => .cells #[.int .u64 0, .int .u64 5, .int .u64 7, .int .u64 8, .int .u64 8, .int .u64 1, .int .u64 2] t frozen
      | o => o).modify 3 fun
      | .cells _ t frozen => .cells #[.string ⟨#[115, 108, 111, 112, 112, 121]⟩, .int .i64 0, .bool false, .string ⟨#[116, 114, 105, 103, 103, 101, 114]⟩, .int .i64 0, .bool false, .string ⟨#[114, 117, 108, 101]⟩, .int .i64 1, .bool true, .string ⟨#[99, 97, 114, 100]⟩, .int .i64 1, .bool true, .string ⟨#[108, 97, 116, 101]⟩, .int .i64 2, .bool false, .string ⟨#[99, 104, 101, 97, 116]⟩, .int .i64 3, .bool false] t frozen
      | o => o).modify 4 fun
      | .cells _ t frozen => .cells #[.int .i64 4, .int .i64 5, .int .i64 6, .int .i64 7, .int .i64 8, .int .i64 9, .int .i64 10, .int .i64 11, .int .i64 12] t frozen
      | o => o).modify 5 fun
      | .cells _ t frozen => .cells #[.int .i64 4, .int .i64 5, .int .i64 6, .int .i64 7, .int .i64 8, .int .i64 9, .int .i64 10, .int .i64 11, .int .i64 12] t frozen
      | o => o).modify 6 fun
      | .cells _ t frozen => .cells #[.int .i64 0, .int .i64 1] t frozen
      | o => o).modify 7 fun
      | .cells _ t frozen => .cells #[.int .i64 (-1073741824), .int .i64 1073741824] t frozen
      | o => o) }
abbrev wargs : Array Value := #[.agg #[.int .i64 0, .int .i64 0, .int .i64 0, .slice none 0 0]]
theorem laid_met (os : Os) : laidMetH Tryz.prog Rows.towerNilRow.laid ((laidWorld os).forCall (fun _ _ => 0) ⟨#[], wargs, []⟩).memory :=
  laidMetH_of_parts3 (fuel := 8) (laidMet_of_run' 8 (by kernel_rfl) (by kernel_rfl)) (by kernel_rfl) (by kernel_rfl)
theorem reads (os : Os) {H : Type} (enc : TypeId × Value → H) : ∃ places, DataW.whole enc Tryz.prog ((laidWorld os).forCall (fun _ _ => 0) ⟨#[], wargs, []⟩).memory Tryz.f3.params.toList (OpenSpec.ofChange Rows.towerNilSpec).vars false wargs.toList 8 = some ([.agg [.lit (.int .i64 0), .lit (.int .i64 0), .lit (.int .i64 0), .nil]], [], places) :=
  ⟨[], by kernel_rfl⟩

theorem w1 (os : Os) : ((laidWorld os).forCall (fun _ _ => 0) ⟨#[], wargs, []⟩).variablesB Tryz.checked.prog = true := by kernel_rfl
theorem w2 (os : Os) : (((laidWorld os).forCall (fun _ _ => 0) ⟨#[], wargs, []⟩).heap.toList.drop Tryz.checked.prog.globals.size).take ((begin Tryz.checked.prog (fun _ _ => 0) default).world.heap.size - Tryz.checked.prog.globals.size) =
      (begin Tryz.checked.prog (fun _ _ => 0) default).world.heap.toList.drop Tryz.checked.prog.globals.size := by kernel_rfl
theorem w3 (os : Os) : Input.okWideB Tryz.checked.prog ((laidWorld os).forCall (fun _ _ => 0) ⟨#[], wargs, []⟩) 3 ⟨#[], wargs, []⟩ = true := by kernel_rfl

set_option maxRecDepth 100000 in
/-- THE FIRST FORM's STEP. -/
theorem lifted (os : Os) (started : os.Started) (H : Type) (enc : TypeId × Value → H) (F : Stop.Interp) :
    ReturnsInHanded {} Tryz.checked os 3 .any ((OpenSpec.ofChange Rows.towerNilSpec).preRow enc Tryz.prog Tryz.f3 Rows.towerNilRow.domain false Rows.towerNilRow.laid) (((OpenSpec.ofChange Rows.towerNilSpec).at F).post enc Tryz.prog Tryz.f3 false true false false) := by
  obtain ⟨places, hx⟩ := reads os enc
  refine returnsInHanded_of_row (C := Tryz.checked) (s := OpenSpec.ofChange Rows.towerNilSpec) own started (by kernel_rfl) Tryz.func3
    (witness_row_at (enc := enc) (C := Tryz.checked) false (laidWorld os) wargs rfl (w1 os) (w2 os) (w3 os)
      (OpenSpec.preRow_of_cond 8 hx (by kernel_rfl) (fun k hk => by cases hk) (by kernel_rfl) (laid_met os))) ?_
  intro W base args ds gs before hval hW _ hk _ hL _ _
  exact contract H enc W args ds gs before hW hL

end Go.Proofs.YtjfbcoheihcngaaGreatDoor.towerNil

