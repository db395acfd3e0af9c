/- One of the texts that the proof of the law rests on: it has no condition of its own. -/
import Derived.Test.YtjfbcoheihcngaaGreatDoorAl
namespace Go.Ev.N4
open Go.Ev
theorem beg5 (ob : MObj) (rest : List (Nat × MObj)) : evFn gl tab ext 2000000 90 (.func 44 []) [.slice [] .no, .slice [] .no, .slice [] .no] ⟨5, (4, ob) :: rest, []⟩ = some (.ptr 6 0, ⟨7, (6, begQ) :: (5, begP) :: (4, ob) :: rest, []⟩) := by kernel_rfl
end Go.Ev.N4

