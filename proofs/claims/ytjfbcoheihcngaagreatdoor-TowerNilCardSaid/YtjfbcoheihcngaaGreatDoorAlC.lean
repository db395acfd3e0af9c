/- One of the texts that the proof of the law rests on: it has no condition of its own. -/
import Derived.Test.YtjfbcoheihcngaaGreatDoorAl
namespace Go.Ev.N4
open Go.Ev
/-- The law, whatever the operation told. -/
theorem law (k a b : Int) (xs : List (List PVal)) : evFn gl tab ext3 2000000 100 (.func 3 []) [.agg [.int .i64 k, .int .i64 a, .int .i64 b, .slice xs .no]] ⟨0, [], []⟩ = some (.bool true, ⟨0, [], []⟩) := by kernel_rfl
end Go.Ev.N4

