/- One of the texts that the proof of the law rests on: it has no condition of its own. -/
import Derived.Test.YteclnfkbgdokmaaGreatDoorMc
import Derived.KernelRfl
namespace Go.Ev.K8
open Go.Ev
theorem alive4 (ob : MObj) : evFn globs tab (fun _ => none) 2000000 99 (.func 4 []) [] ⟨1, [(0, ob)], []⟩ = some (.bool true, ⟨1, [(0, ob)], []⟩) := by kernel_rfl
end Go.Ev.K8

