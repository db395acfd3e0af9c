/- One of the texts that the proof of the law rests on: it has no condition of its own. -/
import Derived.Test.YteclnfkbgdokmaaGreatDoorMc
import Derived.Test.YteclnfkbgdokmaaGreatDoorSy
import Derived.KernelRfl
import Derived.Laws.BitsLemmas
namespace Go.Ev.K8
open Go.Ev
set_option linter.unusedSimpArgs false
section
variable {L : Nat}
theorem t3 : tab 3 = some mc3 := rfl
theorem t18 : tab 18 = some mc18 := rfl
theorem t19 : tab 19 = some mc19 := rfl
theorem t36 : tab 36 = some mc36 := rfl
theorem t37 : tab 37 = some mc37 := rfl
theorem t38 : tab 38 = some mc38 := rfl
theorem t59 : tab 59 = some mc59 := rfl
theorem t60 : tab 60 = some mc60 := rfl
theorem t92 : tab 92 = some mc92 := rfl
theorem t125 : tab 125 = some mc125 := rfl

abbrev ev (k a b c d e : Int) : List PVal := [I k, I a, I b, I c, I d, I e]
abbrev M2 (o1 o0 : MObj) : Mem := ⟨2, [(1, o1), (0, o0)], []⟩
abbrev M3 (o2 o1 o0 : MObj) : Mem := ⟨3, [(2, o2), (1, o1), (0, o0)], []⟩
abbrev M4 (o3 o2 o1 o0 : MObj) : Mem := ⟨4, [(3, o3), (2, o2), (1, o1), (0, o0)], []⟩


theorem f37 (j : Nat) (k a b c1 d e fl : Int) (o1 o0 : MObj) : evFn globs tab noext L (j + 1) (.func 37 []) [.agg (ev k a b c1 d e), I fl] (M2 o1 o0) = some (.bool (bif k == 4 then b == fl else false), M2 o1 o0) := by
  refine fn_k t37 (k_ops (by exact (show _ = (some { env := [((4 : Nat), PVal.bool false), ((2 : Nat), PVal.ptr (2 : Nat) (0 : Nat)), ((0 : Nat), PVal.agg [PVal.int IntKind.i64 k, PVal.int IntKind.i64 a, PVal.int IntKind.i64 b, PVal.int IntKind.i64 c1, PVal.int IntKind.i64 d, PVal.int IntKind.i64 e]), ((1 : Nat), PVal.int IntKind.i64 fl)], mem := { next := (3 : Nat), objs := [((2 : Nat), MObj.cells [PVal.int IntKind.i64 k, PVal.int IntKind.i64 a, PVal.int IntKind.i64 b, PVal.int IntKind.i64 c1, PVal.int IntKind.i64 d, PVal.int IntKind.i64 e]), ((1 : Nat), o1), ((0 : Nat), o0)], ups := [] } }) from by kernel_rfl)) (k_take 4 (by exact (show _ = (some { env := [((8 : Nat), PVal.bool (k == (4 : Int))), ((4 : Nat), PVal.bool false), ((2 : Nat), PVal.ptr (2 : Nat) (0 : Nat)), ((0 : Nat), PVal.agg [PVal.int IntKind.i64 k, PVal.int IntKind.i64 a, PVal.int IntKind.i64 b, PVal.int IntKind.i64 c1, PVal.int IntKind.i64 d, PVal.int IntKind.i64 e]), ((1 : Nat), PVal.int IntKind.i64 fl)], mem := { next := (3 : Nat), objs := [((2 : Nat), MObj.cells [PVal.int IntKind.i64 k, PVal.int IntKind.i64 a, PVal.int IntKind.i64 b, PVal.int IntKind.i64 c1, PVal.int IntKind.i64 d, PVal.int IntKind.i64 e]), ((1 : Nat), o1), ((0 : Nat), o0)], ups := [] } }) from by kernel_rfl)) ?_))
  generalize (k == 4) = t
  cases t <;> kernel_rfl
theorem f59 (j : Nat) (k a b c1 d e : Int) (o2 o1 o0 : MObj) : evFn globs tab noext L (j + 1) (.func 59 []) [.agg (ev k a b c1 d e)] (M3 o2 o1 o0) = some (.bool (bif k == 2 then b == 17 else false), M3 o2 o1 o0) := by
  refine fn_k t59 (k_ops (by exact (show _ = (some { env := [((2 : Nat), PVal.bool false), ((1 : Nat), PVal.ptr (3 : Nat) (0 : Nat)), ((0 : Nat), PVal.agg [PVal.int IntKind.i64 k, PVal.int IntKind.i64 a, PVal.int IntKind.i64 b, PVal.int IntKind.i64 c1, PVal.int IntKind.i64 d, PVal.int IntKind.i64 e])], mem := { next := (4 : Nat), objs := [((3 : Nat), MObj.cells [PVal.int IntKind.i64 k, PVal.int IntKind.i64 a, PVal.int IntKind.i64 b, PVal.int IntKind.i64 c1, PVal.int IntKind.i64 d, PVal.int IntKind.i64 e]), ((2 : Nat), o2), ((1 : Nat), o1), ((0 : Nat), o0)], ups := [] } }) from by kernel_rfl)) (k_take 4 (by exact (show _ = (some { env := [((6 : Nat), PVal.bool (k == (2 : Int))), ((2 : Nat), PVal.bool false), ((1 : Nat), PVal.ptr (3 : Nat) (0 : Nat)), ((0 : Nat), PVal.agg [PVal.int IntKind.i64 k, PVal.int IntKind.i64 a, PVal.int IntKind.i64 b, PVal.int IntKind.i64 c1, PVal.int IntKind.i64 d, PVal.int IntKind.i64 e])], mem := { next := (4 : Nat), objs := [((3 : Nat), MObj.cells [PVal.int IntKind.i64 k, PVal.int IntKind.i64 a, PVal.int IntKind.i64 b, PVal.int IntKind.i64 c1, PVal.int IntKind.i64 d, PVal.int IntKind.i64 e]), ((2 : Nat), o2), ((1 : Nat), o1), ((0 : Nat), o0)], ups := [] } }) from by kernel_rfl)) ?_))
  generalize (k == 2) = t
  cases t <;> kernel_rfl

def gN (c1 d : Int) : Bool := (IntKind.i64.wrap (BitVec.ofInt 64 (IntKind.i64.wrap ((BitVec.ofInt 64 d &&& ~~~ (BitVec.ofInt 64 c1)).toNat)) &&& BitVec.ofInt 64 3).toNat) != 0
def b0 (x : Int) : Bool := (IntKind.u64.wrap x).tmod 2 == 1
def b1 (x : Int) : Bool := (IntKind.u64.wrap ((IntKind.u64.wrap x).tdiv 2)).tmod 2 == 1
theorem f36 (j : Nat) (k a b c1 d e : Int) (o1 o0 : MObj) : evFn globs tab noext L (j + 1 + 1) (.func 36 []) [.agg (ev k a b c1 d e)] (M2 o1 o0) = some (.bool (bif (bif k == 2 then b == 17 else false) then gN c1 d else false), M2 o1 o0) := by
  refine fn_k t36 ?_
  refine k_ops (by exact (show _ = (some { env := [((2 : Nat), PVal.bool false), ((1 : Nat), PVal.ptr (2 : Nat) (0 : Nat)), ((0 : Nat), PVal.agg [PVal.int IntKind.i64 k, PVal.int IntKind.i64 a, PVal.int IntKind.i64 b, PVal.int IntKind.i64 c1, PVal.int IntKind.i64 d, PVal.int IntKind.i64 e])], mem := { next := (3 : Nat), objs := [((2 : Nat), MObj.cells [PVal.int IntKind.i64 k, PVal.int IntKind.i64 a, PVal.int IntKind.i64 b, PVal.int IntKind.i64 c1, PVal.int IntKind.i64 d, PVal.int IntKind.i64 e]), ((1 : Nat), o1), ((0 : Nat), o0)], ups := [] } }) from by kernel_rfl)) ?_
  refine k_op (by exact (show _ = (some { env := [((3 : Nat), PVal.agg [PVal.int IntKind.i64 k, PVal.int IntKind.i64 a, PVal.int IntKind.i64 b, PVal.int IntKind.i64 c1, PVal.int IntKind.i64 d, PVal.int IntKind.i64 e]), ((2 : Nat), PVal.bool false), ((1 : Nat), PVal.ptr (2 : Nat) (0 : Nat)), ((0 : Nat), PVal.agg [PVal.int IntKind.i64 k, PVal.int IntKind.i64 a, PVal.int IntKind.i64 b, PVal.int IntKind.i64 c1, PVal.int IntKind.i64 d, PVal.int IntKind.i64 e])], mem := { next := (3 : Nat), objs := [((2 : Nat), MObj.cells [PVal.int IntKind.i64 k, PVal.int IntKind.i64 a, PVal.int IntKind.i64 b, PVal.int IntKind.i64 c1, PVal.int IntKind.i64 d, PVal.int IntKind.i64 e]), ((1 : Nat), o1), ((0 : Nat), o0)], ups := [] } }) from by kernel_rfl)) ?_
  refine k_call (by exact (show _ = (some ([PVal.func (59 : Nat) [], PVal.agg [PVal.int IntKind.i64 k, PVal.int IntKind.i64 a, PVal.int IntKind.i64 b, PVal.int IntKind.i64 c1, PVal.int IntKind.i64 d, PVal.int IntKind.i64 e]], [((2 : Nat), PVal.bool false), ((1 : Nat), PVal.ptr (2 : Nat) (0 : Nat)), ((0 : Nat), PVal.agg [PVal.int IntKind.i64 k, PVal.int IntKind.i64 a, PVal.int IntKind.i64 b, PVal.int IntKind.i64 c1, PVal.int IntKind.i64 d, PVal.int IntKind.i64 e])])) from by kernel_rfl)) (by exact (show _ = ([PVal.agg [PVal.int IntKind.i64 k, PVal.int IntKind.i64 a, PVal.int IntKind.i64 b, PVal.int IntKind.i64 c1, PVal.int IntKind.i64 d, PVal.int IntKind.i64 e]]) from by kernel_rfl)) (by exact (f59 ..)) (by rfl) ?_
  generalize (bif k == 2 then b == 17 else false) = t
  cases t <;> kernel_rfl

abbrev Z17 (x : Int) : List PVal := [I 0, I 0, I 0, I 0, I 0, I 0, I 0, I 0, I 0, I 0, I 0, I 0, I 0, I 0, I 0, I 0, I 0, I x]
theorem f125a (j : Nat) (x : Int) (o3 o2 o1 o0 : MObj) : evFn globs tab noext L (j + 1) (.func 125 []) [.agg (Z17 x), I 0] (M4 o3 o2 o1 o0) = some (.bool (b0 x), M4 o3 o2 o1 o0) := by
  refine fn_k t125 ?_
  refine k_ops (by exact (show _ = (some { env := [((4 : Nat), PVal.bool false), ((2 : Nat), PVal.ptr (4 : Nat) (0 : Nat)), ((0 : Nat), PVal.agg [PVal.int IntKind.i64 (0 : Int), PVal.int IntKind.i64 (0 : Int), PVal.int IntKind.i64 (0 : Int), PVal.int IntKind.i64 (0 : Int), PVal.int IntKind.i64 (0 : Int), PVal.int IntKind.i64 (0 : Int), PVal.int IntKind.i64 (0 : Int), PVal.int IntKind.i64 (0 : Int), PVal.int IntKind.i64 (0 : Int), PVal.int IntKind.i64 (0 : Int), PVal.int IntKind.i64 (0 : Int), PVal.int IntKind.i64 (0 : Int), PVal.int IntKind.i64 (0 : Int), PVal.int IntKind.i64 (0 : Int), PVal.int IntKind.i64 (0 : Int), PVal.int IntKind.i64 (0 : Int), PVal.int IntKind.i64 (0 : Int), PVal.int IntKind.i64 x]), ((1 : Nat), PVal.int IntKind.i64 (0 : Int))], mem := { next := (5 : Nat), objs := [((4 : Nat), MObj.cells [PVal.int IntKind.i64 (0 : Int), PVal.int IntKind.i64 (0 : Int), PVal.int IntKind.i64 (0 : Int), PVal.int IntKind.i64 (0 : Int), PVal.int IntKind.i64 (0 : Int), PVal.int IntKind.i64 (0 : Int), PVal.int IntKind.i64 (0 : Int), PVal.int IntKind.i64 (0 : Int), PVal.int IntKind.i64 (0 : Int), PVal.int IntKind.i64 (0 : Int), PVal.int IntKind.i64 (0 : Int), PVal.int IntKind.i64 (0 : Int), PVal.int IntKind.i64 (0 : Int), PVal.int IntKind.i64 (0 : Int), PVal.int IntKind.i64 (0 : Int), PVal.int IntKind.i64 (0 : Int), PVal.int IntKind.i64 (0 : Int), PVal.int IntKind.i64 x]), ((3 : Nat), o3), ((2 : Nat), o2), ((1 : Nat), o1), ((0 : Nat), o0)], ups := [] } }) from by kernel_rfl)) ?_
  refine k_ops (by exact (show _ = (some { env := [((5 : Nat), PVal.int IntKind.u64 (IntKind.wrap IntKind.u64 x)), ((4 : Nat), PVal.bool false), ((2 : Nat), PVal.ptr (4 : Nat) (0 : Nat)), ((0 : Nat), PVal.agg [PVal.int IntKind.i64 (0 : Int), PVal.int IntKind.i64 (0 : Int), PVal.int IntKind.i64 (0 : Int), PVal.int IntKind.i64 (0 : Int), PVal.int IntKind.i64 (0 : Int), PVal.int IntKind.i64 (0 : Int), PVal.int IntKind.i64 (0 : Int), PVal.int IntKind.i64 (0 : Int), PVal.int IntKind.i64 (0 : Int), PVal.int IntKind.i64 (0 : Int), PVal.int IntKind.i64 (0 : Int), PVal.int IntKind.i64 (0 : Int), PVal.int IntKind.i64 (0 : Int), PVal.int IntKind.i64 (0 : Int), PVal.int IntKind.i64 (0 : Int), PVal.int IntKind.i64 (0 : Int), PVal.int IntKind.i64 (0 : Int), PVal.int IntKind.i64 x]), ((1 : Nat), PVal.int IntKind.i64 (0 : Int))], mem := { next := (5 : Nat), objs := [((4 : Nat), MObj.cells [PVal.int IntKind.i64 (0 : Int), PVal.int IntKind.i64 (0 : Int), PVal.int IntKind.i64 (0 : Int), PVal.int IntKind.i64 (0 : Int), PVal.int IntKind.i64 (0 : Int), PVal.int IntKind.i64 (0 : Int), PVal.int IntKind.i64 (0 : Int), PVal.int IntKind.i64 (0 : Int), PVal.int IntKind.i64 (0 : Int), PVal.int IntKind.i64 (0 : Int), PVal.int IntKind.i64 (0 : Int), PVal.int IntKind.i64 (0 : Int), PVal.int IntKind.i64 (0 : Int), PVal.int IntKind.i64 (0 : Int), PVal.int IntKind.i64 (0 : Int), PVal.int IntKind.i64 (0 : Int), PVal.int IntKind.i64 (0 : Int), PVal.int IntKind.i64 x]), ((3 : Nat), o3), ((2 : Nat), o2), ((1 : Nat), o1), ((0 : Nat), o0)], ups := [] } }) from by kernel_rfl)) ?_
  refine k_take 8 (by exact (show _ = (some { env := [((16 : Nat), PVal.bool (Int.tmod (IntKind.wrap IntKind.u64 x) (2 : Int) == (1 : Int))), ((5 : Nat), PVal.int IntKind.u64 (IntKind.wrap IntKind.u64 x)), ((4 : Nat), PVal.bool false), ((2 : Nat), PVal.ptr (4 : Nat) (0 : Nat)), ((0 : Nat), PVal.agg [PVal.int IntKind.i64 (0 : Int), PVal.int IntKind.i64 (0 : Int), PVal.int IntKind.i64 (0 : Int), PVal.int IntKind.i64 (0 : Int), PVal.int IntKind.i64 (0 : Int), PVal.int IntKind.i64 (0 : Int), PVal.int IntKind.i64 (0 : Int), PVal.int IntKind.i64 (0 : Int), PVal.int IntKind.i64 (0 : Int), PVal.int IntKind.i64 (0 : Int), PVal.int IntKind.i64 (0 : Int), PVal.int IntKind.i64 (0 : Int), PVal.int IntKind.i64 (0 : Int), PVal.int IntKind.i64 (0 : Int), PVal.int IntKind.i64 (0 : Int), PVal.int IntKind.i64 (0 : Int), PVal.int IntKind.i64 (0 : Int), PVal.int IntKind.i64 x]), ((1 : Nat), PVal.int IntKind.i64 (0 : Int))], mem := { next := (5 : Nat), objs := [((4 : Nat), MObj.cells [PVal.int IntKind.i64 (0 : Int), PVal.int IntKind.i64 (0 : Int), PVal.int IntKind.i64 (0 : Int), PVal.int IntKind.i64 (0 : Int), PVal.int IntKind.i64 (0 : Int), PVal.int IntKind.i64 (0 : Int), PVal.int IntKind.i64 (0 : Int), PVal.int IntKind.i64 (0 : Int), PVal.int IntKind.i64 (0 : Int), PVal.int IntKind.i64 (0 : Int), PVal.int IntKind.i64 (0 : Int), PVal.int IntKind.i64 (0 : Int), PVal.int IntKind.i64 (0 : Int), PVal.int IntKind.i64 (0 : Int), PVal.int IntKind.i64 (0 : Int), PVal.int IntKind.i64 (0 : Int), PVal.int IntKind.i64 (0 : Int), PVal.int IntKind.i64 x]), ((3 : Nat), o3), ((2 : Nat), o2), ((1 : Nat), o1), ((0 : Nat), o0)], ups := [] } }) from by kernel_rfl)) ?_
  show _ = some (PVal.bool ((IntKind.u64.wrap x).tmod 2 == 1), _)
  generalize ((IntKind.u64.wrap x).tmod 2 == 1) = t
  cases t <;> kernel_rfl
theorem f125b (j : Nat) (x : Int) (o3 o2 o1 o0 : MObj) : evFn globs tab noext L (j + 1) (.func 125 []) [.agg (Z17 x), I 1] (M4 o3 o2 o1 o0) = some (.bool (b1 x), M4 o3 o2 o1 o0) := by
  kernel_rfl
theorem f92a (j : Nat) (x : Int) (o2 o1 o0 : MObj) : evFn globs tab noext L (j + 1 + 1) (.func 92 []) [I x, I 0] (M3 o2 o1 o0) = some (.bool (b0 x), M3 o2 o1 o0) := by
  refine fn_k t92 ?_
  refine k_ops (by exact (show _ = (some { env := [((4 : Nat), PVal.bool false), ((0 : Nat), PVal.int IntKind.i64 x), ((1 : Nat), PVal.int IntKind.i64 (0 : Int))], mem := { next := (3 : Nat), objs := [((2 : Nat), o2), ((1 : Nat), o1), ((0 : Nat), o0)], ups := [] } }) from by kernel_rfl)) ?_
  refine k_ops (by exact (show _ = (some { env := [((5 : Nat), PVal.ptr (3 : Nat) (0 : Nat)), ((4 : Nat), PVal.bool false), ((0 : Nat), PVal.int IntKind.i64 x), ((1 : Nat), PVal.int IntKind.i64 (0 : Int))], mem := { next := (4 : Nat), objs := [((3 : Nat), MObj.cells [PVal.int IntKind.i64 (0 : Int), PVal.int IntKind.i64 (0 : Int), PVal.int IntKind.i64 (0 : Int), PVal.int IntKind.i64 (0 : Int), PVal.int IntKind.i64 (0 : Int), PVal.int IntKind.i64 (0 : Int), PVal.int IntKind.i64 (0 : Int), PVal.int IntKind.i64 (0 : Int), PVal.int IntKind.i64 (0 : Int), PVal.int IntKind.i64 (0 : Int), PVal.int IntKind.i64 (0 : Int), PVal.int IntKind.i64 (0 : Int), PVal.int IntKind.i64 (0 : Int), PVal.int IntKind.i64 (0 : Int), PVal.int IntKind.i64 (0 : Int), PVal.int IntKind.i64 (0 : Int), PVal.int IntKind.i64 (0 : Int), PVal.int IntKind.i64 (0 : Int)]), ((2 : Nat), o2), ((1 : Nat), o1), ((0 : Nat), o0)], ups := [] } }) from by kernel_rfl)) ?_
  refine k_ops (by exact (show _ = (some { env := [((5 : Nat), PVal.ptr (3 : Nat) (0 : Nat)), ((4 : Nat), PVal.bool false), ((0 : Nat), PVal.int IntKind.i64 x), ((1 : Nat), PVal.int IntKind.i64 (0 : Int))], mem := { next := (4 : Nat), objs := [((3 : Nat), MObj.cells [PVal.int IntKind.i64 (0 : Int), PVal.int IntKind.i64 (0 : Int), PVal.int IntKind.i64 (0 : Int), PVal.int IntKind.i64 (0 : Int), PVal.int IntKind.i64 (0 : Int), PVal.int IntKind.i64 (0 : Int), PVal.int IntKind.i64 (0 : Int), PVal.int IntKind.i64 (0 : Int), PVal.int IntKind.i64 (0 : Int), PVal.int IntKind.i64 (0 : Int), PVal.int IntKind.i64 (0 : Int), PVal.int IntKind.i64 (0 : Int), PVal.int IntKind.i64 (0 : Int), PVal.int IntKind.i64 (0 : Int), PVal.int IntKind.i64 (0 : Int), PVal.int IntKind.i64 (0 : Int), PVal.int IntKind.i64 (0 : Int), PVal.int IntKind.i64 x]), ((2 : Nat), o2), ((1 : Nat), o1), ((0 : Nat), o0)], ups := [] } }) from by kernel_rfl)) ?_
  refine k_take 2 (by exact (show _ = (some { env := [((10 : Nat), PVal.int IntKind.i64 (0 : Int)), ((9 : Nat), PVal.agg [PVal.int IntKind.i64 (0 : Int), PVal.int IntKind.i64 (0 : Int), PVal.int IntKind.i64 (0 : Int), PVal.int IntKind.i64 (0 : Int), PVal.int IntKind.i64 (0 : Int), PVal.int IntKind.i64 (0 : Int), PVal.int IntKind.i64 (0 : Int), PVal.int IntKind.i64 (0 : Int), PVal.int IntKind.i64 (0 : Int), PVal.int IntKind.i64 (0 : Int), PVal.int IntKind.i64 (0 : Int), PVal.int IntKind.i64 (0 : Int), PVal.int IntKind.i64 (0 : Int), PVal.int IntKind.i64 (0 : Int), PVal.int IntKind.i64 (0 : Int), PVal.int IntKind.i64 (0 : Int), PVal.int IntKind.i64 (0 : Int), PVal.int IntKind.i64 x]), ((4 : Nat), PVal.bool false), ((0 : Nat), PVal.int IntKind.i64 x)], mem := { next := (4 : Nat), objs := [((3 : Nat), MObj.cells [PVal.int IntKind.i64 (0 : Int), PVal.int IntKind.i64 (0 : Int), PVal.int IntKind.i64 (0 : Int), PVal.int IntKind.i64 (0 : Int), PVal.int IntKind.i64 (0 : Int), PVal.int IntKind.i64 (0 : Int), PVal.int IntKind.i64 (0 : Int), PVal.int IntKind.i64 (0 : Int), PVal.int IntKind.i64 (0 : Int), PVal.int IntKind.i64 (0 : Int), PVal.int IntKind.i64 (0 : Int), PVal.int IntKind.i64 (0 : Int), PVal.int IntKind.i64 (0 : Int), PVal.int IntKind.i64 (0 : Int), PVal.int IntKind.i64 (0 : Int), PVal.int IntKind.i64 (0 : Int), PVal.int IntKind.i64 (0 : Int), PVal.int IntKind.i64 x]), ((2 : Nat), o2), ((1 : Nat), o1), ((0 : Nat), o0)], ups := [] } }) from by kernel_rfl)) ?_
  refine k_call (by exact (show _ = (some ([PVal.func (125 : Nat) [], PVal.agg [PVal.int IntKind.i64 (0 : Int), PVal.int IntKind.i64 (0 : Int), PVal.int IntKind.i64 (0 : Int), PVal.int IntKind.i64 (0 : Int), PVal.int IntKind.i64 (0 : Int), PVal.int IntKind.i64 (0 : Int), PVal.int IntKind.i64 (0 : Int), PVal.int IntKind.i64 (0 : Int), PVal.int IntKind.i64 (0 : Int), PVal.int IntKind.i64 (0 : Int), PVal.int IntKind.i64 (0 : Int), PVal.int IntKind.i64 (0 : Int), PVal.int IntKind.i64 (0 : Int), PVal.int IntKind.i64 (0 : Int), PVal.int IntKind.i64 (0 : Int), PVal.int IntKind.i64 (0 : Int), PVal.int IntKind.i64 (0 : Int), PVal.int IntKind.i64 x], PVal.int IntKind.i64 (0 : Int)], [((4 : Nat), PVal.bool false), ((0 : Nat), PVal.int IntKind.i64 x)])) from by kernel_rfl)) (by exact (show _ = ([PVal.agg [PVal.int IntKind.i64 (0 : Int), PVal.int IntKind.i64 (0 : Int), PVal.int IntKind.i64 (0 : Int), PVal.int IntKind.i64 (0 : Int), PVal.int IntKind.i64 (0 : Int), PVal.int IntKind.i64 (0 : Int), PVal.int IntKind.i64 (0 : Int), PVal.int IntKind.i64 (0 : Int), PVal.int IntKind.i64 (0 : Int), PVal.int IntKind.i64 (0 : Int), PVal.int IntKind.i64 (0 : Int), PVal.int IntKind.i64 (0 : Int), PVal.int IntKind.i64 (0 : Int), PVal.int IntKind.i64 (0 : Int), PVal.int IntKind.i64 (0 : Int), PVal.int IntKind.i64 (0 : Int), PVal.int IntKind.i64 (0 : Int), PVal.int IntKind.i64 x], PVal.int IntKind.i64 (0 : Int)]) from by kernel_rfl)) (by exact (f125a ..)) (by rfl) ?_
  kernel_rfl
theorem f92b (j : Nat) (x : Int) (o2 o1 o0 : MObj) : evFn globs tab noext L (j + 1 + 1) (.func 92 []) [I x, I 1] (M3 o2 o1 o0) = some (.bool (b1 x), M3 o2 o1 o0) := by
  kernel_rfl
def more (x y : Int) : Bool := bif (bif b0 y then !b0 x else false) then true else (bif b1 y then !b1 x else false)
theorem f60 (j : Nat) (x y : Int) (o2 o1 o0 : MObj) : evFn globs tab noext L (j + 1 + 1 + 1) (.func 60 []) [I x, I y] (M3 o2 o1 o0) = some (.bool (more x y), M3 o2 o1 o0) := by
  refine fn_k t60 ?_
  refine k_ops (by exact (show _ = (some { env := [((4 : Nat), PVal.bool false), ((0 : Nat), PVal.int IntKind.i64 x), ((1 : Nat), PVal.int IntKind.i64 y)], mem := { next := (3 : Nat), objs := [((2 : Nat), o2), ((1 : Nat), o1), ((0 : Nat), o0)], ups := [] } }) from by kernel_rfl)) ?_
  refine k_op (by exact (show _ = (some { env := [((5 : Nat), PVal.int IntKind.i64 y), ((4 : Nat), PVal.bool false), ((0 : Nat), PVal.int IntKind.i64 x), ((1 : Nat), PVal.int IntKind.i64 y)], mem := { next := (3 : Nat), objs := [((2 : Nat), o2), ((1 : Nat), o1), ((0 : Nat), o0)], ups := [] } }) from by kernel_rfl)) ?_
  refine k_call (by exact (show _ = (some ([PVal.func (92 : Nat) [], PVal.int IntKind.i64 y, PVal.int IntKind.i64 (0 : Int)], [((4 : Nat), PVal.bool false), ((0 : Nat), PVal.int IntKind.i64 x), ((1 : Nat), PVal.int IntKind.i64 y)])) from by kernel_rfl)) (by exact (show _ = ([PVal.int IntKind.i64 y, PVal.int IntKind.i64 (0 : Int)]) from by kernel_rfl)) (by exact (f92a ..)) (by rfl) ?_
  have more_def : more x y = bif (bif b0 y then !b0 x else false) then true else (bif b1 y then !b1 x else false) := rfl
  rw [more_def]
  have g1 : ∀ j v, evFn globs tab noext L (j + 1 + 1) (.func 92 []) [I v, I 0] (M3 o2 o1 o0) = some (.bool (b0 v), M3 o2 o1 o0) := fun j v => f92a ..
  have g2 : ∀ j v, evFn globs tab noext L (j + 1 + 1) (.func 92 []) [I v, I 1] (M3 o2 o1 o0) = some (.bool (b1 v), M3 o2 o1 o0) := fun j v => f92b ..
  generalize b0 y = t1
  cases t1
  · refine k_take 7 (by exact (show _ = (some { env := [((13 : Nat), PVal.int IntKind.i64 y), ((12 : Nat), PVal.bool false), ((9 : Nat), PVal.tuple []), ((8 : Nat), PVal.tuple []), ((4 : Nat), PVal.bool false), ((0 : Nat), PVal.int IntKind.i64 x)], mem := { next := (3 : Nat), objs := [((2 : Nat), o2), ((1 : Nat), o1), ((0 : Nat), o0)], ups := [] } }) from by kernel_rfl)) ?_
    refine k_callG (by exact (show _ = (some true) from by kernel_rfl)) (by exact (show _ = (some ([PVal.func (92 : Nat) [], PVal.int IntKind.i64 y, PVal.int IntKind.i64 (1 : Int)], [((12 : Nat), PVal.bool false), ((9 : Nat), PVal.tuple []), ((8 : Nat), PVal.tuple []), ((4 : Nat), PVal.bool false), ((0 : Nat), PVal.int IntKind.i64 x)])) from by kernel_rfl)) (by exact (show _ = ([PVal.int IntKind.i64 y, PVal.int IntKind.i64 (1 : Int)]) from by kernel_rfl)) (by exact (g2 ..)) (by rfl) ?_
    generalize b1 y = t2
    cases t2
    · kernel_rfl
    · refine k_take 2 (by exact (show _ = (some { env := [((16 : Nat), PVal.int IntKind.i64 x), ((15 : Nat), PVal.bool true), ((12 : Nat), PVal.bool false), ((9 : Nat), PVal.tuple []), ((8 : Nat), PVal.tuple []), ((4 : Nat), PVal.bool false)], mem := { next := (3 : Nat), objs := [((2 : Nat), o2), ((1 : Nat), o1), ((0 : Nat), o0)], ups := [] } }) from by kernel_rfl)) ?_
      refine k_callG (by exact (show _ = (some true) from by kernel_rfl)) (by exact (show _ = (some ([PVal.func (92 : Nat) [], PVal.int IntKind.i64 x, PVal.int IntKind.i64 (1 : Int)], [((15 : Nat), PVal.bool true), ((12 : Nat), PVal.bool false), ((9 : Nat), PVal.tuple []), ((8 : Nat), PVal.tuple []), ((4 : Nat), PVal.bool false)])) from by kernel_rfl)) (by exact (show _ = ([PVal.int IntKind.i64 x, PVal.int IntKind.i64 (1 : Int)]) from by kernel_rfl)) (by exact (g2 ..)) (by rfl) ?_
      kernel_rfl
  · refine k_take 2 (by exact (show _ = (some { env := [((8 : Nat), PVal.int IntKind.i64 x), ((7 : Nat), PVal.bool true), ((4 : Nat), PVal.bool false), ((0 : Nat), PVal.int IntKind.i64 x), ((1 : Nat), PVal.int IntKind.i64 y)], mem := { next := (3 : Nat), objs := [((2 : Nat), o2), ((1 : Nat), o1), ((0 : Nat), o0)], ups := [] } }) from by kernel_rfl)) ?_
    refine k_callG (by exact (show _ = (some true) from by kernel_rfl)) (by exact (show _ = (some ([PVal.func (92 : Nat) [], PVal.int IntKind.i64 x, PVal.int IntKind.i64 (0 : Int)], [((7 : Nat), PVal.bool true), ((4 : Nat), PVal.bool false), ((0 : Nat), PVal.int IntKind.i64 x), ((1 : Nat), PVal.int IntKind.i64 y)])) from by kernel_rfl)) (by exact (show _ = ([PVal.int IntKind.i64 x, PVal.int IntKind.i64 (0 : Int)]) from by kernel_rfl)) (by exact (g1 ..)) (by rfl) ?_
    generalize b0 x = t3
    cases t3
    · kernel_rfl
    · refine k_take 4 (by exact (show _ = (some { env := [((13 : Nat), PVal.int IntKind.i64 y), ((12 : Nat), PVal.bool false), ((4 : Nat), PVal.bool false), ((0 : Nat), PVal.int IntKind.i64 x)], mem := { next := (3 : Nat), objs := [((2 : Nat), o2), ((1 : Nat), o1), ((0 : Nat), o0)], ups := [] } }) from by kernel_rfl)) ?_
      refine k_callG (by exact (show _ = (some true) from by kernel_rfl)) (by exact (show _ = (some ([PVal.func (92 : Nat) [], PVal.int IntKind.i64 y, PVal.int IntKind.i64 (1 : Int)], [((12 : Nat), PVal.bool false), ((4 : Nat), PVal.bool false), ((0 : Nat), PVal.int IntKind.i64 x)])) from by kernel_rfl)) (by exact (show _ = ([PVal.int IntKind.i64 y, PVal.int IntKind.i64 (1 : Int)]) from by kernel_rfl)) (by exact (g2 ..)) (by rfl) ?_
      generalize b1 y = t2
      cases t2
      · kernel_rfl
      · refine k_take 2 (by exact (show _ = (some { env := [((16 : Nat), PVal.int IntKind.i64 x), ((15 : Nat), PVal.bool true), ((12 : Nat), PVal.bool false), ((4 : Nat), PVal.bool false)], mem := { next := (3 : Nat), objs := [((2 : Nat), o2), ((1 : Nat), o1), ((0 : Nat), o0)], ups := [] } }) from by kernel_rfl)) ?_
        refine k_callG (by exact (show _ = (some true) from by kernel_rfl)) (by exact (show _ = (some ([PVal.func (92 : Nat) [], PVal.int IntKind.i64 x, PVal.int IntKind.i64 (1 : Int)], [((15 : Nat), PVal.bool true), ((12 : Nat), PVal.bool false), ((4 : Nat), PVal.bool false)])) from by kernel_rfl)) (by exact (show _ = ([PVal.int IntKind.i64 x, PVal.int IntKind.i64 (1 : Int)]) from by kernel_rfl)) (by exact (g2 ..)) (by rfl) ?_
        kernel_rfl
theorem f38 (j : Nat) (k a b c1 d e : Int) (o1 o0 : MObj) : evFn globs tab noext L (j + 1 + 1 + 1 + 1) (.func 38 []) [.agg (ev k a b c1 d e)] (M2 o1 o0) = some (.bool (bif (bif k == 2 then b == 17 else false) then more c1 d else false), M2 o1 o0) := by
  refine fn_k t38 ?_
  refine k_ops (by exact (show _ = (some { env := [((2 : Nat), PVal.bool false), ((1 : Nat), PVal.ptr (2 : Nat) (0 : Nat)), ((0 : Nat), PVal.agg [PVal.int IntKind.i64 k, PVal.int IntKind.i64 a, PVal.int IntKind.i64 b, PVal.int IntKind.i64 c1, PVal.int IntKind.i64 d, PVal.int IntKind.i64 e])], mem := { next := (3 : Nat), objs := [((2 : Nat), MObj.cells [PVal.int IntKind.i64 k, PVal.int IntKind.i64 a, PVal.int IntKind.i64 b, PVal.int IntKind.i64 c1, PVal.int IntKind.i64 d, PVal.int IntKind.i64 e]), ((1 : Nat), o1), ((0 : Nat), o0)], ups := [] } }) from by kernel_rfl)) ?_
  refine k_take 4 (by exact (show _ = (some { env := [((6 : Nat), PVal.bool (k == (2 : Int))), ((2 : Nat), PVal.bool false), ((1 : Nat), PVal.ptr (2 : Nat) (0 : Nat)), ((0 : Nat), PVal.agg [PVal.int IntKind.i64 k, PVal.int IntKind.i64 a, PVal.int IntKind.i64 b, PVal.int IntKind.i64 c1, PVal.int IntKind.i64 d, PVal.int IntKind.i64 e])], mem := { next := (3 : Nat), objs := [((2 : Nat), MObj.cells [PVal.int IntKind.i64 k, PVal.int IntKind.i64 a, PVal.int IntKind.i64 b, PVal.int IntKind.i64 c1, PVal.int IntKind.i64 d, PVal.int IntKind.i64 e]), ((1 : Nat), o1), ((0 : Nat), o0)], ups := [] } }) from by kernel_rfl)) ?_
  generalize (k == 2) = t
  cases t
  · kernel_rfl
  · refine k_take 5 (by exact (show _ = (some { env := [((11 : Nat), PVal.bool (b == (17 : Int))), ((2 : Nat), PVal.bool false), ((1 : Nat), PVal.ptr (2 : Nat) (0 : Nat)), ((0 : Nat), PVal.agg [PVal.int IntKind.i64 k, PVal.int IntKind.i64 a, PVal.int IntKind.i64 b, PVal.int IntKind.i64 c1, PVal.int IntKind.i64 d, PVal.int IntKind.i64 e])], mem := { next := (3 : Nat), objs := [((2 : Nat), MObj.cells [PVal.int IntKind.i64 k, PVal.int IntKind.i64 a, PVal.int IntKind.i64 b, PVal.int IntKind.i64 c1, PVal.int IntKind.i64 d, PVal.int IntKind.i64 e]), ((1 : Nat), o1), ((0 : Nat), o0)], ups := [] } }) from by kernel_rfl)) ?_
    generalize h : (b == 17) = t2
    cases t2
    · kernel_rfl
    · refine k_take 4 (by exact (show _ = (some { env := [((15 : Nat), PVal.int IntKind.i64 d), ((13 : Nat), PVal.int IntKind.i64 c1), ((11 : Nat), PVal.bool true), ((2 : Nat), PVal.bool false), ((0 : Nat), PVal.agg [PVal.int IntKind.i64 k, PVal.int IntKind.i64 a, PVal.int IntKind.i64 b, PVal.int IntKind.i64 c1, PVal.int IntKind.i64 d, PVal.int IntKind.i64 e])], mem := { next := (3 : Nat), objs := [((2 : Nat), MObj.cells [PVal.int IntKind.i64 k, PVal.int IntKind.i64 a, PVal.int IntKind.i64 b, PVal.int IntKind.i64 c1, PVal.int IntKind.i64 d, PVal.int IntKind.i64 e]), ((1 : Nat), o1), ((0 : Nat), o0)], ups := [] } }) from by kernel_rfl)) ?_
      refine k_callG (by exact (show _ = (some true) from by kernel_rfl)) (by exact (show _ = (some ([PVal.func (60 : Nat) [], PVal.int IntKind.i64 c1, PVal.int IntKind.i64 d], [((11 : Nat), PVal.bool true), ((2 : Nat), PVal.bool false), ((0 : Nat), PVal.agg [PVal.int IntKind.i64 k, PVal.int IntKind.i64 a, PVal.int IntKind.i64 b, PVal.int IntKind.i64 c1, PVal.int IntKind.i64 d, PVal.int IntKind.i64 e])])) from by kernel_rfl)) (by exact (show _ = ([PVal.int IntKind.i64 c1, PVal.int IntKind.i64 d]) from by kernel_rfl)) (by exact (f60 ..)) (by rfl) ?_
      kernel_rfl
end
end Go.Ev.K8

namespace Go.Ev.K8
theorem u64_nat (x : Int) : IntKind.u64.wrap x = ((BitVec.ofInt 64 x).toNat : Int) := by
  simp [IntKind.wrap, IntKind.bits, IntKind.signed, BitVec.toNat_ofInt]
  omega
theorem b0_lsb (x : Int) : b0 x = (BitVec.ofInt 64 x).getLsbD 0 := by
  unfold b0
  rw [u64_nat]
  generalize BitVec.ofInt 64 x = v
  have : ((v.toNat : Int).tmod 2) = ((v.toNat % 2 : Nat) : Int) := (Int.ofNat_tmod _ 2).symm
  rw [this]
  rw [BitVec.getLsbD, Nat.testBit_zero]
  rcases Nat.mod_two_eq_zero_or_one v.toNat with h | h <;> simp [h]
theorem b1_lsb (x : Int) : b1 x = (BitVec.ofInt 64 x).getLsbD 1 := by
  unfold b1
  rw [u64_nat x]
  generalize BitVec.ofInt 64 x = v
  have h1 : ((v.toNat : Int).tdiv 2) = ((v.toNat / 2 : Nat) : Int) := (Int.ofNat_tdiv _ 2).symm
  rw [h1]
  have hv := v.isLt
  have h2 : IntKind.u64.wrap ((v.toNat / 2 : Nat) : Int) = ((v.toNat / 2 : Nat) : Int) := by
    simp [IntKind.wrap, IntKind.bits, IntKind.signed]
    omega
  rw [h2]
  have : (((v.toNat / 2 : Nat) : Int).tmod 2) = ((v.toNat / 2 % 2 : Nat) : Int) := (Int.ofNat_tmod _ 2).symm
  rw [this, BitVec.getLsbD, Nat.testBit_succ, Nat.testBit_zero]
  rcases Nat.mod_two_eq_zero_or_one (v.toNat / 2) with h | h <;> simp [h]
theorem i64_zero (v : BitVec 64) : (IntKind.i64.wrap (v.toNat : Int) != 0) = (v != 0#64) := by
  have hv := v.isLt
  rw [IntKind.wrap_i64]
  have : ((((v.toNat : Int) + 9223372036854775808) % 18446744073709551616 - 9223372036854775808) = 0) ↔ v = 0#64 := by
    rw [← BitVec.toNat_inj]
    simp
    omega
  by_cases h : v = 0#64
  · simp [h]
  · have h' := (not_congr this).mpr h
    rw [bne, beq_eq_false_iff_ne.mpr h', bne, beq_eq_false_iff_ne.mpr h]
theorem ofInt_i64 (v : BitVec 64) : BitVec.ofInt 64 (IntKind.i64.wrap (v.toNat : Int)) = v := by
  have hv := v.isLt
  apply BitVec.eq_of_toNat_eq
  rw [BitVec.toNat_ofInt, IntKind.wrap_i64]
  omega
theorem gN_more (c1 d : Int) : gN c1 d = more c1 d := by
  unfold gN more
  rw [ofInt_i64, i64_zero, b0_lsb, b0_lsb, b1_lsb, b1_lsb]
  generalize BitVec.ofInt 64 d = D
  generalize BitVec.ofInt 64 c1 = C
  by_cases h : (D &&& ~~~C &&& BitVec.ofInt 64 3) = 0#64
  · have h0 := congrArg (fun v => v.getLsbD 0) h
    have h1 := congrArg (fun v => v.getLsbD 1) h
    simp at h0 h1
    have e0 : (BitVec.ofInt 64 3).getLsbD 0 = true := rfl
    have e1 : (BitVec.ofInt 64 3).getLsbD 1 = true := rfl
    cases hd0 : D.getLsbD 0 <;> cases hc0 : C.getLsbD 0 <;> cases hd1 : D.getLsbD 1 <;> cases hc1 : C.getLsbD 1 <;> simp_all
  · have : ((D &&& ~~~C &&& BitVec.ofInt 64 3) != 0#64) = true := by simpa using h
    rw [this]
    by_cases h0 : D.getLsbD 0 = true ∧ C.getLsbD 0 = false
    · rw [h0.1, h0.2]; rfl
    · by_cases h1 : D.getLsbD 1 = true ∧ C.getLsbD 1 = false
      · rw [h1.1, h1.2]; cases D.getLsbD 0 <;> cases C.getLsbD 0 <;> rfl
      · exfalso
        apply h
        apply BitVec.eq_of_getLsbD_eq
        intro i hi
        have e3 : ∀ i, (BitVec.ofInt 64 3).getLsbD i = (decide (i < 2)) := by
          intro i
          have : BitVec.ofInt 64 3 = 3#64 := rfl
          rw [this]
          match i with
          | 0 => rfl
          | 1 => rfl
          | i + 2 =>
            simp only [BitVec.getLsbD, BitVec.toNat_ofNat]
            rw [show (3 % 2 ^ 64) = 3 from rfl, Nat.testBit_succ, Nat.testBit_succ]
            simp
        simp only [BitVec.getLsbD_and, BitVec.getLsbD_not, e3, BitVec.getLsbD_zero]
        match i with
        | 0 => cases hd0 : D.getLsbD 0 <;> cases hc0 : C.getLsbD 0 <;> simp_all
        | 1 => cases hd0 : D.getLsbD 1 <;> cases hc0 : C.getLsbD 1 <;> simp_all
        | i + 2 => simp
end Go.Ev.K8

