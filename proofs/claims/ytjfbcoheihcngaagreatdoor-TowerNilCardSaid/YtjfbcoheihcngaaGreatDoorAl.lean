/- One of the texts that the proof of the law rests on: it has no condition of its own. -/
import Derived.Test.YtjfbcoheihcngaaGreatDoorMc
import Derived.KernelRfl
namespace Go.Ev.N4
open Go.Ev
/-- Deck of nothing. -/
def ext42 (a : List PVal) (m : Mem) : Option (PVal × Mem) :=
  match a with
  | [.slice [] _] => some (.niliface, m)
  | _ => none
/-- What an iterator over nothing gives. -/
def ext164 (a : List PVal) (m : Mem) : Option (PVal × Mem) :=
  match a with
  | [.slice [] _, .func 139 [.ptr id off]] =>
    match m.get id with
    | some (.cells cs) => match cs[off]? with
      | some (.slice [] _) => some (.slice [] .no, m)
      | _ => none
    | _ => none
  | _ => none
def ext187 (a : List PVal) (m : Mem) : Option (PVal × Mem) :=
  match a with
  | [.int .u64 n] => bif n == 0 then some (.int .i64 0, m) else none
  | _ => none
def ext (f : Nat) : Option (List PVal → Mem → Option (PVal × Mem)) :=
  bif f.beq 42 then some ext42 else bif f.beq 164 then some ext164 else bif f.beq 187 then some ext187 else none
def gl (n : Nat) : Option (List PVal) := bif n.beq 0 || n.beq 1 || n.beq 6 || n.beq 7 then globs n else none
end Go.Ev.N4

namespace Go.Ev.N4
open Go.Ev
/-- What Begin leaves. -/
def begQ : MObj := .cells [.slice [] .no, .slice [] .no, .slice [] .no, .slice [] .no, .slice [] .no, .slice [] .no, .slice [] .no, .slice [] .no, .slice [] .no, .slice [] .no, .slice [] .no, .slice [] .no, .int .i64 20, .int .i64 0, .int .i64 0, .int .i64 0, .int .i64 0, .int .i64 0, .int .i64 0, .int .i64 0, .int .i64 1, .int .i64 20, .int .i64 0, .int .i64 0, .int .i64 0, .int .i64 0, .int .i64 0, .int .i64 0, .int .i64 0, .int .i64 1, .int .i64 1, .int .i64 0, .int .i64 0, .int .i64 0, .int .i64 0, .int .i64 0, .int .i64 3, .slice [] .no, .slice [[.int .i64 3, .int .i64 0, .int .i64 0, .int .i64 0, .int .i64 20, .int .i64 0], [.int .i64 3, .int .i64 1, .int .i64 0, .int .i64 0, .int .i64 20, .int .i64 0], [.int .i64 3, .int .i64 0, .int .i64 8, .int .i64 0, .int .i64 1, .int .i64 0], [.int .i64 3, .int .i64 1, .int .i64 8, .int .i64 0, .int .i64 1, .int .i64 0], [.int .i64 4, .int .i64 0, .int .i64 0, .int .i64 0, .int .i64 1, .int .i64 0], [.int .i64 4, .int .i64 0, .int .i64 6, .int .i64 0, .int .i64 3, .int .i64 0]] .own, .slice [] .no, .niliface]
def begP : MObj := .cells [.slice [] .no, .slice [] .no, .slice [] .no, .slice [] .no, .slice [] .no, .slice [] .no, .slice [] .no, .slice [] .no, .slice [] .no, .slice [] .no, .slice [] .no, .slice [] .no, .int .i64 0, .int .i64 0, .int .i64 0, .int .i64 0, .int .i64 0, .int .i64 0, .int .i64 0, .int .i64 0, .int .i64 0, .int .i64 0, .int .i64 0, .int .i64 0, .int .i64 0, .int .i64 0, .int .i64 0, .int .i64 0, .int .i64 0, .int .i64 0, .int .i64 0, .int .i64 0, .int .i64 0, .int .i64 0, .int .i64 0, .int .i64 0, .int .i64 0]
/-- Begin without cards. -/
def ext44 (a : List PVal) (m : Mem) : Option (PVal × Mem) :=
  match a with
  | [.slice [] .no, .slice [] .no, .slice [] .no] =>
    match m with
    | ⟨n, (j, ob) :: rest, []⟩ => bif n.beq 5 && j.beq 4 then some (.ptr 6 0, ⟨7, (6, begQ) :: (5, begP) :: (4, ob) :: rest, []⟩) else bif n.beq 21 && j.beq 20 then some (.ptr 22 0, ⟨23, (22, begQ) :: (21, begP) :: (20, ob) :: rest, []⟩) else none
    | _ => none
  | _ => none
def ext3 (f : Nat) : Option (List PVal → Mem → Option (PVal × Mem)) := bif f.beq 44 then some ext44 else ext f
end Go.Ev.N4

