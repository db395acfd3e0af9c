/- One of the texts that the proof of the law rests on: it has no condition of its own. -/
import GoSem.Dispatch
import GoSem.Core.Layout
import GoSem.Core.Check
/- A deterministic evaluator on pure values: slices are lists, what is pointed to lies in a small memory of its own. -/
namespace Go.Ev

/-- What is known of a slice's spare room: there is none (exact), it is this one's alone (own), nothing (no). -/
inductive Cap where
  | exact | own | no
  deriving DecidableEq, Repr, Inhabited

inductive PVal where
  | bool (b : Bool)
  | int (k : IntKind) (n : Int)
  | str (s : List UInt8)
  | ptr (id off : Nat)
  | eptr (cs : List PVal)
  | nilptr
  | slice (xs : List (List PVal)) (c : Cap)
  | oslice (sz id off len cap : Nat)
  | map (id : Nat)
  | nilmap
  | func (f : Nat) (caps : List PVal)
  | nilfunc
  | iface (t : Nat) (v : PVal)
  | niliface
  | agg (cs : List PVal)
  | tuple (vs : List PVal)
  | yield (l : Nat)
  /-- a pointer to a new variable that nobody else knows yet -/
  | fresh (z : List PVal)
  deriving Inhabited

def PVal.isCell : PVal → Bool
  | .agg _ | .tuple _ | .fresh _ => false
  | _ => true

def PVal.isFresh : PVal → Bool
  | .fresh _ => true
  | _ => false

def PVal.isFunc : PVal → Bool
  | .func _ _ => true
  | _ => false

/-- What a function value may capture. -/
def PVal.isCap : PVal → Bool
  | .agg _ | .tuple _ | .fresh _ => false
  | .func _ caps => caps.isEmpty
  | _ => true

def PVal.isInt : PVal → Bool
  | .int .. => true
  | _ => false
def Cap.nz : Cap → Cap
  | .own => .no
  | c => c
/-- A cell without a right to grow. -/
def PVal.nz0 : PVal → PVal
  | .slice xs c => .slice xs c.nz
  | v => v
def PVal.nz1 : PVal → PVal
  | .agg cs => .agg (cs.map PVal.nz0)
  | v => v.nz0
def PVal.nz : PVal → PVal
  | .tuple vs => .tuple (vs.map PVal.nz1)
  | v => v.nz1

/-- A cell that holds no object's number. -/
def PVal.flat : PVal → Bool
  | .bool _ | .int _ _ | .str _ | .nilptr | .slice .. | .eptr _ | .nilmap | .nilfunc | .niliface => true
  | .func _ caps => caps.isEmpty
  | .iface _ v => v.flat
  | _ => false
/-- All objects' numbers in a cell are below n. -/
def PVal.under0 (n : Nat) : PVal → Bool
  | .ptr id _ | .oslice _ id _ _ _ | .map id | .yield id => Nat.blt id n
  | v => v.flat
def PVal.under1 (n : Nat) : PVal → Bool
  | .func _ caps => caps.all (PVal.under0 n)
  | v => v.under0 n
def PVal.under2 (n : Nat) : PVal → Bool
  | .agg cs => cs.all (PVal.under1 n)
  | v => v.under1 n
def PVal.under (n : Nat) : PVal → Bool
  | .tuple vs => vs.all (PVal.under2 n)
  | v => v.under2 n

mutual
def PVal.beq : PVal → PVal → Bool
  | .bool a, .bool b => a == b
  | .int k a, .int j b => decide (k = j) && a == b
  | .str a, .str b => a == b
  | .ptr i o, .ptr j q => i.beq j && o.beq q
  | .eptr a, .eptr b => PVal.beqL a b
  | .nilptr, .nilptr => true
  | .slice a c, .slice b d => PVal.beqLL a b && decide (c = d)
  | .oslice s i o l c, .oslice s' i' o' l' c' => s.beq s' && i.beq i' && o.beq o' && l.beq l' && c.beq c'
  | .map i, .map j => i.beq j
  | .nilmap, .nilmap => true
  | .func f a, .func g b => f.beq g && PVal.beqL a b
  | .nilfunc, .nilfunc => true
  | .iface t v, .iface u w => t.beq u && PVal.beq v w
  | .niliface, .niliface => true
  | .agg a, .agg b => PVal.beqL a b
  | .tuple a, .tuple b => PVal.beqL a b
  | .yield i, .yield j => i.beq j
  | _, _ => false
def PVal.beqL : List PVal → List PVal → Bool
  | [], [] => true
  | a :: as, b :: bs => PVal.beq a b && PVal.beqL as bs
  | _, _ => false
def PVal.beqLL : List (List PVal) → List (List PVal) → Bool
  | [], [] => true
  | a :: as, b :: bs => PVal.beqL a b && PVal.beqLL as bs
  | _, _ => false
end

abbrev Env := List (Nat × PVal)
def Env.get : Env → Nat → Option PVal
  | [], _ => none
  | (s, v) :: e, t => bif s.beq t then some v else Env.get e t
def Env.del : Env → Nat → Env
  | [], _ => []
  | (s, v) :: e, t => bif s.beq t then e else (s, v) :: Env.del e t
def Env.put (e : Env) (t : Nat) (v : PVal) : Env := (t, v) :: e.del t

/-- An operand: mv: the slot is given up; cp: it stays. -/
inductive Opd where
  | mv (t : Nat) | cp (t : Nat) | val (v : PVal) | glob (g : Nat)
  deriving Inhabited

inductive MOp where
  | move
  | pick
  | box (keep : Bool)
  | alloc (zero : List PVal)
  /-- a variable that its first store makes an object of -/
  | allocF (zero : List PVal)
  | init (n : Nat) (keep : Bool)
  | build (keep : Bool) (zero : List PVal) (parts : List (Nat × Nat))
  | mkslice (sz n : Nat) (zero : List PVal) (idx : List Nat) (obj : Bool)
  | load (agg : Bool) (n : Nat) (steal : Bool)
  | store (n : Nat) (keep frz : Bool)
  | nilchk
  | bin (op : BinOp)
  | binB (neg : Bool)
  | eqvP (neg : Bool)
  | eqvI (neg : Bool)
  | eqvA (neg : Bool) (n : Nat)
  | un (op : UnOp)
  | conv (k : IntKind)
  | tostr
  | iface (t : Nat)
  | mkfn (f : Nat)
  | mkmap
  | mkrow (zero : List PVal) (obj : Bool)
  | sliceS (sz : Nat) (lo hi mx : Bool)
  | sliceA (n sz : Nat) (lo hi mx : Bool)
  | fadd (off : Nat)
  | idxS (sz : Nat)
  | idxA (n sz : Nat)
  | fld (agg : Bool) (off n : Nat)
  | idxV (agg : Bool) (len n : Nat)
  /-- kk: the keys' kind -/
  | lookup (kk : Nat) (zero : PVal) (ok : Bool)
  | mapset (kk : Nat)
  | assert (t : Nat) (zero : PVal)
  | extract (i : Nat)
  | call
  | append (sz : Nat) (obj : Bool)
  | clone (f : Nat) (sz : Nat) (obj : Bool)
  | copy (sz : Nat)
  /-- the elements' zero -/
  | clear (zero : List PVal)
  /-- of a slice, a string, a map -/
  | len (k : Nat)
  | lenA (n : Nat)
  | mm (isMax : Bool)
  | bad (why : String)
  deriving Inhabited

structure MOper where
  dst : Option Nat
  op : MOp
  args : List Opd
  guard : Option (Nat × Bool)
  deriving Inhabited

inductive MCode where
  | skip
  /-- conf: which reads are looked at again around which writes (in a region that draws its order) -/
  | region (ops : List MOper) (conf : List (Nat × Nat))
  | seq (a b : MCode)
  | cond (c : Opd) (a b : MCode)
  | block (id : Nat) (b : MCode)
  | loop (trim : Bool) (b : MCode)
  | rangeFunc (f : Opd) (params : List Nat) (asg body : MCode)
  | exit (id : Nat)
  | ret
  | bad (why : String)
  deriving Inhabited

inductive MObj where
  | cells (cs : List PVal)
  | map (es : List (PVal × PVal))
  | loop (env : Env) (params : List Nat) (asg body : MCode) (state : Nat) (pending : Option (Option Nat))
  deriving Inhabited

structure Mem where
  next : Nat
  objs : List (Nat × MObj)
  ups : List Nat
  deriving Inhabited

def Mem.find : List (Nat × MObj) → Nat → Option MObj
  | [], _ => none
  | (s, v) :: e, t => bif s.beq t then some v else Mem.find e t
def Mem.repl : List (Nat × MObj) → Nat → MObj → List (Nat × MObj)
  | [], _, _ => []
  | (s, v) :: e, t, o => bif s.beq t then (s, o) :: e else (s, v) :: Mem.repl e t o
def Mem.rem : List (Nat × MObj) → Nat → List (Nat × MObj)
  | [], _ => []
  | (s, v) :: e, t => bif s.beq t then e else (s, v) :: Mem.rem e t
def Mem.get (m : Mem) (id : Nat) : Option MObj := Mem.find m.objs id
def Mem.set (m : Mem) (id : Nat) (o : MObj) : Mem := ⟨m.next, Mem.repl m.objs id o, m.ups⟩
def Mem.del (m : Mem) (id : Nat) : Mem := ⟨m.next, Mem.rem m.objs id, m.ups⟩
def Mem.push (m : Mem) (o : MObj) : Mem := ⟨m.next + 1, (m.next, o) :: m.objs, m.ups⟩
def hasNat (n : Nat) : List Nat → Bool
  | [] => false
  | x :: xs => x.beq n || hasNat n xs
def Mem.mark (m : Mem) (id : Nat) (ok : Bool) : Mem := bif ok || hasNat id m.ups then m else ⟨m.next, m.objs, id :: m.ups⟩
def Mem.drop (n : Nat) : List (Nat × MObj) → List (Nat × MObj)
  | [] => []
  | (s, v) :: e => bif Nat.ble n s then Mem.drop n e else (s, v) :: e
def MObj.under (n : Nat) : MObj → Bool
  | .cells cs => cs.all (PVal.under1 n)
  | .map es => es.all fun e => e.1.under2 n && e.2.under2 n
  | .loop env _ _ _ _ _ => env.all fun e => e.2.under n
/-- Does nothing below n lead to what is n or above? -/
def Mem.cutOk (m : Mem) (n : Nat) : Bool := m.ups.all fun p => Nat.ble n p || (match m.get p with | some o => o.under n | none => true)
/-- What stays marked. -/
def Mem.upsOf (m : Mem) (n : Nat) : List Nat := m.ups.filter fun p => Nat.blt p n && (match m.get p with | some o => !o.under (p + 1) | none => false)
def Mem.cut (m : Mem) (n : Nat) : Mem := ⟨n, Mem.drop n m.objs, m.upsOf n⟩

inductive MExit where
  | normal | exit (id : Nat) | ret
  deriving Inhabited

inductive MRes where
  | tmp (t : Nat) | cell (t : Nat) (agg : Bool) (n : Nat)
  deriving Inhabited

structure MFunc where
  body : MCode
  results : List MRes
  keep : Bool
  freeze : Bool
  deriving Inhabited

structure MSt where
  env : Env
  mem : Mem
  deriving Inhabited

section
variable (globs : Nat → Option (List PVal))

def opd : Opd → Env → Option (PVal × Env)
  | .mv t, e => (e.get t).bind fun v => bif v.isFresh then none else some (v, e.del t)
  | .cp t, e => (e.get t).bind fun v => bif v.isFresh then none else some (v.nz, e)
  | .val v, e => some (v, e)
  | .glob g, e => (globs g).map fun cs => (.eptr cs, e)

def opds : List Opd → Env → Option (List PVal × Env)
  | [], e => some ([], e)
  | x :: xs, e => (opd globs x e).bind fun r => (opds xs r.2).map fun s => (r.1 :: s.1, s.2)

def cellsOf : PVal → Option (List PVal)
  | .agg cs => some cs
  | .tuple _ | .fresh _ => none
  | v => some [v]

/-- What stands in a list from a place on is laid anew. -/
def putAt {α : Type} : List α → Nat → List α → List α
  | cs, 0, [] => cs
  | [], _, _ => []
  | _ :: cs, 0, v :: vs => v :: putAt cs 0 vs
  | c :: cs, n + 1, vs => c :: putAt cs n vs

def readAt (m : Mem) (p : PVal) (n : Nat) : Option (List PVal) :=
  match p with
  | .ptr id off => match m.get id with
    | some (.cells cs) => bif Nat.ble (off + n) cs.length then some ((cs.drop off).take n) else none
    | _ => none
  | .eptr cs => bif Nat.ble n cs.length then some (cs.take n) else none
  | _ => none

def writeAt (m : Mem) (p : PVal) (vs : List PVal) : Option Mem :=
  match p with
  | .ptr id off => match m.get id with
    | some (.cells cs) => bif Nat.ble (off + vs.length) cs.length then
        some ((m.set id (.cells (putAt cs off vs))).mark id (vs.all (PVal.under1 (id + 1))))
      else none
    | _ => none
  | _ => none

def wrapI (k : IntKind) (n : Int) : PVal := .int k (k.wrap n)

def intBits (k : IntKind) (op : BinOp) (x y : Int) : Option PVal :=
  match op with
  | .and => some (wrapI k (BitVec.ofInt k.bits x &&& BitVec.ofInt k.bits y).toNat)
  | .or => some (wrapI k (BitVec.ofInt k.bits x ||| BitVec.ofInt k.bits y).toNat)
  | .xor => some (wrapI k (BitVec.ofInt k.bits x ^^^ BitVec.ofInt k.bits y).toNat)
  | .andNot => some (wrapI k (BitVec.ofInt k.bits x &&& ~~~ BitVec.ofInt k.bits y).toNat)
  | _ => none

def intBin (op : BinOp) (k : IntKind) (x y : Int) : Option PVal :=
  match op with
  | .add => some (wrapI k (x + y))
  | .sub => some (wrapI k (x - y))
  | .mul => some (wrapI k (x * y))
  | .quo => bif y == 0 then none else some (wrapI k (x.tdiv y))
  | .rem => bif y == 0 then none else some (.int k (x.tmod y))
  | .eql => some (.bool (x == y))
  | .neq => some (.bool (x != y))
  | .lss => some (.bool (decide (x < y)))
  | .leq => some (.bool (decide (x ≤ y)))
  | .gtr => some (.bool (decide (x > y)))
  | .geq => some (.bool (decide (x ≥ y)))
  | .and => intBits k .and x y
  | .or => intBits k .or x y
  | .xor => intBits k .xor x y
  | .andNot => intBits k .andNot x y
  | _ => none

def intShift (op : BinOp) (k : IntKind) (a b : Int) : Option PVal :=
  bif decide (b < 0) then none else
  match op with
  | .shl => some (wrapI k (a * 2 ^ (min b.toNat k.bits)))
  | .shr => some (.int k (a.fdiv (2 ^ (min b.toNat k.bits))))
  | _ => none

def isShift : BinOp → Bool
  | .shl | .shr => true
  | _ => false

def binop (op : BinOp) (x y : PVal) : Option PVal :=
  match x, y with
  | .int k a, .int k' b => bif isShift op then intShift op k a b else bif decide (k = k') then intBin op k a b else none
  | .str a, .str b =>
    match op with
    | .eql => some (.bool (a == b))
    | .neq => some (.bool (!(a == b)))
    | _ => none
  | _, _ => none

/-- Are two flat cells of numbers, bools or strings the same? -/
def sameCell : PVal → PVal → Option Bool
  | .int k a, .int k' b => bif decide (k = k') then some (a == b) else none
  | .bool a, .bool b => some (a == b)
  | .str a, .str b => some (a == b)
  | _, _ => none
def sameCells : List PVal → List PVal → Option Bool
  | [], [] => some true
  | a :: as, b :: bs => (sameCell a b).bind fun t => (sameCells as bs).map fun u => t && u
  | _, _ => none
/-- Two keys of a map. -/
def sameVal (a b : PVal) : Option Bool :=
  match a, b with
  | .agg as, .agg bs => sameCells as bs
  | a, b => sameCell a b
/-- One of two pointers, or both, nil. -/
def sameNilP (a b : PVal) : Option Bool :=
  match a, b with
  | .nilptr, .nilptr => some true
  | .nilptr, .ptr _ _ => some false
  | .ptr _ _, .nilptr => some false
  | _, _ => none
/-- One of two interface values, or both, nil. -/
def sameNilI (a b : PVal) : Option Bool :=
  match a, b with
  | .niliface, .niliface => some true
  | .niliface, .iface _ _ => some false
  | .iface _ _, .niliface => some false
  | _, _ => none

def findKey (k : PVal) : List (PVal × PVal) → Option (Option PVal)
  | [] => some none
  | e :: es => (sameVal k e.1).bind fun b => bif b then some (some e.2) else findKey k es
def setKey (k v : PVal) : List (PVal × PVal) → Option (List (PVal × PVal))
  | [] => some [(k, v)]
  | e :: es => (sameVal k e.1).bind fun b => bif b then some ((k, v) :: es) else (setKey k v es).map fun r => e :: r

/-- A list of cells in pieces. -/
def pieces (sz : Nat) : Nat → List PVal → List (List PVal)
  | 0, _ => []
  | n + 1, cs => cs.take sz :: pieces sz n (cs.drop sz)

def allSz (sz : Nat) (xs : List (List PVal)) : Bool := xs.all fun x => x.length.beq sz

def headSz (sz : Nat) : List (List PVal) → Bool
  | [] => true
  | x :: _ => x.length.beq sz

/-- The elements of what is appended, or copied. -/
def elems (m : Mem) (sz : Nat) : PVal → Option (List (List PVal))
  | .slice xs _ => bif headSz sz xs then some xs else none
  | .oslice sz' id off len _ => bif sz.beq sz' then
      match m.get id with
      | some (.cells cs) => bif Nat.ble (off + len * sz) cs.length && ((cs.drop off).take (len * sz)).all PVal.flat then
          some (pieces sz len ((cs.drop off).map PVal.nz0)) else none
      | _ => none
    else none
  | .str s => bif sz.beq 1 then some (s.map fun b => [.int .u8 b.toNat]) else none
  | _ => none

def natOf : PVal → Option Nat
  | .int _ n => bif decide (0 ≤ n) then some n.toNat else none
  | _ => none

/-- The bounds of a slice expression, out of what is told. -/
def boundsOf (lo hi mx : Bool) (len cap : Nat) (args : List PVal) : Option (Nat × Nat × Nat) :=
  match lo, hi, mx, args with
  | false, false, false, [] => some (0, len, cap)
  | true, false, false, [a] => (natOf a).map fun l => (l, len, cap)
  | false, true, false, [b] => (natOf b).map fun h => (0, h, cap)
  | true, true, false, [a, b] => (natOf a).bind fun l => (natOf b).map fun h => (l, h, cap)
  | false, true, true, [b, c] => (natOf b).bind fun h => (natOf c).map fun m => (0, h, m)
  | true, true, true, [a, b, c] => (natOf a).bind fun l => (natOf b).bind fun h => (natOf c).map fun m => (l, h, m)
  | _, _, _, _ => none

def evSlice (sz : Nat) (x : PVal) (lo hi mx : Bool) (args : List PVal) : Option PVal :=
  match x with
  | .str s => (boundsOf lo hi mx s.length s.length args).bind fun (l, h, _) =>
      bif Nat.ble l h && Nat.ble h s.length && !mx && sz.beq 0 then some (.str ((s.take h).drop l)) else none
  | .slice xs c => (boundsOf lo hi mx xs.length xs.length args).bind fun (l, h, m) =>
      bif Nat.ble l h && Nat.ble h m && Nat.ble m xs.length && headSz sz xs && !sz.beq 0 then
        some (.slice ((xs.take h).drop l) (bif mx then (bif h.beq m then .exact else .no) else
          (bif h.beq xs.length && Nat.blt l h then c else .no)))
      else none
  | .oslice sz' id off len cap => (boundsOf lo hi mx len cap args).bind fun (l, h, m) =>
      bif Nat.ble l h && Nat.ble h m && Nat.ble m cap && sz.beq sz' && !sz.beq 0 then
        some (.oslice sz id (off + l * sz) (h - l) (m - l)) else none
  | _ => none

/-- A row of an object's own becomes a value; the object is no more. -/
def freezeV (m : Mem) : PVal → Option (PVal × Mem)
  | .oslice sz id off len cap =>
    (elems m sz (.oslice sz id off len cap)).map fun xs => (.slice xs .no, m.del id)
  | v => some (v, m)
def freezeVs (m : Mem) : List PVal → Option (List PVal × Mem)
  | [] => some ([], m)
  | v :: vs => (freezeV m v).bind fun r => (freezeVs r.2 vs).map fun s => (r.1 :: s.1, s.2)
/-- Rows of their own that stand in elder objects become values. -/
def settle (m : Mem) : List Nat → Option Mem
  | [] => some m
  | p :: ps => match m.get p with
    | some (.cells cs) => (freezeVs m cs).bind fun r => settle (r.2.set p (.cells r.1)) ps
    | _ => settle m ps

def placeParts (keep : Bool) : List (Nat × Nat) → List PVal → List PVal → Option (List PVal)
  | [], [], cs => some cs
  | (off, n) :: ps, v :: vs, cs =>
    (cellsOf (bif keep then v else v.nz1)).bind fun xs =>
    bif xs.length.beq n && Nat.ble (off + n) cs.length then placeParts keep ps vs (putAt cs off xs) else none
  | _, _, _ => none

def setParts (sz : Nat) : List Nat → List PVal → List (List PVal) → Option (List (List PVal))
  | [], [], xs => some xs
  | i :: is, v :: vs, xs =>
    (cellsOf v.nz1).bind fun c =>
    bif c.length.beq sz && Nat.blt i xs.length then setParts sz is vs (xs.set i c) else none
  | _, _, _ => none

def isSlice : PVal → Bool
  | .slice .. | .oslice .. => true
  | _ => false

def keyKind (kk : Nat) (k : PVal) : Bool :=
  match kk, k with
  | 0, .int .. | 1, .str _ | 2, .bool _ => true
  | n + 3, .agg cs => cs.length.beq n && cs.all PVal.isInt
  | _, _ => false

abbrev CallF := PVal → List PVal → Mem → Option (PVal × Mem)

def mmI (isMax : Bool) (k : IntKind) : Int → List PVal → Option PVal
  | x, [] => some (.int k x)
  | x, .int k' y :: rest => bif decide (k = k') then
      mmI isMax k (bif isMax then (if y > x then y else x) else (if y < x then y else x)) rest else none
  | _, _ => none

def bytesOf : List (List PVal) → Option (List UInt8)
  | [] => some []
  | [.int .u8 n] :: xs => (bytesOf xs).map fun l => UInt8.ofNat n.toNat :: l
  | _ => none

def cell1 (agg : Bool) (cs : List PVal) : Option PVal :=
  bif agg then some (.agg (cs.map PVal.nz0)) else
  match cs with
  | [c] => some c.nz0
  | _ => none

def core (call : CallF) (op : MOp) (args : List PVal) (m : Mem) : Option (PVal × Mem) :=
  match op, args with
  | .move, [v] => some (v, m)
  | .pick, [.bool t, a, b] => some (bif t then a else b, m)
  | .box keep, [v] => (cellsOf (bif keep then v else v.nz1)).map fun cs => (.ptr m.next 0, m.push (.cells cs))
  | .alloc zero, [] => some (.ptr m.next 0, m.push (.cells zero))
  | .init n keep, [.fresh z, x] => (cellsOf (bif keep then x else x.nz1)).bind fun cs =>
      bif cs.length.beq n && z.length.beq n then some (.ptr m.next 0, m.push (.cells cs)) else none
  | .build keep zero parts, vs => (placeParts keep parts vs zero).map fun cs => (.agg cs, m)
  | .mkslice sz n zero idx obj, vs => (setParts sz idx vs (List.replicate n zero)).bind fun xs =>
      bif obj then some (.oslice sz m.next 0 n n, m.push (.cells xs.flatten))
      else bif xs.all (fun c => c.all PVal.flat) then some (.slice xs .exact, m) else none
  | .load agg n steal, [p] => (readAt m p n).bind fun cs =>
      bif steal then
        match cs with
        | [c] => (writeAt m p [c.nz0]).map fun m' => (c, m')
        | _ => none
      else (cell1 agg cs).map fun v => (v, m)
  | .store n keep frz, [p, x] => (bif frz then freezeV m x else some (x, m)).bind fun w =>
      (cellsOf (bif keep then w.1 else w.1.nz1)).bind fun cs =>
      bif cs.length.beq n then (writeAt w.2 p cs).map fun m' => (.tuple [], m') else none
  | .nilchk, [v] =>
      match v with
      | .nilptr | .niliface | .nilfunc => none
      | v => some (v, m)
  | .bin op, [x, y] => (binop op x y).map fun v => (v, m)
  | .binB neg, [.bool x, .bool y] => some (.bool (bif neg then !(x == y) else x == y), m)
  | .eqvP neg, [x, y] => (sameNilP x y).map fun t => (.bool (bif neg then !t else t), m)
  | .eqvI neg, [x, y] => (sameNilI x y).map fun t => (.bool (bif neg then !t else t), m)
  | .eqvA neg n, [.agg x, .agg y] => bif x.length.beq n && x.all PVal.isInt then (sameCells x y).map fun t => (.bool (bif neg then !t else t), m) else none
  | .un op, [x] =>
      match op, x with
      | .not, .bool b => some (.bool (!b), m)
      | .neg, .int k n => some (wrapI k (0 - n), m)
      | _, _ => none
  | .conv k, [.int _ n] => some (wrapI k n, m)
  | .tostr, [x] => (elems m 1 x).bind fun xs => (bytesOf xs).map fun l => (.str l, m)
  | .iface t, [x] => bif x.flat then some (.iface t x, m) else none
  | .mkfn f, caps => bif caps.all PVal.isCap then some (.func f (caps.map PVal.nz0), m) else none
  | .mkmap, [] => some (.map m.next, m.push (.map []))
  | .mkrow zero obj, [l, c] => (natOf l).bind fun l => (natOf c).bind fun c =>
      bif l.beq c && Nat.ble l 4294967296 then
        bif obj then some (.oslice zero.length m.next 0 l l, m.push (.cells (List.replicate l zero).flatten))
        else bif zero.all PVal.flat then some (.slice (List.replicate l zero) .exact, m) else none
      else none
  | .sliceS sz lo hi mx, x :: bs => (evSlice sz x lo hi mx bs).map fun v => (v, m)
  | .sliceA n sz lo hi mx, x :: bs =>
      match x with
      | .ptr id off => (evSlice sz (.oslice sz id off n n) lo hi mx bs).map fun v => (v, m)
      | .eptr cs => bif Nat.ble (n * sz) cs.length then (evSlice sz (.slice (pieces sz n cs) .no) lo hi mx bs).map fun v => (v, m) else none
      | _ => none
  | .fadd off, [.ptr id o] => some (.ptr id (o + off), m)
  | .fadd off, [.eptr cs] => bif Nat.ble off cs.length then some (.eptr (cs.drop off), m) else none
  | .idxS sz, [x, i] => (natOf i).bind fun i =>
      match x with
      | .slice xs _ => (xs[i]?).bind fun c => bif c.length.beq sz then some (.eptr c, m) else none
      | .oslice sz' id off len _ => bif sz.beq sz' && Nat.blt i len then some (.ptr id (off + i * sz), m) else none
      | _ => none
  | .idxA n sz, [x, i] => (natOf i).bind fun i =>
      bif Nat.blt i n then
        match x with
        | .ptr id o => some (.ptr id (o + i * sz), m)
        | .eptr cs => bif Nat.ble (i * sz) cs.length then some (.eptr (cs.drop (i * sz)), m) else none
        | _ => none
      else none
  | .fld agg off n, [.agg cs] => bif Nat.ble (off + n) cs.length then (cell1 agg ((cs.drop off).take n)).map fun v => (v, m) else none
  | .idxV agg len n, [.agg cs, i] => (natOf i).bind fun i =>
      bif Nat.blt i len && Nat.ble (i * n + n) cs.length then (cell1 agg ((cs.drop (i * n)).take n)).map fun v => (v, m) else none
  | .lookup kk zero ok, [x, k] => bif !keyKind kk k then none else
      (match x with
        | .map id => match m.get id with
          | some (.map es) => findKey k es
          | _ => none
        | .nilmap => some none
        | _ => none : Option (Option PVal)).map fun (r : Option PVal) =>
          (bif ok then .tuple [(r.map PVal.nz1).getD zero, .bool r.isSome] else (r.map PVal.nz1).getD zero, m)
  | .mapset kk, [.map id, k, v] => bif !keyKind kk k then none else
      match m.get id with
      | some (.map es) => (setKey k v.nz1 es).map fun es' => (.tuple [], (m.set id (.map es')).mark id (v.nz1.under2 (id + 1)))
      | _ => none
  | .assert t zero, [x] =>
      match x with
      | .niliface => some (.tuple [zero, .bool false], m)
      | .iface u v => some (bif t.beq u then .tuple [v, .bool true] else .tuple [zero, .bool false], m)
      | _ => none
  | .extract i, [.tuple vs] => (vs[i]?).map fun v => (v.nz1, m)
  | .call, f :: xs => call f (xs.map PVal.nz1) m
  | .append sz obj, [x, y] => (elems m sz y).bind fun ys =>
      bif ys.isEmpty then (bif isSlice x then some (x, m) else none) else
      match x with
      | .slice xs c =>
        bif !(decide (c = .no)) && headSz sz xs && Nat.ble (xs.length + ys.length) 4294967296 then
          bif obj && decide (c = .exact) then some (.oslice sz m.next 0 (xs.length + ys.length) (xs.length + ys.length), m.push (.cells ((xs ++ ys).flatten.map PVal.nz0)))
          else some (.slice (xs ++ ys) .own, m)
        else none
      | .oslice sz' id off len cap =>
        bif sz.beq sz' && obj then
          bif Nat.ble (len + ys.length) cap then
            (writeAt m (.ptr id (off + len * sz)) (ys.flatten.map PVal.nz0)).map fun m' => (.oslice sz id off (len + ys.length) cap, m')
          else bif off.beq 0 then
            match m.get id with
            | some (.cells cs) => bif cs.length.beq (len * sz) && cs.all PVal.flat && Nat.ble (len + ys.length) 4294967296 then
                some (.oslice sz m.next 0 (len + ys.length) (len + ys.length), (m.del id).push (.cells ((cs ++ ys.flatten).map PVal.nz0))) else none
            | _ => none
          else none
        else none
      | _ => none
  | .clone _ sz obj, [y] => bif isSlice y then (elems m sz y).bind fun ys => bif Nat.ble ys.length 4294967296 then some (
      bif ys.isEmpty then (.slice [] .exact, m) else
      bif obj then (.oslice sz m.next 0 ys.length ys.length, m.push (.cells (ys.flatten.map PVal.nz0))) else (.slice ys .own, m)) else none else none
  | .copy sz, [.oslice sz' id off len _, y] => bif !(sz.beq sz') then none else (elems m sz y).bind fun ys =>
      (writeAt m (.ptr id off) ((ys.take len).flatten.map PVal.nz0)).map fun m' => (.int .i64 (Nat.min ys.length len), m')
  | .clear z, [.oslice sz id off len _] => bif !(sz.beq z.length && z.all PVal.flat) then none else (writeAt m (.ptr id off) (List.replicate len z).flatten).map fun m' => (.tuple [], m')
  | .clear _, [.slice [] _] => some (.tuple [], m)
  | .len k, [x] =>
      match k, x with
      | 0, .slice xs _ => some (.int .i64 xs.length, m)
      | 0, .oslice _ _ _ l _ => some (.int .i64 l, m)
      | 1, .str s => some (.int .i64 s.length, m)
      | 2, .nilmap => some (.int .i64 0, m)
      | 2, .map id => match m.get id with
        | some (.map es) => some (.int .i64 es.length, m)
        | _ => none
      | _, _ => none
  | .lenA n, _ => some (.int .i64 n, m)
  | .mm isMax, .int k x :: xs => (mmI isMax k x xs).map fun v => (v, m)
  | _, _ => none

def wanted (g : Option (Nat × Bool)) (e : Env) : Option Bool :=
  match g with
  | none => some true
  | some (t, b) => match e.get t with
    | some (.bool c) => some (c == b)
    | some _ => some false
    | none => none

def putO (e : Env) (d : Option Nat) (v : PVal) : Env :=
  match d with
  | some t => e.put t v
  | none => e

/-- The first store to a variable. -/
def evInit (call : CallF) (n : Nat) (keep : Bool) (args : List Opd) (dst : Option Nat) (s : MSt) : Option (List PVal × MSt) :=
  match args with
  | [.mv t, x] =>
    match s.env.get t with
    | some (.fresh z) => (opd globs x (s.env.del t)).bind fun r => (core call (.init n keep) [.fresh z, r.1] s.mem).map fun q => ([.fresh z, r.1], ⟨putO r.2 dst q.1, q.2⟩)
    | _ => none
  | _ => none

/-- One operation: what it was called with, and the state behind it. -/
def evOper (call : CallF) (o : MOper) (s : MSt) : Option (List PVal × MSt) :=
  (wanted o.guard s.env).bind fun w =>
    bif w then
      match o.op with
      | .init n keep => evInit globs call n keep o.args o.dst s
      | .allocF z => match o.args with
        | [] => some ([], ⟨putO s.env o.dst (.fresh z), s.mem⟩)
        | _ => none
      | op => (opds globs o.args s.env).bind fun r => (core call op r.1 s.mem).bind fun q => bif q.1.isFresh then none else some (r.1, ⟨putO r.2 o.dst q.1, q.2⟩)
    else some ([], ⟨putO s.env o.dst (.tuple []), s.mem⟩)

def evOps (call : CallF) : List MOper → MSt → Option MSt
  | [], s => some s
  | o :: os, s => (evOper globs call o s).bind fun r => evOps call os r.2

/-- The same, with a note of each operation: its values, the memory ahead of it and behind it. -/
def evOpsN (call : CallF) : List MOper → MSt → Option (List (MOp × List PVal × Mem × Mem) × MSt)
  | [], s => some ([], s)
  | o :: os, s => (evOper globs call o s).bind fun r =>
      (evOpsN call os r.2).map fun q => ((o.op, r.1, s.mem, r.2.mem) :: q.1, q.2)

/-- What a reading operation reads. -/
def peek (op : MOp) (args : List PVal) (m : Mem) : Option (List PVal) :=
  match op, args with
  | _, [] => some []
  | .load _ n _, [p] => readAt m p n
  | .lookup _ _ _, [.map id, _] => match m.get id with
    | some (.map es) => some (es.map fun e => .tuple [e.1, e.2])
    | _ => none
  | .lookup _ _ _, [.nilmap, _] => some []
  | .append sz _, [_, y] => (elems m sz y).map fun xs => xs.map PVal.agg
  | .clone _ sz _, [y] => (elems m sz y).map fun xs => xs.map PVal.agg
  | .tostr, [y] => (elems m 1 y).map fun xs => xs.map PVal.agg
  | .len _, [.map id] => match m.get id with
    | some (.map es) => some (es.map fun e => e.1)
    | _ => none
  | .len _, [_] => some []
  | _, _ => none

def stable (l : List (MOp × List PVal × Mem × Mem)) (c : Nat × Nat) : Bool :=
  match l[c.1]?, l[c.2]? with
  | some (op, args, _, _), some (_, _, m, m') =>
    match peek op args m, peek op args m' with
    | some a, some b => PVal.beqL a b
    | _, _ => false
  | _, _ => false

/-- Behind a round: what the round made is given up. -/
def trimSt (n : Nat) (s : MSt) : MSt :=
  bif s.mem.next.beq n then s else
  bif Nat.ble n s.mem.next && s.mem.cutOk n then ⟨s.env.filter fun p => p.2.under n, s.mem.cut n⟩ else s

def evLoop (trim : Bool) (round : MSt → Option (MExit × MSt)) : Nat → MSt → Option (MExit × MSt)
  | 0, _ => none
  | k + 1, s => (round s).bind fun r =>
    match r.1 with
    | .normal => evLoop trim round k (bif trim then trimSt s.mem.next r.2 else r.2)
    | x => some (x, r.2)

/-- What a loop's rounds know of the frame's values. -/
def loopEnv : Env → Env
  | [] => []
  | (t, p) :: e => bif p.isFresh then loopEnv e else (t, p.nz) :: loopEnv e

def evCode (call : CallF) (L : Nat) : MCode → MSt → Option (MExit × MSt)
  | .skip, s => some (.normal, s)
  | .region ops conf, s =>
    match conf with
    | [] => (evOps globs call ops s).map fun s' => (.normal, s')
    | _ => (evOpsN globs call ops s).bind fun r => bif conf.all (stable r.1) then some (.normal, r.2) else none
  | .seq a b, s => (evCode call L a s).bind fun r =>
    match r.1 with
    | .normal => evCode call L b r.2
    | x => some (x, r.2)
  | .cond c a b, s =>
    match opd globs c s.env with
    | some (.bool t, e) => bif t then evCode call L a ⟨e, s.mem⟩ else evCode call L b ⟨e, s.mem⟩
    | _ => none
  | .block id b, s => (evCode call L b s).map fun r =>
    match r.1 with
    | .exit i => bif i.beq id then (.normal, r.2) else r
    | _ => r
  | .loop trim b, s => evLoop trim (evCode call L b) L s
  | .rangeFunc f ps asg body, s => (opd globs f s.env).bind fun r =>
      bif !r.1.isFunc || r.2.any (fun e => e.2.isFresh) || !(MObj.loop (loopEnv r.2) ps asg body 0 none).under (s.mem.next + 1) then none else
      (call r.1 [.yield s.mem.next] (s.mem.push (.loop (loopEnv r.2) ps asg body 0 none))).bind fun q =>
        match q.2.get s.mem.next with
        | some (.loop _ _ _ _ st pend) =>
          bif st.beq 0 then some (.normal, ⟨r.2, q.2.del s.mem.next⟩)
          else bif st.beq 2 then
            match pend with
            | some none => some (.ret, ⟨r.2, q.2.del s.mem.next⟩)
            | some (some i) => some (.exit i, ⟨r.2, q.2.del s.mem.next⟩)
            | none => none
          else none
        | _ => none
  | .exit id, s => some (.exit id, s)
  | .ret, s => some (.ret, s)
  | .bad _, _ => none

def evRes (keep : Bool) : MSt → List MRes → Option (List PVal)
  | _, [] => some []
  | s, .tmp t :: rs => (s.env.get t).bind fun v => bif v.isFresh then none else
      bif keep then (evRes keep ⟨s.env.del t, s.mem⟩ rs).map fun l => v :: l else (evRes keep s rs).map fun l => v.nz1 :: l
  | s, .cell t agg n :: rs => (s.env.get t).bind fun p => (readAt s.mem p n).bind fun cs =>
      (cell1 agg cs).bind fun v => (evRes keep s rs).map fun l => v :: l

def packRes : List PVal → PVal
  | [v] => v
  | vs => .tuple vs

def setParams : List Nat → List PVal → Env → Env
  | t :: ts, v :: vs, e => setParams ts vs (e.put t v)
  | _, _, e => e

def startEnv : Nat → List PVal → Env
  | _, [] => []
  | i, v :: vs => bif v.isFresh then startEnv (i + 1) vs else (i, v) :: startEnv (i + 1) vs

/-- What was made since n is given up, if nothing leads to it. -/
def cutFor (n : Nat) (v : PVal) (m : Mem) : Mem :=
  bif m.next.beq n then m else bif Nat.ble n m.next && v.under n && m.cutOk n then m.cut n else m

/-- What comes of a body. -/
def finish (fn : MFunc) (n : Nat) (s : MSt) : Option (PVal × Mem) :=
  (evRes (fn.keep && !fn.freeze) s fn.results).bind fun vs =>
    bif fn.freeze then
      (freezeVs s.mem vs).bind fun r => (settle r.2 (r.2.ups.filter fun p => Nat.blt p n)).map fun m => (packRes r.1, cutFor n (packRes r.1) m)
    else some (packRes vs, cutFor n (packRes vs) s.mem)

/-- A round of a loop over a function. -/
def evYield (call : CallF) (L : Nat) (l : Nat) (args : List PVal) (m : Mem) : Option (PVal × Mem) :=
  match m.get l with
  | some (.loop env ps asg body st _) =>
    bif st.beq 0 && args.length.beq ps.length && args.all (fun p => !p.isFresh) then
      (evCode globs call L asg ⟨setParams ps args env, m⟩).bind fun r =>
        match r.1 with
        | .normal =>
          match r.2.mem.get l with
          | some (.loop env1 ps1 asg1 body1 st1 pend1) =>
            bif st1.beq 0 then
              (evCode globs call L body ⟨r.2.env, r.2.mem.set l (.loop env1 ps1 asg1 body1 1 pend1)⟩).bind fun q =>
                match q.2.mem.get l with
                | some (.loop env2 ps2 asg2 body2 _ _) =>
                  match q.1 with
                  | .normal => some (.bool true, cutFor m.next (.bool true) (q.2.mem.set l (.loop env2 ps2 asg2 body2 0 none)))
                  | .exit i => some (.bool false, cutFor m.next (.bool false) (q.2.mem.set l (.loop env2 ps2 asg2 body2 2 (some (some i)))))
                  | .ret => some (.bool false, cutFor m.next (.bool false) (q.2.mem.set l (.loop env2 ps2 asg2 body2 2 (some none))))
                | _ => none
            else none
          | _ => none
        | _ => none
    else none
  | _ => none

def evFn (tab : Nat → Option MFunc) (ext : Nat → Option (List PVal → Mem → Option (PVal × Mem))) (L : Nat) : Nat → CallF
  | 0, _, _, _ => none
  | k + 1, .func f caps, args, m =>
    match ext f with
    | some g => g (args ++ caps.map PVal.nz0) m
    | none =>
      match tab f with
      | some fn =>
        (evCode globs (evFn tab ext L k) L fn.body ⟨startEnv 0 (args ++ caps.map PVal.nz0), m⟩).bind fun r =>
          match r.1 with
          | .exit _ => none
          | _ => finish fn m.next r.2
      | none => none
  | k + 1, .yield l, args, m => evYield globs (evFn tab ext L k) L l args m
  | _, _, _, _ => none
end
end Go.Ev

