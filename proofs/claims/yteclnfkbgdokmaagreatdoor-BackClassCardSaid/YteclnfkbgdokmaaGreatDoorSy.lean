/- One of the texts that the proof of the law rests on: it has no condition of its own. -/
import Derived.Test.YteclnfkbgdokmaaGreatDoorEvA
import Derived.KernelRfl
/- The evaluator, step by step, on values that are not all known. -/
namespace Go.Ev

section
variable {globs : Nat → Option (List PVal)} {call : CallF} {L : Nat} {d : Option Nat} {os : List MOper} {e : Env} {m : Mem}

theorem sy_get (s t : Nat) (v : PVal) (e : Env) : Env.get ((s, v) :: e) t = if s = t then some v else Env.get e t := by
  simp only [Env.get]
  by_cases h : s = t
  · subst h; simp
  · have : s.beq t = false := by cases hb : s.beq t <;> first | rfl | exact absurd (Nat.eq_of_beq_eq_true hb) h
    simp [this, h]
theorem sy_del (s t : Nat) (v : PVal) (e : Env) : Env.del ((s, v) :: e) t = if s = t then e else (s, v) :: Env.del e t := by
  simp only [Env.del]
  by_cases h : s = t
  · subst h; simp
  · have : s.beq t = false := by cases hb : s.beq t <;> first | rfl | exact absurd (Nat.eq_of_beq_eq_true hb) h
    simp [this, h]
theorem sy_del0 (t : Nat) : Env.del [] t = [] := rfl
theorem sy_put (e : Env) (t : Nat) (v : PVal) : putO e (some t) v = (t, v) :: Env.del e t := rfl
theorem sy_put0 (e : Env) (v : PVal) : putO e none v = e := rfl
theorem sy_mv (t : Nat) (e : Env) : opd globs (.mv t) e = (e.get t).bind fun v => bif v.isFresh then none else some (v, e.del t) := rfl
theorem sy_cp (t : Nat) (e : Env) : opd globs (.cp t) e = (e.get t).bind fun v => bif v.isFresh then none else some (v.nz, e) := rfl
theorem sy_val (v : PVal) (e : Env) : opd globs (.val v) e = some (v, e) := rfl
theorem sy_nil (e : Env) : opds globs [] e = some ([], e) := rfl
theorem sy_cons (x : Opd) (xs : List Opd) (e : Env) : opds globs (x :: xs) e = (opd globs x e).bind fun r => (opds globs xs r.2).map fun s => (r.1 :: s.1, s.2) := rfl

theorem sy_ops0 (s : MSt) : evOps globs call [] s = some s := rfl
/-- An operation that is no first store. -/
def plainOp : MOp → Bool
  | .init .. | .allocF _ => false
  | _ => true

theorem pl_move : plainOp .move = true := rfl
theorem pl_pick : plainOp .pick = true := rfl
theorem pl_box (k : Bool) : plainOp (.box k) = true := rfl
theorem pl_len (k : Nat) : plainOp (.len k) = true := rfl
theorem pl_bin (b : BinOp) : plainOp (.bin b) = true := rfl
theorem pl_un (b : UnOp) : plainOp (.un b) = true := rfl
theorem pl_iface (t : Nat) : plainOp (.iface t) = true := rfl
theorem pl_call : plainOp .call = true := rfl
theorem pl_fadd (k : Nat) : plainOp (.fadd k) = true := rfl
theorem pl_load (a : Bool) (n : Nat) (b : Bool) : plainOp (.load a n b) = true := rfl
theorem pl_idxS (k : Nat) : plainOp (.idxS k) = true := rfl
theorem pl_append (k : Nat) (b : Bool) : plainOp (.append k b) = true := rfl
theorem pl_mkslice (sz n : Nat) (z : List PVal) (ix : List Nat) (b : Bool) : plainOp (.mkslice sz n z ix b) = true := rfl
theorem pl_mm (b : Bool) : plainOp (.mm b) = true := rfl
theorem pl_extract (k : Nat) : plainOp (.extract k) = true := rfl
theorem pl_assert (t : Nat) (z : PVal) : plainOp (.assert t z) = true := rfl
theorem pl_eqvI (b : Bool) : plainOp (.eqvI b) = true := rfl
theorem pl_store (n : Nat) (a b : Bool) : plainOp (.store n a b) = true := rfl
theorem pl_clone (f sz : Nat) (b : Bool) : plainOp (.clone f sz b) = true := rfl
def runOp (globs : Nat → Option (List PVal)) (call : CallF) (d : Option Nat) (op : MOp) (args : List Opd) (s : MSt) : Option MSt :=
  (opds globs args s.env).bind fun r => (core call op r.1 s.mem).bind fun q => bif q.1.isFresh then none else some ⟨putO r.2 d q.1, q.2⟩
theorem sy_op {op : MOp} (h : plainOp op = true) (args : List Opd) (s : MSt) : evOps globs call (⟨d, op, args, none⟩ :: os) s = (runOp globs call d op args s).bind (evOps globs call os) := by
  cases op <;> first | (simp [plainOp] at h; done) | skip
  all_goals
    simp only [evOps, evOper, wanted, Option.bind_some, cond_true, runOp]
    cases opds globs args s.env with
    | none => rfl
    | some r =>
      simp only [Option.bind_some]
      cases core call _ r.1 s.mem with
      | none => rfl
      | some q =>
        simp only [Option.bind_some]
        cases q.1.isFresh <;> rfl
theorem sy_opG {op : MOp} (h : plainOp op = true) (args : List Opd) (t : Nat) (b : Bool) (s : MSt) : evOps globs call (⟨d, op, args, some (t, b)⟩ :: os) s =
    (wanted (some (t, b)) s.env).bind fun w => (bif w then runOp globs call d op args s else some ⟨putO s.env d (.tuple []), s.mem⟩).bind (evOps globs call os) := by
  cases op <;> first | (simp [plainOp] at h; done) | skip
  all_goals
    simp only [evOps, evOper, runOp]
    cases wanted (some (t, b)) s.env with
    | none => rfl
    | some w =>
      simp only [Option.bind_some]
      cases w with
      | false => rfl
      | true =>
        simp only [cond_true]
        cases opds globs args s.env with
        | none => rfl
        | some r =>
          simp only [Option.bind_some]
          cases core call _ r.1 s.mem with
          | none => rfl
          | some q =>
            simp only [Option.bind_some]
            cases q.1.isFresh <;> rfl
theorem so_move  (args : List Opd) (s : MSt) : evOps globs call (⟨d, .move, args, none⟩ :: os) s = (runOp globs call d .move args s).bind (evOps globs call os) := sy_op rfl args s
theorem sg_move  (args : List Opd) (t : Nat) (b : Bool) (s : MSt) : evOps globs call (⟨d, .move, args, some (t, b)⟩ :: os) s = (wanted (some (t, b)) s.env).bind fun w => (bif w then runOp globs call d .move args s else some ⟨putO s.env d (.tuple []), s.mem⟩).bind (evOps globs call os) := sy_opG rfl args t b s
theorem so_pick  (args : List Opd) (s : MSt) : evOps globs call (⟨d, .pick, args, none⟩ :: os) s = (runOp globs call d .pick args s).bind (evOps globs call os) := sy_op rfl args s
theorem sg_pick  (args : List Opd) (t : Nat) (b : Bool) (s : MSt) : evOps globs call (⟨d, .pick, args, some (t, b)⟩ :: os) s = (wanted (some (t, b)) s.env).bind fun w => (bif w then runOp globs call d .pick args s else some ⟨putO s.env d (.tuple []), s.mem⟩).bind (evOps globs call os) := sy_opG rfl args t b s
theorem so_box (z : Bool) (args : List Opd) (s : MSt) : evOps globs call (⟨d, (.box z), args, none⟩ :: os) s = (runOp globs call d (.box z) args s).bind (evOps globs call os) := sy_op rfl args s
theorem sg_box (z : Bool) (args : List Opd) (t : Nat) (b : Bool) (s : MSt) : evOps globs call (⟨d, (.box z), args, some (t, b)⟩ :: os) s = (wanted (some (t, b)) s.env).bind fun w => (bif w then runOp globs call d (.box z) args s else some ⟨putO s.env d (.tuple []), s.mem⟩).bind (evOps globs call os) := sy_opG rfl args t b s
theorem so_len (z : Nat) (args : List Opd) (s : MSt) : evOps globs call (⟨d, (.len z), args, none⟩ :: os) s = (runOp globs call d (.len z) args s).bind (evOps globs call os) := sy_op rfl args s
theorem sg_len (z : Nat) (args : List Opd) (t : Nat) (b : Bool) (s : MSt) : evOps globs call (⟨d, (.len z), args, some (t, b)⟩ :: os) s = (wanted (some (t, b)) s.env).bind fun w => (bif w then runOp globs call d (.len z) args s else some ⟨putO s.env d (.tuple []), s.mem⟩).bind (evOps globs call os) := sy_opG rfl args t b s
theorem so_bin (z : BinOp) (args : List Opd) (s : MSt) : evOps globs call (⟨d, (.bin z), args, none⟩ :: os) s = (runOp globs call d (.bin z) args s).bind (evOps globs call os) := sy_op rfl args s
theorem sg_bin (z : BinOp) (args : List Opd) (t : Nat) (b : Bool) (s : MSt) : evOps globs call (⟨d, (.bin z), args, some (t, b)⟩ :: os) s = (wanted (some (t, b)) s.env).bind fun w => (bif w then runOp globs call d (.bin z) args s else some ⟨putO s.env d (.tuple []), s.mem⟩).bind (evOps globs call os) := sy_opG rfl args t b s
theorem so_un (z : UnOp) (args : List Opd) (s : MSt) : evOps globs call (⟨d, (.un z), args, none⟩ :: os) s = (runOp globs call d (.un z) args s).bind (evOps globs call os) := sy_op rfl args s
theorem sg_un (z : UnOp) (args : List Opd) (t : Nat) (b : Bool) (s : MSt) : evOps globs call (⟨d, (.un z), args, some (t, b)⟩ :: os) s = (wanted (some (t, b)) s.env).bind fun w => (bif w then runOp globs call d (.un z) args s else some ⟨putO s.env d (.tuple []), s.mem⟩).bind (evOps globs call os) := sy_opG rfl args t b s
theorem so_iface (z : Nat) (args : List Opd) (s : MSt) : evOps globs call (⟨d, (.iface z), args, none⟩ :: os) s = (runOp globs call d (.iface z) args s).bind (evOps globs call os) := sy_op rfl args s
theorem sg_iface (z : Nat) (args : List Opd) (t : Nat) (b : Bool) (s : MSt) : evOps globs call (⟨d, (.iface z), args, some (t, b)⟩ :: os) s = (wanted (some (t, b)) s.env).bind fun w => (bif w then runOp globs call d (.iface z) args s else some ⟨putO s.env d (.tuple []), s.mem⟩).bind (evOps globs call os) := sy_opG rfl args t b s
theorem so_call  (args : List Opd) (s : MSt) : evOps globs call (⟨d, .call, args, none⟩ :: os) s = (runOp globs call d .call args s).bind (evOps globs call os) := sy_op rfl args s
theorem sg_call  (args : List Opd) (t : Nat) (b : Bool) (s : MSt) : evOps globs call (⟨d, .call, args, some (t, b)⟩ :: os) s = (wanted (some (t, b)) s.env).bind fun w => (bif w then runOp globs call d .call args s else some ⟨putO s.env d (.tuple []), s.mem⟩).bind (evOps globs call os) := sy_opG rfl args t b s
theorem so_fadd (z : Nat) (args : List Opd) (s : MSt) : evOps globs call (⟨d, (.fadd z), args, none⟩ :: os) s = (runOp globs call d (.fadd z) args s).bind (evOps globs call os) := sy_op rfl args s
theorem sg_fadd (z : Nat) (args : List Opd) (t : Nat) (b : Bool) (s : MSt) : evOps globs call (⟨d, (.fadd z), args, some (t, b)⟩ :: os) s = (wanted (some (t, b)) s.env).bind fun w => (bif w then runOp globs call d (.fadd z) args s else some ⟨putO s.env d (.tuple []), s.mem⟩).bind (evOps globs call os) := sy_opG rfl args t b s
theorem so_load (z : Bool) (y : Nat) (x : Bool) (args : List Opd) (s : MSt) : evOps globs call (⟨d, (.load z y x), args, none⟩ :: os) s = (runOp globs call d (.load z y x) args s).bind (evOps globs call os) := sy_op rfl args s
theorem sg_load (z : Bool) (y : Nat) (x : Bool) (args : List Opd) (t : Nat) (b : Bool) (s : MSt) : evOps globs call (⟨d, (.load z y x), args, some (t, b)⟩ :: os) s = (wanted (some (t, b)) s.env).bind fun w => (bif w then runOp globs call d (.load z y x) args s else some ⟨putO s.env d (.tuple []), s.mem⟩).bind (evOps globs call os) := sy_opG rfl args t b s
theorem so_idxS (z : Nat) (args : List Opd) (s : MSt) : evOps globs call (⟨d, (.idxS z), args, none⟩ :: os) s = (runOp globs call d (.idxS z) args s).bind (evOps globs call os) := sy_op rfl args s
theorem sg_idxS (z : Nat) (args : List Opd) (t : Nat) (b : Bool) (s : MSt) : evOps globs call (⟨d, (.idxS z), args, some (t, b)⟩ :: os) s = (wanted (some (t, b)) s.env).bind fun w => (bif w then runOp globs call d (.idxS z) args s else some ⟨putO s.env d (.tuple []), s.mem⟩).bind (evOps globs call os) := sy_opG rfl args t b s
theorem so_append (z : Nat) (y : Bool) (args : List Opd) (s : MSt) : evOps globs call (⟨d, (.append z y), args, none⟩ :: os) s = (runOp globs call d (.append z y) args s).bind (evOps globs call os) := sy_op rfl args s
theorem sg_append (z : Nat) (y : Bool) (args : List Opd) (t : Nat) (b : Bool) (s : MSt) : evOps globs call (⟨d, (.append z y), args, some (t, b)⟩ :: os) s = (wanted (some (t, b)) s.env).bind fun w => (bif w then runOp globs call d (.append z y) args s else some ⟨putO s.env d (.tuple []), s.mem⟩).bind (evOps globs call os) := sy_opG rfl args t b s
theorem so_mkslice (z y : Nat) (x : List PVal) (ix : List Nat) (v : Bool) (args : List Opd) (s : MSt) : evOps globs call (⟨d, (.mkslice z y x ix v), args, none⟩ :: os) s = (runOp globs call d (.mkslice z y x ix v) args s).bind (evOps globs call os) := sy_op rfl args s
theorem sg_mkslice (z y : Nat) (x : List PVal) (ix : List Nat) (v : Bool) (args : List Opd) (t : Nat) (b : Bool) (s : MSt) : evOps globs call (⟨d, (.mkslice z y x ix v), args, some (t, b)⟩ :: os) s = (wanted (some (t, b)) s.env).bind fun w => (bif w then runOp globs call d (.mkslice z y x ix v) args s else some ⟨putO s.env d (.tuple []), s.mem⟩).bind (evOps globs call os) := sy_opG rfl args t b s
theorem so_mm (z : Bool) (args : List Opd) (s : MSt) : evOps globs call (⟨d, (.mm z), args, none⟩ :: os) s = (runOp globs call d (.mm z) args s).bind (evOps globs call os) := sy_op rfl args s
theorem sg_mm (z : Bool) (args : List Opd) (t : Nat) (b : Bool) (s : MSt) : evOps globs call (⟨d, (.mm z), args, some (t, b)⟩ :: os) s = (wanted (some (t, b)) s.env).bind fun w => (bif w then runOp globs call d (.mm z) args s else some ⟨putO s.env d (.tuple []), s.mem⟩).bind (evOps globs call os) := sy_opG rfl args t b s
theorem so_extract (z : Nat) (args : List Opd) (s : MSt) : evOps globs call (⟨d, (.extract z), args, none⟩ :: os) s = (runOp globs call d (.extract z) args s).bind (evOps globs call os) := sy_op rfl args s
theorem sg_extract (z : Nat) (args : List Opd) (t : Nat) (b : Bool) (s : MSt) : evOps globs call (⟨d, (.extract z), args, some (t, b)⟩ :: os) s = (wanted (some (t, b)) s.env).bind fun w => (bif w then runOp globs call d (.extract z) args s else some ⟨putO s.env d (.tuple []), s.mem⟩).bind (evOps globs call os) := sy_opG rfl args t b s
theorem so_assert (z : Nat) (y : PVal) (args : List Opd) (s : MSt) : evOps globs call (⟨d, (.assert z y), args, none⟩ :: os) s = (runOp globs call d (.assert z y) args s).bind (evOps globs call os) := sy_op rfl args s
theorem sg_assert (z : Nat) (y : PVal) (args : List Opd) (t : Nat) (b : Bool) (s : MSt) : evOps globs call (⟨d, (.assert z y), args, some (t, b)⟩ :: os) s = (wanted (some (t, b)) s.env).bind fun w => (bif w then runOp globs call d (.assert z y) args s else some ⟨putO s.env d (.tuple []), s.mem⟩).bind (evOps globs call os) := sy_opG rfl args t b s
theorem so_eqvI (z : Bool) (args : List Opd) (s : MSt) : evOps globs call (⟨d, (.eqvI z), args, none⟩ :: os) s = (runOp globs call d (.eqvI z) args s).bind (evOps globs call os) := sy_op rfl args s
theorem sg_eqvI (z : Bool) (args : List Opd) (t : Nat) (b : Bool) (s : MSt) : evOps globs call (⟨d, (.eqvI z), args, some (t, b)⟩ :: os) s = (wanted (some (t, b)) s.env).bind fun w => (bif w then runOp globs call d (.eqvI z) args s else some ⟨putO s.env d (.tuple []), s.mem⟩).bind (evOps globs call os) := sy_opG rfl args t b s
theorem so_store (z : Nat) (y x : Bool) (args : List Opd) (s : MSt) : evOps globs call (⟨d, (.store z y x), args, none⟩ :: os) s = (runOp globs call d (.store z y x) args s).bind (evOps globs call os) := sy_op rfl args s
theorem sg_store (z : Nat) (y x : Bool) (args : List Opd) (t : Nat) (b : Bool) (s : MSt) : evOps globs call (⟨d, (.store z y x), args, some (t, b)⟩ :: os) s = (wanted (some (t, b)) s.env).bind fun w => (bif w then runOp globs call d (.store z y x) args s else some ⟨putO s.env d (.tuple []), s.mem⟩).bind (evOps globs call os) := sy_opG rfl args t b s
theorem so_clone (z y : Nat) (x : Bool) (args : List Opd) (s : MSt) : evOps globs call (⟨d, (.clone z y x), args, none⟩ :: os) s = (runOp globs call d (.clone z y x) args s).bind (evOps globs call os) := sy_op rfl args s
theorem sg_clone (z y : Nat) (x : Bool) (args : List Opd) (t : Nat) (b : Bool) (s : MSt) : evOps globs call (⟨d, (.clone z y x), args, some (t, b)⟩ :: os) s = (wanted (some (t, b)) s.env).bind fun w => (bif w then runOp globs call d (.clone z y x) args s else some ⟨putO s.env d (.tuple []), s.mem⟩).bind (evOps globs call os) := sy_opG rfl args t b s
theorem so_fld (z : Bool) (y x : Nat) (args : List Opd) (s : MSt) : evOps globs call (⟨d, (.fld z y x), args, none⟩ :: os) s = (runOp globs call d (.fld z y x) args s).bind (evOps globs call os) := sy_op rfl args s
theorem sg_fld (z : Bool) (y x : Nat) (args : List Opd) (t : Nat) (b : Bool) (s : MSt) : evOps globs call (⟨d, (.fld z y x), args, some (t, b)⟩ :: os) s = (wanted (some (t, b)) s.env).bind fun w => (bif w then runOp globs call d (.fld z y x) args s else some ⟨putO s.env d (.tuple []), s.mem⟩).bind (evOps globs call os) := sy_opG rfl args t b s
theorem sy_wanted (t : Nat) (b : Bool) (e : Env) : wanted (some (t, b)) e = match e.get t with | some (.bool c) => some (c == b) | some _ => some false | none => none := rfl

theorem sy_skip (s : MSt) : evCode globs call L .skip s = some (.normal, s) := rfl
theorem sy_exit (i : Nat) (s : MSt) : evCode globs call L (.exit i) s = some (.exit i, s) := rfl
theorem sy_ret (s : MSt) : evCode globs call L .ret s = some (.ret, s) := rfl
theorem sy_region (ops : List MOper) (s : MSt) : evCode globs call L (.region ops []) s = (evOps globs call ops s).map fun s' => (.normal, s') := rfl
theorem sy_seq (a b : MCode) (s : MSt) : evCode globs call L (.seq a b) s = (evCode globs call L a s).bind fun r => match r.1 with | .normal => evCode globs call L b r.2 | x => some (x, r.2) := rfl
theorem sy_cond (c : Opd) (a b : MCode) (s : MSt) : evCode globs call L (.cond c a b) s = match opd globs c s.env with | some (.bool t, e) => bif t then evCode globs call L a ⟨e, s.mem⟩ else evCode globs call L b ⟨e, s.mem⟩ | _ => none := rfl
theorem sy_block (id : Nat) (b : MCode) (s : MSt) : evCode globs call L (.block id b) s = (evCode globs call L b s).map fun r => match r.1 with | .exit i => bif i.beq id then (.normal, r.2) else r | _ => r := rfl
theorem sy_loop (tr : Bool) (b : MCode) (s : MSt) : evCode globs call L (.loop tr b) s = evLoop tr (evCode globs call L b) L s := rfl

-- operations
theorem sy_move (v : PVal) : core call .move [v] m = some (v, m) := rfl
theorem sy_pick (t : Bool) (a b : PVal) : core call .pick [.bool t, a, b] m = some (bif t then a else b, m) := rfl
theorem sy_bin (op : BinOp) (x y : PVal) : core call (.bin op) [x, y] m = (binop op x y).map fun v => (v, m) := rfl
theorem sy_len (xs : List (List PVal)) (c : Cap) : core call (.len 0) [.slice xs c] m = some (.int .i64 xs.length, m) := rfl
theorem sy_iface (t : Nat) (x : PVal) : core call (.iface t) [x] m = bif x.flat then some (.iface t x, m) else none := rfl
theorem sy_not (b : Bool) : core call (.un .not) [.bool b] m = some (.bool (!b), m) := rfl
theorem sy_eqvI (neg : Bool) (x y : PVal) : core call (.eqvI neg) [x, y] m = (sameNilI x y).map fun t => (.bool (bif neg then !t else t), m) := rfl
theorem sy_call (f : PVal) (xs : List PVal) : core call .call (f :: xs) m = call f (xs.map PVal.nz1) m := rfl
theorem sy_mm (b : Bool) (k : IntKind) (x : Int) (xs : List PVal) : core call (.mm b) (.int k x :: xs) m = (mmI b k x xs).map fun v => (v, m) := rfl
theorem sy_fadd (off id o : Nat) : core call (.fadd off) [.ptr id o] m = some (.ptr id (o + off), m) := rfl
theorem sy_faddE (off : Nat) (cs : List PVal) : core call (.fadd off) [.eptr cs] m = bif Nat.ble off cs.length then some (.eptr (cs.drop off), m) else none := rfl
theorem sy_load (agg : Bool) (n : Nat) (p : PVal) : core call (.load agg n false) [p] m = (readAt m p n).bind fun cs => (cell1 agg cs).map fun v => (v, m) := rfl
theorem sy_box (keep : Bool) (v : PVal) : core call (.box keep) [v] m = (cellsOf (bif keep then v else v.nz1)).map fun cs => (.ptr m.next 0, m.push (.cells cs)) := rfl
theorem sy_idxS (sz : Nat) (xs : List (List PVal)) (c : Cap) (i : PVal) : core call (.idxS sz) [.slice xs c, i] m = (natOf i).bind fun i => (xs[i]?).bind fun c => bif c.length.beq sz then some (.eptr c, m) else none := rfl
theorem sy_extract (i : Nat) (vs : List PVal) : core call (.extract i) [.tuple vs] m = (vs[i]?).map fun v => (v.nz1, m) := rfl
theorem sy_assert (t : Nat) (z x : PVal) : core call (.assert t z) [x] m = match x with | .niliface => some (.tuple [z, .bool false], m) | .iface u v => some (bif t.beq u then .tuple [v, .bool true] else .tuple [z, .bool false], m) | _ => none := by cases x <;> rfl

theorem sy_eql (k : IntKind) (a b : Int) : binop .eql (.int k a) (.int k b) = some (.bool (a == b)) := by simp [binop, isShift, intBin]
theorem sy_neq (k : IntKind) (a b : Int) : binop .neq (.int k a) (.int k b) = some (.bool (a != b)) := by simp [binop, isShift, intBin]
theorem sy_lss (k : IntKind) (a b : Int) : binop .lss (.int k a) (.int k b) = some (.bool (decide (a < b))) := by simp [binop, isShift, intBin]
theorem sy_gtr (k : IntKind) (a b : Int) : binop .gtr (.int k a) (.int k b) = some (.bool (decide (a > b))) := by simp [binop, isShift, intBin]
theorem sy_geq (k : IntKind) (a b : Int) : binop .geq (.int k a) (.int k b) = some (.bool (decide (a ≥ b))) := by simp [binop, isShift, intBin]
theorem sy_mul (k : IntKind) (a b : Int) : binop .mul (.int k a) (.int k b) = some (.int k (k.wrap (a * b))) := by simp [binop, isShift, intBin, wrapI]
theorem sy_add (k : IntKind) (a b : Int) : binop .add (.int k a) (.int k b) = some (.int k (k.wrap (a + b))) := by simp [binop, isShift, intBin, wrapI]
theorem sy_rem (k : IntKind) (a b : Int) : binop .rem (.int k a) (.int k b) = if b = 0 then none else some (.int k (a.tmod b)) := by
  by_cases h : b = 0
  · simp [binop, isShift, intBin, h]
  · have hb : (b == 0) = false := by simpa using h
    simp [binop, isShift, intBin, h, hb]

-- values
theorem nz_int (k : IntKind) (n : Int) : (PVal.int k n).nz = .int k n := rfl
theorem nz_bool (b : Bool) : (PVal.bool b).nz = .bool b := rfl
theorem nz_slice (xs : List (List PVal)) (c : Cap) : (PVal.slice xs c).nz = .slice xs c.nz := rfl
theorem nz_ptr (i o : Nat) : (PVal.ptr i o).nz = .ptr i o := rfl
theorem nz_iface (t : Nat) (v : PVal) : (PVal.iface t v).nz = .iface t v := rfl
theorem nz_niliface : (PVal.niliface).nz = .niliface := rfl
theorem nz_tuple (vs : List PVal) : (PVal.tuple vs).nz = .tuple (vs.map PVal.nz1) := rfl
theorem nz_agg (cs : List PVal) : (PVal.agg cs).nz = .agg (cs.map PVal.nz0) := rfl
theorem nz1_int (k : IntKind) (n : Int) : (PVal.int k n).nz1 = .int k n := rfl
theorem nz1_bool (b : Bool) : (PVal.bool b).nz1 = .bool b := rfl
theorem nz1_slice (xs : List (List PVal)) (c : Cap) : (PVal.slice xs c).nz1 = .slice xs c.nz := rfl
theorem nz1_iface (t : Nat) (v : PVal) : (PVal.iface t v).nz1 = .iface t v := rfl
theorem nz1_niliface : (PVal.niliface).nz1 = .niliface := rfl
theorem nz1_agg (cs : List PVal) : (PVal.agg cs).nz1 = .agg (cs.map PVal.nz0) := rfl
theorem nz0_int (k : IntKind) (n : Int) : (PVal.int k n).nz0 = .int k n := rfl
theorem nz0_slice (xs : List (List PVal)) (c : Cap) : (PVal.slice xs c).nz0 = .slice xs c.nz := rfl
theorem cz_no : Cap.nz .no = .no := rfl
theorem cz_own : Cap.nz .own = .no := rfl
theorem cz_exact : Cap.nz .exact = .exact := rfl
theorem fr_int (k : IntKind) (n : Int) : (PVal.int k n).isFresh = false := rfl
theorem fr_bool (b : Bool) : (PVal.bool b).isFresh = false := rfl
theorem fr_slice (xs : List (List PVal)) (c : Cap) : (PVal.slice xs c).isFresh = false := rfl
theorem fr_ptr (i o : Nat) : (PVal.ptr i o).isFresh = false := rfl
theorem fr_eptr (cs : List PVal) : (PVal.eptr cs).isFresh = false := rfl
theorem fr_iface (t : Nat) (v : PVal) : (PVal.iface t v).isFresh = false := rfl
theorem fr_niliface : (PVal.niliface).isFresh = false := rfl
theorem fr_agg (cs : List PVal) : (PVal.agg cs).isFresh = false := rfl
theorem nz1_ptr (i o : Nat) : (PVal.ptr i o).nz1 = .ptr i o := rfl
theorem fr_tuple (cs : List PVal) : (PVal.tuple cs).isFresh = false := rfl
theorem fl_int (k : IntKind) (n : Int) : (PVal.int k n).flat = true := rfl
theorem sy_start0 (i : Nat) : startEnv i [] = [] := rfl
theorem sy_start (i : Nat) (v : PVal) (vs : List PVal) : startEnv i (v :: vs) = bif v.isFresh then startEnv (i + 1) vs else (i, v) :: startEnv (i + 1) vs := rfl
theorem sy_beq (a b : Nat) : a.beq b = decide (a = b) := by
  by_cases h : a = b
  · subst h; simp
  · have : a.beq b = false := by cases hb : a.beq b <;> first | rfl | exact absurd (Nat.eq_of_beq_eq_true hb) h
    simp [this, h]
theorem bb_tt : (true == true) = true := rfl
theorem bb_tf : (true == false) = false := rfl
theorem bb_ft : (false == true) = false := rfl
theorem bb_ff : (false == false) = true := rfl
theorem sy_isNil1 (t : Nat) (v : PVal) : sameNilI (.iface t v) .niliface = some false := rfl
theorem sy_isNil2 : sameNilI .niliface .niliface = some true := rfl

/-- A function that keeps no right, and freezes nothing. -/
theorem sy_finish {fn : MFunc} {r : PVal} {s : MSt} {n t : Nat} (h1 : fn.results = [.tmp t]) (h2 : fn.keep = false) (h3 : fn.freeze = false) (h4 : s.env.get t = some r) (h5 : r.isFresh = false) (h6 : s.mem.next = n) :
    finish fn n s = some (r.nz1, s.mem) := by
  subst h6
  simp [finish, h1, h2, h3, evRes, h4, h5, packRes, cutFor]

abbrev noext : Nat → Option (List PVal → Mem → Option (PVal × Mem)) := fun _ => none
theorem sy_fn {tab : Nat → Option MFunc} {k f : Nat} {fn : MFunc} {args : List PVal} (h : tab f = some fn) :
    evFn globs tab noext L (k + 1) (.func f []) args m = (evCode globs (evFn globs tab noext L k) L fn.body ⟨startEnv 0 args, m⟩).bind fun r => match r.1 with | .exit _ => none | _ => finish fn m.next r.2 := by
  simp only [evFn, h, List.map_nil, List.append_nil]
  rfl

theorem sy_ex {tab : Nat → Option MFunc} {k f : Nat} {fn : MFunc} {args : List PVal} {v : PVal} {mm' : Mem} (t : Nat) (h : tab f = some fn) (h1 : fn.results = [.tmp t]) (h2 : fn.keep = false) (h3 : fn.freeze = false)
    (hc : ∃ x s' r, evCode globs (evFn globs tab noext L k) L fn.body ⟨startEnv 0 args, m⟩ = some (x, s') ∧ (x = .ret ∨ x = .normal) ∧ s'.env.get t = some r ∧ r.isFresh = false ∧ r.nz1 = v ∧ s'.mem = mm') (h7 : mm'.next = m.next) :
    evFn globs tab noext L (k + 1) (.func f []) args m = some (v, mm') := by
  obtain ⟨x, s', r, hc, hx, h4, h5, rfl, rfl⟩ := hc
  rw [sy_fn h, hc]
  rcases hx with rfl | rfl
  · exact sy_finish h1 h2 h3 h4 h5 h7
  · exact sy_finish h1 h2 h3 h4 h5 h7

end
end Go.Ev

/- Steps of a region, one after the other. -/
namespace Go.Ev
section
variable {globs : Nat → Option (List PVal)} {call : CallF} {L : Nat} {β : Type} {K : MExit × MSt → Option β} {v : Option β}
theorem ops_append : ∀ (as bs : List MOper) (s : MSt), evOps globs call (as ++ bs) s = (evOps globs call as s).bind (evOps globs call bs)
  | [], bs, s => rfl
  | a :: as, bs, s => by
    simp only [List.cons_append, evOps]
    cases evOper globs call a s with
    | none => rfl
    | some r => simp only [Option.bind_some]; exact ops_append as bs r.2
theorem k_take (i : Nat) {ops : List MOper} {b : MCode} {s s1 : MSt} (h : evOps globs call (ops.take i) s = some s1) (h2 : (evCode globs call L (.seq (.region (ops.drop i) []) b) s1).bind K = v) :
    (evCode globs call L (.seq (.region ops []) b) s).bind K = v := by
  rw [← h2, sy_seq, sy_region, sy_seq, sy_region, ← List.take_append_drop i ops, ops_append, h, List.take_append_drop]; rfl
theorem k_ops {ops : List MOper} {b : MCode} {s s1 : MSt} (h : evOps globs call ops s = some s1) (h2 : (evCode globs call L b s1).bind K = v) :
    (evCode globs call L (.seq (.region ops []) b) s).bind K = v := by
  rw [← h2, sy_seq, sy_region, h]; rfl
theorem k_nil {b : MCode} {s : MSt} (h2 : (evCode globs call L b s).bind K = v) : (evCode globs call L (.seq (.region [] []) b) s).bind K = v := k_ops rfl h2
theorem k_call {ops : List MOper} {b : MCode} {d : Nat} {args : List Opd} {e e' : Env} {m m' : Mem} {fv w : PVal} {vs vs' : List PVal}
    (ho : opds globs args e = some (fv :: vs, e')) (ha : vs.map PVal.nz1 = vs') (hc : call fv vs' m = some (w, m')) (hf : w.isFresh = false)
    (h2 : (evCode globs call L (.seq (.region ops []) b) ⟨(d, w) :: e'.del d, m'⟩).bind K = v) :
    (evCode globs call L (.seq (.region (⟨some d, .call, args, none⟩ :: ops) []) b) ⟨e, m⟩).bind K = v := by
  rw [← h2, sy_seq, sy_region, sy_seq, sy_region]
  have : evOps globs call (⟨some d, .call, args, none⟩ :: ops) ⟨e, m⟩ = evOps globs call ops ⟨(d, w) :: e'.del d, m'⟩ := by
    rw [so_call]
    simp only [runOp, ho, Option.bind_some, sy_call, ha, hc, hf, cond_false]
    rfl
  rw [this]
theorem k_callG {ops : List MOper} {b : MCode} {d t : Nat} {tf : Bool} {args : List Opd} {e e' : Env} {m m' : Mem} {fv w : PVal} {vs vs' : List PVal} (hw : wanted (some (t, tf)) e = some true)
    (ho : opds globs args e = some (fv :: vs, e')) (ha : vs.map PVal.nz1 = vs') (hc : call fv vs' m = some (w, m')) (hf : w.isFresh = false)
    (h2 : (evCode globs call L (.seq (.region ops []) b) ⟨(d, w) :: e'.del d, m'⟩).bind K = v) :
    (evCode globs call L (.seq (.region (⟨some d, .call, args, some (t, tf)⟩ :: ops) []) b) ⟨e, m⟩).bind K = v := by
  rw [← h2, sy_seq, sy_region, sy_seq, sy_region]
  have : evOps globs call (⟨some d, .call, args, some (t, tf)⟩ :: ops) ⟨e, m⟩ = evOps globs call ops ⟨(d, w) :: e'.del d, m'⟩ := by
    rw [sg_call, hw]
    simp only [runOp, ho, Option.bind_some, sy_call, ha, hc, hf, cond_false, cond_true]
    rfl
  rw [this]
theorem k_op {ops : List MOper} {b : MCode} {o : MOper} {s s1 : MSt} (h : evOps globs call [o] s = some s1)
    (h2 : (evCode globs call L (.seq (.region ops []) b) s1).bind K = v) : (evCode globs call L (.seq (.region (o :: ops) []) b) s).bind K = v := by
  rw [← h2, sy_seq, sy_region, sy_seq, sy_region]
  have := ops_append (globs := globs) (call := call) [o] ops s
  rw [h] at this
  rw [show o :: ops = [o] ++ ops from rfl, this]; rfl
theorem k_assoc {a b c : MCode} {s : MSt} (h2 : (evCode globs call L (.seq a (.seq b c)) s).bind K = v) : (evCode globs call L (.seq (.seq a b) c) s).bind K = v := by
  rw [← h2, sy_seq, sy_seq, sy_seq]
  cases evCode globs call L a s with
  | none => rfl
  | some r =>
    obtain ⟨x, s'⟩ := r
    cases x <;> rfl
theorem k_code {a b : MCode} {s s1 : MSt} (h : evCode globs call L a s = some (.normal, s1)) (h2 : (evCode globs call L b s1).bind K = v) : (evCode globs call L (.seq a b) s).bind K = v := by
  rw [← h2, sy_seq, h]; rfl
theorem k_cond {c : Opd} {x y b : MCode} {s : MSt} {t : Bool} {e : Env} (h : opd globs c s.env = some (.bool t, e)) (h2 : (evCode globs call L (.seq (bif t then x else y) b) ⟨e, s.mem⟩).bind K = v) :
    (evCode globs call L (.seq (.cond c x y) b) s).bind K = v := by
  rw [← h2, sy_seq, sy_seq, sy_cond, h]
  cases t <;> rfl
theorem k_skip {b : MCode} {s : MSt} (h2 : (evCode globs call L b s).bind K = v) : (evCode globs call L (.seq .skip b) s).bind K = v := k_code rfl h2
/-- A body is run under a block that it does not leave: its last exit is asked. -/
theorem k_block {id : Nat} {b c : MCode} {s : MSt} (h : (evCode globs call L b s).bind (fun r => (match r.1 with | .exit i => bif i.beq id then some (.normal, r.2) else some r | _ => some r) >>= fun q => (match q.1 with | .normal => evCode globs call L c q.2 | x => some (x, q.2)).bind K) = v) :
    (evCode globs call L (.seq (.block id b) c) s).bind K = v := by
  rw [← h, sy_seq, sy_block]
  cases evCode globs call L b s with
  | none => rfl
  | some r =>
    obtain ⟨x, s'⟩ := r
    cases x with
    | normal => rfl
    | ret => rfl
    | exit i =>
      simp only [Option.map_some, Option.bind_some]
      cases i.beq id <;> rfl
/-- A function. -/
theorem fn_k {tab : Nat → Option MFunc} {k fi : Nat} {fn : MFunc} {args : List PVal} {mm : Mem} {r : Option (PVal × Mem)} (h : tab fi = some fn)
    (hb : (evCode globs (evFn globs tab noext L k) L fn.body ⟨startEnv 0 args, mm⟩).bind (fun r => match r.1 with | .exit _ => none | _ => finish fn mm.next r.2) = r) : evFn globs tab noext L (k + 1) (.func fi []) args mm = r := by
  rw [sy_fn h]; exact hb
end
end Go.Ev

/- More in the frame does no harm. -/
namespace Go.Ev
def Sub (a b : Env) : Prop := ∀ t v, a.get t = some v → b.get t = some v
def Uniq : Env → Prop
  | [] => True
  | (t, _) :: e => Env.get e t = none ∧ Uniq e
theorem get_cons (s t : Nat) (v : PVal) (e : Env) : Env.get ((s, v) :: e) t = if s = t then some v else e.get t := sy_get s t v e
theorem get_del_ne {e : Env} {t u : Nat} (h : u ≠ t) : (e.del t).get u = e.get u := by
  induction e with
  | nil => rfl
  | cons p e ih =>
    obtain ⟨s, v⟩ := p
    rw [sy_del]
    by_cases hs : s = t
    · subst hs; rw [if_pos rfl, get_cons, if_neg (fun x => h x.symm)]
    · rw [if_neg hs, get_cons, get_cons, ih]
theorem get_del_none {e : Env} {t u : Nat} (h : e.get u = none) : (e.del t).get u = none := by
  induction e with
  | nil => rfl
  | cons p e ih =>
    obtain ⟨s, v⟩ := p
    rw [get_cons] at h
    rw [sy_del]
    by_cases hs : s = u
    · rw [if_pos hs] at h; cases h
    · rw [if_neg hs] at h
      split
      · exact h
      · rw [get_cons, if_neg hs]; exact ih h
theorem get_del_self {e : Env} {t : Nat} (h : Uniq e) : (e.del t).get t = none := by
  induction e with
  | nil => rfl
  | cons p e ih =>
    obtain ⟨s, v⟩ := p
    rw [sy_del]
    by_cases hs : s = t
    · subst hs; rw [if_pos rfl]; exact h.1
    · rw [if_neg hs, get_cons, if_neg hs]; exact ih h.2
theorem uniq_del {e : Env} (t : Nat) (h : Uniq e) : Uniq (e.del t) := by
  induction e with
  | nil => trivial
  | cons p e ih =>
    obtain ⟨s, v⟩ := p
    rw [sy_del]
    split
    · exact h.2
    · exact ⟨get_del_none h.1, ih h.2⟩
theorem uniq_put {e : Env} (d : Option Nat) (v : PVal) (h : Uniq e) : Uniq (putO e d v) := by
  cases d with
  | none => exact h
  | some t => exact ⟨get_del_self h, uniq_del t h⟩
theorem sub_del {a b : Env} (t : Nat) (hu : Uniq a) (h : Sub a b) : Sub (a.del t) (b.del t) := by
  intro u v hv
  by_cases ht : u = t
  · subst ht; rw [get_del_self hu] at hv; cases hv
  · rw [get_del_ne ht] at hv ⊢; exact h u v hv
theorem sub_put {a b : Env} (d : Option Nat) (v : PVal) (hu : Uniq a) (h : Sub a b) : Sub (putO a d v) (putO b d v) := by
  cases d with
  | none => exact h
  | some t =>
    intro u w hw
    rw [sy_put, get_cons] at hw ⊢
    by_cases ht : t = u
    · rw [if_pos ht] at hw ⊢; exact hw
    · rw [if_neg ht] at hw ⊢; exact sub_del t hu h u w hw

section
variable {globs : Nat → Option (List PVal)} {call : CallF} {L : Nat}
theorem opd_mono {x : Opd} {a b a' : Env} {v : PVal} (hu : Uniq a) (hs : Sub a b) (h : opd globs x a = some (v, a')) : ∃ b', opd globs x b = some (v, b') ∧ Uniq a' ∧ Sub a' b' := by
  cases x with
  | mv t =>
    simp only [opd] at h ⊢
    obtain ⟨w, hw, h⟩ := Option.bind_eq_some_iff.mp h
    rw [hs t w hw]
    cases hf : w.isFresh <;> rw [hf] at h
    · cases h; simp only [Option.bind_some, hf]; exact ⟨_, rfl, uniq_del t hu, sub_del t hu hs⟩
    · cases h
  | cp t =>
    simp only [opd] at h ⊢
    obtain ⟨w, hw, h⟩ := Option.bind_eq_some_iff.mp h
    rw [hs t w hw]
    cases hf : w.isFresh <;> rw [hf] at h
    · cases h; simp only [Option.bind_some, hf]; exact ⟨_, rfl, hu, hs⟩
    · cases h
  | val w => cases h; exact ⟨_, rfl, hu, hs⟩
  | glob g =>
    simp only [opd] at h ⊢
    obtain ⟨w, hw, h⟩ := Option.map_eq_some_iff.mp h
    cases h
    rw [hw]
    exact ⟨_, rfl, hu, hs⟩
theorem opds_mono : ∀ {xs : List Opd} {a b a' : Env} {vs : List PVal}, Uniq a → Sub a b → opds globs xs a = some (vs, a') → ∃ b', opds globs xs b = some (vs, b') ∧ Uniq a' ∧ Sub a' b'
  | [], a, b, a', vs, hu, hs, h => by cases h; exact ⟨_, rfl, hu, hs⟩
  | x :: xs, a, b, a', vs, hu, hs, h => by
    simp only [opds] at h ⊢
    obtain ⟨⟨v, a1⟩, h1, h⟩ := Option.bind_eq_some_iff.mp h
    obtain ⟨⟨ws, a2⟩, h2, h⟩ := Option.map_eq_some_iff.mp h
    cases h
    obtain ⟨b1, e1, hu1, hs1⟩ := opd_mono hu hs h1
    obtain ⟨b2, e2, hu2, hs2⟩ := opds_mono hu1 hs1 h2
    rw [e1]; simp only [Option.bind_some]; rw [e2]
    exact ⟨_, rfl, hu2, hs2⟩
theorem wanted_mono {g : Option (Nat × Bool)} {a b : Env} {w : Bool} (hs : Sub a b) (h : wanted g a = some w) : wanted g b = some w := by
  cases g with
  | none => exact h
  | some p =>
    obtain ⟨t, q⟩ := p
    simp only [wanted] at h ⊢
    cases hg : a.get t with
    | none => rw [hg] at h; cases h
    | some v => rw [hg] at h; rw [hs t v hg]; exact h
/-- The second state holds all that the first holds. -/
structure Mor (s s' : MSt) : Prop where
  u : Uniq s.env
  e : Sub s.env s'.env
  m : s.mem = s'.mem
theorem evOper_mono {o : MOper} {s s' r : MSt} {ns : List PVal} (h : Mor s s') (he : evOper globs call o s = some (ns, r)) : ∃ r', evOper globs call o s' = some (ns, r') ∧ Mor r r' := by
  obtain ⟨hu, hs, hm⟩ := h
  obtain ⟨env, mem⟩ := s
  obtain ⟨env', mem'⟩ := s'
  cases hm
  simp only at hu hs
  unfold evOper at he ⊢
  obtain ⟨w, hw, he⟩ := Option.bind_eq_some_iff.mp he
  rw [wanted_mono hs hw]
  simp only [Option.bind_some]
  cases w with
  | false => cases he; exact ⟨_, rfl, uniq_put _ _ hu, sub_put _ _ hu hs, rfl⟩
  | true =>
    simp only [cond_true] at he ⊢
    obtain ⟨d, op, args, g⟩ := o
    simp only at he ⊢
    split at he
    · rename_i n keep
      unfold evInit at he ⊢
      split at he
      · rename_i t x
        simp only at he ⊢
        split at he
        · rename_i z hz
          rw [hs t _ hz]
          simp only
          obtain ⟨⟨v, a1⟩, h1, he⟩ := Option.bind_eq_some_iff.mp he
          obtain ⟨⟨q, mq⟩, h2, he⟩ := Option.map_eq_some_iff.mp he
          cases he
          obtain ⟨b1, e1, hu1, hs1⟩ := opd_mono (uniq_del t hu) (sub_del t hu hs) h1
          rw [e1]; simp only [Option.bind_some]; simp only at h2; rw [h2]
          exact ⟨_, rfl, uniq_put _ _ hu1, sub_put _ _ hu1 hs1, rfl⟩
        · cases he
      · cases he
    · rename_i z
      split at he
      · cases he; exact ⟨_, rfl, uniq_put _ _ hu, sub_put _ _ hu hs, rfl⟩
      · cases he
    · rename_i hn1 hn2
      obtain ⟨⟨vs, a1⟩, h1, he⟩ := Option.bind_eq_some_iff.mp he
      obtain ⟨⟨q, mq⟩, h2, he⟩ := Option.bind_eq_some_iff.mp he
      obtain ⟨b1, e1, hu1, hs1⟩ := opds_mono hu hs h1
      simp only at h2 he
      cases hf : q.isFresh with
      | true => rw [hf] at he; cases he
      | false =>
        rw [hf] at he
        cases he
        refine ⟨⟨putO b1 d q, mq⟩, ?_, uniq_put _ _ hu1, sub_put _ _ hu1 hs1, rfl⟩
        rw [e1]; simp only [Option.bind_some]; rw [h2]; simp only [Option.bind_some, hf]; rfl
theorem evOps_mono : ∀ {os : List MOper} {s s' r : MSt}, Mor s s' → evOps globs call os s = some r → ∃ r', evOps globs call os s' = some r' ∧ Mor r r'
  | [], s, s', r, h, he => by cases he; exact ⟨_, rfl, h⟩
  | o :: os, s, s', r, h, he => by
    simp only [evOps] at he ⊢
    obtain ⟨⟨ns, r1⟩, h1, he⟩ := Option.bind_eq_some_iff.mp he
    obtain ⟨r1', e1, m1⟩ := evOper_mono h h1
    rw [e1]
    exact evOps_mono m1 he
theorem evOpsN_mono : ∀ {os : List MOper} {s s' : MSt} {r : List (MOp × List PVal × Mem × Mem) × MSt}, Mor s s' → evOpsN globs call os s = some r → ∃ r', evOpsN globs call os s' = some (r.1, r') ∧ Mor r.2 r'
  | [], s, s', r, h, he => by cases he; exact ⟨_, rfl, h⟩
  | o :: os, s, s', r, h, he => by
    simp only [evOpsN] at he ⊢
    obtain ⟨⟨ns, r1⟩, h1, he⟩ := Option.bind_eq_some_iff.mp he
    obtain ⟨q, h2, he⟩ := Option.map_eq_some_iff.mp he
    obtain ⟨r1', e1, m1⟩ := evOper_mono h h1
    obtain ⟨r2', e2, m2⟩ := evOpsN_mono m1 h2
    cases he
    rw [e1]; simp only [Option.bind_some]; rw [e2]
    refine ⟨r2', ?_, m2⟩
    rw [Option.map_some, h.m, m1.m]
/-- Code without loops. -/
def noLoop : MCode → Bool
  | .seq a b => noLoop a && noLoop b
  | .cond _ a b => noLoop a && noLoop b
  | .block _ b => noLoop b
  | .loop _ _ => false
  | .rangeFunc _ _ _ _ => false
  | _ => true
theorem evCode_mono : ∀ {c : MCode} {s s' r : MSt} {x : MExit}, noLoop c = true → Mor s s' → evCode globs call L c s = some (x, r) → ∃ r', evCode globs call L c s' = some (x, r') ∧ Mor r r' := by
  intro c
  induction c with
  | skip => intro s s' r x _ h he; cases he; exact ⟨_, rfl, h⟩
  | exit i => intro s s' r x _ h he; cases he; exact ⟨_, rfl, h⟩
  | ret => intro s s' r x _ h he; cases he; exact ⟨_, rfl, h⟩
  | bad => intro s s' r x _ h he; cases he
  | loop => intro s s' r x hn; cases hn
  | rangeFunc => intro s s' r x hn; cases hn
  | region ops conf =>
    intro s s' r x _ h he
    unfold evCode at he ⊢
    cases conf with
    | nil =>
      simp only at he ⊢
      obtain ⟨q, h1, he⟩ := Option.map_eq_some_iff.mp he
      cases he
      obtain ⟨r', e1, m1⟩ := evOps_mono h h1
      rw [e1]; exact ⟨_, rfl, m1⟩
    | cons p ps =>
      simp only at he ⊢
      obtain ⟨q, h1, he⟩ := Option.bind_eq_some_iff.mp he
      obtain ⟨r', e1, m1⟩ := evOpsN_mono h h1
      rw [e1]
      simp only [Option.bind_some]
      cases ha : (p :: ps).all (stable q.fst) <;> rw [ha] at he
      · cases he
      · cases he; exact ⟨_, rfl, m1⟩
  | seq a b iha ihb =>
    intro s s' r x hn h he
    simp only [noLoop, Bool.and_eq_true] at hn
    rw [sy_seq] at he ⊢
    obtain ⟨⟨y, r1⟩, h1, he⟩ := Option.bind_eq_some_iff.mp he
    obtain ⟨r1', e1, m1⟩ := iha hn.1 h h1
    rw [e1]; simp only [Option.bind_some]
    cases y with
    | normal => exact ihb hn.2 m1 he
    | exit i => cases he; exact ⟨_, rfl, m1⟩
    | ret => cases he; exact ⟨_, rfl, m1⟩
  | cond t a b iha ihb =>
    intro s s' r x hn h he
    simp only [noLoop, Bool.and_eq_true] at hn
    rw [sy_cond] at he ⊢
    cases ho : opd globs t s.env with
    | none => rw [ho] at he; cases he
    | some p =>
      obtain ⟨v, e⟩ := p
      rw [ho] at he
      obtain ⟨e', ho', hu, hs⟩ := opd_mono h.u h.e ho
      rw [ho']
      cases v with
      | bool w =>
        simp only at he ⊢
        cases w with
        | true => exact iha (s := ⟨e, s.mem⟩) (s' := ⟨e', s'.mem⟩) hn.1 ⟨hu, hs, h.m⟩ he
        | false => exact ihb (s := ⟨e, s.mem⟩) (s' := ⟨e', s'.mem⟩) hn.2 ⟨hu, hs, h.m⟩ he
      | _ => cases he
  | block id b ih =>
    intro s s' r x hn h he
    rw [sy_block] at he ⊢
    obtain ⟨⟨y, r1⟩, h1, he⟩ := Option.map_eq_some_iff.mp he
    obtain ⟨r1', e1, m1⟩ := ih hn h h1
    rw [e1]
    cases y with
    | normal => cases he; exact ⟨_, rfl, m1⟩
    | ret => cases he; exact ⟨_, rfl, m1⟩
    | exit i =>
      simp only at he
      simp only [Option.map_some]
      cases hi : i.beq id <;> rw [hi] at he <;> cases he <;> exact ⟨_, rfl, m1⟩

theorem get_filter {p : Nat × PVal → Bool} {e : Env} {t : Nat} {v : PVal} (hp : ∀ t t' v, p (t, v) = p (t', v)) (h : e.get t = some v) (hv : p (t, v) = true) : Env.get (e.filter p) t = some v := by
  induction e with
  | nil => cases h
  | cons q e ih =>
    obtain ⟨s, w⟩ := q
    rw [get_cons] at h
    by_cases hs : s = t
    · rw [if_pos hs] at h; cases h; subst hs
      rw [List.filter_cons_of_pos hv, get_cons, if_pos rfl]
    · rw [if_neg hs] at h
      by_cases hq : p (s, w) = true
      · rw [List.filter_cons_of_pos hq, get_cons, if_neg hs]; exact ih h
      · rw [List.filter_cons_of_neg hq]; exact ih h
theorem get_filter_none {p : Nat × PVal → Bool} {e : Env} {t : Nat} (h : e.get t = none) : Env.get (e.filter p) t = none := by
  induction e with
  | nil => rfl
  | cons q e ih =>
    obtain ⟨s, w⟩ := q
    rw [get_cons] at h
    by_cases hs : s = t
    · rw [if_pos hs] at h; cases h
    · rw [if_neg hs] at h
      by_cases hq : p (s, w) = true
      · rw [List.filter_cons_of_pos hq, get_cons, if_neg hs]; exact ih h
      · rw [List.filter_cons_of_neg hq]; exact ih h
theorem of_get_filter {p : Nat × PVal → Bool} {e : Env} {t : Nat} {v : PVal} (hu : Uniq e) (h : Env.get (e.filter p) t = some v) : e.get t = some v ∧ p (t, v) = true := by
  induction e with
  | nil => cases h
  | cons q e ih =>
    obtain ⟨s, w⟩ := q
    rw [get_cons]
    by_cases hq : p (s, w) = true
    · rw [List.filter_cons_of_pos hq, get_cons] at h
      by_cases hs : s = t
      · rw [if_pos hs] at h ⊢; cases h; subst hs; exact ⟨rfl, hq⟩
      · rw [if_neg hs] at h ⊢; exact ih hu.2 h
    · rw [List.filter_cons_of_neg hq] at h
      by_cases hs : s = t
      · subst hs; rw [get_filter_none hu.1] at h; cases h
      · rw [if_neg hs]; exact ih hu.2 h
theorem uniq_filter {p : Nat × PVal → Bool} {e : Env} (hu : Uniq e) : Uniq (e.filter p) := by
  induction e with
  | nil => trivial
  | cons q e ih =>
    by_cases hq : p q = true
    · rw [List.filter_cons_of_pos hq]; exact ⟨get_filter_none hu.1, ih hu.2⟩
    · rw [List.filter_cons_of_neg hq]; exact ih hu.2
theorem trim_mono {n : Nat} {s s' : MSt} (h : Mor s s') : Mor (trimSt n s) (trimSt n s') := by
  unfold trimSt
  rw [← h.m]
  cases s.mem.next.beq n with
  | true => exact h
  | false =>
    simp only [cond_false]
    cases Nat.ble n s.mem.next && s.mem.cutOk n with
    | false => exact h
    | true =>
      refine ⟨uniq_filter h.u, fun t v hv => ?_, rfl⟩
      obtain ⟨h1, h2⟩ := of_get_filter h.u hv
      exact get_filter (p := fun p => p.2.under n) (fun _ _ _ => rfl) (h.e t v h1) h2
theorem Mor.trans {a b c : MSt} (h1 : Mor a b) (h2 : Mor b c) : Mor a c := ⟨h1.u, fun t v h => h2.e t v (h1.e t v h), h1.m.trans h2.m⟩
/-- A loop, by what its rounds do to few of the frame's values. -/
theorem loop_mono {b : MCode} (hb : noLoop b = true) {st : Nat → MSt} {fin : MSt} {N e : Nat}
    (hround : ∀ i, i < N → ∃ r, evCode globs call L b (st i) = some (.normal, r) ∧ Mor (st (i + 1)) (trimSt (st i).mem.next r))
    (hexit : ∃ r, evCode globs call L b (st N) = some (.exit e, r) ∧ Mor fin r) :
    ∀ (d fuel i : Nat) (s : MSt), i + d = N → d + 1 ≤ fuel → Mor (st i) s → ∃ s', evLoop true (evCode globs call L b) fuel s = some (.exit e, s') ∧ Mor fin s'
  | _, 0, i, s, _, h, _ => by omega
  | 0, fuel + 1, i, s, h, _, hm => by
    obtain rfl : i = N := by omega
    obtain ⟨r, hr, hf⟩ := hexit
    obtain ⟨r', hr', hm'⟩ := evCode_mono hb hm hr
    exact ⟨r', by simp only [evLoop, hr', Option.bind_some], hf.trans hm'⟩
  | d + 1, fuel + 1, i, s, h, hf, hm => by
    obtain ⟨r, hr, hn⟩ := hround i (by omega)
    obtain ⟨r', hr', hm'⟩ := evCode_mono hb hm hr
    obtain ⟨s', hs', hms⟩ := loop_mono hb hround hexit d fuel (i + 1) (trimSt s.mem.next r') (by omega) (by omega) (by rw [← hm.m]; exact hn.trans (trim_mono hm'))
    refine ⟨s', ?_, hms⟩
    simp only [evLoop, hr', Option.bind_some, cond_true]
    exact hs'

theorem k_core {op : MOp} {ops : List MOper} {b : MCode} {d : Option Nat} {args : List Opd} {e e' : Env} {m m' : Mem} {w : PVal} {vs : List PVal} {β : Type} {K : MExit × MSt → Option β} {v : Option β} (hp : plainOp op = true)
    (ho : opds globs args e = some (vs, e')) (hc : core call op vs m = some (w, m')) (hf : w.isFresh = false)
    (h2 : (evCode globs call L (.seq (.region ops []) b) ⟨putO e' d w, m'⟩).bind K = v) :
    (evCode globs call L (.seq (.region (⟨d, op, args, none⟩ :: ops) []) b) ⟨e, m⟩).bind K = v := by
  rw [← h2, sy_seq, sy_region, sy_seq, sy_region]
  have : evOps globs call (⟨d, op, args, none⟩ :: ops) ⟨e, m⟩ = evOps globs call ops ⟨putO e' d w, m'⟩ := by
    rw [sy_op hp]
    simp only [runOp, ho, Option.bind_some, hc, hf, cond_false]
  rw [this]
theorem k_done {c : MCode} {s : MSt} {r : MExit × MSt} {Q : MExit × MSt → Prop} (h : evCode globs call L c s = some r) (hq : Q r) : (evCode globs call L c s).bind (fun r => some (Q r)) = some True := by
  rw [h, Option.bind_some, eq_true hq]
theorem k_get {c : MCode} {s : MSt} {Q : MExit × MSt → Prop} (h : (evCode globs call L c s).bind (fun r => some (Q r)) = some True) : ∃ r, evCode globs call L c s = some r ∧ Q r := by
  cases hc : evCode globs call L c s with
  | none => rw [hc] at h; cases h
  | some r =>
    rw [hc, Option.bind_some, Option.some.injEq] at h
    exact ⟨r, rfl, of_eq_true h⟩
theorem sub_nil {b : Env} : Sub [] b := fun t v h => by cases h
theorem sub_cons {a b : Env} {t : Nat} {v : PVal} (h : b.get t = some v) (h2 : Sub a b) : Sub ((t, v) :: a) b := by
  intro u w hw
  rw [get_cons] at hw
  by_cases ht : t = u
  · rw [if_pos ht] at hw; cases hw; subst ht; exact h
  · rw [if_neg ht] at hw; exact h2 u w hw
end
end Go.Ev

